/- Walks of packs: May of both. -/
import Derived.Test.YtdkpbifpafaabaaGreatDoorPkP
import Derived.Test.YtdkpbifpafaabaaGreatDoorGhD
namespace Go.Proofs.YtdkpbifpafaabaaGreatDoor
open Go.RowKit
set_option linter.unusedVariables false
set_option linter.unusedSimpArgs false

theorem pparts_first' {l : List Pt} {k : Nat} {a : Pt} (hk : k = 0) (ha : l[k]? = some a) (h1 : pone a = true) : pparts (l.take (k + 1)) = true := by
  subst hk
  unfold pparts
  rw [rises_take_one, Bool.and_true]
  exact all_take_succ (by simp) ha h1
theorem pparts_next {l : List Pt} {k : Nat} {a b : Pt} (h : pparts (l.take k) = true) (hk : 0 < k) (ha : l[k - 1]? = some a) (hb : l[k]? = some b) (h1 : pone b = true) (h2 : pahead a b = true) : pparts (l.take (k + 1)) = true := by
  unfold pparts at h ⊢
  rw [Bool.and_eq_true] at h ⊢
  exact ⟨all_take_succ h.1 hb h1, rises_take_succ h.2 hk ha hb h2⟩
theorem pkmay_bad {l : List Pt} {k : Nat} {a : Pt} {c : RT} (ha : l[k]? = some a) (h1 : pone a = false) : pkmay l c = false := by
  unfold pkmay pparts
  rw [all_no ha h1]; rfl
theorem pkmay_back {l : List Pt} {k : Nat} {a b : Pt} {c : RT} (hk : 0 < k) (ha : l[k - 1]? = some a) (hb : l[k]? = some b) (h2 : pahead a b = false) : pkmay l c = false := by
  unfold pkmay pparts
  rw [rises_no hk ha hb h2, Bool.and_false]; rfl
theorem rsign_lit (x : RT) : rsign x = 1 ∨ rsign x = 0 ∨ rsign x = -1 := by
  unfold rsign
  split
  · rcases Int.lt_trichotomy (rnum x) 0 with h | h | h
    · rw [Int.sign_eq_neg_one_of_neg h]; exact .inr (.inr rfl)
    · rw [h]; exact .inr (.inl rfl)
    · rw [Int.sign_eq_one_of_pos h]; exact .inl rfl
  · exact .inr (.inl rfl)
theorem pone_lit {a0 a1 a2 : ByteArray} {b : Bool} {s : Int} (h1 : isName a0 = b) (h2 : rsign ⟨a1, a2⟩ = s) : pone ⟨a0, ⟨a1, a2⟩⟩ = (b && decide (0 < s)) := by
  unfold pone; dsimp only; rw [h1, h2]
/-- Parts that can be reckoned with. -/
def ptq (k : Nat) (x : Pt) : Prop := x.asset.size ≤ 9223372036854775807 ∧ x.ratio.num.size ≤ k ∧ x.ratio.den.size ≤ k
abbrev WPk (w : World) (A : Option Addr) (n c : Nat) (c0 c1 : ByteArray) : World := w.alloc (.cells #[.slice A n c, .string c0, .string c1] 28)

set_option maxHeartbeats 2000000 in
theorem p_pkmay {A : Option Addr} {n c : Nat} {xs : List Pt} (c0 c1 : ByteArray) (w : World) (hg : Glob w) (hx : Rd Pt.cs 3 w A n xs) (hz : ∀ x ∈ xs, ptq 880000000 x) (hc0 : c0.size ≤ 880000000) (hc1 : c1.size ≤ 880000000) :
    Calls Tryz.prog 22 #[.agg #[.slice A n c, .string c0, .string c1]] w fun e w' => e = .returned (.bool (pkmay xs ⟨c0, c1⟩)) ∧ Below w.heap.size w w' := by
  have hbig := hx.big
  have hB0 : Below w.heap.size w (WPk w A n c c0 c1) := b_alloc (Below.refl _ _) _
  have pb : Blk (WPk w A n c c0 c1) w.heap.size 28 #[.slice A n c, .string c0, .string c1] := Blk.new w _ _
  have PB := Lib.hid pb
  clear pb
  have hC := fun W (h : Below w.heap.size w W) => p_rmay c0 c1 W (hg.below h) (by omega) (by omega)
  go_enter Tryz.func22, Tryz.ntmps22
  go_wp2
  go_loopw [8] (fun i wr => ∃ k : Nat, k ≤ n ∧ i = .int .i64 k ∧ Hid (pparts (xs.take k) = true) ∧ Below (WPk w A n c c0 c1).heap.size (WPk w A n c c0 c1) wr) (fun i _ => n - (intOf i).toNat)
  case atStart => exact ⟨0, Nat.zero_le _, rfl, by simp [Hid, pparts, rises], Below.refl _ _⟩
  case round =>
    obtain ⟨k, hk, rfl, H, hB⟩ := hrel
    have hBw : Below w.heap.size w wr := b_then hB0 hB
    have pr := PB.out.below hB
    have hsl : w.heap.size < wr.heap.size := pr.lt
    have q0 := pr.cell 0
    have q1 := pr.cell 1
    have q2 := pr.cell 2
    simp at q0 q1 q2
    by_cases hlt : k < n
    · obtain ⟨ad, a0, a1, a2, rfl, hxk, hl⟩ := pt_in hx hBw hlt
      obtain ⟨z1, z2, z3⟩ := hz _ (List.mem_of_getElem? hxk)
      dsimp only at z1 z2 z3
      have HX := Lib.hid hxk
      obtain ⟨hx0, hx1, hx2, _⟩ := hl wr (Below.refl _ _)
      have hB1 : Below w.heap.size w (wr.alloc (.cells #[.string a0, .string a1, .string a2] 45)) := (by repeat (first | exact Below.refl _ _ | assumption | refine b_then ?_ (by assumption) | refine b_alloc ?_ _ | refine b_drewN ?_ _ | refine Below.drew ?_ | refine b_set ?_ (by first | exact Nat.le_refl _ | (simp; done) | (simp; omega) | omega) _))
      have e0 : ∀ y : After (wr.alloc (.cells #[.string a0, .string a1, .string a2] 45)), y.W.cell? ⟨w.heap.size, 0, none⟩ = some (.slice (some ad) n c) := fun y => ((pr.alloc _).below y.h).cell 0
      have hx0' := fun (y : After (wr.alloc (.cells #[.string a0, .string a1, .string a2] 45))) => (hl y.W (b_then (b_alloc (Below.refl _ _) _) y.h)).c0
      have hN := fun W => p_name a0 W z1
      have hS := fun W (h : Below w.heap.size w W) => p_rsign a1 a2 W (hg.below h) (by omega) (by omega)
      have hP := fun b s => pone_lit (a0 := a0) (a1 := a1) (a2 := a2) (b := b) (s := s)
      have HP := Lib.hid hP
      have PR := Lib.hid pr
      clear hxk hl hP pr
      cases c1' : isName a0 with
      | false =>
        rw [c1'] at hN
        have H1 := Lib.hid c1'
        clear c1'
        go_wp2
        (refine wp_region_after (by kernel_rfl) (by kernel_rfl) ?_; (repeat (first | go_big_quiet_skip | (go_big_quiet_want; go_big_quiet_op; first | go_big_quiet_on | (apply Exists.intro; refine ⟨fun _ => ?_, ?_⟩; (focus (first | (go_at_call 50; with_reducible exact Calls.after (hN _)) | (go_at_call 51; with_reducible exact Calls.after (hS _ (b_then hB1 (After.h _)))))); go_big_quiet_on)))); refine wpQuiet_nil ?_; rintro w1 ⟨⟨_, hb1⟩, rfl⟩; (try dsimp only); obtain ⟨hc1, hf1⟩ := bcell hb1; have hs1 := hb1.size; (try simp at hs1))
        go_wp2
        go_ret
        exact ⟨ret_bool (pkmay_bad HX.out (HP.out _ _ H1.out rfl)).symm, (by repeat (first | exact Below.refl _ _ | assumption | refine b_then ?_ (by assumption) | refine b_alloc ?_ _ | refine b_drewN ?_ _ | refine Below.drew ?_ | refine b_set ?_ (by first | exact Nat.le_refl _ | (simp; done) | (simp; omega) | omega) _))⟩
      | true =>
        rw [c1'] at hN
        have H1 := Lib.hid c1'
        clear c1'
        rcases rsign_lit ⟨a1, a2⟩ with cs | cs | cs
        · rw [cs] at hS
          have H2 := Lib.hid cs
          clear cs
          by_cases hk0 : 0 < k
          · obtain ⟨ad', b0, b1, b2, e, hxk', hl'⟩ := pt_in hx hB1 (show k - 1 < n by omega)
            obtain rfl : ad = ad' := Option.some.inj e
            have hy0 := fun (y : After (wr.alloc (.cells #[.string a0, .string a1, .string a2] 45))) => (hl' y.W y.h).c0
            have HX' := Lib.hid hxk'
            clear hxk' e hl'
            cases c2 : slt b0 a0 with
            | true =>
              have c3 : Op.bytesLess b0.toList a0.toList = true := c2
              have H3 := Lib.hid c2
              clear c2
              go_wp2
              (refine wp_region_after (by kernel_rfl) (by kernel_rfl) ?_; (repeat (first | go_big_quiet_skip | (go_big_quiet_want; go_big_quiet_op; first | go_big_quiet_on | (apply Exists.intro; refine ⟨fun _ => ?_, ?_⟩; (focus (first | (go_at_call 50; with_reducible exact Calls.after (hN _)) | (go_at_call 51; with_reducible exact Calls.after (hS _ (b_then hB1 (After.h _)))))); go_big_quiet_on)))); refine wpQuiet_nil ?_; rintro w1 ⟨⟨_, hb1⟩, rfl⟩; (try dsimp only); obtain ⟨hc1, hf1⟩ := bcell hb1; have hs1 := hb1.size; (try simp at hs1))
              go_wp2
              go_roundw
              case rel => exact ⟨k + 1, by omega, by go_num, pparts_next H.out hk0 HX'.out HX.out ((HP.out _ _ H1.out H2.out).trans rfl) H3.out, hB.trans ((b_then (b_alloc (Below.refl _ wr) _) hb1).mono hB.size)⟩
              case measure => simp [intOf]; omega
            | false =>
              have c3 : Op.bytesLess b0.toList a0.toList = false := c2
              have H3 := Lib.hid c2
              clear c2
              go_wp2
              (refine wp_region_after (by kernel_rfl) (by kernel_rfl) ?_; (repeat (first | go_big_quiet_skip | (go_big_quiet_want; go_big_quiet_op; first | go_big_quiet_on | (apply Exists.intro; refine ⟨fun _ => ?_, ?_⟩; (focus (first | (go_at_call 50; with_reducible exact Calls.after (hN _)) | (go_at_call 51; with_reducible exact Calls.after (hS _ (b_then hB1 (After.h _)))))); go_big_quiet_on)))); refine wpQuiet_nil ?_; rintro w1 ⟨⟨_, hb1⟩, rfl⟩; (try dsimp only); obtain ⟨hc1, hf1⟩ := bcell hb1; have hs1 := hb1.size; (try simp at hs1))
              go_wp2
              go_ret
              exact ⟨ret_bool (pkmay_back hk0 HX'.out HX.out H3.out).symm, (by repeat (first | exact Below.refl _ _ | assumption | refine b_then ?_ (by assumption) | refine b_alloc ?_ _ | refine b_drewN ?_ _ | refine Below.drew ?_ | refine b_set ?_ (by first | exact Nat.le_refl _ | (simp; done) | (simp; omega) | omega) _))⟩
          · go_wp2
            (refine wp_region_after (by kernel_rfl) (by kernel_rfl) ?_; (repeat (first | go_big_quiet_skip | (go_big_quiet_want; go_big_quiet_op; first | go_big_quiet_on | (apply Exists.intro; refine ⟨fun _ => ?_, ?_⟩; (focus (first | (go_at_call 50; with_reducible exact Calls.after (hN _)) | (go_at_call 51; with_reducible exact Calls.after (hS _ (b_then hB1 (After.h _)))))); go_big_quiet_on)))); refine wpQuiet_nil ?_; rintro w1 ⟨⟨_, hb1⟩, rfl⟩; (try dsimp only); obtain ⟨hc1, hf1⟩ := bcell hb1; have hs1 := hb1.size; (try simp at hs1))
            go_wp2
            go_roundw
            case rel => exact ⟨k + 1, by omega, by go_num, pparts_first' (by omega) HX.out ((HP.out _ _ H1.out H2.out).trans rfl), hB.trans ((b_then (b_alloc (Below.refl _ wr) _) hb1).mono hB.size)⟩
            case measure => simp [intOf]; omega
        · rw [cs] at hS
          have H2 := Lib.hid cs
          clear cs
          go_wp2
          (refine wp_region_after (by kernel_rfl) (by kernel_rfl) ?_; (repeat (first | go_big_quiet_skip | (go_big_quiet_want; go_big_quiet_op; first | go_big_quiet_on | (apply Exists.intro; refine ⟨fun _ => ?_, ?_⟩; (focus (first | (go_at_call 50; with_reducible exact Calls.after (hN _)) | (go_at_call 51; with_reducible exact Calls.after (hS _ (b_then hB1 (After.h _)))))); go_big_quiet_on)))); refine wpQuiet_nil ?_; rintro w1 ⟨⟨_, hb1⟩, rfl⟩; (try dsimp only); obtain ⟨hc1, hf1⟩ := bcell hb1; have hs1 := hb1.size; (try simp at hs1))
          go_wp2
          go_ret
          exact ⟨ret_bool (pkmay_bad HX.out (HP.out _ _ H1.out H2.out)).symm, (by repeat (first | exact Below.refl _ _ | assumption | refine b_then ?_ (by assumption) | refine b_alloc ?_ _ | refine b_drewN ?_ _ | refine Below.drew ?_ | refine b_set ?_ (by first | exact Nat.le_refl _ | (simp; done) | (simp; omega) | omega) _))⟩
        · rw [cs] at hS
          have H2 := Lib.hid cs
          clear cs
          go_wp2
          (refine wp_region_after (by kernel_rfl) (by kernel_rfl) ?_; (repeat (first | go_big_quiet_skip | (go_big_quiet_want; go_big_quiet_op; first | go_big_quiet_on | (apply Exists.intro; refine ⟨fun _ => ?_, ?_⟩; (focus (first | (go_at_call 50; with_reducible exact Calls.after (hN _)) | (go_at_call 51; with_reducible exact Calls.after (hS _ (b_then hB1 (After.h _)))))); go_big_quiet_on)))); refine wpQuiet_nil ?_; rintro w1 ⟨⟨_, hb1⟩, rfl⟩; (try dsimp only); obtain ⟨hc1, hf1⟩ := bcell hb1; have hs1 := hb1.size; (try simp at hs1))
          go_wp2
          go_ret
          exact ⟨ret_bool (pkmay_bad HX.out (HP.out _ _ H1.out H2.out)).symm, (by repeat (first | exact Below.refl _ _ | assumption | refine b_then ?_ (by assumption) | refine b_alloc ?_ _ | refine b_drewN ?_ _ | refine Below.drew ?_ | refine b_set ?_ (by first | exact Nat.le_refl _ | (simp; done) | (simp; omega) | omega) _))⟩
    · obtain rfl : k = n := by omega
      have H2 := H.out
      rw [← hx.len, List.take_length] at H2
      have H3 : Hid (pkmay xs ⟨c0, c1⟩ = rmay ⟨c0, c1⟩) := by unfold Hid pkmay; rw [H2]; rfl
      clear H2
      go_wp2_with (go_at_call 52; (with_reducible refine (hC _ hBw).mono ?_); rintro e w1 ⟨rfl, hb1⟩; obtain ⟨hc1, hf1⟩ := bcell hb1; have hs1 := hb1.size; (try simp at hs1))
      go_ret
      exact ⟨ret_bool H3.out.symm, (by repeat (first | exact Below.refl _ _ | assumption | refine b_then ?_ (by assumption) | refine b_alloc ?_ _ | refine b_drewN ?_ _ | refine Below.drew ?_ | refine b_set ?_ (by first | exact Nat.le_refl _ | (simp; done) | (simp; omega) | omega) _))⟩
set_option maxHeartbeats 2000000 in
theorem r16_may {A : Option Addr} {n c : Nat} {xs : List Pt} (c0 c1 : ByteArray) (w : World) (hx : Rd Pt.cs 3 w A n xs) (hz : ∀ x ∈ xs, ptq 880000000 x) (hc0 : c0.size ≤ 880000000) (hc1 : c1.size ≤ 880000000) :
    Calls Tryz.prog 23 #[.agg #[.slice A n c, .string c0, .string c1]] w fun e w' => e = .returned (.bool (pkmay xs ⟨c0, c1⟩)) ∧ Below w.heap.size w w' := by
  have hbig := hx.big
  have hB0 : Below w.heap.size w (WPk w A n c c0 c1) := b_alloc (Below.refl _ _) _
  have pb : Blk (WPk w A n c c0 c1) w.heap.size 28 #[.slice A n c, .string c0, .string c1] := Blk.new w _ _
  have PB := Lib.hid pb
  clear pb
  have hC := fun W (h : Below w.heap.size w W) => r3_may c0 c1 W (by omega) (by omega)
  go_enter Tryz.func23, Tryz.ntmps23
  go_wp2
  go_loopw [3] (fun i wr => ∃ k : Nat, k ≤ n ∧ i = .int .i64 k ∧ Hid (pparts (xs.take k) = true) ∧ Below (WPk w A n c c0 c1).heap.size (WPk w A n c c0 c1) wr) (fun i _ => n - (intOf i).toNat)
  case atStart => exact ⟨0, Nat.zero_le _, rfl, by simp [Hid, pparts, rises], Below.refl _ _⟩
  case round =>
    obtain ⟨k, hk, rfl, H, hB⟩ := hrel
    have hBw : Below w.heap.size w wr := b_then hB0 hB
    have pr := PB.out.below hB
    have hsl : w.heap.size < wr.heap.size := pr.lt
    have q0 := pr.cell 0
    have q1 := pr.cell 1
    have q2 := pr.cell 2
    simp at q0 q1 q2
    by_cases hlt : k < n
    · obtain ⟨ad, a0, a1, a2, rfl, hxk, hl⟩ := pt_in hx hBw hlt
      obtain ⟨z1, z2, z3⟩ := hz _ (List.mem_of_getElem? hxk)
      dsimp only at z1 z2 z3
      have HX := Lib.hid hxk
      obtain ⟨hx0, hx1, hx2, _⟩ := hl wr (Below.refl _ _)
      have hB1 : Below w.heap.size w (wr) := (by repeat (first | exact Below.refl _ _ | assumption | refine b_then ?_ (by assumption) | refine b_alloc ?_ _ | refine b_drewN ?_ _ | refine Below.drew ?_ | refine b_set ?_ (by first | exact Nat.le_refl _ | (simp; done) | (simp; omega) | omega) _))
      have e0 : ∀ y : After (wr), y.W.cell? ⟨w.heap.size, 0, none⟩ = some (.slice (some ad) n c) := fun y => (pr.below y.h).cell 0
      have hx0' := fun (y : After wr) => (hl y.W y.h).c0
      have hx1' := fun (y : After wr) => (hl y.W y.h).c1
      have hx2' := fun (y : After wr) => (hl y.W y.h).d2
      have hx2'' := fun (y : After wr) => (hl y.W y.h).c2
      have hN := fun W => r6_name a0 W z1
      have hS := fun W (h : Below w.heap.size w W) => r3_sign a1 a2 W (by omega) (by omega)
      have hP := fun b s => pone_lit (a0 := a0) (a1 := a1) (a2 := a2) (b := b) (s := s)
      have HP := Lib.hid hP
      have PR := Lib.hid pr
      clear hxk hl hP pr
      cases c1' : isName a0 with
      | false =>
        rw [c1'] at hN
        have H1 := Lib.hid c1'
        clear c1'
        go_wp2
        (refine wp_region_after (by kernel_rfl) (by kernel_rfl) ?_; (repeat (first | go_big_quiet_skip | (go_big_quiet_want; go_big_quiet_op; first | go_big_quiet_on | (apply Exists.intro; refine ⟨fun _ => ?_, ?_⟩; (focus (first | (go_at_call 53; with_reducible exact Calls.after_same (hN _)) | (go_at_call 30; with_reducible exact Calls.after (hS _ (b_then hB1 (After.h _)))))); go_big_quiet_on)))); refine wpQuiet_nil ?_; rintro w1 ⟨⟨_, hb1⟩, rfl⟩; (try dsimp only); obtain ⟨hc1, hf1⟩ := bcell hb1; have hs1 := hb1.size; (try simp at hs1))
        go_wp2
        go_ret
        exact ⟨ret_bool (pkmay_bad HX.out (HP.out _ _ H1.out rfl)).symm, (by repeat (first | exact Below.refl _ _ | assumption | refine b_then ?_ (by assumption) | refine b_alloc ?_ _ | refine b_drewN ?_ _ | refine Below.drew ?_ | refine b_set ?_ (by first | exact Nat.le_refl _ | (simp; done) | (simp; omega) | omega) _))⟩
      | true =>
        rw [c1'] at hN
        have H1 := Lib.hid c1'
        clear c1'
        rcases rsign_lit ⟨a1, a2⟩ with cs | cs | cs
        · rw [cs] at hS
          have H2 := Lib.hid cs
          clear cs
          by_cases hk0 : 0 < k
          · obtain ⟨ad', b0, b1, b2, e, hxk', hl'⟩ := pt_in hx hB1 (show k - 1 < n by omega)
            obtain rfl : ad = ad' := Option.some.inj e
            have hy0 := fun (y : After (wr)) => (hl' y.W y.h).c0
            have HX' := Lib.hid hxk'
            clear hxk' e hl'
            cases c2 : slt b0 a0 with
            | true =>
              have c3 : Op.bytesLess b0.toList a0.toList = true := c2
              have H3 := Lib.hid c2
              clear c2
              go_wp2
              (refine wp_region_after (by kernel_rfl) (by kernel_rfl) ?_; (repeat (first | go_big_quiet_skip | (go_big_quiet_want; go_big_quiet_op; first | go_big_quiet_on | (apply Exists.intro; refine ⟨fun _ => ?_, ?_⟩; (focus (first | (go_at_call 53; with_reducible exact Calls.after_same (hN _)) | (go_at_call 30; with_reducible exact Calls.after (hS _ (b_then hB1 (After.h _)))))); go_big_quiet_on)))); refine wpQuiet_nil ?_; rintro w1 ⟨⟨_, hb1⟩, rfl⟩; (try dsimp only); obtain ⟨hc1, hf1⟩ := bcell hb1; have hs1 := hb1.size; (try simp at hs1))
              go_wp2
              go_roundw
              case rel => exact ⟨k + 1, by omega, by go_num, pparts_next H.out hk0 HX'.out HX.out ((HP.out _ _ H1.out H2.out).trans rfl) H3.out, hB.trans (hb1.mono hB.size)⟩
              case measure => simp [intOf]; omega
            | false =>
              have c3 : Op.bytesLess b0.toList a0.toList = false := c2
              have H3 := Lib.hid c2
              clear c2
              go_wp2
              (refine wp_region_after (by kernel_rfl) (by kernel_rfl) ?_; (repeat (first | go_big_quiet_skip | (go_big_quiet_want; go_big_quiet_op; first | go_big_quiet_on | (apply Exists.intro; refine ⟨fun _ => ?_, ?_⟩; (focus (first | (go_at_call 53; with_reducible exact Calls.after_same (hN _)) | (go_at_call 30; with_reducible exact Calls.after (hS _ (b_then hB1 (After.h _)))))); go_big_quiet_on)))); refine wpQuiet_nil ?_; rintro w1 ⟨⟨_, hb1⟩, rfl⟩; (try dsimp only); obtain ⟨hc1, hf1⟩ := bcell hb1; have hs1 := hb1.size; (try simp at hs1))
              go_wp2
              go_ret
              exact ⟨ret_bool (pkmay_back hk0 HX'.out HX.out H3.out).symm, (by repeat (first | exact Below.refl _ _ | assumption | refine b_then ?_ (by assumption) | refine b_alloc ?_ _ | refine b_drewN ?_ _ | refine Below.drew ?_ | refine b_set ?_ (by first | exact Nat.le_refl _ | (simp; done) | (simp; omega) | omega) _))⟩
          · go_wp2
            (refine wp_region_after (by kernel_rfl) (by kernel_rfl) ?_; (repeat (first | go_big_quiet_skip | (go_big_quiet_want; go_big_quiet_op; first | go_big_quiet_on | (apply Exists.intro; refine ⟨fun _ => ?_, ?_⟩; (focus (first | (go_at_call 53; with_reducible exact Calls.after_same (hN _)) | (go_at_call 30; with_reducible exact Calls.after (hS _ (b_then hB1 (After.h _)))))); go_big_quiet_on)))); refine wpQuiet_nil ?_; rintro w1 ⟨⟨_, hb1⟩, rfl⟩; (try dsimp only); obtain ⟨hc1, hf1⟩ := bcell hb1; have hs1 := hb1.size; (try simp at hs1))
            go_wp2
            go_roundw
            case rel => exact ⟨k + 1, by omega, by go_num, pparts_first' (by omega) HX.out ((HP.out _ _ H1.out H2.out).trans rfl), hB.trans (hb1.mono hB.size)⟩
            case measure => simp [intOf]; omega
        · rw [cs] at hS
          have H2 := Lib.hid cs
          clear cs
          go_wp2
          (refine wp_region_after (by kernel_rfl) (by kernel_rfl) ?_; (repeat (first | go_big_quiet_skip | (go_big_quiet_want; go_big_quiet_op; first | go_big_quiet_on | (apply Exists.intro; refine ⟨fun _ => ?_, ?_⟩; (focus (first | (go_at_call 53; with_reducible exact Calls.after_same (hN _)) | (go_at_call 30; with_reducible exact Calls.after (hS _ (b_then hB1 (After.h _)))))); go_big_quiet_on)))); refine wpQuiet_nil ?_; rintro w1 ⟨⟨_, hb1⟩, rfl⟩; (try dsimp only); obtain ⟨hc1, hf1⟩ := bcell hb1; have hs1 := hb1.size; (try simp at hs1))
          go_wp2
          go_ret
          exact ⟨ret_bool (pkmay_bad HX.out (HP.out _ _ H1.out H2.out)).symm, (by repeat (first | exact Below.refl _ _ | assumption | refine b_then ?_ (by assumption) | refine b_alloc ?_ _ | refine b_drewN ?_ _ | refine Below.drew ?_ | refine b_set ?_ (by first | exact Nat.le_refl _ | (simp; done) | (simp; omega) | omega) _))⟩
        · rw [cs] at hS
          have H2 := Lib.hid cs
          clear cs
          go_wp2
          (refine wp_region_after (by kernel_rfl) (by kernel_rfl) ?_; (repeat (first | go_big_quiet_skip | (go_big_quiet_want; go_big_quiet_op; first | go_big_quiet_on | (apply Exists.intro; refine ⟨fun _ => ?_, ?_⟩; (focus (first | (go_at_call 53; with_reducible exact Calls.after_same (hN _)) | (go_at_call 30; with_reducible exact Calls.after (hS _ (b_then hB1 (After.h _)))))); go_big_quiet_on)))); refine wpQuiet_nil ?_; rintro w1 ⟨⟨_, hb1⟩, rfl⟩; (try dsimp only); obtain ⟨hc1, hf1⟩ := bcell hb1; have hs1 := hb1.size; (try simp at hs1))
          go_wp2
          go_ret
          exact ⟨ret_bool (pkmay_bad HX.out (HP.out _ _ H1.out H2.out)).symm, (by repeat (first | exact Below.refl _ _ | assumption | refine b_then ?_ (by assumption) | refine b_alloc ?_ _ | refine b_drewN ?_ _ | refine Below.drew ?_ | refine b_set ?_ (by first | exact Nat.le_refl _ | (simp; done) | (simp; omega) | omega) _))⟩
    · obtain rfl : k = n := by omega
      have H2 := H.out
      rw [← hx.len, List.take_length] at H2
      have H3 : Hid (pkmay xs ⟨c0, c1⟩ = rmay ⟨c0, c1⟩) := by unfold Hid pkmay; rw [H2]; rfl
      clear H2
      go_wp2_with (go_at_call 26; (with_reducible refine (hC _ hBw).mono ?_); rintro e w1 ⟨rfl, hb1⟩; obtain ⟨hc1, hf1⟩ := bcell hb1; have hs1 := hb1.size; (try simp at hs1))
      go_ret
      exact ⟨ret_bool H3.out.symm, (by repeat (first | exact Below.refl _ _ | assumption | refine b_then ?_ (by assumption) | refine b_alloc ?_ _ | refine b_drewN ?_ _ | refine Below.drew ?_ | refine b_set ?_ (by first | exact Nat.le_refl _ | (simp; done) | (simp; omega) | omega) _))⟩
end Go.Proofs.YtdkpbifpafaabaaGreatDoor
