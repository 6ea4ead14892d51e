/- Walks of book.compare, book.line, book.May. -/
import Derived.Test.YtpoejheienohjaaGreatDoorRefK
import Derived.Test.YtpoejheienohjaaGreatDoorFixQ
namespace Go.Proofs.YtpoejheienohjaaGreatDoor
open Go.RowKit
set_option linter.unusedVariables false
set_option linter.unusedSimpArgs false

/-- An order of lines. -/
def lcmp (a b : Ln) : Int := or2 (Lib.compareBytes a.acct.data.toList b.acct.data.toList) (Lib.compareBytes a.asset.data.toList b.asset.data.toList)
theorem lahead_lcmp (a b : Ln) : lahead a b = decide (lcmp a b < 0) := by
  obtain ⟨h1, h2⟩ := cmpB_spec a.acct.data.toList b.acct.data.toList
  obtain ⟨h3, h4⟩ := cmpB_spec a.asset.data.toList b.asset.data.toList
  unfold lahead slt lcmp or2
  rw [Bool.eq_iff_iff, Bool.or_eq_true, Bool.and_eq_true, bytesLess_iff, bytesLess_iff, tl, tl, tl, tl, beq_iff_eq, decide_eq_true_eq, ← h1, ← h2, ← h3]
  split
  · rename_i h; rw [h]; omega
  · omega
theorem lcmp_zero (a b : Ln) : lcmp a b = 0 ↔ a.acct = b.acct ∧ a.asset = b.asset := by
  obtain ⟨h1, h2⟩ := cmpB_spec a.acct.data.toList b.acct.data.toList
  obtain ⟨h3, h5⟩ := cmpB_spec a.asset.data.toList b.asset.data.toList
  have h4 : a.acct = b.acct ↔ a.acct.data.toList = b.acct.data.toList := ⟨fun e => by rw [e], s_ext⟩
  have h6 : a.asset = b.asset ↔ a.asset.data.toList = b.asset.data.toList := ⟨fun e => by rw [e], s_ext⟩
  unfold lcmp or2
  rw [h4, ← h2, h6, ← h5]
  split
  · rename_i h; exact ⟨fun e => ⟨h, e⟩, fun e => e.2⟩
  · rename_i h; exact ⟨fun e => absurd e h, fun e => absurd e.1 h⟩
theorem lahead_yes {a b : Ln} (h : lahead a b = true) : lcmp a b < 0 := by rw [lahead_lcmp] at h; exact of_decide_eq_true h
theorem lahead_no {a b : Ln} (h : lahead a b = false) : 0 ≤ lcmp a b := by rw [lahead_lcmp] at h; have := of_decide_eq_false h; omega
theorem lahead_lt (a b : Ln) : lahead a b = true ↔ lcmp a b < 0 := by rw [lahead_lcmp, decide_eq_true_eq]
set_option maxRecDepth 100000 in
set_option maxHeartbeats 2000000 in
theorem b_cmp (a0 a1 a2 a3 b0 b1 b2 b3 : ByteArray) (w : World) :
    Calls Tryz.prog 73 #[.agg #[.string a0, .string a1, .string a2, .string a3], .agg #[.string b0, .string b1, .string b2, .string b3]] w fun e w' => e = .returned (.int .i64 (lcmp ⟨a0, a1, ⟨a2, a3⟩⟩ ⟨b0, b1, ⟨b2, b3⟩⟩)) ∧ Below w.heap.size w w' := by
  unfold lcmp
  dsimp only
  obtain ⟨x, hx⟩ : ∃ x, Lib.compareBytes a0.data.toList b0.data.toList = x := ⟨_, rfl⟩
  obtain ⟨y, hy⟩ : ∃ y, Lib.compareBytes a1.data.toList b1.data.toList = y := ⟨_, rfl⟩
  have hc := fun w => c_compare a0 b0 w
  have hi := fun w => c_compare a1 b1 w
  rw [hx] at hc ⊢
  rw [hy] at hi ⊢
  clear hx hy
  go_enter Tryz.func73, Tryz.ntmps73
  go_wp2
  (refine wp_region_ahead 10 (by kernel_rfl) (by kernel_rfl) ?_; simp only [List.take_succ_cons, List.take_zero, List.drop_succ_cons, List.drop_zero]; (repeat (first | go_big_quiet_skip | (go_big_quiet_want; go_big_quiet_op; first | go_big_quiet_on | (apply Exists.intro; refine ⟨fun _ => ?_, ?_⟩; (focus (first | (go_at_call 91; with_reducible exact Calls.after_same (hc _)) | (go_at_call 91; with_reducible exact Calls.after_same (hi _)))); go_big_quiet_on)))); refine wpQuiet_nil ?_; rintro ⟨w1, hb1⟩; (try dsimp only); obtain ⟨hc1, hf1⟩ := bcell hb1; have hs1 := hb1.size; (try simp at hs1))
  go_wp2_with ((go_at_call 90; (with_reducible refine (c_or2n _ _ (by simp) x y).mono ?_); rintro e w' ⟨rfl, rfl⟩))
  go_ret
  exact ⟨rfl, (by repeat (first | exact Below.refl _ _ | assumption | refine b_then ?_ (by assumption) | refine b_alloc ?_ _ | refine b_drewN ?_ _ | refine Below.drew ?_ | refine b_set ?_ (by first | exact Nat.le_refl _ | (simp; done) | (simp; omega) | omega) _))⟩
set_option maxHeartbeats 800000 in
theorem b_line (a0 a1 a2 a3 : ByteArray) (w : World) (hg : Glob w) (h0 : a0.size ≤ 9223372036854775807) (h1 : a1.size ≤ 9223372036854775807) (h2 : a2.size ≤ 890000000) (h3 : a3.size ≤ 890000000) :
    Calls Tryz.prog 64 #[.agg #[.string a0, .string a1, .string a2, .string a3]] w fun e w' => e = .returned (.bool (lone ⟨a0, a1, ⟨a2, a3⟩⟩)) ∧ Below w.heap.size w w' := by
  unfold lone
  dsimp only
  have hA := fun W => p_name a0 W h0
  have hB := fun W => p_name a1 W h1
  have hR := fun W hg => p_rmay a2 a3 W hg (by omega) (by omega)
  go_enter Tryz.func64, Tryz.ntmps64
  go_wp2_with (first | (go_at_call 35; (with_reducible refine (hA _).mono ?_); rintro e w1 ⟨rfl, hb1⟩; obtain ⟨hc1, hf1⟩ := bcell hb1; have hs1 := hb1.size; (try simp at hs1); have hq1 : w.heap.size < w1.heap.size := (by omega)) | (go_at_call 35; (with_reducible refine (hB _).mono ?_); rintro e w2 ⟨rfl, hb2⟩; obtain ⟨hc2, hf2⟩ := bcell hb2; have hs2 := hb2.size; (try simp at hs2); have hq2 : w.heap.size < w2.heap.size := (by omega)) | (go_at_call 84; (with_reducible refine (hR _ (hg.below (by repeat (first | exact Below.refl _ _ | assumption | refine b_then ?_ (by assumption) | refine b_alloc ?_ _ | refine b_drewN ?_ _ | refine Below.drew ?_ | refine b_set ?_ (by first | exact Nat.le_refl _ | (simp; done) | (simp; omega) | omega) _)))).mono ?_); rintro e w3 ⟨rfl, hb3⟩; obtain ⟨hc3, hf3⟩ := bcell hb3; have hs3 := hb3.size; (try simp at hs3)))
  all_goals
    go_ret
    exact ⟨ret_bool (by grind), (by repeat (first | exact Below.refl _ _ | assumption | refine b_then ?_ (by assumption) | refine b_alloc ?_ _ | refine b_drewN ?_ _ | refine Below.drew ?_ | refine b_set ?_ (by first | exact Nat.le_refl _ | (simp; done) | (simp; omega) | omega) _))⟩
set_option maxHeartbeats 1600000 in
theorem b_may {A : Option Addr} {n c : Nat} {xs : List Ln} (w : World) (hg : Glob w) (hx : Rd Ln.cs 4 w A n xs) (hz : ∀ f ∈ xs, lnq f) :
    Calls Tryz.prog 33 #[.slice A n c] w fun e w' => e = .returned (.bool (bmay xs)) ∧ Below w.heap.size w w' := by
  have hbig := hx.big
  go_enter Tryz.func33, Tryz.ntmps33
  go_wp2
  go_loopw [7] (fun i wr => ∃ k : Nat, k ≤ n ∧ i = .int .i64 k ∧ Hid (bmay (xs.take k) = true) ∧ Below w.heap.size w wr) (fun i _ => n - (intOf i).toNat)
  case atStart => exact ⟨0, Nat.zero_le _, rfl, by simp [Hid, bmay, rises], Below.refl _ _⟩
  case round =>
    obtain ⟨k, hk, rfl, H, hB⟩ := hrel
    by_cases hlt : k < n
    · obtain ⟨ad, a0, a1, a2, a3, rfl, hxk, hx0, hx1, hx2, hx3⟩ := ln_now hx hB hlt
      obtain ⟨z0, z1, z2, z3⟩ := hz _ (List.mem_of_getElem? hxk)
      dsimp only at z0 z1 z2 z3
      have HX := Lib.hid hxk
      clear hxk
      have hB1 : Below w.heap.size w (wr.alloc (.cells #[.string a0, .string a1, .string a2, .string a3] 43)) := b_alloc hB _
      have hG1 := hg.below hB1
      have hL : ∀ W, Glob W → Calls Tryz.prog 64 #[.agg #[.string a0, .string a1, .string a2, .string a3]] W fun e w' => e = .returned (.bool (lone ⟨a0, a1, ⟨a2, a3⟩⟩)) ∧ Below W.heap.size W w' := fun W hgw => b_line a0 a1 a2 a3 W hgw (by omega) (by omega) (by omega) (by omega)
      by_cases c1 : lone ⟨a0, a1, ⟨a2, a3⟩⟩ = true
      · have hS : ∀ W, Glob W → Calls Tryz.prog 70 #[.agg #[.string a2, .string a3]] W fun e w' => e = .returned (.int .i64 (rsign ⟨a2, a3⟩)) ∧ Below W.heap.size W w' := fun W hgw => p_rsign a2 a3 W hgw (by omega) (by omega)
        by_cases c0 : (rsign ⟨a2, a3⟩ == 0) = true
        · have hbad : Hid (bmay xs = false) := bmay_bad HX.out (by unfold lgood; rw [c1, c0]; rfl)
          generalize rsign ⟨a2, a3⟩ = s at *
          go_wp2
          (refine wp_region_after (by kernel_rfl) (by kernel_rfl) ?_; (repeat (first | go_big_quiet_skip | (go_big_quiet_want; go_big_quiet_op; first | go_big_quiet_on | (apply Exists.intro; refine ⟨fun _ => ?_, ?_⟩; (focus (first | (go_at_call 64; with_reducible exact Calls.after_of (hL _ (hG1.below (After.h _))) (congrArg Value.bool c1)) | (go_at_call 70; with_reducible exact Calls.after (hS _ (hG1.below (After.h _)))))); go_big_quiet_on)))); refine wpQuiet_nil ?_; rintro w1 ⟨⟨_, hb1⟩, rfl⟩; (try dsimp only); obtain ⟨hc1, hf1⟩ := bcell hb1; have hs1 := hb1.size; (try simp at hs1))
          go_wp2
          go_ret
          exact ⟨ret_bool hbad.out.symm, (by repeat (first | exact Below.refl _ _ | assumption | refine b_then ?_ (by assumption) | refine b_alloc ?_ _ | refine b_drewN ?_ _ | refine Below.drew ?_ | refine b_set ?_ (by first | exact Nat.le_refl _ | (simp; done) | (simp; omega) | omega) _))⟩
        · simp only [Bool.not_eq_true] at c0
          have cg : lgood ⟨a0, a1, ⟨a2, a3⟩⟩ = true := by unfold lgood; rw [c1, c0]; rfl
          have CG := Lib.hid cg
          clear cg
          generalize rsign ⟨a2, a3⟩ = s at *
          by_cases hk0 : 0 < k
          · obtain ⟨ad', b0, b1, b2, b3, e, hxk', hc'⟩ := ln_at hx hB1 (show k - 1 < n by omega)
            obtain rfl : ad = ad' := Option.some.inj e
            have hy0 := fun y => (hc' y).1
            have hy1 := fun y => (hc' y).2.1
            have hy2 := fun y => (hc' y).2.2.1
            have hy3 := fun y => (hc' y).2.2.2
            have HX' := Lib.hid hxk'
            have HC' := Lib.hid hc'
            clear hxk' hc' e
            by_cases c2 : lahead ⟨b0, b1, ⟨b2, b3⟩⟩ ⟨a0, a1, ⟨a2, a3⟩⟩ = true
            · have c3 := lahead_yes c2
              go_wp2
              (refine wp_region_after (by kernel_rfl) (by kernel_rfl) ?_; (repeat (first | go_big_quiet_skip | (go_big_quiet_want; go_big_quiet_op; first | go_big_quiet_on | (apply Exists.intro; refine ⟨fun _ => ?_, ?_⟩; (focus (first | (go_at_call 64; with_reducible exact Calls.after_of (hL _ (hG1.below (After.h _))) (congrArg Value.bool c1)) | (go_at_call 70; with_reducible exact Calls.after (hS _ (hG1.below (After.h _)))) | (go_at_call 73; exact Calls.after (b_cmp _ _ _ _ _ _ _ _ _)))); go_big_quiet_on)))); refine wpQuiet_nil ?_; rintro w1 ⟨⟨_, hb1⟩, rfl⟩; (try dsimp only); obtain ⟨hc1, hf1⟩ := bcell hb1; have hs1 := hb1.size; (try simp at hs1))
              go_wp2
              go_roundw
              case rel => exact ⟨k + 1, by omega, by go_num, bmay_next H.out hk0 HX'.out HX.out CG.out c2, (by repeat (first | exact Below.refl _ _ | assumption | refine b_then ?_ (by assumption) | refine b_alloc ?_ _ | refine b_drewN ?_ _ | refine Below.drew ?_ | refine b_set ?_ (by first | exact Nat.le_refl _ | (simp; done) | (simp; omega) | omega) _))⟩
              case measure => simp [intOf]; omega
            · simp only [Bool.not_eq_true] at c2
              have c3 := lahead_no c2
              go_wp2
              (refine wp_region_after (by kernel_rfl) (by kernel_rfl) ?_; (repeat (first | go_big_quiet_skip | (go_big_quiet_want; go_big_quiet_op; first | go_big_quiet_on | (apply Exists.intro; refine ⟨fun _ => ?_, ?_⟩; (focus (first | (go_at_call 64; with_reducible exact Calls.after_of (hL _ (hG1.below (After.h _))) (congrArg Value.bool c1)) | (go_at_call 70; with_reducible exact Calls.after (hS _ (hG1.below (After.h _)))) | (go_at_call 73; exact Calls.after (b_cmp _ _ _ _ _ _ _ _ _)))); go_big_quiet_on)))); refine wpQuiet_nil ?_; rintro w1 ⟨⟨_, hb1⟩, rfl⟩; (try dsimp only); obtain ⟨hc1, hf1⟩ := bcell hb1; have hs1 := hb1.size; (try simp at hs1))
              go_wp2
              go_ret
              exact ⟨ret_bool (bmay_back hk0 HX'.out HX.out c2).symm, (by repeat (first | exact Below.refl _ _ | assumption | refine b_then ?_ (by assumption) | refine b_alloc ?_ _ | refine b_drewN ?_ _ | refine Below.drew ?_ | refine b_set ?_ (by first | exact Nat.le_refl _ | (simp; done) | (simp; omega) | omega) _))⟩
          · go_wp2
            (refine wp_region_after (by kernel_rfl) (by kernel_rfl) ?_; (repeat (first | go_big_quiet_skip | (go_big_quiet_want; go_big_quiet_op; first | go_big_quiet_on | (apply Exists.intro; refine ⟨fun _ => ?_, ?_⟩; (focus (first | (go_at_call 64; with_reducible exact Calls.after_of (hL _ (hG1.below (After.h _))) (congrArg Value.bool c1)) | (go_at_call 70; with_reducible exact Calls.after (hS _ (hG1.below (After.h _)))))); go_big_quiet_on)))); refine wpQuiet_nil ?_; rintro w1 ⟨⟨_, hb1⟩, rfl⟩; (try dsimp only); obtain ⟨hc1, hf1⟩ := bcell hb1; have hs1 := hb1.size; (try simp at hs1))
            go_wp2
            go_roundw
            case rel => exact ⟨k + 1, by omega, by go_num, bmay_first' (by omega) HX.out CG.out, (by repeat (first | exact Below.refl _ _ | assumption | refine b_then ?_ (by assumption) | refine b_alloc ?_ _ | refine b_drewN ?_ _ | refine Below.drew ?_ | refine b_set ?_ (by first | exact Nat.le_refl _ | (simp; done) | (simp; omega) | omega) _))⟩
            case measure => simp [intOf]; omega
      · simp only [Bool.not_eq_true] at c1
        have hbad : Hid (bmay xs = false) := bmay_bad HX.out (by unfold lgood; rw [c1]; rfl)
        go_wp2
        (refine wp_region_after (by kernel_rfl) (by kernel_rfl) ?_; (repeat (first | go_big_quiet_skip | (go_big_quiet_want; go_big_quiet_op; first | go_big_quiet_on | (apply Exists.intro; refine ⟨fun _ => ?_, ?_⟩; (focus (first | (go_at_call 64; with_reducible exact Calls.after_of (hL _ (hG1.below (After.h _))) (congrArg Value.bool c1)))); go_big_quiet_on)))); refine wpQuiet_nil ?_; rintro w1 ⟨⟨_, hb1⟩, rfl⟩; (try dsimp only); obtain ⟨hc1, hf1⟩ := bcell hb1; have hs1 := hb1.size; (try simp at hs1))
        go_wp2
        go_ret
        exact ⟨ret_bool hbad.out.symm, (by repeat (first | exact Below.refl _ _ | assumption | refine b_then ?_ (by assumption) | refine b_alloc ?_ _ | refine b_drewN ?_ _ | refine Below.drew ?_ | refine b_set ?_ (by first | exact Nat.le_refl _ | (simp; done) | (simp; omega) | omega) _))⟩
    · obtain rfl : k = n := by omega
      have H2 := H.out
      rw [← hx.len, List.take_length] at H2
      have H3 := Lib.hid H2
      clear H2
      go_wp2
      go_ret
      exact ⟨ret_bool H3.out.symm, (by repeat (first | exact Below.refl _ _ | assumption | refine b_then ?_ (by assumption) | refine b_alloc ?_ _ | refine b_drewN ?_ _ | refine Below.drew ?_ | refine b_set ?_ (by first | exact Nat.le_refl _ | (simp; done) | (simp; omega) | omega) _))⟩
end Go.Proofs.YtpoejheienohjaaGreatDoor

/- Walks of slices.BinarySearchFunc of lines, book.Find, book.Get. -/
namespace Go.Proofs.YtpoejheienohjaaGreatDoor
open Go.RowKit
set_option linter.unusedVariables false
set_option linter.unusedSimpArgs false

def bbI (xs : List Ln) (t : Ln) (lo hi : Nat) : Prop := lo ≤ hi ∧ hi ≤ xs.length ∧ (∀ a, 0 < lo → xs[lo - 1]? = some a → lcmp a t < 0) ∧ (∀ a, xs[hi]? = some a → 0 ≤ lcmp a t)
def bat (xs : List Ln) (t : Ln) (i : Nat) : Bool := match xs[i]? with | some a => decide (lcmp a t = 0) | none => false
theorem bbI_start (xs : List Ln) (t : Ln) : bbI xs t 0 xs.length := ⟨Nat.zero_le _, Nat.le_refl _, fun _ h => absurd h (by omega), fun a h => by simp at h⟩
theorem bbI_up {xs : List Ln} {t a : Ln} {lo hi m : Nat} (h : bbI xs t lo hi) (hm : m < hi) (ha : xs[m]? = some a) (hc : lcmp a t < 0) : bbI xs t (m + 1) hi :=
  ⟨hm, h.2.1, fun b _ hb => by rw [Nat.add_sub_cancel, ha] at hb; cases hb; exact hc, h.2.2.2⟩
theorem bbI_down {xs : List Ln} {t a : Ln} {lo hi m : Nat} (h : bbI xs t lo hi) (hl : lo ≤ m) (hm : m < hi) (ha : xs[m]? = some a) (hc : ¬ lcmp a t < 0) : bbI xs t lo m :=
  ⟨hl, by have := h.2.1; omega, h.2.2.1, fun b hb => by rw [ha] at hb; cases hb; omega⟩

theorem lrises_lt {l : List Ln} (h : rises lahead l = true) {i j : Nat} {a b : Ln} (hij : i < j) (ha : l[i]? = some a) (hb : l[j]? = some b) : lahead a b = true := by
  obtain ⟨hi, rfl⟩ := List.getElem?_eq_some_iff.1 ha
  obtain ⟨hj, rfl⟩ := List.getElem?_eq_some_iff.1 hb
  exact List.pairwise_iff_getElem.1 (rises_pw.1 h) i j hi hj hij
theorem bb_split {l : List Ln} {f : Ln} {i : Nat} (hs : rises lahead l = true) (h : bbI l f i i) {j : Nat} {a : Ln} (ha : l[j]? = some a) : (j < i → lahead a f = true) ∧ (i ≤ j → lahead a f = false) := by
  obtain ⟨_, h2, h3, h4⟩ := h
  constructor
  · intro hj
    have hl : i - 1 < l.length := by omega
    have hm : l[i - 1]? = some l[i - 1] := List.getElem?_eq_getElem hl
    have h5 := h3 _ (by omega) hm
    rw [← lahead_lt] at h5
    by_cases e : j = i - 1
    · subst e; rw [ha] at hm; cases hm; exact h5
    · exact lahead_trans (lrises_lt hs (by omega) ha hm) h5
  · intro hj
    have hjl : j < l.length := (List.getElem?_eq_some_iff.1 ha).1
    have hm : l[i]? = some l[i] := List.getElem?_eq_getElem (by omega)
    have h5 := h4 _ hm
    rw [← Bool.not_eq_true]
    intro k
    by_cases e : j = i
    · subst e; rw [ha] at hm; cases hm; rw [lahead_lt] at k; omega
    · have := lahead_trans (lrises_lt hs (by omega) hm ha) k
      rw [lahead_lt] at this; omega
def BFindPost (xs : List Ln) (t : Ln) (w : World) (e : Ending) (w' : World) : Prop := ∃ i, e = .returned (.tuple #[.int .i64 (i : Nat), .bool (bat xs t i)]) ∧ bbI xs t i i ∧ Below w.heap.size w w'
set_option maxHeartbeats 2000000 in
theorem b_bs {A : Option Addr} {n c : Nat} {xs : List Ln} (t0 t2 t3 : ByteArray) (t1 : ByteArray) (w : World) (hx : Rd Ln.cs 4 w A n xs) (hn : n ≤ 1000000) :
    Calls Tryz.prog 99 #[.slice A n c, .agg #[.string t0, .string t1, .string t2, .string t3], .func (.func 73) #[] #[]] w fun e w' => BFindPost xs ⟨t0, t1, ⟨t2, t3⟩⟩ w e w' := by
  have hxl := hx.len
  have hB0 : Below w.heap.size w (w.alloc (.cells #[.string t0, .string t1, .string t2, .string t3] 43)) := b_alloc (Below.refl _ _) _
  have H0 : Hid (bbI xs ⟨t0, t1, ⟨t2, t3⟩⟩ 0 n) := by have := bbI_start xs ⟨t0, t1, ⟨t2, t3⟩⟩; rw [hxl] at this; exact this
  go_enter Tryz.func99, Tryz.ntmps99
  go_wp2
  go_loopw [9, 10] (fun a b wr => ∃ lo hi : Nat, a = .int .i64 lo ∧ b = .int .i64 hi ∧ lo ≤ hi ∧ hi ≤ n ∧ Hid (bbI xs ⟨t0, t1, ⟨t2, t3⟩⟩ lo hi) ∧ Below (w.heap.size + 1) (w.alloc (.cells #[.string t0, .string t1, .string t2, .string t3] 43)) wr) (fun a b _ => (intOf b - intOf a).toNat)
  case atStart => exact ⟨0, n, rfl, rfl, Nat.zero_le _, Nat.le_refl _, H0, Below.refl _ _⟩
  case round =>
    obtain ⟨lo, hi, rfl, rfl, hlh, hhi, H, hB⟩ := hrel
    have hBw : Below w.heap.size w wr := b_then hB0 (by simpa using hB)
    have hsz := hB.size
    simp only [World.size_alloc] at hsz
    have ht : ∀ o, wr.cell? ⟨w.heap.size, o, none⟩ = (w.alloc (.cells #[.string t0, .string t1, .string t2, .string t3] 43)).cell? ⟨w.heap.size, o, none⟩ := fun o => hB.cell (p := ⟨w.heap.size, o, none⟩) (by simp)
    obtain ⟨ht0, ht1, ht2, ht3⟩ : wr.cell? ⟨w.heap.size, 0, none⟩ = some (.string t0) ∧ wr.cell? ⟨w.heap.size, 1, none⟩ = some (.string t1) ∧ wr.cell? ⟨w.heap.size, 2, none⟩ = some (.string t2) ∧ wr.cell? ⟨w.heap.size, 3, none⟩ = some (.string t3) := by
      refine ⟨(ht 0).trans ?_, (ht 1).trans ?_, (ht 2).trans ?_, (ht 3).trans ?_⟩ <;> exact Blk.cell (Blk.new w _ _) _
    clear ht
    have hszt : w.heap.size < wr.heap.size := by omega
    by_cases hlt : lo < hi
    · obtain ⟨m, hm⟩ : ∃ m, (lo + hi) / 2 = m := ⟨_, rfl⟩
      have hmn : m < n := by omega
      obtain ⟨ad, a0, a1, a2, a3, rfl, hxk, hc'⟩ := ln_at hx hBw hmn
      have hy0 := fun y => (hc' y).1
      have hy1 := fun y => (hc' y).2.1
      have hy2 := fun y => (hc' y).2.2.1
      have hy3 := fun y => (hc' y).2.2.2
      have HX := Lib.hid hxk
      have HC := Lib.hid hc'
      clear hxk hc'
      by_cases c1 : lcmp ⟨a0, a1, ⟨a2, a3⟩⟩ ⟨t0, t1, ⟨t2, t3⟩⟩ < 0
      · go_wp2
        (refine wp_region_after (by kernel_rfl) (by kernel_rfl) ?_; (repeat (first | go_big_quiet_skip | (go_big_quiet_want; go_big_quiet_op; first | go_big_quiet_on | (apply Exists.intro; refine ⟨fun _ => ?_, ?_⟩; (focus ((go_at_call 73; exact Calls.after (b_cmp _ _ _ _ _ _ _ _ _)))); go_big_quiet_on)))); refine wpQuiet_nil ?_; rintro w1 ⟨⟨_, hb1⟩, rfl⟩; (try dsimp only); obtain ⟨hc1, hf1⟩ := bcell hb1; have hs1 := hb1.size; (try simp at hs1))
        go_wp2
        go_roundw
        case rel => exact ⟨m + 1, hi, int_eq (by omega), rfl, by omega, hhi, bbI_up H.out (by omega) HX.out c1, hB.trans (hb1.mono hsz)⟩
        case measure => (simp [intOf]; try omega)
      · go_wp2
        (refine wp_region_after (by kernel_rfl) (by kernel_rfl) ?_; (repeat (first | go_big_quiet_skip | (go_big_quiet_want; go_big_quiet_op; first | go_big_quiet_on | (apply Exists.intro; refine ⟨fun _ => ?_, ?_⟩; (focus ((go_at_call 73; exact Calls.after (b_cmp _ _ _ _ _ _ _ _ _)))); go_big_quiet_on)))); refine wpQuiet_nil ?_; rintro w1 ⟨⟨_, hb1⟩, rfl⟩; (try dsimp only); obtain ⟨hc1, hf1⟩ := bcell hb1; have hs1 := hb1.size; (try simp at hs1))
        go_wp2
        go_roundw
        case rel => exact ⟨lo, m, rfl, int_eq (by omega), by omega, by omega, bbI_down H.out (by omega) (by omega) HX.out (by omega), hB.trans (hb1.mono hsz)⟩
        case measure => (simp [intOf]; try omega)
    · obtain rfl : hi = lo := by omega
      by_cases hln : hi < n
      · obtain ⟨ad, a0, a1, a2, a3, rfl, hxk, hc'⟩ := ln_at hx hBw hln
        have hy0 := fun y => (hc' y).1
        have hy1 := fun y => (hc' y).2.1
        have hy2 := fun y => (hc' y).2.2.1
        have hy3 := fun y => (hc' y).2.2.2
        have HX := Lib.hid hxk
        have HC := Lib.hid hc'
        clear hxk hc'
        have hld : decide ((hi : Int) < (n : Int)) = true := decide_eq_true (by omega)
        by_cases c1 : lcmp ⟨a0, a1, ⟨a2, a3⟩⟩ ⟨t0, t1, ⟨t2, t3⟩⟩ = 0
        · have cb : (lcmp ⟨a0, a1, ⟨a2, a3⟩⟩ ⟨t0, t1, ⟨t2, t3⟩⟩ == 0) = true := by simpa using c1
          have C1 := Lib.hid c1
          clear c1
          go_wp2
          (refine wp_region_after (by kernel_rfl) (by kernel_rfl) ?_; (repeat (first | go_big_quiet_skip | (go_big_quiet_want; go_big_quiet_op; first | go_big_quiet_on | (apply Exists.intro; refine ⟨fun _ => ?_, ?_⟩; (focus ((go_at_call 73; exact Calls.after (b_cmp _ _ _ _ _ _ _ _ _)))); go_big_quiet_on)))); refine wpQuiet_nil ?_; rintro w1 ⟨⟨_, hb1⟩, rfl⟩; (try dsimp only); obtain ⟨hc1, hf1⟩ := bcell hb1; have hs1 := hb1.size; (try simp at hs1))
          go_wp2
          go_ret2
          refine ⟨hi, ?_, H.out, b_then hBw hb1⟩
          have : bat xs ⟨t0, t1, ⟨t2, t3⟩⟩ hi = true := by unfold bat; rw [HX.out]; exact decide_eq_true C1.out
          rw [this]; rfl
        · have cb : (lcmp ⟨a0, a1, ⟨a2, a3⟩⟩ ⟨t0, t1, ⟨t2, t3⟩⟩ == 0) = false := by simpa using c1
          have C1 := Lib.hid c1
          clear c1
          go_wp2
          (refine wp_region_after (by kernel_rfl) (by kernel_rfl) ?_; (repeat (first | go_big_quiet_skip | (go_big_quiet_want; go_big_quiet_op; first | go_big_quiet_on | (apply Exists.intro; refine ⟨fun _ => ?_, ?_⟩; (focus ((go_at_call 73; exact Calls.after (b_cmp _ _ _ _ _ _ _ _ _)))); go_big_quiet_on)))); refine wpQuiet_nil ?_; rintro w1 ⟨⟨_, hb1⟩, rfl⟩; (try dsimp only); obtain ⟨hc1, hf1⟩ := bcell hb1; have hs1 := hb1.size; (try simp at hs1))
          go_wp2
          go_ret2
          refine ⟨hi, ?_, H.out, b_then hBw hb1⟩
          have : bat xs ⟨t0, t1, ⟨t2, t3⟩⟩ hi = false := by unfold bat; rw [HX.out]; exact decide_eq_false C1.out
          rw [this]; rfl
      · have hld : decide ((hi : Int) < (n : Int)) = false := decide_eq_false (by omega)
        go_wp2
        (refine wp_region_after (by kernel_rfl) (by kernel_rfl) ?_; (repeat (first | go_big_quiet_skip | (go_big_quiet_want; go_big_quiet_op; first | go_big_quiet_on | (apply Exists.intro; refine ⟨fun _ => ?_, ?_⟩; (focus (fail)); go_big_quiet_on)))); refine wpQuiet_nil ?_; rintro w1 ⟨⟨_, hb1⟩, rfl⟩; (try dsimp only); obtain ⟨hc1, hf1⟩ := bcell hb1; have hs1 := hb1.size; (try simp at hs1))
        go_wp2
        go_ret2
        refine ⟨hi, ?_, H.out, b_then hBw hb1⟩
        have : bat xs ⟨t0, t1, ⟨t2, t3⟩⟩ hi = false := by unfold bat; rw [List.getElem?_eq_none (by omega)]
        rw [this]; rfl
set_option maxHeartbeats 400000 in
theorem b_find {A : Option Addr} {n c : Nat} {xs : List Ln} (s : ByteArray) (d : ByteArray) (w : World) (hx : Rd Ln.cs 4 w A n xs) (hn : n ≤ 1000000) :
    Calls Tryz.prog 65 #[.slice A n c, .string s, .string d] w fun e w' => BFindPost xs ⟨s, d, rzero⟩ w e w' := by
  go_enter Tryz.func65, Tryz.ntmps65
  go_wp2_with (go_at_call 99; (with_reducible refine (b_bs s ⟨#[]⟩ ⟨#[]⟩ d w hx hn).mono ?_); rintro e w1 ⟨i, rfl, hi, hb1⟩)
  go_ret2
  exact ⟨i, rfl, hi, hb1⟩
end Go.Proofs.YtpoejheienohjaaGreatDoor
