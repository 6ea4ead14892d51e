/- Walks of book.compare, book.line, book.May. -/
import Derived.Test.YtjdkbmlkplbmoaaGreatDoorRefK
import Derived.Test.YtjdkbmlkplbmoaaGreatDoorFixC
namespace Go.Proofs.YtjdkbmlkplbmoaaGreatDoor
open Go.RowKit
set_option linter.unusedVariables false
set_option linter.unusedSimpArgs false

/-- An order of lines. -/
def lcmp (a b : Ln) : Int := or2 (Lib.compareBytes a.acct.data.toList b.acct.data.toList) (Lib.compareBytes a.asset.data.toList b.asset.data.toList)
theorem lahead_lcmp (a b : Ln) : lahead a b = decide (lcmp a b < 0) := by
  obtain ⟨h1, h2⟩ := cmpB_spec a.acct.data.toList b.acct.data.toList
  obtain ⟨h3, h4⟩ := cmpB_spec a.asset.data.toList b.asset.data.toList
  unfold lahead slt lcmp or2
  rw [Bool.eq_iff_iff, Bool.or_eq_true, Bool.and_eq_true, bytesLess_iff, bytesLess_iff, tl, tl, tl, tl, beq_iff_eq, decide_eq_true_eq, ← h1, ← h2, ← h3]
  split
  · rename_i h; rw [h]; omega
  · omega
theorem lcmp_zero (a b : Ln) : lcmp a b = 0 ↔ a.acct = b.acct ∧ a.asset = b.asset := by
  obtain ⟨h1, h2⟩ := cmpB_spec a.acct.data.toList b.acct.data.toList
  obtain ⟨h3, h5⟩ := cmpB_spec a.asset.data.toList b.asset.data.toList
  have h4 : a.acct = b.acct ↔ a.acct.data.toList = b.acct.data.toList := ⟨fun e => by rw [e], s_ext⟩
  have h6 : a.asset = b.asset ↔ a.asset.data.toList = b.asset.data.toList := ⟨fun e => by rw [e], s_ext⟩
  unfold lcmp or2
  rw [h4, ← h2, h6, ← h5]
  split
  · rename_i h; exact ⟨fun e => ⟨h, e⟩, fun e => e.2⟩
  · rename_i h; exact ⟨fun e => absurd e h, fun e => absurd e.1 h⟩
theorem lahead_yes {a b : Ln} (h : lahead a b = true) : lcmp a b < 0 := by rw [lahead_lcmp] at h; exact of_decide_eq_true h
theorem lahead_no {a b : Ln} (h : lahead a b = false) : 0 ≤ lcmp a b := by rw [lahead_lcmp] at h; have := of_decide_eq_false h; omega
theorem lahead_lt (a b : Ln) : lahead a b = true ↔ lcmp a b < 0 := by rw [lahead_lcmp, decide_eq_true_eq]
set_option maxRecDepth 100000 in
set_option maxHeartbeats 2000000 in
theorem b_cmp (a0 a1 a2 a3 b0 b1 b2 b3 : ByteArray) (w : World) :
    Calls Tryz.prog 75 #[.agg #[.string a0, .string a1, .string a2, .string a3], .agg #[.string b0, .string b1, .string b2, .string b3]] w fun e w' => e = .returned (.int .i64 (lcmp ⟨a0, a1, ⟨a2, a3⟩⟩ ⟨b0, b1, ⟨b2, b3⟩⟩)) ∧ Below w.heap.size w w' := by
  unfold lcmp
  dsimp only
  obtain ⟨x, hx⟩ : ∃ x, Lib.compareBytes a0.data.toList b0.data.toList = x := ⟨_, rfl⟩
  obtain ⟨y, hy⟩ : ∃ y, Lib.compareBytes a1.data.toList b1.data.toList = y := ⟨_, rfl⟩
  have hc := fun w => c_compare a0 b0 w
  have hi := fun w => c_compare a1 b1 w
  rw [hx] at hc ⊢
  rw [hy] at hi ⊢
  clear hx hy
  go_enter Tryz.func75, Tryz.ntmps75
  go_wp2
  (refine wp_region_ahead 10 (by kernel_rfl) (by kernel_rfl) ?_; simp only [List.take_succ_cons, List.take_zero, List.drop_succ_cons, List.drop_zero]; (repeat (first | go_big_quiet_skip | (go_big_quiet_want; go_big_quiet_op; first | go_big_quiet_on | (apply Exists.intro; refine ⟨fun _ => ?_, ?_⟩; (focus (first | (go_at_call 110; with_reducible exact Calls.after_same (hc _)) | (go_at_call 110; with_reducible exact Calls.after_same (hi _)))); go_big_quiet_on)))); refine wpQuiet_nil ?_; rintro ⟨w1, hb1⟩; (try dsimp only); obtain ⟨hc1, hf1⟩ := bcell hb1; have hs1 := hb1.size; (try simp at hs1))
  go_wp2_with ((go_at_call 109; (with_reducible refine (c_or2n _ _ (by simp) x y).mono ?_); rintro e w' ⟨rfl, rfl⟩))
  go_ret
  exact ⟨rfl, (by repeat (first | exact Below.refl _ _ | assumption | refine b_then ?_ (by assumption) | refine b_alloc ?_ _ | refine b_drewN ?_ _ | refine Below.drew ?_ | refine b_set ?_ (by first | exact Nat.le_refl _ | (simp; done) | (simp; omega) | omega) _))⟩
set_option maxHeartbeats 800000 in
theorem b_line (a0 a1 a2 a3 : ByteArray) (w : World) (hg : Glob w) (h0 : a0.size ≤ 9223372036854775807) (h1 : a1.size ≤ 9223372036854775807) (h2 : a2.size ≤ 890000000) (h3 : a3.size ≤ 890000000) :
    Calls Tryz.prog 74 #[.agg #[.string a0, .string a1, .string a2, .string a3]] w fun e w' => e = .returned (.bool (lone ⟨a0, a1, ⟨a2, a3⟩⟩)) ∧ Below w.heap.size w w' := by
  unfold lone
  dsimp only
  have hA := fun W => p_name a0 W h0
  have hB := fun W => p_name a1 W h1
  have hR := fun W hg => p_rmay a2 a3 W hg (by omega) (by omega)
  go_enter Tryz.func74, Tryz.ntmps74
  go_wp2_with (first | (go_at_call 82; (with_reducible refine (hA _).mono ?_); rintro e w1 ⟨rfl, hb1⟩; obtain ⟨hc1, hf1⟩ := bcell hb1; have hs1 := hb1.size; (try simp at hs1); have hq1 : w.heap.size < w1.heap.size := (by omega)) | (go_at_call 82; (with_reducible refine (hB _).mono ?_); rintro e w2 ⟨rfl, hb2⟩; obtain ⟨hc2, hf2⟩ := bcell hb2; have hs2 := hb2.size; (try simp at hs2); have hq2 : w.heap.size < w2.heap.size := (by omega)) | (go_at_call 83; (with_reducible refine (hR _ (hg.below (by repeat (first | exact Below.refl _ _ | assumption | refine b_then ?_ (by assumption) | refine b_alloc ?_ _ | refine b_drewN ?_ _ | refine Below.drew ?_ | refine b_set ?_ (by first | exact Nat.le_refl _ | (simp; done) | (simp; omega) | omega) _)))).mono ?_); rintro e w3 ⟨rfl, hb3⟩; obtain ⟨hc3, hf3⟩ := bcell hb3; have hs3 := hb3.size; (try simp at hs3)))
  all_goals
    go_ret
    exact ⟨ret_bool (by grind), (by repeat (first | exact Below.refl _ _ | assumption | refine b_then ?_ (by assumption) | refine b_alloc ?_ _ | refine b_drewN ?_ _ | refine Below.drew ?_ | refine b_set ?_ (by first | exact Nat.le_refl _ | (simp; done) | (simp; omega) | omega) _))⟩
set_option maxHeartbeats 1600000 in
theorem b_may {A : Option Addr} {n c : Nat} {xs : List Ln} (w : World) (hg : Glob w) (hx : Rd Ln.cs 4 w A n xs) (hz : ∀ f ∈ xs, lnq f) :
    Calls Tryz.prog 42 #[.slice A n c] w fun e w' => e = .returned (.bool (bmay xs)) ∧ Below w.heap.size w w' := by
  have hbig := hx.big
  go_enter Tryz.func42, Tryz.ntmps42
  go_wp2
  go_loopw [7] (fun i wr => ∃ k : Nat, k ≤ n ∧ i = .int .i64 k ∧ Hid (bmay (xs.take k) = true) ∧ Below w.heap.size w wr) (fun i _ => n - (intOf i).toNat)
  case atStart => exact ⟨0, Nat.zero_le _, rfl, by simp [Hid, bmay, rises], Below.refl _ _⟩
  case round =>
    obtain ⟨k, hk, rfl, H, hB⟩ := hrel
    by_cases hlt : k < n
    · obtain ⟨ad, a0, a1, a2, a3, rfl, hxk, hx0, hx1, hx2, hx3⟩ := ln_now hx hB hlt
      obtain ⟨z0, z1, z2, z3⟩ := hz _ (List.mem_of_getElem? hxk)
      dsimp only at z0 z1 z2 z3
      have HX := Lib.hid hxk
      clear hxk
      have hB1 : Below w.heap.size w (wr.alloc (.cells #[.string a0, .string a1, .string a2, .string a3] 46)) := b_alloc hB _
      have hG1 := hg.below hB1
      have hL : ∀ W, Glob W → Calls Tryz.prog 74 #[.agg #[.string a0, .string a1, .string a2, .string a3]] W fun e w' => e = .returned (.bool (lone ⟨a0, a1, ⟨a2, a3⟩⟩)) ∧ Below W.heap.size W w' := fun W hgw => b_line a0 a1 a2 a3 W hgw (by omega) (by omega) (by omega) (by omega)
      by_cases c1 : lone ⟨a0, a1, ⟨a2, a3⟩⟩ = true
      · have hS : ∀ W, Glob W → Calls Tryz.prog 48 #[.agg #[.string a2, .string a3]] W fun e w' => e = .returned (.int .i64 (rsign ⟨a2, a3⟩)) ∧ Below W.heap.size W w' := fun W hgw => p_rsign a2 a3 W hgw (by omega) (by omega)
        by_cases c0 : (rsign ⟨a2, a3⟩ == 0) = true
        · have hbad : Hid (bmay xs = false) := bmay_bad HX.out (by unfold lgood; rw [c1, c0]; rfl)
          generalize rsign ⟨a2, a3⟩ = s at *
          go_wp2
          (refine wp_region_after (by kernel_rfl) (by kernel_rfl) ?_; (repeat (first | go_big_quiet_skip | (go_big_quiet_want; go_big_quiet_op; first | go_big_quiet_on | (apply Exists.intro; refine ⟨fun _ => ?_, ?_⟩; (focus (first | (go_at_call 74; with_reducible exact Calls.after_of (hL _ (hG1.below (After.h _))) (congrArg Value.bool c1)) | (go_at_call 48; with_reducible exact Calls.after (hS _ (hG1.below (After.h _)))))); go_big_quiet_on)))); refine wpQuiet_nil ?_; rintro w1 ⟨⟨_, hb1⟩, rfl⟩; (try dsimp only); obtain ⟨hc1, hf1⟩ := bcell hb1; have hs1 := hb1.size; (try simp at hs1))
          go_wp2
          go_ret
          exact ⟨ret_bool hbad.out.symm, (by repeat (first | exact Below.refl _ _ | assumption | refine b_then ?_ (by assumption) | refine b_alloc ?_ _ | refine b_drewN ?_ _ | refine Below.drew ?_ | refine b_set ?_ (by first | exact Nat.le_refl _ | (simp; done) | (simp; omega) | omega) _))⟩
        · simp only [Bool.not_eq_true] at c0
          have cg : lgood ⟨a0, a1, ⟨a2, a3⟩⟩ = true := by unfold lgood; rw [c1, c0]; rfl
          have CG := Lib.hid cg
          clear cg
          generalize rsign ⟨a2, a3⟩ = s at *
          by_cases hk0 : 0 < k
          · obtain ⟨ad', b0, b1, b2, b3, e, hxk', hc'⟩ := ln_at hx hB1 (show k - 1 < n by omega)
            obtain rfl : ad = ad' := Option.some.inj e
            have hy0 := fun y => (hc' y).1
            have hy1 := fun y => (hc' y).2.1
            have hy2 := fun y => (hc' y).2.2.1
            have hy3 := fun y => (hc' y).2.2.2
            have HX' := Lib.hid hxk'
            have HC' := Lib.hid hc'
            clear hxk' hc' e
            by_cases c2 : lahead ⟨b0, b1, ⟨b2, b3⟩⟩ ⟨a0, a1, ⟨a2, a3⟩⟩ = true
            · have c3 := lahead_yes c2
              go_wp2
              (refine wp_region_after (by kernel_rfl) (by kernel_rfl) ?_; (repeat (first | go_big_quiet_skip | (go_big_quiet_want; go_big_quiet_op; first | go_big_quiet_on | (apply Exists.intro; refine ⟨fun _ => ?_, ?_⟩; (focus (first | (go_at_call 74; with_reducible exact Calls.after_of (hL _ (hG1.below (After.h _))) (congrArg Value.bool c1)) | (go_at_call 48; with_reducible exact Calls.after (hS _ (hG1.below (After.h _)))) | (go_at_call 75; exact Calls.after (b_cmp _ _ _ _ _ _ _ _ _)))); go_big_quiet_on)))); refine wpQuiet_nil ?_; rintro w1 ⟨⟨_, hb1⟩, rfl⟩; (try dsimp only); obtain ⟨hc1, hf1⟩ := bcell hb1; have hs1 := hb1.size; (try simp at hs1))
              go_wp2
              go_roundw
              case rel => exact ⟨k + 1, by omega, by go_num, bmay_next H.out hk0 HX'.out HX.out CG.out c2, (by repeat (first | exact Below.refl _ _ | assumption | refine b_then ?_ (by assumption) | refine b_alloc ?_ _ | refine b_drewN ?_ _ | refine Below.drew ?_ | refine b_set ?_ (by first | exact Nat.le_refl _ | (simp; done) | (simp; omega) | omega) _))⟩
              case measure => simp [intOf]; omega
            · simp only [Bool.not_eq_true] at c2
              have c3 := lahead_no c2
              go_wp2
              (refine wp_region_after (by kernel_rfl) (by kernel_rfl) ?_; (repeat (first | go_big_quiet_skip | (go_big_quiet_want; go_big_quiet_op; first | go_big_quiet_on | (apply Exists.intro; refine ⟨fun _ => ?_, ?_⟩; (focus (first | (go_at_call 74; with_reducible exact Calls.after_of (hL _ (hG1.below (After.h _))) (congrArg Value.bool c1)) | (go_at_call 48; with_reducible exact Calls.after (hS _ (hG1.below (After.h _)))) | (go_at_call 75; exact Calls.after (b_cmp _ _ _ _ _ _ _ _ _)))); go_big_quiet_on)))); refine wpQuiet_nil ?_; rintro w1 ⟨⟨_, hb1⟩, rfl⟩; (try dsimp only); obtain ⟨hc1, hf1⟩ := bcell hb1; have hs1 := hb1.size; (try simp at hs1))
              go_wp2
              go_ret
              exact ⟨ret_bool (bmay_back hk0 HX'.out HX.out c2).symm, (by repeat (first | exact Below.refl _ _ | assumption | refine b_then ?_ (by assumption) | refine b_alloc ?_ _ | refine b_drewN ?_ _ | refine Below.drew ?_ | refine b_set ?_ (by first | exact Nat.le_refl _ | (simp; done) | (simp; omega) | omega) _))⟩
          · go_wp2
            (refine wp_region_after (by kernel_rfl) (by kernel_rfl) ?_; (repeat (first | go_big_quiet_skip | (go_big_quiet_want; go_big_quiet_op; first | go_big_quiet_on | (apply Exists.intro; refine ⟨fun _ => ?_, ?_⟩; (focus (first | (go_at_call 74; with_reducible exact Calls.after_of (hL _ (hG1.below (After.h _))) (congrArg Value.bool c1)) | (go_at_call 48; with_reducible exact Calls.after (hS _ (hG1.below (After.h _)))))); go_big_quiet_on)))); refine wpQuiet_nil ?_; rintro w1 ⟨⟨_, hb1⟩, rfl⟩; (try dsimp only); obtain ⟨hc1, hf1⟩ := bcell hb1; have hs1 := hb1.size; (try simp at hs1))
            go_wp2
            go_roundw
            case rel => exact ⟨k + 1, by omega, by go_num, bmay_first' (by omega) HX.out CG.out, (by repeat (first | exact Below.refl _ _ | assumption | refine b_then ?_ (by assumption) | refine b_alloc ?_ _ | refine b_drewN ?_ _ | refine Below.drew ?_ | refine b_set ?_ (by first | exact Nat.le_refl _ | (simp; done) | (simp; omega) | omega) _))⟩
            case measure => simp [intOf]; omega
      · simp only [Bool.not_eq_true] at c1
        have hbad : Hid (bmay xs = false) := bmay_bad HX.out (by unfold lgood; rw [c1]; rfl)
        go_wp2
        (refine wp_region_after (by kernel_rfl) (by kernel_rfl) ?_; (repeat (first | go_big_quiet_skip | (go_big_quiet_want; go_big_quiet_op; first | go_big_quiet_on | (apply Exists.intro; refine ⟨fun _ => ?_, ?_⟩; (focus (first | (go_at_call 74; with_reducible exact Calls.after_of (hL _ (hG1.below (After.h _))) (congrArg Value.bool c1)))); go_big_quiet_on)))); refine wpQuiet_nil ?_; rintro w1 ⟨⟨_, hb1⟩, rfl⟩; (try dsimp only); obtain ⟨hc1, hf1⟩ := bcell hb1; have hs1 := hb1.size; (try simp at hs1))
        go_wp2
        go_ret
        exact ⟨ret_bool hbad.out.symm, (by repeat (first | exact Below.refl _ _ | assumption | refine b_then ?_ (by assumption) | refine b_alloc ?_ _ | refine b_drewN ?_ _ | refine Below.drew ?_ | refine b_set ?_ (by first | exact Nat.le_refl _ | (simp; done) | (simp; omega) | omega) _))⟩
    · obtain rfl : k = n := by omega
      have H2 := H.out
      rw [← hx.len, List.take_length] at H2
      have H3 := Lib.hid H2
      clear H2
      go_wp2
      go_ret
      exact ⟨ret_bool H3.out.symm, (by repeat (first | exact Below.refl _ _ | assumption | refine b_then ?_ (by assumption) | refine b_alloc ?_ _ | refine b_drewN ?_ _ | refine Below.drew ?_ | refine b_set ?_ (by first | exact Nat.le_refl _ | (simp; done) | (simp; omega) | omega) _))⟩
end Go.Proofs.YtjdkbmlkplbmoaaGreatDoor

/- Walks of slices.BinarySearchFunc of lines, book.Find, book.Get. -/
namespace Go.Proofs.YtjdkbmlkplbmoaaGreatDoor
open Go.RowKit
set_option linter.unusedVariables false
set_option linter.unusedSimpArgs false

def bbI (xs : List Ln) (t : Ln) (lo hi : Nat) : Prop := lo ≤ hi ∧ hi ≤ xs.length ∧ (∀ a, 0 < lo → xs[lo - 1]? = some a → lcmp a t < 0) ∧ (∀ a, xs[hi]? = some a → 0 ≤ lcmp a t)
def bat (xs : List Ln) (t : Ln) (i : Nat) : Bool := match xs[i]? with | some a => decide (lcmp a t = 0) | none => false
theorem bbI_start (xs : List Ln) (t : Ln) : bbI xs t 0 xs.length := ⟨Nat.zero_le _, Nat.le_refl _, fun _ h => absurd h (by omega), fun a h => by simp at h⟩
theorem bbI_up {xs : List Ln} {t a : Ln} {lo hi m : Nat} (h : bbI xs t lo hi) (hm : m < hi) (ha : xs[m]? = some a) (hc : lcmp a t < 0) : bbI xs t (m + 1) hi :=
  ⟨hm, h.2.1, fun b _ hb => by rw [Nat.add_sub_cancel, ha] at hb; cases hb; exact hc, h.2.2.2⟩
theorem bbI_down {xs : List Ln} {t a : Ln} {lo hi m : Nat} (h : bbI xs t lo hi) (hl : lo ≤ m) (hm : m < hi) (ha : xs[m]? = some a) (hc : ¬ lcmp a t < 0) : bbI xs t lo m :=
  ⟨hl, by have := h.2.1; omega, h.2.2.1, fun b hb => by rw [ha] at hb; cases hb; omega⟩

theorem lrises_lt {l : List Ln} (h : rises lahead l = true) {i j : Nat} {a b : Ln} (hij : i < j) (ha : l[i]? = some a) (hb : l[j]? = some b) : lahead a b = true := by
  obtain ⟨hi, rfl⟩ := List.getElem?_eq_some_iff.1 ha
  obtain ⟨hj, rfl⟩ := List.getElem?_eq_some_iff.1 hb
  exact List.pairwise_iff_getElem.1 (rises_pw.1 h) i j hi hj hij
theorem bb_split {l : List Ln} {f : Ln} {i : Nat} (hs : rises lahead l = true) (h : bbI l f i i) {j : Nat} {a : Ln} (ha : l[j]? = some a) : (j < i → lahead a f = true) ∧ (i ≤ j → lahead a f = false) := by
  obtain ⟨_, h2, h3, h4⟩ := h
  constructor
  · intro hj
    have hl : i - 1 < l.length := by omega
    have hm : l[i - 1]? = some l[i - 1] := List.getElem?_eq_getElem hl
    have h5 := h3 _ (by omega) hm
    rw [← lahead_lt] at h5
    by_cases e : j = i - 1
    · subst e; rw [ha] at hm; cases hm; exact h5
    · exact lahead_trans (lrises_lt hs (by omega) ha hm) h5
  · intro hj
    have hjl : j < l.length := (List.getElem?_eq_some_iff.1 ha).1
    have hm : l[i]? = some l[i] := List.getElem?_eq_getElem (by omega)
    have h5 := h4 _ hm
    rw [← Bool.not_eq_true]
    intro k
    by_cases e : j = i
    · subst e; rw [ha] at hm; cases hm; rw [lahead_lt] at k; omega
    · have := lahead_trans (lrises_lt hs (by omega) hm ha) k
      rw [lahead_lt] at this; omega
def BFindPost (xs : List Ln) (t : Ln) (w : World) (e : Ending) (w' : World) : Prop := ∃ i, e = .returned (.tuple #[.int .i64 (i : Nat), .bool (bat xs t i)]) ∧ bbI xs t i i ∧ Below w.heap.size w w'
set_option maxHeartbeats 2000000 in
theorem b_bs {A : Option Addr} {n c : Nat} {xs : List Ln} (t0 t2 t3 : ByteArray) (t1 : ByteArray) (w : World) (hx : Rd Ln.cs 4 w A n xs) (hn : n ≤ 1000000) :
    Calls Tryz.prog 141 #[.slice A n c, .agg #[.string t0, .string t1, .string t2, .string t3], .func (.func 75) #[] #[]] w fun e w' => BFindPost xs ⟨t0, t1, ⟨t2, t3⟩⟩ w e w' := by
  have hxl := hx.len
  have hB0 : Below w.heap.size w (w.alloc (.cells #[.string t0, .string t1, .string t2, .string t3] 46)) := b_alloc (Below.refl _ _) _
  have H0 : Hid (bbI xs ⟨t0, t1, ⟨t2, t3⟩⟩ 0 n) := by have := bbI_start xs ⟨t0, t1, ⟨t2, t3⟩⟩; rw [hxl] at this; exact this
  go_enter Tryz.func141, Tryz.ntmps141
  go_wp2
  go_loopw [9, 10] (fun a b wr => ∃ lo hi : Nat, a = .int .i64 lo ∧ b = .int .i64 hi ∧ lo ≤ hi ∧ hi ≤ n ∧ Hid (bbI xs ⟨t0, t1, ⟨t2, t3⟩⟩ lo hi) ∧ Below (w.heap.size + 1) (w.alloc (.cells #[.string t0, .string t1, .string t2, .string t3] 46)) wr) (fun a b _ => (intOf b - intOf a).toNat)
  case atStart => exact ⟨0, n, rfl, rfl, Nat.zero_le _, Nat.le_refl _, H0, Below.refl _ _⟩
  case round =>
    obtain ⟨lo, hi, rfl, rfl, hlh, hhi, H, hB⟩ := hrel
    have hBw : Below w.heap.size w wr := b_then hB0 (by simpa using hB)
    have hsz := hB.size
    simp only [World.size_alloc] at hsz
    have ht : ∀ o, wr.cell? ⟨w.heap.size, o, none⟩ = (w.alloc (.cells #[.string t0, .string t1, .string t2, .string t3] 46)).cell? ⟨w.heap.size, o, none⟩ := fun o => hB.cell (p := ⟨w.heap.size, o, none⟩) (by simp)
    obtain ⟨ht0, ht1, ht2, ht3⟩ : wr.cell? ⟨w.heap.size, 0, none⟩ = some (.string t0) ∧ wr.cell? ⟨w.heap.size, 1, none⟩ = some (.string t1) ∧ wr.cell? ⟨w.heap.size, 2, none⟩ = some (.string t2) ∧ wr.cell? ⟨w.heap.size, 3, none⟩ = some (.string t3) := by
      refine ⟨(ht 0).trans ?_, (ht 1).trans ?_, (ht 2).trans ?_, (ht 3).trans ?_⟩ <;> exact Blk.cell (Blk.new w _ _) _
    clear ht
    have hszt : w.heap.size < wr.heap.size := by omega
    by_cases hlt : lo < hi
    · obtain ⟨m, hm⟩ : ∃ m, (lo + hi) / 2 = m := ⟨_, rfl⟩
      have hmn : m < n := by omega
      obtain ⟨ad, a0, a1, a2, a3, rfl, hxk, hc'⟩ := ln_at hx hBw hmn
      have hy0 := fun y => (hc' y).1
      have hy1 := fun y => (hc' y).2.1
      have hy2 := fun y => (hc' y).2.2.1
      have hy3 := fun y => (hc' y).2.2.2
      have HX := Lib.hid hxk
      have HC := Lib.hid hc'
      clear hxk hc'
      by_cases c1 : lcmp ⟨a0, a1, ⟨a2, a3⟩⟩ ⟨t0, t1, ⟨t2, t3⟩⟩ < 0
      · go_wp2
        (refine wp_region_after (by kernel_rfl) (by kernel_rfl) ?_; (repeat (first | go_big_quiet_skip | (go_big_quiet_want; go_big_quiet_op; first | go_big_quiet_on | (apply Exists.intro; refine ⟨fun _ => ?_, ?_⟩; (focus ((go_at_call 75; exact Calls.after (b_cmp _ _ _ _ _ _ _ _ _)))); go_big_quiet_on)))); refine wpQuiet_nil ?_; rintro w1 ⟨⟨_, hb1⟩, rfl⟩; (try dsimp only); obtain ⟨hc1, hf1⟩ := bcell hb1; have hs1 := hb1.size; (try simp at hs1))
        go_wp2
        go_roundw
        case rel => exact ⟨m + 1, hi, int_eq (by omega), rfl, by omega, hhi, bbI_up H.out (by omega) HX.out c1, hB.trans (hb1.mono hsz)⟩
        case measure => (simp [intOf]; try omega)
      · go_wp2
        (refine wp_region_after (by kernel_rfl) (by kernel_rfl) ?_; (repeat (first | go_big_quiet_skip | (go_big_quiet_want; go_big_quiet_op; first | go_big_quiet_on | (apply Exists.intro; refine ⟨fun _ => ?_, ?_⟩; (focus ((go_at_call 75; exact Calls.after (b_cmp _ _ _ _ _ _ _ _ _)))); go_big_quiet_on)))); refine wpQuiet_nil ?_; rintro w1 ⟨⟨_, hb1⟩, rfl⟩; (try dsimp only); obtain ⟨hc1, hf1⟩ := bcell hb1; have hs1 := hb1.size; (try simp at hs1))
        go_wp2
        go_roundw
        case rel => exact ⟨lo, m, rfl, int_eq (by omega), by omega, by omega, bbI_down H.out (by omega) (by omega) HX.out (by omega), hB.trans (hb1.mono hsz)⟩
        case measure => (simp [intOf]; try omega)
    · obtain rfl : hi = lo := by omega
      by_cases hln : hi < n
      · obtain ⟨ad, a0, a1, a2, a3, rfl, hxk, hc'⟩ := ln_at hx hBw hln
        have hy0 := fun y => (hc' y).1
        have hy1 := fun y => (hc' y).2.1
        have hy2 := fun y => (hc' y).2.2.1
        have hy3 := fun y => (hc' y).2.2.2
        have HX := Lib.hid hxk
        have HC := Lib.hid hc'
        clear hxk hc'
        have hld : decide ((hi : Int) < (n : Int)) = true := decide_eq_true (by omega)
        by_cases c1 : lcmp ⟨a0, a1, ⟨a2, a3⟩⟩ ⟨t0, t1, ⟨t2, t3⟩⟩ = 0
        · have cb : (lcmp ⟨a0, a1, ⟨a2, a3⟩⟩ ⟨t0, t1, ⟨t2, t3⟩⟩ == 0) = true := by simpa using c1
          have C1 := Lib.hid c1
          clear c1
          go_wp2
          (refine wp_region_after (by kernel_rfl) (by kernel_rfl) ?_; (repeat (first | go_big_quiet_skip | (go_big_quiet_want; go_big_quiet_op; first | go_big_quiet_on | (apply Exists.intro; refine ⟨fun _ => ?_, ?_⟩; (focus ((go_at_call 75; exact Calls.after (b_cmp _ _ _ _ _ _ _ _ _)))); go_big_quiet_on)))); refine wpQuiet_nil ?_; rintro w1 ⟨⟨_, hb1⟩, rfl⟩; (try dsimp only); obtain ⟨hc1, hf1⟩ := bcell hb1; have hs1 := hb1.size; (try simp at hs1))
          go_wp2
          go_ret2
          refine ⟨hi, ?_, H.out, b_then hBw hb1⟩
          have : bat xs ⟨t0, t1, ⟨t2, t3⟩⟩ hi = true := by unfold bat; rw [HX.out]; exact decide_eq_true C1.out
          rw [this]; rfl
        · have cb : (lcmp ⟨a0, a1, ⟨a2, a3⟩⟩ ⟨t0, t1, ⟨t2, t3⟩⟩ == 0) = false := by simpa using c1
          have C1 := Lib.hid c1
          clear c1
          go_wp2
          (refine wp_region_after (by kernel_rfl) (by kernel_rfl) ?_; (repeat (first | go_big_quiet_skip | (go_big_quiet_want; go_big_quiet_op; first | go_big_quiet_on | (apply Exists.intro; refine ⟨fun _ => ?_, ?_⟩; (focus ((go_at_call 75; exact Calls.after (b_cmp _ _ _ _ _ _ _ _ _)))); go_big_quiet_on)))); refine wpQuiet_nil ?_; rintro w1 ⟨⟨_, hb1⟩, rfl⟩; (try dsimp only); obtain ⟨hc1, hf1⟩ := bcell hb1; have hs1 := hb1.size; (try simp at hs1))
          go_wp2
          go_ret2
          refine ⟨hi, ?_, H.out, b_then hBw hb1⟩
          have : bat xs ⟨t0, t1, ⟨t2, t3⟩⟩ hi = false := by unfold bat; rw [HX.out]; exact decide_eq_false C1.out
          rw [this]; rfl
      · have hld : decide ((hi : Int) < (n : Int)) = false := decide_eq_false (by omega)
        go_wp2
        (refine wp_region_after (by kernel_rfl) (by kernel_rfl) ?_; (repeat (first | go_big_quiet_skip | (go_big_quiet_want; go_big_quiet_op; first | go_big_quiet_on | (apply Exists.intro; refine ⟨fun _ => ?_, ?_⟩; (focus (fail)); go_big_quiet_on)))); refine wpQuiet_nil ?_; rintro w1 ⟨⟨_, hb1⟩, rfl⟩; (try dsimp only); obtain ⟨hc1, hf1⟩ := bcell hb1; have hs1 := hb1.size; (try simp at hs1))
        go_wp2
        go_ret2
        refine ⟨hi, ?_, H.out, b_then hBw hb1⟩
        have : bat xs ⟨t0, t1, ⟨t2, t3⟩⟩ hi = false := by unfold bat; rw [List.getElem?_eq_none (by omega)]
        rw [this]; rfl
set_option maxHeartbeats 400000 in
theorem b_find {A : Option Addr} {n c : Nat} {xs : List Ln} (s : ByteArray) (d : ByteArray) (w : World) (hx : Rd Ln.cs 4 w A n xs) (hn : n ≤ 1000000) :
    Calls Tryz.prog 106 #[.slice A n c, .string s, .string d] w fun e w' => BFindPost xs ⟨s, d, rzero⟩ w e w' := by
  go_enter Tryz.func106, Tryz.ntmps106
  go_wp2_with (go_at_call 141; (with_reducible refine (b_bs s ⟨#[]⟩ ⟨#[]⟩ d w hx hn).mono ?_); rintro e w1 ⟨i, rfl, hi, hb1⟩)
  go_ret2
  exact ⟨i, rfl, hi, hb1⟩
end Go.Proofs.YtjdkbmlkplbmoaaGreatDoor

/- slices.Clone of lines; slices.Insert, at the end, in the middle. -/
namespace Go.Proofs.YtjdkbmlkplbmoaaGreatDoor
open Go.RowKit
set_option linter.unusedVariables false
set_option linter.unusedSimpArgs false

theorem append_types {P : Program} {w : World} {t t' e e' ty : TypeId} {s x : Value} (h : P.underlying t = some (.slice e)) (h' : P.underlying t' = some (.slice e')) : (Builtin.append_ #[t, t'] ty #[s, x]).run P w = (Builtin.append_ #[t, t] ty #[s, x]).run P w := by
  have u := fun w => run_underlying (P := P) (w := w) h
  have u' := fun w => run_underlying (P := P) (w := w) h'
  cases s
  case slice b n c => simp [Builtin.append_, Sem.run_bind, u, u']
  all_goals simp [Builtin.append_, Sem.run_bind, u]
theorem wpList_app2 {P : Program} {α : Type} {e : α → List Value} {z bytes : Nat} {t t' T : TypeId} (E : Elem P t T z bytes) (hu : P.underlying t' = some (.slice T)) (hz : 0 < z) (he : ∀ x, (e x).length = z) (h1 : ∀ x, ∀ u ∈ e x, u.oneCell' = true) {w : World} {ops : Array Oper} {rest : List Oper} {o : Oper} {a : Act} {Q : Exit → Act → World → Prop} (hgd : o.guard = none) (s x : Operand)
    (ho : o.op = .call { callee := .builtin .append, args := #[s, x], argTypes := #[t, t'] })
    {base : Nat} {v : Value} {xs : List α} (hs : a.eval s = v) (hown : Own e z T w base v xs)
    (ad : Addr) (c : Nat) (el : α) (hx : a.eval x = .slice (some ad) 1 c) (hnews : ∀ i u, (e el)[i]? = some u → w.cell? (ad.add i) = some u)
    (hbytes : (xs.length + 1) * bytes ≤ 140737488355328) (hbig : xs.length ≤ 140737488355328) (hbase : base ≤ w.heap.size)
    (h : ∀ v' w', Own e z T w' base v' (xs ++ [el]) → w.grownBy w' v.ownBlock → (v'.ownBlock = v.ownBlock ∨ v'.ownBlock = some w.heap.size) → wpList P ops Q rest (a.put o.dst v') w') : wpList P ops Q (o :: rest) a w := by
  obtain ⟨zero, hi, hzs⟩ := E.inf
  obtain ⟨i0, hi0, hz0, hz1, hz2⟩ := info_parts hi
  refine wpList_plain hgd fun K hK => ?_
  obtain ⟨v', w', hrun, g1, g2, _, g4⟩ := run_append_own_at (P := P) w base t o.type T i0 zero z bytes E.und hi0 hz0 hz1 hz2 hzs hz v xs.length (xs.flatMap e) hown.row ad 1 c (e el) (by rw [he]; omega) hnews (h1 el) (by simp only [maxLen]; omega) hbytes hbase
  rw [← append_types E.und hu] at hrun
  unfold Oper.wp execOp
  simp only [ho, resolve, invoke, builtin, Sem.run_bind, Sem.run_pure, Result.andThen_ok, List.map_toArray, List.map_cons, List.map_nil, hs, hx, hrun]
  refine hK _ _ (h v' w' ⟨?_⟩ g2 g4)
  rw [List.length_append, List.length_singleton, List.flatMap_append, List.flatMap_singleton]
  exact g1
set_option maxRecDepth 100000 in
set_option maxHeartbeats 800000 in
theorem b_clone {A : Option Addr} {n c : Nat} {xs : List Ln} (w : World) (hx : Rd Ln.cs 4 w A n xs) (hn : n ≤ 1000000) :
    Calls Tryz.prog 43 #[.slice A n c] w fun e w' => ∃ v, e = .returned v ∧ Own Ln.cs 4 46 w' w.heap.size v xs ∧ Below w.heap.size w w' := by
  have hxl := hx.len
  have q22 : ∀ (w : World) (a : Option Addr) (n c n' c' : Nat), (binOp .eql 23 (.slice a n c) (.slice none n' c')).run Tryz.prog w = .ok (.bool a.isNone) w := fun w a n c n' c' => Lib.run_eql_slice_nil w _ _ a n c n' c' Tryz.underlying23
  cases A with
  | none =>
    have hn0 : n = 0 := by
      rcases Nat.eq_zero_or_pos n with h | h
      · exact h
      · obtain ⟨_, ha, _⟩ := hx.cells h; cases ha
    have hxs : xs = [] := List.eq_nil_of_length_eq_zero (by omega)
    subst hxs
    go_enter Tryz.func43, Tryz.ntmps43
    go_wp2
    go_ret
    exact ⟨_, rfl, Own.nil, Below.refl _ _⟩
  | some ad =>
    have hB : Below w.heap.size w (w.alloc (.cells #[] 46)) := b_alloc (Below.refl _ _) _
    have hfl := Rd.flat (by omega) Ln.cs_length (hx.below hB)
    have HO : Own Ln.cs 4 46 (w.alloc (.cells #[] 46)) w.heap.size (.slice (some ⟨w.heap.size, 0, none⟩) 0 0) ([] : List Ln) := Own.made0 (Nat.le_refl _)
    go_enter Tryz.func43, Tryz.ntmps43
    go_wp2_with (at_builtin; refine wpList_apps (v := .slice (some ⟨w.heap.size, 0, none⟩) 0 0) Tryz.elemBook (by omega) Ln.cs_length Ln.cs_one rfl (.tmp 5) (.tmp 6) rfl rfl HO ad n c xs hxl rfl hfl (by simp; omega) (by simp; omega) (by simp) ?_; intro v2 w2 hown2 hg2 hat2)
    go_ret
    exact ⟨_, rfl, hown2, HO.frame hB (Nat.le_refl _) hg2⟩

/-- What Insert gives. -/
def BInsPost (xs : List Ln) (f : Ln) (i base : Nat) (w : World) (e : Ending) (w' : World) : Prop := ∃ v, e = .returned v ∧ Own Ln.cs 4 46 w' base v (xs.take i ++ f :: xs.drop i) ∧ Below base w w'
set_option maxRecDepth 100000 in
set_option maxHeartbeats 2000000 in
/-- At the end. -/
theorem b_ins_end {base g0 : Nat} {v : Value} {xs : List Ln} {f : Ln} (w : World) (ho : Own Ln.cs 4 46 w base v xs) (hn : xs.length ≤ 1000000) (hb : base ≤ w.heap.size) (hf : Blk w g0 46 (Ln.cs f).toArray) :
    Calls Tryz.prog 111 #[v, .int .i64 (xs.length : Nat), .slice (some ⟨g0, 0, none⟩) 1 1] w fun e w' => BInsPost xs f xs.length base w e w' := by
  have hfl : ∀ i u, (Ln.cs f)[i]? = some u → w.cell? ((⟨g0, 0, none⟩ : Addr).add i) = some u := fun i u hu => by
    have ha : (⟨g0, 0, none⟩ : Addr).add i = ⟨g0, i, none⟩ := by unfold Addr.add; split <;> simp_all
    rw [ha, hf.cell]; simpa using hu
  have hgoal : ∀ v' w', Own Ln.cs 4 46 w' base v' (xs ++ [f]) → w.grownBy w' v.ownBlock → BInsPost xs f xs.length base w (.returned v') w' := fun v' w' h1 h2 =>
    ⟨v', rfl, by rw [List.take_length, List.drop_length]; exact h1, (Below.refl base w).grown h2 hb fun k hk => ho.base_le k hk⟩
  rcases ho.row.2 with ⟨rfl, h0⟩ | ⟨g, cap, cur, rfl, hgb, hh, hc, hm, hs, ht⟩
  · have hxs : xs = [] := List.eq_nil_of_length_eq_zero h0
    subst hxs
    go_enter Tryz.func111, Tryz.ntmps111
    go_wp2_with (at_builtin; refine wpList_app2 (v := .slice none 0 0) Tryz.elemBook Tryz.elemLines.und (by omega) Ln.cs_length Ln.cs_one rfl (.tmp 23) (.tmp 24) rfl rfl ho ⟨g0, 0, none⟩ 1 f rfl hfl (by simp) (by simp) hb ?_; intro v2 w2 hown2 hg2 hat2)
    go_ret
    exact hgoal _ _ hown2 hg2
  · obtain ⟨n, hnl⟩ : ∃ n, xs.length = n := ⟨_, rfl⟩
    rw [hnl] at hc hn ⊢
    simp only [maxLen] at hm
    rw [hnl] at hgoal ho
    have hg4 : n ≤ cap := hc
    go_enter Tryz.func111, Tryz.ntmps111
    go_wp2_with (at_builtin; refine wpList_app2 (v := .slice (some ⟨g, 0, none⟩) n cap) Tryz.elemBook Tryz.elemLines.und (by omega) Ln.cs_length Ln.cs_one rfl (.tmp 23) (.tmp 24) rfl rfl ho ⟨g0, 0, none⟩ 1 f rfl hfl (by omega) (by omega) hb ?_; intro v2 w2 hown2 hg2 hat2)
    all_goals
      go_ret
      exact hgoal _ _ hown2 hg2
theorem line_size : (Tryz.prog.info? 46).map (·.size) = some 4 := by kernel_rfl
theorem line_sizeOf (w : World) : (Go.sizeOf 46).run Tryz.prog w = .ok 4 w := by
  have h := line_size
  cases hq : Tryz.prog.info? 46 with
  | none => rw [hq] at h; cases h
  | some i =>
    have hi : i.size = 4 := by rw [hq] at h; simpa using h
    simp [sizeOf, typeInfo, hq, hi]
theorem run_ovlL (w : World) {g0 g la ca lb cb : Nat} {cs cur : Array Value} {o : Nat} (hne : g0 ≠ g) (h0 : Blk w g0 46 cs) (hg : Blk w g 46 cur) (hs : cur.size ≠ 0) :
    (callFunc 145 #[.slice (some ⟨g0, 0, none⟩) la ca, .slice (some ⟨g, o, none⟩) lb cb]).run Tryz.prog w = .ok (.value (.bool false)) w := by
  rw [run_callFunc_extern Tryz.func145 (by kernel_rfl) (by kernel_rfl) (by kernel_rfl) (e := Extern.SlicesOverlaps.overlaps #[22, 22] #[4]) (by kernel_rfl),
    Lib.run_overlaps_apart w 22 4 46 Tryz.underlying22 4 line_sizeOf ⟨g0, 0, none⟩ ⟨g, o, none⟩ la ca lb cb hne 46 46 cs.size cur.size (by unfold Blk at h0; simp [World.shape?, h0]) (by unfold Blk at hg; simp [World.shape?, hg]) hs (h0.frozen 0) (h0.frozen _)]
  rfl
set_option maxRecDepth 100000 in
set_option maxHeartbeats 4000000 in
theorem b_ins_room {base g g0 n cap i : Nat} {xs : List Ln} {f : Ln} (w : World) (ho : Own Ln.cs 4 46 w base (.slice (some ⟨g, 0, none⟩) n cap) xs) (hn : n ≤ 1000000) (hb : base ≤ w.heap.size) (hf : Blk w g0 46 (Ln.cs f).toArray) (hne : g0 ≠ g) (hi : i < n) (hroom : n + 1 ≤ cap) :
    Calls Tryz.prog 111 #[.slice (some ⟨g, 0, none⟩) n cap, .int .i64 (i : Nat), .slice (some ⟨g0, 0, none⟩) 1 1] w fun e w' => BInsPost xs f i base w e w' := by
  obtain ⟨cur, hg, hbg, hl, hc, hm, hs, ht⟩ := ho.some_
  simp only [maxLen] at hm
  obtain ⟨cs, hcs⟩ : ∃ cs, (xs.drop i).flatMap Ln.cs = cs := ⟨_, rfl⟩
  have hcl : cs.length = (n - i) * 4 := by rw [← hcs, flat_len Ln.cs_length, List.length_drop, hl]
  have hcut : cur.toList.take (i * 4) = (xs.take i).flatMap Ln.cs := by
    rw [← flat_take Ln.cs_length, ← ht, List.take_take, Nat.min_eq_left (Nat.mul_le_mul_right _ (by omega))]
  have hcd : ∀ j u, cs[j]? = some u → cur[i * 4 + j]? = some u := by
    intro j u hu
    rw [← hcs, ← flat_drop Ln.cs_length, ← ht, List.getElem?_drop, List.getElem?_take] at hu
    split at hu
    · simpa using hu
    · cases hu
  have h1c : ∀ u ∈ cs, u.oneCell' = true := by
    rw [← hcs]; intro u hu
    obtain ⟨y, _, hy⟩ := List.mem_flatMap.1 hu
    exact Ln.cs_one y u hy
  have hfl : (Ln.cs f).length = 4 := rfl
  have hov : ∀ o lb cb, (callFunc 145 #[.slice (some ⟨g0, 0, none⟩) 1 1, .slice (some ⟨g, o, none⟩) lb cb]).run Tryz.prog w = .ok (.value (.bool false)) w := fun o lb cb => run_ovlL w hne hf hg (by omega)
  obtain ⟨c1, hc1⟩ : ∃ c1, cur.toList.take ((i + 1) * 4) ++ cs ++ cur.toList.drop ((i + 1) * 4 + cs.length) = c1 := ⟨_, rfl⟩
  have hcp1 : ∀ ty dc sc, (Builtin.copy_ #[23, 23] ty #[.slice (some ⟨g, (i + 1) * 4, none⟩) (n - i) dc, .slice (some ⟨g, i * 4, none⟩) (n + 1 - i) sc]).run Tryz.prog w.drew = .ok (goInt (n - i : Nat)) (w.drew.setRow g c1.toArray) := fun ty dc sc => by
    rw [← hc1]
    exact run_copy_z w.drew _ _ ty _ 4 g ((i + 1) * 4) (n - i) dc ⟨g, i * 4, none⟩ (n + 1 - i) sc cur _ cs Tryz.underlying23 line_size hg (n - i) (by simp only [Nat.min_def]; split <;> omega) hcl (fun j u hu => by
      have ha : (⟨g, i * 4, none⟩ : Addr).add j = ⟨g, i * 4 + j, none⟩ := by unfold Addr.add; split <;> simp_all
      rw [ha]; exact (Blk.cell hg _).trans (hcd j u hu)) (by omega) h1c
  have hc1l : c1.length = cur.size := by
    rw [← hc1]; simp; omega
  have hgw : Blk (w.drew.setRow g c1.toArray) g 46 c1.toArray := Blk.row (w := w.drew) hg _
  have hfw : Blk (w.drew.setRow g c1.toArray) g0 46 (Ln.cs f).toArray := (setRow_other w.drew g g0 _ hne).trans hf
  obtain ⟨W1, hW1⟩ : ∃ W1, w.drew.setRow g c1.toArray = W1 := ⟨_, rfl⟩
  have hB1 : Below base w W1 := by rw [← hW1]; exact below_row (Below.refl base w).drew hbg _
  rw [hW1] at hcp1 hgw hfw
  have hcp2 : ∀ ty dc, (Builtin.copy_ #[23, 22] ty #[.slice (some ⟨g, i * 4, none⟩) (n + 1 - i) dc, .slice (some ⟨g0, 0, none⟩) 1 1]).run Tryz.prog W1 = .ok (goInt (1 : Nat)) (W1.setRow g (c1.take (i * 4) ++ Ln.cs f ++ c1.drop (i * 4 + 4)).toArray) := fun ty dc => by
    have := run_copy_z W1 23 22 ty _ 4 g (i * 4) (n + 1 - i) dc ⟨g0, 0, none⟩ 1 1 c1.toArray _ (Ln.cs f) Tryz.underlying23 line_size hgw 1 (by simp only [Nat.min_def]; split <;> omega) (by rw [hfl]) (fun j u hu => by
      rw [add_lit4]; exact (Blk.cell hfw _).trans (by simpa using hu)) (by rw [hfl]; simp; omega) (Ln.cs_one f)
    exact this
  have hend : BInsPost xs f i base w (.returned (.slice (some ⟨g, 0, none⟩) (n + 1) cap)) (W1.setRow g (c1.take (i * 4) ++ Ln.cs f ++ c1.drop (i * 4 + 4)).toArray) := by
    have hsh := shift_cells cur.toList cs (Ln.cs f) (i * 4) (by rw [hfl]; simp; omega)
    rw [hfl, show i * 4 + 4 = (i + 1) * 4 by omega, hc1] at hsh
    dsimp only at hsh
    refine ⟨_, rfl, ?_, below_row hB1 hbg _⟩
    rw [show i * 4 + 4 = (i + 1) * 4 by omega, hsh]
    have hll : (xs.take i ++ f :: xs.drop i).length = n + 1 := by simp; omega
    rw [← hll]
    refine Own.of_ Ln.cs_length hbg (Blk.row hgw _) (by omega) (by simp only [maxLen]; omega) ?_ ?_
    · simp; omega
    · rw [hll, ← hl, ← hcs]
      exact new_row Ln.cs_length xs f i (by omega) cur.toList _ hcut
  have HE := Lib.hid hend
  have mixed : Tryz.prog.follows .mixedOrders = true := by kernel_rfl
  clear hend hcd h1c hgw hfw hB1 hW1 ht ho hcut hcs
  go_enter Tryz.func111, Tryz.ntmps111
  go_wp2_with (simp only [hov])
  have hw1 : IntKind.i64.wrap ((i : Int) + 1) = (i : Int) + 1 := by rw [IntKind.wrap_i64]; omega
  have hb1 : (0 : Int) ≤ (i : Int) + 1 := by omega
  have htn : ((i : Int) + 1).toNat = i + 1 := by omega
  have hb2 : ¬ (cap = i + 1) := by omega
  have hb3 : (i : Int) ≤ (n : Int) := by omega
  have hb5 : (i : Int) ≤ (n : Int) + 1 := by omega
  have hb4 : ¬ (cap = i) := by omega
  go_region_law_o (refine step_copy_runI rfl _ _ 23 23 rfl _ _ (by simp [Act.eval, Act.put]) (by simp [Act.eval, Act.put]) (hcp1 _ _ _) ?_)
  go_wp2_with (at_builtin; refine wpList_copy_runI _ rfl _ _ 23 22 rfl _ _ rfl rfl (hcp2 _ _) ?_)
  go_ret
  have HE' := HE.out
  rw [List.append_assoc] at HE'
  exact HE'
theorem infoLine : ∃ zero, (Tryz.prog.info? 46).map (fun i => (i.zero, i.size, i.bytes)) = some (some zero, 4, 64) ∧ zero.cells.size = 4 := Tryz.elemBook.inf
set_option maxRecDepth 100000 in
set_option maxHeartbeats 4000000 in
theorem b_ins_grow {base g g0 n cap i : Nat} {xs : List Ln} {f : Ln} (w : World) (ho : Own Ln.cs 4 46 w base (.slice (some ⟨g, 0, none⟩) n cap) xs) (hn : n ≤ 1000000) (hb : base ≤ w.heap.size) (hf : Blk w g0 46 (Ln.cs f).toArray) (hi : i < n) (hroom : cap < n + 1) :
    Calls Tryz.prog 111 #[.slice (some ⟨g, 0, none⟩) n cap, .int .i64 (i : Nat), .slice (some ⟨g0, 0, none⟩) 1 1] w fun e w' => BInsPost xs f i base w e w' := by
  obtain ⟨cur, hg, hbg, hl, hc, hm, hs, ht⟩ := ho.some_
  simp only [maxLen] at hm
  obtain ⟨cs, hcs⟩ : ∃ cs, (xs.drop i).flatMap Ln.cs = cs := ⟨_, rfl⟩
  have hcl : cs.length = (n - i) * 4 := by rw [← hcs, flat_len Ln.cs_length, List.length_drop, hl]
  obtain ⟨c0, hc0⟩ : ∃ c0, (xs.take i).flatMap Ln.cs = c0 := ⟨_, rfl⟩
  have hc0l : c0.length = i * 4 := by rw [← hc0, flat_len Ln.cs_length, List.length_take, hl, Nat.min_eq_left (by omega)]
  have hcut : cur.toList.take (i * 4) = c0 := by
    rw [← hc0, ← flat_take Ln.cs_length, ← ht, List.take_take, Nat.min_eq_left (Nat.mul_le_mul_right _ (by omega))]
  have hcd : ∀ j u, cs[j]? = some u → cur[i * 4 + j]? = some u := by
    intro j u hu
    rw [← hcs, ← flat_drop Ln.cs_length, ← ht, List.getElem?_drop, List.getElem?_take] at hu
    split at hu
    · simpa using hu
    · cases hu
  have hc0d : ∀ (j : Nat) (u : Value), c0[j]? = some u → cur[j]? = some u := by
    intro j u hu
    rw [← hcut, List.getElem?_take] at hu
    split at hu
    · simpa using hu
    · cases hu
  have h1c : ∀ u ∈ cs, u.oneCell' = true := by
    rw [← hcs]; intro u hu
    obtain ⟨y, _, hy⟩ := List.mem_flatMap.1 hu
    exact Ln.cs_one y u hy
  have hfl : (Ln.cs f).length = 4 := rfl
  obtain ⟨zero, hinf, hzs⟩ := infoLine
  obtain ⟨i0, hi0, hz0, hz1, hz2⟩ := info_parts hinf
  have hold : (Builtin.firstCells i0.size i (.slice (some ⟨g, 0, none⟩) i cap)).run Tryz.prog w.drew = .ok c0.toArray w.drew := by
    rw [hz1]
    exact run_firstCells_some w.drew 4 i ⟨g, 0, none⟩ i cap c0 hc0l (fun j u hj => by rw [add_lit4]; exact (Blk.cell hg _).trans (hc0d j u hj))
  have hrz : ∀ ty, (Builtin.append_ #[23, 3] ty #[.slice (some ⟨g, 0, none⟩) i cap, .int .i64 ((n : Int) + 1 - (i : Int))]).run Tryz.prog w =
      .ok (.slice (some ⟨w.heap.size, 0, none⟩) (n + 1) (grownCap w (n + 1) cap 46)) (w.drew.alloc (.cells (c0.toArray ++ Builtin.zeroCells zero.cells (n + 1 - i) ++ Builtin.zeroCells zero.cells (grownCap w (n + 1) cap 46 - (n + 1))) 46)) := fun ty => by
    have hik : i + (n + 1 - i) = n + 1 := by omega
    have h := Lib.run_append_grow_zeros w 23 3 ty 46 i0 _ .i64 .i64 Tryz.underlying23 Tryz.underlying3 hi0 hz0 (some ⟨g, 0, none⟩) i cap c0 hold (n + 1 - i) (by omega) (by omega) (by omega) (by omega) (by rw [hz2]; omega) (by rw [hz2, hik]; exact growslice_fits hroom (by omega))
    rw [hik] at h
    rw [show (n : Int) + 1 - (i : Int) = ((n + 1 - i : Nat) : Int) by omega]
    exact h
  have hGn : n + 1 ≤ grownCap w (n + 1) cap 46 := grownCap_ge w _ _ _
  have hG63 := grownCap_le_maxLen w (n + 1) cap 46 (by unfold maxLen; omega)
  obtain ⟨G, hG⟩ : ∃ G, grownCap w (n + 1) cap 46 = G := ⟨_, rfl⟩
  rw [hG] at hrz hGn hG63
  simp only [maxLen] at hG63
  obtain ⟨R, hR⟩ : ∃ R : List Value, (c0.toArray ++ Builtin.zeroCells zero.cells (n + 1 - i) ++ Builtin.zeroCells zero.cells (G - (n + 1))).toList = R := ⟨_, rfl⟩
  have hRl : R.length = G * 4 := by
    rw [← hR]
    simp only [Array.length_toList, Array.size_append, List.size_toArray, size_zeroCells, hzs, hc0l]
    omega
  have hRt : R.take (i * 4) = c0 := by
    rw [← hR, Array.toList_append, Array.toList_append, List.append_assoc, List.take_append_of_le_length (by simp; omega), List.take_of_length_le (by simp; omega)]
  have hRa : (c0.toArray ++ Builtin.zeroCells zero.cells (n + 1 - i) ++ Builtin.zeroCells zero.cells (G - (n + 1))) = R.toArray := by rw [← hR]
  rw [hRa] at hrz
  obtain ⟨N, hN⟩ : ∃ N, w.heap.size = N := ⟨_, rfl⟩
  have hgN : g < N := by rw [← hN]; exact hg.lt
  have hg0N : g0 < N := by rw [← hN]; exact hf.lt
  have hNb : base ≤ N := by omega
  rw [hN] at hrz
  -- behind the append
  obtain ⟨c1, hc1⟩ : ∃ c1, R.take (i * 4) ++ Ln.cs f ++ R.drop (i * 4 + 4) = c1 := ⟨_, rfl⟩
  have hc1l : c1.length = G * 4 := by
    rw [← hc1]; simp [hfl]; omega
  have hcpA : ∀ (W : World), Blk W N 46 R.toArray → Blk W g0 46 (Ln.cs f).toArray → ∀ ty dc, (Builtin.copy_ #[23, 22] ty #[.slice (some ⟨N, i * 4, none⟩) (n + 1 - i) dc, .slice (some ⟨g0, 0, none⟩) 1 1]).run Tryz.prog W = .ok (goInt (1 : Nat)) (W.setRow N c1.toArray) := fun W hW1 hW2 ty dc => by
    have := run_copy_z W 23 22 ty _ 4 N (i * 4) (n + 1 - i) dc ⟨g0, 0, none⟩ 1 1 R.toArray _ (Ln.cs f) Tryz.underlying23 line_size hW1 1 (by simp only [Nat.min_def]; split <;> omega) (by rw [hfl]) (fun j u hu => by
      rw [add_lit4]; exact (Blk.cell hW2 _).trans (by simpa using hu)) (by rw [hfl]; simp; omega) (Ln.cs_one f)
    rw [← hc1]; exact this
  have hcpB : ∀ (W : World), Blk W N 46 c1.toArray → Blk W g 46 cur → ∀ ty dc sc, (Builtin.copy_ #[23, 23] ty #[.slice (some ⟨N, (i + 1) * 4, none⟩) (n - i) dc, .slice (some ⟨g, i * 4, none⟩) (n - i) sc]).run Tryz.prog W = .ok (goInt (n - i : Nat)) (W.setRow N (c1.take ((i + 1) * 4) ++ cs ++ c1.drop ((i + 1) * 4 + cs.length)).toArray) := fun W hW1 hW2 ty dc sc =>
    run_copy_z W _ _ ty _ 4 N ((i + 1) * 4) (n - i) dc ⟨g, i * 4, none⟩ (n - i) sc c1.toArray _ cs Tryz.underlying23 line_size hW1 (n - i) (by simp) hcl (fun j u hu => by
      have ha : (⟨g, i * 4, none⟩ : Addr).add j = ⟨g, i * 4 + j, none⟩ := by unfold Addr.add; split <;> simp_all
      rw [ha]; exact (Blk.cell hW2 _).trans (hcd j u hu)) (by simp; omega) h1c
  have hend : ∀ W, Below base w W → Blk W N 46 c1.toArray → BInsPost xs f i base w (.returned (.slice (some ⟨N, 0, none⟩) (n + 1) G)) (W.setRow N (c1.take ((i + 1) * 4) ++ cs ++ c1.drop ((i + 1) * 4 + cs.length)).toArray) := fun W hBW hW => by
    have hsh := grow_cells R cs (Ln.cs f) (i * 4) (by rw [hfl]; omega)
    rw [hfl, hc1, show i * 4 + 4 = (i + 1) * 4 by omega] at hsh
    dsimp only at hsh
    refine ⟨_, rfl, ?_, below_row hBW hNb _⟩
    rw [hsh]
    have hll : (xs.take i ++ f :: xs.drop i).length = n + 1 := by simp; omega
    rw [← hll]
    refine Own.of_ Ln.cs_length hNb (Blk.row hW _) (by omega) (by simp only [maxLen]; omega) ?_ ?_
    · simp [hfl]; omega
    · rw [hll, ← hl, ← hcs]
      exact new_row Ln.cs_length xs f i (by omega) R _ (by rw [hRt, hc0])
  have hW1 : Blk (w.drew.alloc (.cells R.toArray 46)) N 46 R.toArray := by rw [← hN]; exact Blk.new w.drew _ _
  have hW0 : Blk (w.drew.alloc (.cells R.toArray 46)) g0 46 (Ln.cs f).toArray := Blk.alloc (w := w.drew) hf _
  have hWg : Blk (w.drew.alloc (.cells R.toArray 46)) g 46 cur := Blk.alloc (w := w.drew) hg _
  have hBW : Below base w (w.drew.alloc (.cells R.toArray 46)) := (Below.refl base w).drew.alloc hb _
  obtain ⟨W1, hW1e⟩ : ∃ W1, w.drew.alloc (.cells R.toArray 46) = W1 := ⟨_, rfl⟩
  rw [hW1e] at hW1 hW0 hWg hBW hrz
  have hX1 := Blk.row hW1 c1.toArray
  have hXg : Blk (W1.setRow N c1.toArray) g 46 cur := (setRow_other W1 N g _ (by omega)).trans hWg
  have hXB := below_row hBW hNb c1.toArray
  have hA' := hcpA W1 hW1 hW0
  obtain ⟨W2, hW2e⟩ : ∃ W2, W1.setRow N c1.toArray = W2 := ⟨_, rfl⟩
  rw [hW2e] at hX1 hXg hXB hA'
  have hB' := hcpB W2.drew hX1 hXg
  have HE := Lib.hid (hend W2.drew hXB.drew hX1)
  have mixed : Tryz.prog.follows .mixedOrders = true := by kernel_rfl
  have hw1 : IntKind.i64.wrap ((i : Int) + 1) = (i : Int) + 1 := by rw [IntKind.wrap_i64]; omega
  have hb1 : (0 : Int) ≤ (i : Int) + 1 := by omega
  have htn : ((i : Int) + 1).toNat = i + 1 := by omega
  have hb2 : ¬ (G = i + 1) := by omega
  have hb3 : (i : Int) ≤ (n : Int) := by omega
  have hb5 : (i : Int) ≤ (n : Int) + 1 := by omega
  have hb4 : ¬ (cap = i) := by omega
  have hb6 : ¬ (G = i) := by omega
  clear hend hcd h1c hW1 hW0 hWg hBW hW1e hX1 hXg hXB hW2e ht ho hcut hcs hcpA hcpB hc0d hold hRt hR hRa hc0 hc1 hinf hi0
  go_enter Tryz.func111, Tryz.ntmps111
  go_wp2_with (at_builtin; refine Lib.wpList_append_run _ rfl _ _ _ _ rfl _ _ rfl rfl _ _ (hrz _) ?_)
  go_region_law_o (refine step_copy_runI rfl _ _ 23 23 rfl _ _ (by simp [Act.eval, Act.put]) (by simp [Act.eval, Act.put]) (hB' _ _ _) ?_)
  go_wp2
  go_ret
  have HE' := HE.out
  first | exact HE' | (rw [List.append_assoc, hcl] at HE'; exact HE')
/-- slices.Insert, whichever road it takes. -/
theorem b_ins {base g0 i : Nat} {v : Value} {xs : List Ln} {f : Ln} (w : World) (ho : Own Ln.cs 4 46 w base v xs) (hn : xs.length ≤ 1000000) (hb : base ≤ w.heap.size) (hf : Blk w g0 46 (Ln.cs f).toArray) (hne : v.ownBlock ≠ some g0) (hi : i ≤ xs.length) :
    Calls Tryz.prog 111 #[v, .int .i64 (i : Nat), .slice (some ⟨g0, 0, none⟩) 1 1] w fun e w' => BInsPost xs f i base w e w' := by
  by_cases he : i = xs.length
  · subst he; exact b_ins_end w ho hn hb hf
  · rcases ho.row.2 with ⟨rfl, h0⟩ | ⟨g, cap, cur, rfl, _⟩
    · omega
    · have hg : g0 ≠ g := fun e => hne (by rw [e]; rfl)
      by_cases hr : xs.length + 1 ≤ cap
      · exact b_ins_room w ho hn hb hf hg (by omega) hr
      · exact b_ins_grow w ho hn hb hf (by omega) (by omega)
end Go.Proofs.YtjdkbmlkplbmoaaGreatDoor

/- slices.Delete of one line. -/
namespace Go.Proofs.YtjdkbmlkplbmoaaGreatDoor
open Go.RowKit
set_option linter.unusedVariables false
set_option linter.unusedSimpArgs false

theorem setCells_row (w : World) {g o : Nat} {t : TypeId} {cur : Array Value} {vs : List Value} (hg : Blk w g t cur) (hfit : o + vs.length ≤ cur.size) (h1 : ∀ v ∈ vs, v.oneCell' = true) :
    w.setCells g o vs = w.setRow g (cur.toList.take o ++ vs ++ cur.toList.drop (o + vs.length)).toArray := by
  have a := run_storeCells_cells (P := Tryz.prog) g o vs 0 w (fun j hj => by rw [Nat.add_zero]; rw [show (w.cell? ⟨g, o + j, none⟩) = cur[o + j]? from hg.cell (o + j)]; rw [Array.getElem?_eq_getElem (by omega)]; rfl) (fun j hj => by rw [Nat.add_zero]; exact hg.frozen _) h1
  have b := run_storeCells_at Tryz.prog g o t vs 0 cur w hg (by simpa using hfit) h1
  simp only [Nat.add_zero] at a b
  rw [b] at a
  injection a with _ a
  exact a.symm
theorem infoLineZ : (Tryz.prog.info? 46).map (fun i => (i.zero, i.size, i.bytes)) = some (some (.agg #[.string ⟨#[]⟩, .string ⟨#[]⟩, .string ⟨#[]⟩, .string ⟨#[]⟩]), 4, 64) := by kernel_rfl
def DelPost (xs : List Ln) (i base : Nat) (w : World) (e : Ending) (w' : World) : Prop := ∃ v, e = .returned v ∧ Own Ln.cs 4 46 w' base v (xs.take i ++ xs.drop (i + 1)) ∧ Below base w w'
set_option maxRecDepth 100000 in
set_option maxHeartbeats 4000000 in
theorem b_del {base g n cap i : Nat} {xs : List Ln} (w : World) (ho : Own Ln.cs 4 46 w base (.slice (some ⟨g, 0, none⟩) n cap) xs) (hn : n ≤ 1000000) (hi : i < n) :
    Calls Tryz.prog 112 #[.slice (some ⟨g, 0, none⟩) n cap, .int .i64 (i : Nat), .int .i64 ((i : Int) + 1)] w fun e w' => DelPost xs i base w e w' := by
  obtain ⟨m, rfl⟩ : ∃ m, n = m + 1 := ⟨n - 1, by omega⟩
  obtain ⟨cur, hg, hbg, hl, hc, hm, hs, ht⟩ := ho.some_
  simp only [maxLen] at hm
  obtain ⟨cs, hcs⟩ : ∃ cs, (xs.drop (i + 1)).flatMap Ln.cs = cs := ⟨_, rfl⟩
  have hcl : cs.length = (m - i) * 4 := by rw [← hcs, flat_len Ln.cs_length, List.length_drop, hl]; omega
  have hcut : cur.toList.take (i * 4) = (xs.take i).flatMap Ln.cs := by
    rw [← flat_take Ln.cs_length, ← ht, List.take_take, Nat.min_eq_left (Nat.mul_le_mul_right _ (by omega))]
  have hcd : ∀ j u, cs[j]? = some u → cur[(i + 1) * 4 + j]? = some u := by
    intro j u hu
    rw [← hcs, ← flat_drop Ln.cs_length, ← ht, List.getElem?_drop, List.getElem?_take] at hu
    split at hu
    · simpa using hu
    · cases hu
  have h1c : ∀ u ∈ cs, u.oneCell' = true := by
    rw [← hcs]; intro u hu
    obtain ⟨y, _, hy⟩ := List.mem_flatMap.1 hu
    exact Ln.cs_one y u hy
  obtain ⟨i0, hi0, hz0, hz1, hz2⟩ := info_parts infoLineZ
  obtain ⟨c1, hc1⟩ : ∃ c1, cur.toList.take (i * 4) ++ cs ++ cur.toList.drop (i * 4 + cs.length) = c1 := ⟨_, rfl⟩
  have hc1l : c1.length = cur.size := by rw [← hc1]; simp; omega
  have hset : w.drew.setCells g (i * 4) cs = w.drew.setRow g c1.toArray := by
    rw [setCells_row w.drew (t := 46) (cur := cur) hg (by omega) h1c, hc1]
  have hg1 : Blk (w.drew.setRow g c1.toArray) g 46 c1.toArray := Blk.row (w := w.drew) hg _
  have hB1 : Below base w (w.drew.setRow g c1.toArray) := below_row (Below.refl base w).drew hbg _
  obtain ⟨W1, hW1⟩ : ∃ W1, w.drew.setRow g c1.toArray = W1 := ⟨_, rfl⟩
  rw [hW1] at hset hg1 hB1
  obtain ⟨zs, hzs2⟩ : ∃ zs : List Value, zs = [.string ⟨#[]⟩, .string ⟨#[]⟩, .string ⟨#[]⟩, .string ⟨#[]⟩] := ⟨_, rfl⟩
  have hzl : zs.length = 4 := by rw [hzs2]; rfl
  have hz1c : ∀ u ∈ zs, u.oneCell' = true := by
    rw [hzs2]; intro u hu
    simp only [List.mem_cons, List.not_mem_nil, or_false] at hu
    rcases hu with rfl | rfl | rfl | rfl <;> rfl
  have hzc : (Builtin.zeroCells (Value.agg #[.string ⟨#[]⟩, .string ⟨#[]⟩, .string ⟨#[]⟩, .string ⟨#[]⟩]).cells 1).toList = zs := by rw [hzs2]; kernel_rfl
  obtain ⟨c2, hc2⟩ : ∃ c2, c1.take (m * 4) ++ zs ++ c1.drop (m * 4 + zs.length) = c2 := ⟨_, rfl⟩
  have hclr : ∀ ty c, (Builtin.clear_ #[23] ty #[.slice (some ⟨g, m * 4, none⟩) 1 c]).run Tryz.prog W1 = .ok (.tuple #[]) (W1.setRow g c2.toArray) := fun ty c => by
    have b := run_storeCells_at Tryz.prog g (m * 4) 46 zs 0 c1.toArray W1 hg1 (by simp; omega) hz1c
    simp only [Nat.add_zero] at b
    simp [Builtin.clear_, run_underlying Tryz.underlying23, zeroValue, typeInfo, hi0, hz0, hzc, b, hc2]
  have hll : (xs.take i ++ xs.drop (i + 1)).length = m := by simp; omega
  have hend : DelPost xs i base w (.returned (.slice (some ⟨g, 0, none⟩) m cap)) (W1.setRow g c2.toArray) := by
    refine ⟨_, rfl, ?_, below_row hB1 hbg _⟩
    rw [← hll]
    refine Own.of_ Ln.cs_length hbg (Blk.row hg1 _) (by omega) (by simp only [maxLen]; omega) ?_ ?_
    · rw [← hc2]; simp; omega
    · have e1 : c1.take (m * 4) = (xs.take i ++ xs.drop (i + 1)).flatMap Ln.cs := by
        rw [← hc1, List.flatMap_append, hcs, hcut, List.append_assoc, ← List.append_assoc, List.take_append_of_le_length (by simp [flat_len Ln.cs_length]; omega), List.take_of_length_le (by simp [flat_len Ln.cs_length]; omega)]
      rw [hll, ← e1, ← hc2, List.append_assoc, List.take_append_of_le_length (by simp; omega), List.take_of_length_le (by simp; omega)]
  have HE := Lib.hid hend
  have mixed : Tryz.prog.follows .mixedOrders = true := by kernel_rfl
  have hspare : ∀ j, j < cs.length → (w.drew.cell? ⟨g, 0 + i * 4 + j, none⟩).isSome = true ∧ w.drew.frozen? ⟨g, 0 + i * 4 + j, none⟩ = false := fun j hj => by
    refine ⟨?_, hg.frozen _⟩
    rw [show w.drew.cell? ⟨g, 0 + i * 4 + j, none⟩ = cur[0 + i * 4 + j]? from hg.cell _, Array.getElem?_eq_getElem (by omega)]; rfl
  have hset' : w.drew.setCells g (0 + i * 4) cs = W1 := by rw [Nat.zero_add]; exact hset
  obtain ⟨A, hA, hsrc⟩ : ∃ A : Addr, (if cap = i + 1 then (some ⟨g, 0, none⟩ : Option Addr) else some ⟨g, (i + 1) * 4, none⟩) = some A ∧ ∀ j u, cs[j]? = some u → w.drew.cell? (A.add j) = some u := by
    by_cases h : cap = i + 1
    · refine ⟨⟨g, 0, none⟩, by rw [if_pos h], fun j u hu => ?_⟩
      have h0 : cs.length = 0 := by rw [hcl]; omega
      rw [List.length_eq_zero_iff.1 h0] at hu
      simp at hu
    · refine ⟨⟨g, (i + 1) * 4, none⟩, by rw [if_neg h], fun j u hu => ?_⟩
      have ha : (⟨g, (i + 1) * 4, none⟩ : Addr).add j = ⟨g, (i + 1) * 4 + j, none⟩ := by unfold Addr.add; split <;> simp_all
      rw [ha]; exact (Blk.cell hg _).trans (hcd j u hu)
  have hw1 : IntKind.i64.wrap ((i : Int) + 1) = (i : Int) + 1 := by rw [IntKind.wrap_i64]; omega
  have htn : ((i : Int) + 1).toNat = i + 1 := by omega
  have hi2 : i ≤ m := by omega
  have hb1 : (0 : Int) ≤ (i : Int) + 1 := by omega
  have hb3 : (i : Int) ≤ (cap : Int) := by omega
  have hb5 : (i : Int) + 1 ≤ (m : Int) + 1 := by omega
  have hb6 : (i : Int) + 1 ≤ (cap : Int) := by omega
  clear hend hcd hg1 hB1 hW1 ht ho hcut hcs hset hc1 hc2 hzs2 hll
  go_enter Tryz.func112, Tryz.ntmps112
  go_wp2_with fail
  go_region_law_o (refine step_append_room rfl (.tmp 22) (.tmp 25) 23 rfl 46 i0 4 Tryz.underlying23 hi0 hz1 g 0 i cap (by simp [Act.eval, Act.put]) A (m - i) (cap - (i + 1)) cs (by simp [Act.eval, Act.put, hw1, htn]) hcl hsrc h1c (by omega) hspare ?_; rw [hset'])
  have hk1 : i + (m - i) = m := by omega
  have hk2 : (m : Int) ≤ (m : Int) + 1 := by omega
  have hk3 : (m : Int) + 1 ≤ (cap : Int) := by omega
  have hk4 : ¬ (cap = m) := by omega
  go_wp2
  go_ret
  exact HE.out
end Go.Proofs.YtjdkbmlkplbmoaaGreatDoor

/- The place where a line is or would be; a store into a line's number. -/
namespace Go.Proofs.YtjdkbmlkplbmoaaGreatDoor
open Go.RowKit
set_option linter.unusedVariables false
set_option linter.unusedSimpArgs false

/-- A book, cut where the search ends. -/
theorem bb_cut {b : List Ln} (hs : rises lahead b = true) {l : Ln} {i : Nat} (h : bbI b l i i) : ∃ m z, b = b.take i ++ (m ++ z) ∧ (∀ e ∈ b.take i, lahead e l = true) ∧ (∀ e ∈ z, lahead l e = true) ∧
    ((bat b l i = true ∧ ∃ q, m = [⟨l.acct, l.asset, q⟩] ∧ b[i]? = some ⟨l.acct, l.asset, q⟩ ∧ z = b.drop (i + 1)) ∨ (bat b l i = false ∧ m = [] ∧ z = b.drop i)) := by
  have hx : ∀ e ∈ b.take i, lahead e l = true := fun e he => by
    obtain ⟨j, hj⟩ := List.mem_iff_getElem?.1 he
    rw [List.getElem?_take] at hj
    split at hj
    · rename_i hji; exact (bb_split hs h hj).1 hji
    · cases hj
  have hno : ∀ (j : Nat) e, b[j]? = some e → i ≤ j → lahead e l = false := fun j e hj hij => (bb_split hs h hj).2 hij
  cases hb : bat b l i with
  | true =>
    unfold bat at hb
    cases hbi : b[i]? with
    | none => rw [hbi] at hb; cases hb
    | some a =>
      rw [hbi] at hb
      obtain ⟨e1, e2⟩ := (lcmp_zero a l).1 (of_decide_eq_true hb)
      have ha : a = ⟨l.acct, l.asset, a.q⟩ := by cases a; dsimp only at e1 e2; rw [e1, e2]
      refine ⟨[a], b.drop (i + 1), ?_, hx, fun e he => ?_, .inl ⟨rfl, a.q, by rw [← ha], by rw [← ha], rfl⟩⟩
      · rw [List.singleton_append, ← drop_at hbi, List.take_append_drop]
      · obtain ⟨j, hj⟩ := List.mem_iff_getElem?.1 he
        rw [List.getElem?_drop] at hj
        have := lrises_lt hs (show i < i + 1 + j by omega) hbi hj
        rwa [lahead_key' e1 e2] at this
  | false =>
    refine ⟨[], b.drop i, by rw [List.nil_append, List.take_append_drop], hx, fun e he => ?_, .inr ⟨rfl, rfl, rfl⟩⟩
    obtain ⟨j, hj⟩ := List.mem_iff_getElem?.1 he
    rw [List.getElem?_drop] at hj
    have hil : i < b.length := by have := (List.getElem?_eq_some_iff.1 hj).1; omega
    have hbi : b[i]? = some b[i] := List.getElem?_eq_getElem hil
    have h0 : lahead l b[i] = true := by
      have h1 := hno i _ hbi (Nat.le_refl _)
      rcases lahead_tri b[i] l with h2 | h2 | h2
      · rw [h2] at h1; cases h1
      · unfold bat at hb
        rw [hbi] at hb
        have := of_decide_eq_false hb
        exact absurd ((lcmp_zero b[i] l).2 (lhit_iff.1 h2)) this
      · exact h2
    cases j with
    | zero =>
      rw [Nat.add_zero, hbi] at hj
      cases hj; exact h0
    | succ j => exact lahead_trans h0 (lrises_lt hs (show i < i + (j + 1) by omega) hbi hj)
theorem bb_key {b : List Ln} {l l' : Ln} {i : Nat} (h : bbI b l i i) (h1 : l.acct = l'.acct) (h2 : l.asset = l'.asset) : bbI b l' i i ∧ bat b l i = bat b l' i := by
  have e : ∀ a, lcmp a l = lcmp a l' := fun a => by unfold lcmp; rw [h1, h2]
  refine ⟨⟨h.1, h.2.1, fun a hp ha => by rw [← e]; exact h.2.2.1 a hp ha, fun a ha => by rw [← e]; exact h.2.2.2 a ha⟩, ?_⟩
  unfold bat
  cases b[i]? with
  | none => rfl
  | some a => dsimp only; rw [e]
/-- All that the search tells: the lines ahead, what there is, the lines behind. -/
theorem bb_all {b : List Ln} (hm : bmay b = true) {l : Ln} (hl : lone l = true) {i : Nat} (h : bbI b l i i) : ∃ z, (∀ e ∈ z, e ∈ b) ∧
    (bat b l i = true → b = b.take i ++ ⟨l.acct, l.asset, bgetL b l.acct l.asset⟩ :: z ∧ z = b.drop (i + 1) ∧ b[i]? = some ⟨l.acct, l.asset, bgetL b l.acct l.asset⟩) ∧
    (bat b l i = false → z = b.drop i ∧ bgetL b l.acct l.asset = enc 0) ∧
    bput b l = b.take i ++ ((if rsign (radd (bgetL b l.acct l.asset) l.q) == 0 then [] else [⟨l.acct, l.asset, radd (bgetL b l.acct l.asset) l.q⟩]) ++ z) := by
  obtain ⟨m, z, e, hx, hz, hc⟩ := bb_cut (bmay_rises hm) h
  have hm' : m = [] ∨ ∃ q, m = [⟨l.acct, l.asset, q⟩] := by
    rcases hc with ⟨_, q, h1, _⟩ | ⟨_, h1, _⟩
    · exact .inr ⟨q, h1⟩
    · exact .inl h1
  have hf := find_cutB hx hz hm'
  rw [← e] at hf
  refine ⟨z, fun y hy => ?_, fun hb => ?_, fun hb => ?_, ?_⟩
  · rw [e]; exact List.mem_append_right _ (List.mem_append_right _ hy)
  · rcases hc with ⟨_, q, h1, h2, h3⟩ | ⟨h0, _⟩
    · rw [h1] at hf
      rw [bget_some hf]
      refine ⟨?_, h3, h2⟩
      rw [h1] at e
      exact e
    · rw [h0] at hb; cases hb
  · rcases hc with ⟨h0, _⟩ | ⟨_, h1, h2⟩
    · rw [h0] at hb; cases hb
    · rw [h1] at hf
      exact ⟨h2, bget_none hf⟩
  · unfold bput
    have := bputR_cut (l := l) (new := ⟨l.acct, l.asset, radd (bgetL b l.acct l.asset) l.q⟩) (laid := rsign (radd (bgetL b l.acct l.asset) l.q) == 0) hx hz hm'
    rw [← e] at this
    exact this
theorem bget_at {b : List Ln} (hm : bmay b = true) {s a : ByteArray} {i : Nat} (h : bbI b ⟨s, a, rzero⟩ i i) : (bat b ⟨s, a, rzero⟩ i = true → b[i]? = some ⟨s, a, bgetL b s a⟩) ∧ (bat b ⟨s, a, rzero⟩ i = false → bgetL b s a = enc 0) := by
  obtain ⟨m, z, e, hx, hz, hc⟩ := bb_cut (bmay_rises hm) h
  have hm' : m = [] ∨ ∃ q, m = [(⟨s, a, q⟩ : Ln)] := by
    rcases hc with ⟨_, q, h1, _⟩ | ⟨_, h1, _⟩
    · exact .inr ⟨q, h1⟩
    · exact .inl h1
  have hf := find_cutB (l := ⟨s, a, rzero⟩) hx hz hm'
  rw [← e] at hf
  refine ⟨fun hb => ?_, fun hb => ?_⟩
  · rcases hc with ⟨_, q, h1, h2, h3⟩ | ⟨h0, _⟩
    · rw [h1] at hf
      rw [bget_some hf]; exact h2
    · rw [h0] at hb; cases hb
  · rcases hc with ⟨h0, _⟩ | ⟨_, h1, h2⟩
    · rw [h0] at hb; cases hb
    · rw [h1] at hf
      exact bget_none hf
/-! ### A store into a line's number -/
theorem set_two {A D : List Value} {a b c d u v : Value} {k : Nat} (hk : A.length = k) : ((A ++ [a, b, c, d] ++ D).set (k + 2) u).set (k + 3) v = A ++ [a, b, u, v] ++ D := by
  subst hk
  rw [List.append_assoc, List.set_append_right _ _ (by omega), List.set_append_right _ _ (by omega), show A.length + 2 - A.length = 2 by omega, show A.length + 3 - A.length = 3 by omega, List.append_assoc]
  rfl
theorem Own.setQ {w : World} {base g n cap i : Nat} {xs : List Ln} {a0 a1 a2 a3 : ByteArray} (u v : ByteArray) (h : Own Ln.cs 4 46 w base (.slice (some ⟨g, 0, none⟩) n cap) xs) (hi : xs[i]? = some ⟨a0, a1, ⟨a2, a3⟩⟩) :
    Own Ln.cs 4 46 ((w.setCell ⟨g, i * 4 + 2, none⟩ (.string u)).setCell ⟨g, i * 4 + 3, none⟩ (.string v)) base (.slice (some ⟨g, 0, none⟩) n cap) (xs.set i ⟨a0, a1, ⟨u, v⟩⟩) := by
  obtain ⟨cur, hg, hbg, hl, hc, hm, hs, ht⟩ := h.some_
  have hil : i < xs.length := (List.getElem?_eq_some_iff.1 hi).1
  have hll : (xs.set i ⟨a0, a1, ⟨u, v⟩⟩).length = n := by rw [List.length_set]; exact hl
  have hg2 := (hg.set_ (i * 4 + 2) (.string u)).set_ (i * 4 + 3) (.string v)
  have := Own.of_ (xs := xs.set i ⟨a0, a1, ⟨u, v⟩⟩) Ln.cs_length hbg hg2 (by omega) hm (by simp [hs]) (by
    rw [hll]
    have e1 : xs.flatMap Ln.cs = (xs.take i).flatMap Ln.cs ++ [.string a0, .string a1, .string a2, .string a3] ++ (xs.drop (i + 1)).flatMap Ln.cs := by
      conv => lhs; rw [← List.take_append_drop i xs, drop_at hi]
      rw [List.flatMap_append, List.flatMap_cons, List.append_assoc]; rfl
    have e2 : (xs.set i ⟨a0, a1, ⟨u, v⟩⟩).flatMap Ln.cs = (xs.take i).flatMap Ln.cs ++ [.string a0, .string a1, .string u, .string v] ++ (xs.drop (i + 1)).flatMap Ln.cs := by
      rw [List.set_eq_take_append_cons_drop, if_pos hil, List.flatMap_append, List.flatMap_cons, List.append_assoc]; rfl
    rw [e2, ← set_two (by rw [flat_len Ln.cs_length, List.length_take, Nat.min_eq_left (by omega)] : ((xs.take i).flatMap Ln.cs).length = i * 4), ← e1, ← ht]
    simp only [Array.toList_setIfInBounds]
    rw [List.take_set, List.take_set])
  rwa [hll] at this
theorem set_mid {α : Type} {l z : List α} {x y : α} {i : Nat} (hl : l.length = i) : (l ++ x :: z).set i y = l ++ y :: z := by
  subst hl; rw [List.set_append_right _ _ (Nat.le_refl _), Nat.sub_self]; rfl
theorem del_mid {α : Type} {l z : List α} {x : α} {i : Nat} (hl : l.length = i) : (l ++ x :: z).take i ++ (l ++ x :: z).drop (i + 1) = l ++ z := by
  subst hl
  rw [List.take_append_of_le_length (Nat.le_refl _), List.take_length, List.drop_append, List.drop_of_length_le (by omega), show l.length + 1 - l.length = 1 by omega]; rfl
end Go.Proofs.YtjdkbmlkplbmoaaGreatDoor
