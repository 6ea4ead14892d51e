/- Walk of fixing.compare. -/
import Derived.Test.YtpoejheienohjaaGreatDoorFixB
import Derived.Test.YtpoejheienohjaaGreatDoorTail
namespace Go.Proofs.YtpoejheienohjaaGreatDoor
open Go.RowKit
set_option linter.unusedVariables false
set_option linter.unusedSimpArgs false

set_option maxRecDepth 100000 in
set_option maxHeartbeats 2000000 in
theorem p_cmp (a0 a2 a3 b0 b2 b3 : ByteArray) (a1 b1 : Int) (w : World) :
    Calls Tryz.prog 60 #[.agg #[.string a0, .int .i64 a1, .string a2, .string a3], .agg #[.string b0, .int .i64 b1, .string b2, .string b3]] w fun e w' => e = .returned (.int .i64 (fcmp ⟨a0, a1, ⟨a2, a3⟩⟩ ⟨b0, b1, ⟨b2, b3⟩⟩)) ∧ Below w.heap.size w w' := by
  unfold fcmp
  dsimp only
  obtain ⟨x, hx⟩ : ∃ x, Lib.compareBytes a0.data.toList b0.data.toList = x := ⟨_, rfl⟩
  obtain ⟨y, hy⟩ : ∃ y, Lib.compareInt a1 b1 = y := ⟨_, rfl⟩
  have hc := fun w => c_compare a0 b0 w
  have hi := fun w => c_cmpInt a1 b1 w
  rw [hx] at hc ⊢
  rw [hy] at hi ⊢
  clear hx hy
  go_enter Tryz.func60, Tryz.ntmps60
  go_wp2
  (refine wp_region_ahead 10 (by kernel_rfl) (by kernel_rfl) ?_; simp only [List.take_succ_cons, List.take_zero, List.drop_succ_cons, List.drop_zero]; (repeat (first | go_big_quiet_skip | (go_big_quiet_want; go_big_quiet_op; first | go_big_quiet_on | (apply Exists.intro; refine ⟨fun _ => ?_, ?_⟩; (focus (first | (go_at_call 91; exact Calls.after_same (hc _)) | (go_at_call 92; exact Calls.after_same (hi _)))); go_big_quiet_on)))); refine wpQuiet_nil ?_; rintro ⟨w1, hb1⟩; (try dsimp only); obtain ⟨hc1, hf1⟩ := bcell hb1; have hs1 := hb1.size; (try simp at hs1))
  go_wp2_with ((go_at_call 90; (with_reducible refine (c_or2n _ _ (by simp) x y).mono ?_); rintro e w' ⟨rfl, rfl⟩))
  go_ret
  exact ⟨rfl, (by repeat (first | exact Below.refl _ _ | assumption | refine b_then ?_ (by assumption) | refine b_alloc ?_ _ | refine b_drewN ?_ _ | refine Below.drew ?_ | refine b_set ?_ (by first | exact Nat.le_refl _ | (simp; done) | (simp; omega) | omega) _))⟩
end Go.Proofs.YtpoejheienohjaaGreatDoor

/- Walk of fixing.one. -/
namespace Go.Proofs.YtpoejheienohjaaGreatDoor
open Go.RowKit
set_option linter.unusedVariables false
set_option linter.unusedSimpArgs false

def fxq (f : Fx) : Prop := f.asset.size ≤ 9000000000 ∧ f.p.num.size ≤ 890000000 ∧ f.p.den.size ≤ 890000000
theorem fxq_sz {f : Fx} (h : fxq f) : fxsz f := ⟨h.1, Nat.le_trans h.2.1 (by omega), Nat.le_trans h.2.2 (by omega)⟩
set_option maxHeartbeats 800000 in
theorem p_one (a0 a2 a3 : ByteArray) (a1 : Int) (w : World) (hg : Glob w) (h1 : a0.size ≤ 9223372036854775807) (h2 : a2.size ≤ 890000000) (h3 : a3.size ≤ 890000000) :
    Calls Tryz.prog 55 #[.agg #[.string a0, .int .i64 a1, .string a2, .string a3]] w fun e w' => e = .returned (.bool (fone ⟨a0, a1, ⟨a2, a3⟩⟩)) ∧ Below w.heap.size w w' := by
  unfold fone
  dsimp only
  have hG0 : Glob (w.alloc (.cells #[.string a0, .int .i64 a1, .string a2, .string a3] 26)) := hg.below (b_alloc (Below.refl _ _) _)
  go_enter Tryz.func55, Tryz.ntmps55
  go_wp2_with (first | (go_at_call 35; (with_reducible refine (p_name _ _ (by omega)).mono ?_); rintro e w1 ⟨rfl, hb1⟩; obtain ⟨hc1, hf1⟩ := bcell hb1; have hs1 := hb1.size; (try simp at hs1)) | (go_at_call 84; (with_reducible refine (p_rmay _ _ _ (hG0.below hb1) (by omega) (by omega)).mono ?_); rintro e w2 ⟨rfl, hb2⟩; obtain ⟨hc2, hf2⟩ := bcell hb2; have hs2 := hb2.size; (try simp at hs2)))
  all_goals
    go_ret
    exact ⟨ret_bool (by grind), (by repeat (first | exact Below.refl _ _ | assumption | refine b_then ?_ (by assumption) | refine b_alloc ?_ _ | refine b_drewN ?_ _ | refine Below.drew ?_ | refine b_set ?_ (by first | exact Nat.le_refl _ | (simp; done) | (simp; omega) | omega) _))⟩
end Go.Proofs.YtpoejheienohjaaGreatDoor

/- Walks of fixing.May. -/
namespace Go.Proofs.YtpoejheienohjaaGreatDoor
open Go.RowKit
set_option linter.unusedVariables false
set_option linter.unusedSimpArgs false

theorem ahead_yes {a b : Fx} (h : fahead a b = true) : fcmp a b < 0 := by rw [fahead_fcmp] at h; exact of_decide_eq_true h
theorem ahead_no {a b : Fx} (h : fahead a b = false) : 0 ≤ fcmp a b := by rw [fahead_fcmp] at h; have := of_decide_eq_false h; omega
set_option maxHeartbeats 800000 in
theorem p_may {A : Option Addr} {n c : Nat} {xs : List Fx} (w : World) (hg : Glob w) (hx : Rd Fx.cs 4 w A n xs) (hz : ∀ f ∈ xs, fxq f) :
    Calls Tryz.prog 24 #[.slice A n c] w fun e w' => e = .returned (.bool (fmay xs)) ∧ Below w.heap.size w w' := by
  have hbig := hx.big
  go_enter Tryz.func24, Tryz.ntmps24
  go_wp2
  go_loopw [7] (fun i wr => ∃ k : Nat, k ≤ n ∧ i = .int .i64 k ∧ Hid (fmay (xs.take k) = true) ∧ Below w.heap.size w wr) (fun i _ => n - (intOf i).toNat)
  case atStart => exact ⟨0, Nat.zero_le _, rfl, by simp [Hid, fmay, rises], Below.refl _ _⟩
  case round =>
    obtain ⟨k, hk, rfl, H, hB⟩ := hrel
    by_cases hlt : k < n
    · obtain ⟨ad, a0, a1, a2, a3, rfl, hxk, hx0, hx1, hx2, hx3⟩ := fx_now hx hB hlt
      obtain ⟨z1, z2, z3⟩ := hz _ (List.mem_of_getElem? hxk)
      dsimp only at z1 z2 z3
      have HX := Lib.hid hxk
      clear hxk
      have hB1 : Below w.heap.size w (wr.alloc (.cells #[.string a0, .int .i64 a1, .string a2, .string a3] 26)) := b_alloc hB _
      have hG1 := hg.below hB1
      by_cases c1 : fone ⟨a0, a1, ⟨a2, a3⟩⟩ = true
      · by_cases hk0 : 0 < k
        · obtain ⟨ad', b0, b1, b2, b3, e, hxk', hc'⟩ := fx_at hx hB1 (show k - 1 < n by omega)
          obtain rfl : ad = ad' := Option.some.inj e
          have hy0 := fun y => (hc' y).1
          have hy1 := fun y => (hc' y).2.1
          have hy2 := fun y => (hc' y).2.2.1
          have hy3 := fun y => (hc' y).2.2.2
          have HX' := Lib.hid hxk'
          have HC' := Lib.hid hc'
          clear hxk' hc' e
          by_cases c2 : fahead ⟨b0, b1, ⟨b2, b3⟩⟩ ⟨a0, a1, ⟨a2, a3⟩⟩ = true
          · have c3 := ahead_yes c2
            go_wp2
            (refine wp_region_after (by kernel_rfl) (by kernel_rfl) ?_; (repeat (first | go_big_quiet_skip | (go_big_quiet_want; go_big_quiet_op; first | go_big_quiet_on | (apply Exists.intro; refine ⟨fun _ => ?_, ?_⟩; (focus (first | (go_at_call 55; with_reducible exact Calls.after_of (p_one _ _ _ _ _ (hG1.below (After.h _)) (by omega) (by omega) (by omega)) (congrArg Value.bool c1)) | (go_at_call 60; exact Calls.after (p_cmp _ _ _ _ _ _ _ _ _)))); go_big_quiet_on)))); refine wpQuiet_nil ?_; rintro w1 ⟨⟨_, hb1⟩, rfl⟩; (try dsimp only); obtain ⟨hc1, hf1⟩ := bcell hb1; have hs1 := hb1.size; (try simp at hs1))
            go_wp2
            go_roundw
            case rel => exact ⟨k + 1, by omega, by go_num, fmay_next H.out hk0 HX'.out HX.out c1 c2, (by repeat (first | exact Below.refl _ _ | assumption | refine b_then ?_ (by assumption) | refine b_alloc ?_ _ | refine b_drewN ?_ _ | refine Below.drew ?_ | refine b_set ?_ (by first | exact Nat.le_refl _ | (simp; done) | (simp; omega) | omega) _))⟩
            case measure => simp [intOf]; omega
          · simp only [Bool.not_eq_true] at c2
            have c3 := ahead_no c2
            go_wp2
            (refine wp_region_after (by kernel_rfl) (by kernel_rfl) ?_; (repeat (first | go_big_quiet_skip | (go_big_quiet_want; go_big_quiet_op; first | go_big_quiet_on | (apply Exists.intro; refine ⟨fun _ => ?_, ?_⟩; (focus (first | (go_at_call 55; with_reducible exact Calls.after_of (p_one _ _ _ _ _ (hG1.below (After.h _)) (by omega) (by omega) (by omega)) (congrArg Value.bool c1)) | (go_at_call 60; exact Calls.after (p_cmp _ _ _ _ _ _ _ _ _)))); go_big_quiet_on)))); refine wpQuiet_nil ?_; rintro w1 ⟨⟨_, hb1⟩, rfl⟩; (try dsimp only); obtain ⟨hc1, hf1⟩ := bcell hb1; have hs1 := hb1.size; (try simp at hs1))
            go_wp2
            go_ret
            exact ⟨ret_bool (fmay_back hk0 HX'.out HX.out c2).symm, (by repeat (first | exact Below.refl _ _ | assumption | refine b_then ?_ (by assumption) | refine b_alloc ?_ _ | refine b_drewN ?_ _ | refine Below.drew ?_ | refine b_set ?_ (by first | exact Nat.le_refl _ | (simp; done) | (simp; omega) | omega) _))⟩
        · go_wp2
          (refine wp_region_after (by kernel_rfl) (by kernel_rfl) ?_; (repeat (first | go_big_quiet_skip | (go_big_quiet_want; go_big_quiet_op; first | go_big_quiet_on | (apply Exists.intro; refine ⟨fun _ => ?_, ?_⟩; (focus (first | (go_at_call 55; with_reducible exact Calls.after_of (p_one _ _ _ _ _ (hG1.below (After.h _)) (by omega) (by omega) (by omega)) (congrArg Value.bool c1)))); go_big_quiet_on)))); refine wpQuiet_nil ?_; rintro w1 ⟨⟨_, hb1⟩, rfl⟩; (try dsimp only); obtain ⟨hc1, hf1⟩ := bcell hb1; have hs1 := hb1.size; (try simp at hs1))
          go_wp2
          go_roundw
          case rel => exact ⟨k + 1, by omega, by go_num, fmay_first' (by omega) HX.out c1, (by repeat (first | exact Below.refl _ _ | assumption | refine b_then ?_ (by assumption) | refine b_alloc ?_ _ | refine b_drewN ?_ _ | refine Below.drew ?_ | refine b_set ?_ (by first | exact Nat.le_refl _ | (simp; done) | (simp; omega) | omega) _))⟩
          case measure => simp [intOf]; omega
      · simp only [Bool.not_eq_true] at c1
        go_wp2
        (refine wp_region_after (by kernel_rfl) (by kernel_rfl) ?_; (repeat (first | go_big_quiet_skip | (go_big_quiet_want; go_big_quiet_op; first | go_big_quiet_on | (apply Exists.intro; refine ⟨fun _ => ?_, ?_⟩; (focus (first | (go_at_call 55; with_reducible exact Calls.after_of (p_one _ _ _ _ _ (hG1.below (After.h _)) (by omega) (by omega) (by omega)) (congrArg Value.bool c1)))); go_big_quiet_on)))); refine wpQuiet_nil ?_; rintro w1 ⟨⟨_, hb1⟩, rfl⟩; (try dsimp only); obtain ⟨hc1, hf1⟩ := bcell hb1; have hs1 := hb1.size; (try simp at hs1))
        go_wp2
        go_ret
        exact ⟨ret_bool (fmay_bad HX.out c1).symm, (by repeat (first | exact Below.refl _ _ | assumption | refine b_then ?_ (by assumption) | refine b_alloc ?_ _ | refine b_drewN ?_ _ | refine Below.drew ?_ | refine b_set ?_ (by first | exact Nat.le_refl _ | (simp; done) | (simp; omega) | omega) _))⟩
    · obtain rfl : k = n := by omega
      have H2 := H.out
      rw [← hx.len, List.take_length] at H2
      have H3 := Lib.hid H2
      clear H2
      go_wp2
      go_ret
      exact ⟨ret_bool H3.out.symm, (by repeat (first | exact Below.refl _ _ | assumption | refine b_then ?_ (by assumption) | refine b_alloc ?_ _ | refine b_drewN ?_ _ | refine Below.drew ?_ | refine b_set ?_ (by first | exact Nat.le_refl _ | (simp; done) | (simp; omega) | omega) _))⟩
end Go.Proofs.YtpoejheienohjaaGreatDoor
