/- Walks of whole: read, May, Abs. -/
import Derived.Test.YtpoejheienohjaaGreatDoorNatI
import Derived.Test.YtpoejheienohjaaGreatDoorRefR
namespace Go.Proofs.YtpoejheienohjaaGreatDoor
open Go.RowKit
set_option linter.unusedVariables false
set_option linter.unusedSimpArgs false

theorem cut_amt (s : ByteArray) : mkS (Lib.trimPrefix s.data.toList [45]) = amt s ∧ Lib.hasPrefix s.data.toList [45] = sgn s := by
  have hp : Lib.hasPrefix s.data.toList [45] = sgn s := by
    unfold Lib.hasPrefix sgn
    cases hl : s.data.toList with
    | nil => rfl
    | cons c l =>
      simp only [List.isPrefixOf, List.head?_cons, Bool.and_true]
      rw [Bool.eq_iff_iff, beq_iff_eq, beq_iff_eq, Option.some.injEq, eq_comm]
  refine ⟨?_, hp⟩
  unfold Lib.trimPrefix amt
  rw [hp]
  unfold sgn
  by_cases h : s.data.toList.head? = some 45
  · rw [if_pos (by simpa using h), if_pos h]
    apply s_ext
    rw [mkS_l, s_extract, sz, List.take_length]; rfl
  · rw [if_neg (by simpa using h), if_neg h]; rfl
theorem c_cutMinus (s : ByteArray) (w : World) : Calls Tryz.prog 166 #[.string s, .string ⟨#[45]⟩] w fun e w' => e = .returned (.tuple #[.string (amt s), .bool (sgn s)]) ∧ w = w' := by
  have := c_cutPrefix s ⟨#[45]⟩ w
  obtain ⟨h1, h2⟩ := cut_amt s
  rw [show (ByteArray.mk #[45]).data.toList = [45] from rfl, h1, h2] at this
  exact this
def wnum (s : ByteArray) : Value := if isIB s then .agg #[.string (amt s), .bool (sgn s)] else .agg #[.string ⟨#[]⟩, .bool false]
set_option maxHeartbeats 800000 in
theorem w_read (s : ByteArray) (w : World) (hs : s.size ≤ 9223372036854775807) :
    Calls Tryz.prog 145 #[.string s] w fun e w' => e = .returned (.tuple #[wnum s, .bool (isIB s)]) ∧ Below w.heap.size w w' := by
  have ha := amt_size s
  have hi := isIB_amt s
  cases c1 : isNB (amt s) <;> cases c2 : sgn s <;> cases c3 : ((amt s).toList == [48])
  all_goals
    rw [c1, c2, c3] at hi
    simp only [wnum, hi, c2, Bool.false_and, Bool.true_and, Bool.not_true, Bool.not_false, Bool.or_true, Bool.or_false, Bool.or_self, if_true, Bool.false_eq_true, if_false]
    clear hi
    go_enter Tryz.func145, Tryz.ntmps145
    go_wp2_with (first | (go_at_call 166; (with_reducible refine (c_cutMinus _ _).mono ?_); rintro e w' ⟨rfl, rfl⟩) | (go_at_call 128; (with_reducible refine (n_may _ _ (by omega)).mono ?_); rintro e w' ⟨rfl, rfl⟩))
    first
      | (refine bodyPost_ret (v := .tuple #[.agg #[.string ⟨#[]⟩, .bool false], .bool false]) ?_ rfl ⟨rfl, (by repeat (first | exact Below.refl _ _ | assumption | refine b_then ?_ (by assumption) | refine b_alloc ?_ _ | refine b_drewN ?_ _ | refine Below.drew ?_ | refine b_set ?_ (by first | exact Nat.le_refl _ | (simp; done) | (simp; omega) | omega) _))⟩
         simp [results, Tryz.results145, go_sem])
      | (have hz := Blk.two (Blk.put2 (Blk.new w 121 #[.string ⟨#[]⟩, .bool false]) (.string (amt s)) (.bool false))
         refine bodyPost_ret (v := .tuple #[.agg #[.string (amt s), .bool false], .bool true]) ?_ rfl ⟨rfl, (by repeat (first | exact Below.refl _ _ | assumption | refine b_then ?_ (by assumption) | refine b_alloc ?_ _ | refine b_drewN ?_ _ | refine Below.drew ?_ | refine b_set ?_ (by first | exact Nat.le_refl _ | (simp; done) | (simp; omega) | omega) _))⟩
         simp [results, Tryz.results145, go_sem, hz])
      | (have hz := Blk.two (Blk.put2 (Blk.new w 121 #[.string ⟨#[]⟩, .bool false]) (.string (amt s)) (.bool true))
         refine bodyPost_ret (v := .tuple #[.agg #[.string (amt s), .bool true], .bool true]) ?_ rfl ⟨rfl, (by repeat (first | exact Below.refl _ _ | assumption | refine b_then ?_ (by assumption) | refine b_alloc ?_ _ | refine b_drewN ?_ _ | refine Below.drew ?_ | refine b_set ?_ (by first | exact Nat.le_refl _ | (simp; done) | (simp; omega) | omega) _))⟩
         simp [results, Tryz.results145, go_sem, hz])
set_option maxHeartbeats 400000 in
theorem w_may (s : ByteArray) (w : World) (hs : s.size ≤ 9223372036854775807) :
    Calls Tryz.prog 127 #[.string s] w fun e w' => e = .returned (.bool (isIB s)) ∧ Below w.heap.size w w' := by
  obtain ⟨x, y, hx⟩ : ∃ x y, wnum s = .agg #[.string x, .bool y] := by unfold wnum; split <;> exact ⟨_, _, rfl⟩
  have hr := w_read s w hs
  rw [hx] at hr
  go_enter Tryz.func127, Tryz.ntmps127
  go_wp2_with (go_at_call 145; (with_reducible refine (hr).mono ?_); rintro e w1 ⟨rfl, hb1⟩; obtain ⟨hc1, hf1⟩ := bcell hb1; have hs1 := hb1.size; (try simp at hs1))
  go_ret
  exact ⟨rfl, (by repeat (first | exact Below.refl _ _ | assumption | refine b_then ?_ (by assumption) | refine b_alloc ?_ _ | refine b_drewN ?_ _ | refine Below.drew ?_ | refine b_set ?_ (by first | exact Nat.le_refl _ | (simp; done) | (simp; omega) | omega) _))⟩
set_option maxHeartbeats 400000 in
theorem w_abs (z : Int) (w : World) (hs : (iS z).size ≤ 9223372036854775807) :
    Calls Tryz.prog 130 #[.string (iS z)] w fun e w' => e = .returned (.string (nS z.natAbs)) ∧ Below w.heap.size w w' := by
  have hr := w_read (iS z) w hs
  obtain ⟨h2, h3⟩ := amt_iS z
  rw [wnum, if_pos (isIB_iS z), h2, h3] at hr
  go_enter Tryz.func130, Tryz.ntmps130
  go_wp2_with (go_at_call 145; (with_reducible refine (hr).mono ?_); rintro e w1 ⟨rfl, hb1⟩; obtain ⟨hc1, hf1⟩ := bcell hb1; have hs1 := hb1.size; (try simp at hs1))
  go_ret
  exact ⟨rfl, (by repeat (first | exact Below.refl _ _ | assumption | refine b_then ?_ (by assumption) | refine b_alloc ?_ _ | refine b_drewN ?_ _ | refine Below.drew ?_ | refine b_set ?_ (by first | exact Nat.le_refl _ | (simp; done) | (simp; omega) | omega) _))⟩
theorem g_one : (⟨#[49]⟩ : ByteArray).toList = [49] := by rw [tl]
set_option maxHeartbeats 800000 in
theorem p_rmay (num den : ByteArray) (w : World) (hg : Glob w) (h1 : num.size ≤ 890000000) (h2 : den.size ≤ 890000000) :
    Calls Tryz.prog 84 #[.agg #[.string num, .string den]] w fun e w' => e = .returned (.bool (rmay ⟨num, den⟩)) ∧ Below w.heap.size w w' := by
  unfold rmay
  dsimp only
  have hG0 : Glob (w.alloc (.cells #[.string num, .string den] 24)) := hg.below (b_alloc (Below.refl _ _) _)
  by_cases c1 : isIB num = true
  · by_cases c2 : isNB den = true
    · by_cases c3 : (den.toList == [48]) = true
      · rw [c1, c2, c3]
        go_enter Tryz.func84, Tryz.ntmps84
        go_wp2
        (refine wp_region_after (by kernel_rfl) (by kernel_rfl) ?_; (repeat (first | go_big_quiet_skip | (go_big_quiet_want; go_big_quiet_op; first | go_big_quiet_on | (apply Exists.intro; refine ⟨fun _ => ?_, ?_⟩; (focus (first | (go_at_call 127; with_reducible exact Calls.after_of (w_may _ _ (by omega)) (congrArg Value.bool c1)) | (go_at_call 128; with_reducible exact Calls.after_same_of (n_may _ _ (by omega)) (congrArg Value.bool c2)))); go_big_quiet_on)))); refine wpQuiet_nil ?_; rintro w1 ⟨⟨_, hb1⟩, rfl⟩; (try dsimp only); obtain ⟨hc1, hf1⟩ := bcell hb1; have hs1 := hb1.size; (try simp at hs1))
        go_wp2
        go_ret
        exact ⟨rfl, (by repeat (first | exact Below.refl _ _ | assumption | refine b_then ?_ (by assumption) | refine b_alloc ?_ _ | refine b_drewN ?_ _ | refine Below.drew ?_ | refine b_set ?_ (by first | exact Nat.le_refl _ | (simp; done) | (simp; omega) | omega) _))⟩
      · simp only [Bool.not_eq_true] at c3
        obtain ⟨z, rfl⟩ := isIB_of c1
        obtain ⟨n, rfl⟩ := isNB_of c2
        have hz : ndg z.natAbs ≤ 890000000 := by rw [iS_size] at h1; omega
        have hn : ndg n ≤ 890000000 := by rw [nS_size] at h2; exact h2
        rw [c1, c2, c3, show rnum ⟨iS z, nS n⟩ = z from ival_itx z, show rden ⟨iS z, nS n⟩ = n from nval_ntx n, ← one_eq]
        go_enter Tryz.func84, Tryz.ntmps84
        go_wp2
        (refine wp_region_after (by kernel_rfl) (by kernel_rfl) ?_; (repeat (first | go_big_quiet_skip | (go_big_quiet_want; go_big_quiet_op; first | go_big_quiet_on | (apply Exists.intro; refine ⟨fun _ => ?_, ?_⟩; (focus (first | (go_at_call 127; with_reducible exact Calls.after_of (w_may _ _ (by omega)) (congrArg Value.bool c1)) | (go_at_call 128; with_reducible exact Calls.after_same_of (n_may _ _ (by omega)) (congrArg Value.bool c2)) | (go_at_call 130; exact Calls.after (w_abs _ _ (by omega))) | (go_at_call 129; exact Calls.after (n_gcd _ _ _ (hG0.below (After.h _)) hz hn)))); go_big_quiet_on)))); refine wpQuiet_nil ?_; rintro w1 ⟨⟨_, hb1⟩, rfl⟩; (try dsimp only); obtain ⟨hc1, hf1⟩ := bcell hb1; have hs1 := hb1.size; (try simp at hs1))
        go_wp2
        go_ret
        exact ⟨rfl, (by repeat (first | exact Below.refl _ _ | assumption | refine b_then ?_ (by assumption) | refine b_alloc ?_ _ | refine b_drewN ?_ _ | refine Below.drew ?_ | refine b_set ?_ (by first | exact Nat.le_refl _ | (simp; done) | (simp; omega) | omega) _))⟩
    · simp only [Bool.not_eq_true] at c2
      rw [c1, c2]
      go_enter Tryz.func84, Tryz.ntmps84
      go_wp2
      (refine wp_region_after (by kernel_rfl) (by kernel_rfl) ?_; (repeat (first | go_big_quiet_skip | (go_big_quiet_want; go_big_quiet_op; first | go_big_quiet_on | (apply Exists.intro; refine ⟨fun _ => ?_, ?_⟩; (focus (first | (go_at_call 127; with_reducible exact Calls.after_of (w_may _ _ (by omega)) (congrArg Value.bool c1)) | (go_at_call 128; with_reducible exact Calls.after_same_of (n_may _ _ (by omega)) (congrArg Value.bool c2)))); go_big_quiet_on)))); refine wpQuiet_nil ?_; rintro w1 ⟨⟨_, hb1⟩, rfl⟩; (try dsimp only); obtain ⟨hc1, hf1⟩ := bcell hb1; have hs1 := hb1.size; (try simp at hs1))
      go_wp2
      go_ret
      exact ⟨rfl, (by repeat (first | exact Below.refl _ _ | assumption | refine b_then ?_ (by assumption) | refine b_alloc ?_ _ | refine b_drewN ?_ _ | refine Below.drew ?_ | refine b_set ?_ (by first | exact Nat.le_refl _ | (simp; done) | (simp; omega) | omega) _))⟩
  · simp only [Bool.not_eq_true] at c1
    rw [c1]
    go_enter Tryz.func84, Tryz.ntmps84
    go_wp2
    (refine wp_region_after (by kernel_rfl) (by kernel_rfl) ?_; (repeat (first | go_big_quiet_skip | (go_big_quiet_want; go_big_quiet_op; first | go_big_quiet_on | (apply Exists.intro; refine ⟨fun _ => ?_, ?_⟩; (focus (first | (go_at_call 127; with_reducible exact Calls.after_of (w_may _ _ (by omega)) (congrArg Value.bool c1)) | (go_at_call 128; with_reducible exact Calls.after_same_of (n_may _ _ (by omega)) (congrArg Value.bool c2)))); go_big_quiet_on)))); refine wpQuiet_nil ?_; rintro w1 ⟨⟨_, hb1⟩, rfl⟩; (try dsimp only); obtain ⟨hc1, hf1⟩ := bcell hb1; have hs1 := hb1.size; (try simp at hs1))
    go_wp2
    go_ret
    exact ⟨rfl, (by repeat (first | exact Below.refl _ _ | assumption | refine b_then ?_ (by assumption) | refine b_alloc ?_ _ | refine b_drewN ?_ _ | refine Below.drew ?_ | refine b_set ?_ (by first | exact Nat.le_refl _ | (simp; done) | (simp; omega) | omega) _))⟩
end Go.Proofs.YtpoejheienohjaaGreatDoor
