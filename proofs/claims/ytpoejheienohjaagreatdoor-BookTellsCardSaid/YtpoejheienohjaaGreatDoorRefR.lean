/- Walks of the references' whole numbers and fractions: amount, May, Of, Abs; May, Of. -/
import Derived.Test.YtpoejheienohjaaGreatDoorRefC
import Derived.Test.YtpoejheienohjaaGreatDoorRat
namespace Go.Proofs.YtpoejheienohjaaGreatDoor
open Go.RowKit
set_option linter.unusedVariables false
set_option linter.unusedSimpArgs false

/-- Without its sign. -/
def amt (s : ByteArray) : ByteArray := if s.data.toList.head? = some 45 then s.extract 1 s.size else s
def sgn (s : ByteArray) : Bool := s.data.toList.head? == some 45
theorem byte_at {s : ByteArray} {k : Nat} (h : k < s.size) (c : UInt8) : s.data.toList[k]? = some c ↔ (s[k].toNat : Int) = (c.toNat : Int) := by
  rw [s_at s k h, Option.some.injEq]
  exact ⟨fun h => by rw [h], fun h => UInt8.toNat_inj.1 (by omega)⟩
theorem amt_yes {s : ByteArray} (h : 0 < s.size) (e : (s[0].toNat : Int) = 45) : amt s = s.extract 1 s.size ∧ sgn s = true := by
  have := (byte_at h 45).2 e
  rw [← List.head?_eq_getElem?] at this
  simp [amt, sgn, this]
theorem amt_no {s : ByteArray} (h : 0 < s.size) (e : ¬ (s[0].toNat : Int) = 45) : amt s = s ∧ sgn s = false := by
  have : ¬ s.data.toList.head? = some 45 := fun h1 => e ((byte_at h 45).1 (by rw [← List.head?_eq_getElem?]; exact h1))
  simp [amt, sgn, this]
theorem amt_nil {s : ByteArray} (h : ¬ 0 < s.size) : amt s = s ∧ sgn s = false := by
  have h1 : s.data.toList = [] := List.eq_nil_of_length_eq_zero (by rw [← sz]; omega)
  simp [amt, sgn, h1]
theorem amt_size (s : ByteArray) : (amt s).size ≤ s.size := by
  unfold amt; split
  · rw [ByteArray.size_extract]; omega
  · omega
theorem isIB_amt (s : ByteArray) : isIB s = (isNB (amt s) && (!sgn s || !((amt s).toList == [48]))) := by
  unfold isIB isNB amt sgn
  cases hl : s.data.toList with
  | nil => simp [hl, isI, isN]
  | cons c l =>
    by_cases hc : c = 45
    · subst hc
      have hx : (s.extract 1 s.size).data.toList = l := by rw [s_extract, sz, hl]; simp
      simp only [isI, List.head?_cons, if_true, hx, tl]
      simp [bne]
    · have : isI (c :: l) = isN (c :: l) := isI_of_head (by simpa using hc)
      simp [this, hl, hc]
theorem amt_iS (z : Int) : amt (iS z) = nS z.natAbs ∧ sgn (iS z) = decide (z < 0) := by
  by_cases h : z < 0
  · have e : (iS z).data.toList = 45 :: ntx z.natAbs := by rw [iS_l, itx_neg h]
    refine ⟨?_, by simp [sgn, e, h]⟩
    apply s_ext
    rw [amt, if_pos (by rw [e]; rfl), s_extract, sz, List.take_length, e, nS_l]; rfl
  · have e : iS z = nS z.natAbs := iS_nonneg (by omega)
    have h1 : ¬ (nS z.natAbs).data.toList.head? = some 45 := by rw [nS_l]; exact ntx_head_ne _
    rw [e]
    refine ⟨by rw [amt, if_neg h1], ?_⟩
    simp only [sgn, decide_eq_false h, beq_eq_false_iff_ne]; exact h1

set_option maxHeartbeats 400000 in
theorem r2_amount (s : ByteArray) (w : World) (hs : s.size ≤ 9223372036854775807) :
    Calls Tryz.prog 117 #[.string s] w fun e w' => e = .returned (.tuple #[.string (amt s), .bool (sgn s)]) ∧ w = w' := by
  by_cases h : 0 < s.size
  · by_cases he : (s[0].toNat : Int) = 45
    · obtain ⟨h1, h2⟩ := amt_yes h he
      rw [h1, h2]
      have he' : ((s[0].toNat : Int) == 45) = true := by simpa using he
      clear he h1 h2
      go_enter Tryz.func117, Tryz.ntmps117
      go_wp2
      go_ret2
      exact ⟨rfl, rfl⟩
    · obtain ⟨h1, h2⟩ := amt_no h he
      rw [h1, h2]
      have he' : ((s[0].toNat : Int) == 45) = false := by simpa using he
      clear he h1 h2
      go_enter Tryz.func117, Tryz.ntmps117
      go_wp2
      go_ret2
      exact ⟨rfl, rfl⟩
  · obtain ⟨h1, h2⟩ := amt_nil h
    rw [h1, h2]
    clear h1 h2
    go_enter Tryz.func117, Tryz.ntmps117
    go_wp2
    go_ret2
    exact ⟨rfl, rfl⟩
set_option maxHeartbeats 400000 in
theorem r2_may (s : ByteArray) (w : World) (hs : s.size ≤ 9223372036854775807) :
    Calls Tryz.prog 93 #[.string s] w fun e w' => e = .returned (.bool (isIB s)) ∧ w = w' := by
  have ha := amt_size s
  rw [isIB_amt]
  go_enter Tryz.func93, Tryz.ntmps93
  go_wp2_with (first | (go_at_call 117; (with_reducible refine (r2_amount _ _ (by omega)).mono ?_); rintro e w' ⟨rfl, rfl⟩) | (go_at_call 94; (with_reducible refine (r1_may _ _ (by omega)).mono ?_); rintro e w' ⟨rfl, rfl⟩))
  all_goals
    go_ret
    exact ⟨ret_bool (by simp [*]), rfl⟩
set_option maxHeartbeats 400000 in
theorem r2_abs (z : Int) (w : World) (hs : (iS z).size ≤ 9223372036854775807) :
    Calls Tryz.prog 96 #[.string (iS z)] w fun e w' => e = .returned (.string (nS z.natAbs)) ∧ w = w' := by
  have h1 := isIB_iS z
  obtain ⟨h2, h3⟩ := amt_iS z
  have H2 := Lib.hid h2
  clear h2 h3
  go_enter Tryz.func96, Tryz.ntmps96
  go_wp2_with (first | (go_at_call 117; (with_reducible refine (r2_amount _ _ hs).mono ?_); rintro e w' ⟨rfl, rfl⟩) | (go_at_call 93; (with_reducible refine (r2_may _ _ hs).mono ?_); rintro e w' ⟨rfl, rfl⟩))
  go_ret
  exact ⟨ret_str H2.out, rfl⟩
theorem ndg_i64 {n : Nat} (h : n ≤ 9223372036854775808) : ndg n ≤ 19 := ndg_le_of (by omega) (by omega)
theorem nS_one : nS 1 = ⟨#[49]⟩ := rfl
theorem nS_zero : nS 0 = ⟨#[48]⟩ := rfl
theorem r1_add_one (m : Nat) (w : World) (hm : ndg m ≤ 1000000000) :
    Calls Tryz.prog 97 #[.string (nS m), .string ⟨#[49]⟩] w fun e w' => e = .returned (.string (nS (m + 1))) ∧ Below w.heap.size w w' := by
  rw [← nS_one]; exact r1_add m 1 w hm (by rw [ndg_small (by omega)]; omega)
set_option maxHeartbeats 400000 in
theorem r2_of (z : Int) (w : World) (h1 : -9223372036854775808 ≤ z) (h2 : z ≤ 9223372036854775807) :
    Calls Tryz.prog 62 #[.int .i64 z] w fun e w' => e = .returned (.string (iS z)) ∧ Below w.heap.size w w' := by
  by_cases h : z < 0
  · obtain ⟨n, rfl⟩ : ∃ n : Nat, z = -((n : Int) + 1) := ⟨(-z - 1).toNat, by omega⟩
    have hn := ndg_i64 (n := n) (by omega)
    have hn1 := ndg_i64 (n := n + 1) (by omega)
    have hs : (nS (n + 1)).size ≤ 19 := by rw [nS_size]; exact hn1
    have hf : mkS [45] ++ nS (n + 1) = iS (-((n : Int) + 1)) := by
      apply s_ext
      rw [iS_l, itx_neg h, s_append, nS_l, mkS_l, show (-((n : Int) + 1)).natAbs = n + 1 by omega]; rfl
    have HF := Lib.hid hf
    have H1 : Hid (nS 1 = ⟨#[49]⟩) := rfl
    have e1 : -((n : Int) + 1) + 1 = -(n : Int) := by omega
    clear hf
    go_enter Tryz.func62, Tryz.ntmps62
    go_wp2_with (first | (go_at_call 98; (with_reducible refine (r1_of _ _ (by omega)).mono ?_); rintro e w' ⟨rfl, rfl⟩) | (go_at_call 97; (with_reducible refine (r1_add_one _ _ (by omega)).mono ?_); rintro e w' ⟨rfl, hB⟩))
    go_ret
    exact ⟨ret_str HF.out, hB⟩
  · obtain ⟨n, rfl⟩ : ∃ n : Nat, z = (n : Int) := ⟨z.toNat, by omega⟩
    have HF := Lib.hid (iS_nat n)
    go_enter Tryz.func62, Tryz.ntmps62
    go_wp2_with (go_at_call 98; (with_reducible refine (r1_of _ _ (by omega)).mono ?_); rintro e w' ⟨rfl, rfl⟩)
    go_ret
    exact ⟨ret_str HF.out.symm, Below.refl _ _⟩

/-! ### Fractions -/
theorem enc_of (z : Int) : enc (z : Rat) = ⟨iS z, nS 1⟩ := rfl
set_option maxHeartbeats 400000 in
theorem r3_of (z : Int) (w : World) (h1 : -9223372036854775808 ≤ z) (h2 : z ≤ 9223372036854775807) :
    Calls Tryz.prog 27 #[.int .i64 z] w fun e w' => e = .returned (enc (z : Rat)).v ∧ Below w.heap.size w w' := by
  go_enter Tryz.func27, Tryz.ntmps27
  go_wp2_with (go_at_call 62; (with_reducible refine (r2_of _ _ h1 h2).mono ?_); rintro e w1 ⟨rfl, hb1⟩; obtain ⟨hc1, hf1⟩ := bcell hb1; have hs1 := hb1.size; (try simp at hs1))
  refine bodyPost_ret (v := (enc (z : Rat)).v) ?_ rfl ⟨rfl, (by repeat (first | exact Below.refl _ _ | assumption | refine b_then ?_ (by assumption) | refine b_alloc ?_ _ | refine b_drewN ?_ _ | refine Below.drew ?_ | refine b_set ?_ (by first | exact Nat.le_refl _ | (simp; done) | (simp; omega) | omega) _))⟩
  simp [results, Tryz.results27, go_sem, hc1, hf1, hs1]
  rfl
end Go.Proofs.YtpoejheienohjaaGreatDoor

/- Walks of the references' fractions: May. -/
namespace Go.Proofs.YtpoejheienohjaaGreatDoor
open Go.RowKit
set_option linter.unusedVariables false
set_option linter.unusedSimpArgs false
theorem nS_nz {n : Nat} (h : ((nS n).toList == [48]) = false) : 0 < n := by
  rcases Nat.eq_zero_or_pos n with rfl | hp
  · rw [nS_t] at h; exact absurd h (by decide)
  · exact hp
theorem iS_abs_size {z : Int} (h : (iS z).size ≤ 900000000) : ndg z.natAbs ≤ 900000000 := by rw [iS_size] at h; omega
theorem one_eq (n : Nat) : ((nS n).toList == [49]) = (n == 1) := by
  rw [nS_t, Bool.eq_iff_iff, beq_iff_eq, beq_iff_eq, ntx_eq_one]
set_option maxHeartbeats 800000 in
theorem r3_may (num den : ByteArray) (w : World) (h1 : num.size ≤ 900000000) (h2 : den.size ≤ 900000000) :
    Calls Tryz.prog 61 #[.agg #[.string num, .string den]] w fun e w' => e = .returned (.bool (rmay ⟨num, den⟩)) ∧ Below w.heap.size w w' := by
  unfold rmay
  dsimp only
  by_cases c1 : isIB num = true
  · by_cases c2 : isNB den = true
    · by_cases c3 : (den.toList == [48]) = true
      · rw [c1, c2, c3]
        go_enter Tryz.func61, Tryz.ntmps61
        go_wp2
        (refine wp_region_after (by kernel_rfl) (by kernel_rfl) ?_; (repeat (first | go_big_quiet_skip | (go_big_quiet_want; go_big_quiet_op; first | go_big_quiet_on | (apply Exists.intro; refine ⟨fun _ => ?_, ?_⟩; (focus (first | (go_at_call 93; with_reducible exact Calls.after_same_of (r2_may _ _ (by omega)) (congrArg Value.bool c1)) | (go_at_call 94; with_reducible exact Calls.after_same_of (r1_may _ _ (by omega)) (congrArg Value.bool c2)))); go_big_quiet_on)))); refine wpQuiet_nil ?_; rintro w1 ⟨⟨_, hb1⟩, rfl⟩; (try dsimp only); obtain ⟨hc1, hf1⟩ := bcell hb1; have hs1 := hb1.size; (try simp at hs1))
        go_wp2
        go_ret
        exact ⟨rfl, (by repeat (first | exact Below.refl _ _ | assumption | refine b_then ?_ (by assumption) | refine b_alloc ?_ _ | refine b_drewN ?_ _ | refine Below.drew ?_ | refine b_set ?_ (by first | exact Nat.le_refl _ | (simp; done) | (simp; omega) | omega) _))⟩
      · simp only [Bool.not_eq_true] at c3
        obtain ⟨z, rfl⟩ := isIB_of c1
        obtain ⟨n, rfl⟩ := isNB_of c2
        have hz : ndg z.natAbs ≤ 900000000 := iS_abs_size h1
        have hn : ndg n ≤ 900000000 := by rw [nS_size] at h2; exact h2
        rw [c1, c2, c3, show rnum ⟨iS z, nS n⟩ = z from ival_itx z, show rden ⟨iS z, nS n⟩ = n from nval_ntx n, ← one_eq]
        go_enter Tryz.func61, Tryz.ntmps61
        go_wp2
        (refine wp_region_after (by kernel_rfl) (by kernel_rfl) ?_; (repeat (first | go_big_quiet_skip | (go_big_quiet_want; go_big_quiet_op; first | go_big_quiet_on | (apply Exists.intro; refine ⟨fun _ => ?_, ?_⟩; (focus (first | (go_at_call 93; with_reducible exact Calls.after_same_of (r2_may _ _ (by omega)) (congrArg Value.bool c1)) | (go_at_call 94; with_reducible exact Calls.after_same_of (r1_may _ _ (by omega)) (congrArg Value.bool c2)) | (go_at_call 96; exact Calls.after_same (r2_abs _ _ (by omega))) | (go_at_call 95; exact Calls.after (r1_gcd _ _ _ hz hn)))); go_big_quiet_on)))); refine wpQuiet_nil ?_; rintro w1 ⟨⟨_, hb1⟩, rfl⟩; (try dsimp only); obtain ⟨hc1, hf1⟩ := bcell hb1; have hs1 := hb1.size; (try simp at hs1))
        go_wp2
        go_ret
        exact ⟨rfl, (by repeat (first | exact Below.refl _ _ | assumption | refine b_then ?_ (by assumption) | refine b_alloc ?_ _ | refine b_drewN ?_ _ | refine Below.drew ?_ | refine b_set ?_ (by first | exact Nat.le_refl _ | (simp; done) | (simp; omega) | omega) _))⟩
    · simp only [Bool.not_eq_true] at c2
      rw [c1, c2]
      go_enter Tryz.func61, Tryz.ntmps61
      go_wp2
      (refine wp_region_after (by kernel_rfl) (by kernel_rfl) ?_; (repeat (first | go_big_quiet_skip | (go_big_quiet_want; go_big_quiet_op; first | go_big_quiet_on | (apply Exists.intro; refine ⟨fun _ => ?_, ?_⟩; (focus (first | (go_at_call 93; with_reducible exact Calls.after_same_of (r2_may _ _ (by omega)) (congrArg Value.bool c1)) | (go_at_call 94; with_reducible exact Calls.after_same_of (r1_may _ _ (by omega)) (congrArg Value.bool c2)))); go_big_quiet_on)))); refine wpQuiet_nil ?_; rintro w1 ⟨⟨_, hb1⟩, rfl⟩; (try dsimp only); obtain ⟨hc1, hf1⟩ := bcell hb1; have hs1 := hb1.size; (try simp at hs1))
      go_wp2
      go_ret
      exact ⟨rfl, (by repeat (first | exact Below.refl _ _ | assumption | refine b_then ?_ (by assumption) | refine b_alloc ?_ _ | refine b_drewN ?_ _ | refine Below.drew ?_ | refine b_set ?_ (by first | exact Nat.le_refl _ | (simp; done) | (simp; omega) | omega) _))⟩
  · simp only [Bool.not_eq_true] at c1
    rw [c1]
    go_enter Tryz.func61, Tryz.ntmps61
    go_wp2
    (refine wp_region_after (by kernel_rfl) (by kernel_rfl) ?_; (repeat (first | go_big_quiet_skip | (go_big_quiet_want; go_big_quiet_op; first | go_big_quiet_on | (apply Exists.intro; refine ⟨fun _ => ?_, ?_⟩; (focus (first | (go_at_call 93; with_reducible exact Calls.after_same_of (r2_may _ _ (by omega)) (congrArg Value.bool c1)) | (go_at_call 94; with_reducible exact Calls.after_same_of (r1_may _ _ (by omega)) (congrArg Value.bool c2)))); go_big_quiet_on)))); refine wpQuiet_nil ?_; rintro w1 ⟨⟨_, hb1⟩, rfl⟩; (try dsimp only); obtain ⟨hc1, hf1⟩ := bcell hb1; have hs1 := hb1.size; (try simp at hs1))
    go_wp2
    go_ret
    exact ⟨rfl, (by repeat (first | exact Below.refl _ _ | assumption | refine b_then ?_ (by assumption) | refine b_alloc ?_ _ | refine b_drewN ?_ _ | refine Below.drew ?_ | refine b_set ?_ (by first | exact Nat.le_refl _ | (simp; done) | (simp; omega) | omega) _))⟩
end Go.Proofs.YtpoejheienohjaaGreatDoor
