/- Fractions as pairs of texts: plain lemmas. -/
import Derived.Test.YtjdofncognaaoaaGreatDoorNum
import Derived.Test.YtjdofncognaaoaaGreatDoorRefB
import Derived.StillTail
namespace Go.Proofs.YtjdofncognaaoaaGreatDoor
set_option linter.unusedVariables false
set_option linter.unusedSimpArgs false

/-- A pair of texts: api.Rat as it lies. -/
structure RT where
  num : ByteArray
  den : ByteArray
  deriving DecidableEq
def RT.v (x : RT) : Value := .agg #[.string x.num, .string x.den]
def RT.cs (x : RT) : List Value := [.string x.num, .string x.den]
def rzero : RT := ⟨⟨#[]⟩, ⟨#[]⟩⟩
/-- The fraction's one form. -/
def enc (q : Rat) : RT := ⟨iS q.num, nS q.den⟩
def rden (x : RT) : Nat := nval x.den.data.toList
def rnum (x : RT) : Int := ival x.num.data.toList
def rmay (x : RT) : Bool := isIB x.num && (isNB x.den && (!(x.den.toList == [48]) && (Nat.gcd (rnum x).natAbs (rden x) == 1)))
theorem enc_inj {p q : Rat} (h : enc p = enc q) : p = q := by
  injection h with h1 h2
  exact Rat.ext (iS_inj h1) (nS_inj h2)
theorem rmay_enc (q : Rat) : rmay (enc q) = true := by
  simp only [rmay, enc, isIB_iS, isNB_nS, Bool.true_and, rnum, rden, iS_l, nS_l, ival_itx, nval_ntx, nS_t, Bool.and_eq_true, Bool.not_eq_true', beq_eq_false_iff_ne, beq_iff_eq]
  exact ⟨fun e => q.den_nz (ntx_eq_zero.1 e), q.reduced⟩
theorem rmay_of {x : RT} (h : rmay x = true) : ∃ q, x = enc q := by
  simp only [rmay, Bool.and_eq_true, Bool.not_eq_true', beq_eq_false_iff_ne, beq_iff_eq] at h
  obtain ⟨h1, h2, h3, h4⟩ := h
  obtain ⟨z, hz⟩ := isIB_of h1
  obtain ⟨n, hn⟩ := isNB_of h2
  rw [hn, nS_t] at h3
  have hn0 : n ≠ 0 := fun e => h3 (ntx_eq_zero.2 e)
  simp only [rnum, rden, hz, hn, iS_l, nS_l, ival_itx, nval_ntx] at h4
  refine ⟨⟨z, n, hn0, h4⟩, ?_⟩
  cases x
  simp only at hz hn
  subst hz; subst hn; rfl
/-- The number that a pair is (0, if it is none). -/
def dec (x : RT) : Rat := if h : rmay x = true then mkRat (rnum x) (rden x) else 0
theorem dec_enc (q : Rat) : dec (enc q) = q := by
  rw [dec, dif_pos (rmay_enc q)]
  simp only [rnum, rden, enc, iS_l, nS_l, ival_itx, nval_ntx]
  exact Rat.mkRat_self q
theorem enc_dec {x : RT} (h : rmay x = true) : enc (dec x) = x := by
  obtain ⟨q, rfl⟩ := rmay_of h
  rw [dec_enc]
/-- How many digits there are at most. -/
def rsz (x : RT) : Nat := max x.num.size x.den.size
theorem rt_eq {x y : RT} : x = y ↔ x.num = y.num ∧ x.den = y.den := by
  cases x; cases y; simp
theorem s_eq {a b : ByteArray} : a = b ↔ a.toList = b.toList := by
  constructor
  · intro h; rw [h]
  · intro h; rw [tl, tl] at h; exact s_ext h
end Go.Proofs.YtjdofncognaaoaaGreatDoor

/- Walks of the references' whole numbers and fractions: amount, May, Of, Abs; May, Of. -/
namespace Go.Proofs.YtjdofncognaaoaaGreatDoor
open Go.RowKit
set_option linter.unusedVariables false
set_option linter.unusedSimpArgs false

/-- Without its sign. -/
def amt (s : ByteArray) : ByteArray := if s.data.toList.head? = some 45 then s.extract 1 s.size else s
def sgn (s : ByteArray) : Bool := s.data.toList.head? == some 45
theorem byte_at {s : ByteArray} {k : Nat} (h : k < s.size) (c : UInt8) : s.data.toList[k]? = some c ↔ (s[k].toNat : Int) = (c.toNat : Int) := by
  rw [s_at s k h, Option.some.injEq]
  exact ⟨fun h => by rw [h], fun h => UInt8.toNat_inj.1 (by omega)⟩
theorem amt_yes {s : ByteArray} (h : 0 < s.size) (e : (s[0].toNat : Int) = 45) : amt s = s.extract 1 s.size ∧ sgn s = true := by
  have := (byte_at h 45).2 e
  rw [← List.head?_eq_getElem?] at this
  simp [amt, sgn, this]
theorem amt_no {s : ByteArray} (h : 0 < s.size) (e : ¬ (s[0].toNat : Int) = 45) : amt s = s ∧ sgn s = false := by
  have : ¬ s.data.toList.head? = some 45 := fun h1 => e ((byte_at h 45).1 (by rw [← List.head?_eq_getElem?]; exact h1))
  simp [amt, sgn, this]
theorem amt_nil {s : ByteArray} (h : ¬ 0 < s.size) : amt s = s ∧ sgn s = false := by
  have h1 : s.data.toList = [] := List.eq_nil_of_length_eq_zero (by rw [← sz]; omega)
  simp [amt, sgn, h1]
theorem amt_size (s : ByteArray) : (amt s).size ≤ s.size := by
  unfold amt; split
  · rw [ByteArray.size_extract]; omega
  · omega
theorem isIB_amt (s : ByteArray) : isIB s = (isNB (amt s) && (!sgn s || !((amt s).toList == [48]))) := by
  unfold isIB isNB amt sgn
  cases hl : s.data.toList with
  | nil => simp [hl, isI, isN]
  | cons c l =>
    by_cases hc : c = 45
    · subst hc
      have hx : (s.extract 1 s.size).data.toList = l := by rw [s_extract, sz, hl]; simp
      simp only [isI, List.head?_cons, if_true, hx, tl]
      simp [bne]
    · have : isI (c :: l) = isN (c :: l) := isI_of_head (by simpa using hc)
      simp [this, hl, hc]
theorem amt_iS (z : Int) : amt (iS z) = nS z.natAbs ∧ sgn (iS z) = decide (z < 0) := by
  by_cases h : z < 0
  · have e : (iS z).data.toList = 45 :: ntx z.natAbs := by rw [iS_l, itx_neg h]
    refine ⟨?_, by simp [sgn, e, h]⟩
    apply s_ext
    rw [amt, if_pos (by rw [e]; rfl), s_extract, sz, List.take_length, e, nS_l]; rfl
  · have e : iS z = nS z.natAbs := iS_nonneg (by omega)
    have h1 : ¬ (nS z.natAbs).data.toList.head? = some 45 := by rw [nS_l]; exact ntx_head_ne _
    rw [e]
    refine ⟨by rw [amt, if_neg h1], ?_⟩
    simp only [sgn, decide_eq_false h, beq_eq_false_iff_ne]; exact h1

set_option maxHeartbeats 400000 in
theorem r2_amount (s : ByteArray) (w : World) (hs : s.size ≤ 9223372036854775807) :
    Calls Tryz.prog 118 #[.string s] w fun e w' => e = .returned (.tuple #[.string (amt s), .bool (sgn s)]) ∧ w = w' := by
  by_cases h : 0 < s.size
  · by_cases he : (s[0].toNat : Int) = 45
    · obtain ⟨h1, h2⟩ := amt_yes h he
      rw [h1, h2]
      have he' : ((s[0].toNat : Int) == 45) = true := by simpa using he
      clear he h1 h2
      go_enter Tryz.func118, Tryz.ntmps118
      go_wp2
      go_ret2
      exact ⟨rfl, rfl⟩
    · obtain ⟨h1, h2⟩ := amt_no h he
      rw [h1, h2]
      have he' : ((s[0].toNat : Int) == 45) = false := by simpa using he
      clear he h1 h2
      go_enter Tryz.func118, Tryz.ntmps118
      go_wp2
      go_ret2
      exact ⟨rfl, rfl⟩
  · obtain ⟨h1, h2⟩ := amt_nil h
    rw [h1, h2]
    clear h1 h2
    go_enter Tryz.func118, Tryz.ntmps118
    go_wp2
    go_ret2
    exact ⟨rfl, rfl⟩
set_option maxHeartbeats 400000 in
theorem r2_may (s : ByteArray) (w : World) (hs : s.size ≤ 9223372036854775807) :
    Calls Tryz.prog 113 #[.string s] w fun e w' => e = .returned (.bool (isIB s)) ∧ w = w' := by
  have ha := amt_size s
  rw [isIB_amt]
  go_enter Tryz.func113, Tryz.ntmps113
  go_wp2_with (first | (go_at_call 118; (with_reducible refine (r2_amount _ _ (by omega)).mono ?_); rintro e w' ⟨rfl, rfl⟩) | (go_at_call 114; (with_reducible refine (r1_may _ _ (by omega)).mono ?_); rintro e w' ⟨rfl, rfl⟩))
  all_goals
    go_ret
    exact ⟨ret_bool (by simp [*]), rfl⟩
set_option maxHeartbeats 400000 in
theorem r2_abs (z : Int) (w : World) (hs : (iS z).size ≤ 9223372036854775807) :
    Calls Tryz.prog 90 #[.string (iS z)] w fun e w' => e = .returned (.string (nS z.natAbs)) ∧ w = w' := by
  have h1 := isIB_iS z
  obtain ⟨h2, h3⟩ := amt_iS z
  have H2 := Lib.hid h2
  clear h2 h3
  go_enter Tryz.func90, Tryz.ntmps90
  go_wp2_with (first | (go_at_call 118; (with_reducible refine (r2_amount _ _ hs).mono ?_); rintro e w' ⟨rfl, rfl⟩) | (go_at_call 113; (with_reducible refine (r2_may _ _ hs).mono ?_); rintro e w' ⟨rfl, rfl⟩))
  go_ret
  exact ⟨ret_str H2.out, rfl⟩
theorem ndg_i64 {n : Nat} (h : n ≤ 9223372036854775808) : ndg n ≤ 19 := ndg_le_of (by omega) (by omega)
theorem nS_one : nS 1 = ⟨#[49]⟩ := rfl
theorem nS_zero : nS 0 = ⟨#[48]⟩ := rfl
theorem r1_add_one (m : Nat) (w : World) (hm : ndg m ≤ 1000000000) :
    Calls Tryz.prog 94 #[.string (nS m), .string ⟨#[49]⟩] w fun e w' => e = .returned (.string (nS (m + 1))) ∧ Below w.heap.size w w' := by
  rw [← nS_one]; exact r1_add m 1 w hm (by rw [ndg_small (by omega)]; omega)
set_option maxHeartbeats 400000 in
theorem r2_of (z : Int) (w : World) (h1 : -9223372036854775808 ≤ z) (h2 : z ≤ 9223372036854775807) :
    Calls Tryz.prog 63 #[.int .i64 z] w fun e w' => e = .returned (.string (iS z)) ∧ Below w.heap.size w w' := by
  by_cases h : z < 0
  · obtain ⟨n, rfl⟩ : ∃ n : Nat, z = -((n : Int) + 1) := ⟨(-z - 1).toNat, by omega⟩
    have hn := ndg_i64 (n := n) (by omega)
    have hn1 := ndg_i64 (n := n + 1) (by omega)
    have hs : (nS (n + 1)).size ≤ 19 := by rw [nS_size]; exact hn1
    have hf : mkS [45] ++ nS (n + 1) = iS (-((n : Int) + 1)) := by
      apply s_ext
      rw [iS_l, itx_neg h, s_append, nS_l, mkS_l, show (-((n : Int) + 1)).natAbs = n + 1 by omega]; rfl
    have HF := Lib.hid hf
    have H1 : Hid (nS 1 = ⟨#[49]⟩) := rfl
    have e1 : -((n : Int) + 1) + 1 = -(n : Int) := by omega
    clear hf
    go_enter Tryz.func63, Tryz.ntmps63
    go_wp2_with (first | (go_at_call 93; (with_reducible refine (r1_of _ _ (by omega)).mono ?_); rintro e w' ⟨rfl, rfl⟩) | (go_at_call 94; (with_reducible refine (r1_add_one _ _ (by omega)).mono ?_); rintro e w' ⟨rfl, hB⟩))
    go_ret
    exact ⟨ret_str HF.out, hB⟩
  · obtain ⟨n, rfl⟩ : ∃ n : Nat, z = (n : Int) := ⟨z.toNat, by omega⟩
    have HF := Lib.hid (iS_nat n)
    go_enter Tryz.func63, Tryz.ntmps63
    go_wp2_with (go_at_call 93; (with_reducible refine (r1_of _ _ (by omega)).mono ?_); rintro e w' ⟨rfl, rfl⟩)
    go_ret
    exact ⟨ret_str HF.out.symm, Below.refl _ _⟩

/-! ### Fractions -/
theorem enc_of (z : Int) : enc (z : Rat) = ⟨iS z, nS 1⟩ := rfl
set_option maxHeartbeats 400000 in
theorem r3_of (z : Int) (w : World) (h1 : -9223372036854775808 ≤ z) (h2 : z ≤ 9223372036854775807) :
    Calls Tryz.prog 32 #[.int .i64 z] w fun e w' => e = .returned (enc (z : Rat)).v ∧ Below w.heap.size w w' := by
  go_enter Tryz.func32, Tryz.ntmps32
  go_wp2_with (go_at_call 63; (with_reducible refine (r2_of _ _ h1 h2).mono ?_); rintro e w1 ⟨rfl, hb1⟩; obtain ⟨hc1, hf1⟩ := bcell hb1; have hs1 := hb1.size; (try simp at hs1))
  refine bodyPost_ret (v := (enc (z : Rat)).v) ?_ rfl ⟨rfl, (by repeat (first | exact Below.refl _ _ | assumption | refine b_then ?_ (by assumption) | refine b_alloc ?_ _ | refine b_drewN ?_ _ | refine Below.drew ?_ | refine b_set ?_ (by first | exact Nat.le_refl _ | (simp; done) | (simp; omega) | omega) _))⟩
  simp [results, Tryz.results32, go_sem, hc1, hf1, hs1]
  rfl
end Go.Proofs.YtjdofncognaaoaaGreatDoor

/- Walks of the references' fractions: May. -/
namespace Go.Proofs.YtjdofncognaaoaaGreatDoor
open Go.RowKit
set_option linter.unusedVariables false
set_option linter.unusedSimpArgs false
theorem nS_nz {n : Nat} (h : ((nS n).toList == [48]) = false) : 0 < n := by
  rcases Nat.eq_zero_or_pos n with rfl | hp
  · rw [nS_t] at h; exact absurd h (by decide)
  · exact hp
theorem iS_abs_size {z : Int} (h : (iS z).size ≤ 900000000) : ndg z.natAbs ≤ 900000000 := by rw [iS_size] at h; omega
theorem one_eq (n : Nat) : ((nS n).toList == [49]) = (n == 1) := by
  rw [nS_t, Bool.eq_iff_iff, beq_iff_eq, beq_iff_eq, ntx_eq_one]
set_option maxHeartbeats 800000 in
theorem r3_may (num den : ByteArray) (w : World) (h1 : num.size ≤ 900000000) (h2 : den.size ≤ 900000000) :
    Calls Tryz.prog 78 #[.agg #[.string num, .string den]] w fun e w' => e = .returned (.bool (rmay ⟨num, den⟩)) ∧ Below w.heap.size w w' := by
  unfold rmay
  dsimp only
  by_cases c1 : isIB num = true
  · by_cases c2 : isNB den = true
    · by_cases c3 : (den.toList == [48]) = true
      · rw [c1, c2, c3]
        go_enter Tryz.func78, Tryz.ntmps78
        go_wp2
        (refine wp_region_after (by kernel_rfl) (by kernel_rfl) ?_; (repeat (first | go_big_quiet_skip | (go_big_quiet_want; go_big_quiet_op; first | go_big_quiet_on | (apply Exists.intro; refine ⟨fun _ => ?_, ?_⟩; (focus (first | (go_at_call 113; with_reducible exact Calls.after_same_of (r2_may _ _ (by omega)) (congrArg Value.bool c1)) | (go_at_call 114; with_reducible exact Calls.after_same_of (r1_may _ _ (by omega)) (congrArg Value.bool c2)))); go_big_quiet_on)))); refine wpQuiet_nil ?_; rintro w1 ⟨⟨_, hb1⟩, rfl⟩; (try dsimp only); obtain ⟨hc1, hf1⟩ := bcell hb1; have hs1 := hb1.size; (try simp at hs1))
        go_wp2
        go_ret
        exact ⟨rfl, (by repeat (first | exact Below.refl _ _ | assumption | refine b_then ?_ (by assumption) | refine b_alloc ?_ _ | refine b_drewN ?_ _ | refine Below.drew ?_ | refine b_set ?_ (by first | exact Nat.le_refl _ | (simp; done) | (simp; omega) | omega) _))⟩
      · simp only [Bool.not_eq_true] at c3
        obtain ⟨z, rfl⟩ := isIB_of c1
        obtain ⟨n, rfl⟩ := isNB_of c2
        have hz : ndg z.natAbs ≤ 900000000 := iS_abs_size h1
        have hn : ndg n ≤ 900000000 := by rw [nS_size] at h2; exact h2
        rw [c1, c2, c3, show rnum ⟨iS z, nS n⟩ = z from ival_itx z, show rden ⟨iS z, nS n⟩ = n from nval_ntx n, ← one_eq]
        go_enter Tryz.func78, Tryz.ntmps78
        go_wp2
        (refine wp_region_after (by kernel_rfl) (by kernel_rfl) ?_; (repeat (first | go_big_quiet_skip | (go_big_quiet_want; go_big_quiet_op; first | go_big_quiet_on | (apply Exists.intro; refine ⟨fun _ => ?_, ?_⟩; (focus (first | (go_at_call 113; with_reducible exact Calls.after_same_of (r2_may _ _ (by omega)) (congrArg Value.bool c1)) | (go_at_call 114; with_reducible exact Calls.after_same_of (r1_may _ _ (by omega)) (congrArg Value.bool c2)) | (go_at_call 90; exact Calls.after_same (r2_abs _ _ (by omega))) | (go_at_call 115; exact Calls.after (r1_gcd _ _ _ hz hn)))); go_big_quiet_on)))); refine wpQuiet_nil ?_; rintro w1 ⟨⟨_, hb1⟩, rfl⟩; (try dsimp only); obtain ⟨hc1, hf1⟩ := bcell hb1; have hs1 := hb1.size; (try simp at hs1))
        go_wp2
        go_ret
        exact ⟨rfl, (by repeat (first | exact Below.refl _ _ | assumption | refine b_then ?_ (by assumption) | refine b_alloc ?_ _ | refine b_drewN ?_ _ | refine Below.drew ?_ | refine b_set ?_ (by first | exact Nat.le_refl _ | (simp; done) | (simp; omega) | omega) _))⟩
    · simp only [Bool.not_eq_true] at c2
      rw [c1, c2]
      go_enter Tryz.func78, Tryz.ntmps78
      go_wp2
      (refine wp_region_after (by kernel_rfl) (by kernel_rfl) ?_; (repeat (first | go_big_quiet_skip | (go_big_quiet_want; go_big_quiet_op; first | go_big_quiet_on | (apply Exists.intro; refine ⟨fun _ => ?_, ?_⟩; (focus (first | (go_at_call 113; with_reducible exact Calls.after_same_of (r2_may _ _ (by omega)) (congrArg Value.bool c1)) | (go_at_call 114; with_reducible exact Calls.after_same_of (r1_may _ _ (by omega)) (congrArg Value.bool c2)))); go_big_quiet_on)))); refine wpQuiet_nil ?_; rintro w1 ⟨⟨_, hb1⟩, rfl⟩; (try dsimp only); obtain ⟨hc1, hf1⟩ := bcell hb1; have hs1 := hb1.size; (try simp at hs1))
      go_wp2
      go_ret
      exact ⟨rfl, (by repeat (first | exact Below.refl _ _ | assumption | refine b_then ?_ (by assumption) | refine b_alloc ?_ _ | refine b_drewN ?_ _ | refine Below.drew ?_ | refine b_set ?_ (by first | exact Nat.le_refl _ | (simp; done) | (simp; omega) | omega) _))⟩
  · simp only [Bool.not_eq_true] at c1
    rw [c1]
    go_enter Tryz.func78, Tryz.ntmps78
    go_wp2
    (refine wp_region_after (by kernel_rfl) (by kernel_rfl) ?_; (repeat (first | go_big_quiet_skip | (go_big_quiet_want; go_big_quiet_op; first | go_big_quiet_on | (apply Exists.intro; refine ⟨fun _ => ?_, ?_⟩; (focus (first | (go_at_call 113; with_reducible exact Calls.after_same_of (r2_may _ _ (by omega)) (congrArg Value.bool c1)) | (go_at_call 114; with_reducible exact Calls.after_same_of (r1_may _ _ (by omega)) (congrArg Value.bool c2)))); go_big_quiet_on)))); refine wpQuiet_nil ?_; rintro w1 ⟨⟨_, hb1⟩, rfl⟩; (try dsimp only); obtain ⟨hc1, hf1⟩ := bcell hb1; have hs1 := hb1.size; (try simp at hs1))
    go_wp2
    go_ret
    exact ⟨rfl, (by repeat (first | exact Below.refl _ _ | assumption | refine b_then ?_ (by assumption) | refine b_alloc ?_ _ | refine b_drewN ?_ _ | refine Below.drew ?_ | refine b_set ?_ (by first | exact Nat.le_refl _ | (simp; done) | (simp; omega) | omega) _))⟩
end Go.Proofs.YtjdofncognaaoaaGreatDoor

/- Walks of whole: read, May, Abs. -/
namespace Go.Proofs.YtjdofncognaaoaaGreatDoor
open Go.RowKit
set_option linter.unusedVariables false
set_option linter.unusedSimpArgs false

theorem cut_amt (s : ByteArray) : mkS (Lib.trimPrefix s.data.toList [45]) = amt s ∧ Lib.hasPrefix s.data.toList [45] = sgn s := by
  have hp : Lib.hasPrefix s.data.toList [45] = sgn s := by
    unfold Lib.hasPrefix sgn
    cases hl : s.data.toList with
    | nil => rfl
    | cons c l =>
      simp only [List.isPrefixOf, List.head?_cons, Bool.and_true]
      rw [Bool.eq_iff_iff, beq_iff_eq, beq_iff_eq, Option.some.injEq, eq_comm]
  refine ⟨?_, hp⟩
  unfold Lib.trimPrefix amt
  rw [hp]
  unfold sgn
  by_cases h : s.data.toList.head? = some 45
  · rw [if_pos (by simpa using h), if_pos h]
    apply s_ext
    rw [mkS_l, s_extract, sz, List.take_length]; rfl
  · rw [if_neg (by simpa using h), if_neg h]; rfl
theorem c_cutMinus (s : ByteArray) (w : World) : Calls Tryz.prog 178 #[.string s, .string ⟨#[45]⟩] w fun e w' => e = .returned (.tuple #[.string (amt s), .bool (sgn s)]) ∧ w = w' := by
  have := c_cutPrefix s ⟨#[45]⟩ w
  obtain ⟨h1, h2⟩ := cut_amt s
  rw [show (ByteArray.mk #[45]).data.toList = [45] from rfl, h1, h2] at this
  exact this
def wnum (s : ByteArray) : Value := if isIB s then .agg #[.string (amt s), .bool (sgn s)] else .agg #[.string ⟨#[]⟩, .bool false]
set_option maxHeartbeats 800000 in
theorem w_read (s : ByteArray) (w : World) (hs : s.size ≤ 9223372036854775807) :
    Calls Tryz.prog 154 #[.string s] w fun e w' => e = .returned (.tuple #[wnum s, .bool (isIB s)]) ∧ Below w.heap.size w w' := by
  have ha := amt_size s
  have hi := isIB_amt s
  cases c1 : isNB (amt s) <;> cases c2 : sgn s <;> cases c3 : ((amt s).toList == [48])
  all_goals
    rw [c1, c2, c3] at hi
    simp only [wnum, hi, c2, Bool.false_and, Bool.true_and, Bool.not_true, Bool.not_false, Bool.or_true, Bool.or_false, Bool.or_self, if_true, Bool.false_eq_true, if_false]
    clear hi
    go_enter Tryz.func154, Tryz.ntmps154
    go_wp2_with (first | (go_at_call 178; (with_reducible refine (c_cutMinus _ _).mono ?_); rintro e w' ⟨rfl, rfl⟩) | (go_at_call 152; (with_reducible refine (n_may _ _ (by omega)).mono ?_); rintro e w' ⟨rfl, rfl⟩))
    first
      | (refine bodyPost_ret (v := .tuple #[.agg #[.string ⟨#[]⟩, .bool false], .bool false]) ?_ rfl ⟨rfl, (by repeat (first | exact Below.refl _ _ | assumption | refine b_then ?_ (by assumption) | refine b_alloc ?_ _ | refine b_drewN ?_ _ | refine Below.drew ?_ | refine b_set ?_ (by first | exact Nat.le_refl _ | (simp; done) | (simp; omega) | omega) _))⟩
         simp [results, Tryz.results154, go_sem])
      | (have hz := Blk.two (Blk.put2 (Blk.new w 150 #[.string ⟨#[]⟩, .bool false]) (.string (amt s)) (.bool false))
         refine bodyPost_ret (v := .tuple #[.agg #[.string (amt s), .bool false], .bool true]) ?_ rfl ⟨rfl, (by repeat (first | exact Below.refl _ _ | assumption | refine b_then ?_ (by assumption) | refine b_alloc ?_ _ | refine b_drewN ?_ _ | refine Below.drew ?_ | refine b_set ?_ (by first | exact Nat.le_refl _ | (simp; done) | (simp; omega) | omega) _))⟩
         simp [results, Tryz.results154, go_sem, hz])
      | (have hz := Blk.two (Blk.put2 (Blk.new w 150 #[.string ⟨#[]⟩, .bool false]) (.string (amt s)) (.bool true))
         refine bodyPost_ret (v := .tuple #[.agg #[.string (amt s), .bool true], .bool true]) ?_ rfl ⟨rfl, (by repeat (first | exact Below.refl _ _ | assumption | refine b_then ?_ (by assumption) | refine b_alloc ?_ _ | refine b_drewN ?_ _ | refine Below.drew ?_ | refine b_set ?_ (by first | exact Nat.le_refl _ | (simp; done) | (simp; omega) | omega) _))⟩
         simp [results, Tryz.results154, go_sem, hz])
set_option maxHeartbeats 400000 in
theorem w_may (s : ByteArray) (w : World) (hs : s.size ≤ 9223372036854775807) :
    Calls Tryz.prog 151 #[.string s] w fun e w' => e = .returned (.bool (isIB s)) ∧ Below w.heap.size w w' := by
  obtain ⟨x, y, hx⟩ : ∃ x y, wnum s = .agg #[.string x, .bool y] := by unfold wnum; split <;> exact ⟨_, _, rfl⟩
  have hr := w_read s w hs
  rw [hx] at hr
  go_enter Tryz.func151, Tryz.ntmps151
  go_wp2_with (go_at_call 154; (with_reducible refine (hr).mono ?_); rintro e w1 ⟨rfl, hb1⟩; obtain ⟨hc1, hf1⟩ := bcell hb1; have hs1 := hb1.size; (try simp at hs1))
  go_ret
  exact ⟨rfl, (by repeat (first | exact Below.refl _ _ | assumption | refine b_then ?_ (by assumption) | refine b_alloc ?_ _ | refine b_drewN ?_ _ | refine Below.drew ?_ | refine b_set ?_ (by first | exact Nat.le_refl _ | (simp; done) | (simp; omega) | omega) _))⟩
set_option maxHeartbeats 400000 in
theorem w_abs (z : Int) (w : World) (hs : (iS z).size ≤ 9223372036854775807) :
    Calls Tryz.prog 125 #[.string (iS z)] w fun e w' => e = .returned (.string (nS z.natAbs)) ∧ Below w.heap.size w w' := by
  have hr := w_read (iS z) w hs
  obtain ⟨h2, h3⟩ := amt_iS z
  rw [wnum, if_pos (isIB_iS z), h2, h3] at hr
  go_enter Tryz.func125, Tryz.ntmps125
  go_wp2_with (go_at_call 154; (with_reducible refine (hr).mono ?_); rintro e w1 ⟨rfl, hb1⟩; obtain ⟨hc1, hf1⟩ := bcell hb1; have hs1 := hb1.size; (try simp at hs1))
  go_ret
  exact ⟨rfl, (by repeat (first | exact Below.refl _ _ | assumption | refine b_then ?_ (by assumption) | refine b_alloc ?_ _ | refine b_drewN ?_ _ | refine Below.drew ?_ | refine b_set ?_ (by first | exact Nat.le_refl _ | (simp; done) | (simp; omega) | omega) _))⟩
theorem g_one : (⟨#[49]⟩ : ByteArray).toList = [49] := by rw [tl]
set_option maxHeartbeats 800000 in
theorem p_rmay (num den : ByteArray) (w : World) (hg : Glob w) (h1 : num.size ≤ 890000000) (h2 : den.size ≤ 890000000) :
    Calls Tryz.prog 124 #[.agg #[.string num, .string den]] w fun e w' => e = .returned (.bool (rmay ⟨num, den⟩)) ∧ Below w.heap.size w w' := by
  unfold rmay
  dsimp only
  have hG0 : Glob (w.alloc (.cells #[.string num, .string den] 39)) := hg.below (b_alloc (Below.refl _ _) _)
  by_cases c1 : isIB num = true
  · by_cases c2 : isNB den = true
    · by_cases c3 : (den.toList == [48]) = true
      · rw [c1, c2, c3]
        go_enter Tryz.func124, Tryz.ntmps124
        go_wp2
        (refine wp_region_after (by kernel_rfl) (by kernel_rfl) ?_; (repeat (first | go_big_quiet_skip | (go_big_quiet_want; go_big_quiet_op; first | go_big_quiet_on | (apply Exists.intro; refine ⟨fun _ => ?_, ?_⟩; (focus (first | (go_at_call 151; with_reducible exact Calls.after_of (w_may _ _ (by omega)) (congrArg Value.bool c1)) | (go_at_call 152; with_reducible exact Calls.after_same_of (n_may _ _ (by omega)) (congrArg Value.bool c2)))); go_big_quiet_on)))); refine wpQuiet_nil ?_; rintro w1 ⟨⟨_, hb1⟩, rfl⟩; (try dsimp only); obtain ⟨hc1, hf1⟩ := bcell hb1; have hs1 := hb1.size; (try simp at hs1))
        go_wp2
        go_ret
        exact ⟨rfl, (by repeat (first | exact Below.refl _ _ | assumption | refine b_then ?_ (by assumption) | refine b_alloc ?_ _ | refine b_drewN ?_ _ | refine Below.drew ?_ | refine b_set ?_ (by first | exact Nat.le_refl _ | (simp; done) | (simp; omega) | omega) _))⟩
      · simp only [Bool.not_eq_true] at c3
        obtain ⟨z, rfl⟩ := isIB_of c1
        obtain ⟨n, rfl⟩ := isNB_of c2
        have hz : ndg z.natAbs ≤ 890000000 := by rw [iS_size] at h1; omega
        have hn : ndg n ≤ 890000000 := by rw [nS_size] at h2; exact h2
        rw [c1, c2, c3, show rnum ⟨iS z, nS n⟩ = z from ival_itx z, show rden ⟨iS z, nS n⟩ = n from nval_ntx n, ← one_eq]
        go_enter Tryz.func124, Tryz.ntmps124
        go_wp2
        (refine wp_region_after (by kernel_rfl) (by kernel_rfl) ?_; (repeat (first | go_big_quiet_skip | (go_big_quiet_want; go_big_quiet_op; first | go_big_quiet_on | (apply Exists.intro; refine ⟨fun _ => ?_, ?_⟩; (focus (first | (go_at_call 151; with_reducible exact Calls.after_of (w_may _ _ (by omega)) (congrArg Value.bool c1)) | (go_at_call 152; with_reducible exact Calls.after_same_of (n_may _ _ (by omega)) (congrArg Value.bool c2)) | (go_at_call 125; exact Calls.after (w_abs _ _ (by omega))) | (go_at_call 153; exact Calls.after (n_gcd _ _ _ (hG0.below (After.h _)) hz hn)))); go_big_quiet_on)))); refine wpQuiet_nil ?_; rintro w1 ⟨⟨_, hb1⟩, rfl⟩; (try dsimp only); obtain ⟨hc1, hf1⟩ := bcell hb1; have hs1 := hb1.size; (try simp at hs1))
        go_wp2
        go_ret
        exact ⟨rfl, (by repeat (first | exact Below.refl _ _ | assumption | refine b_then ?_ (by assumption) | refine b_alloc ?_ _ | refine b_drewN ?_ _ | refine Below.drew ?_ | refine b_set ?_ (by first | exact Nat.le_refl _ | (simp; done) | (simp; omega) | omega) _))⟩
    · simp only [Bool.not_eq_true] at c2
      rw [c1, c2]
      go_enter Tryz.func124, Tryz.ntmps124
      go_wp2
      (refine wp_region_after (by kernel_rfl) (by kernel_rfl) ?_; (repeat (first | go_big_quiet_skip | (go_big_quiet_want; go_big_quiet_op; first | go_big_quiet_on | (apply Exists.intro; refine ⟨fun _ => ?_, ?_⟩; (focus (first | (go_at_call 151; with_reducible exact Calls.after_of (w_may _ _ (by omega)) (congrArg Value.bool c1)) | (go_at_call 152; with_reducible exact Calls.after_same_of (n_may _ _ (by omega)) (congrArg Value.bool c2)))); go_big_quiet_on)))); refine wpQuiet_nil ?_; rintro w1 ⟨⟨_, hb1⟩, rfl⟩; (try dsimp only); obtain ⟨hc1, hf1⟩ := bcell hb1; have hs1 := hb1.size; (try simp at hs1))
      go_wp2
      go_ret
      exact ⟨rfl, (by repeat (first | exact Below.refl _ _ | assumption | refine b_then ?_ (by assumption) | refine b_alloc ?_ _ | refine b_drewN ?_ _ | refine Below.drew ?_ | refine b_set ?_ (by first | exact Nat.le_refl _ | (simp; done) | (simp; omega) | omega) _))⟩
  · simp only [Bool.not_eq_true] at c1
    rw [c1]
    go_enter Tryz.func124, Tryz.ntmps124
    go_wp2
    (refine wp_region_after (by kernel_rfl) (by kernel_rfl) ?_; (repeat (first | go_big_quiet_skip | (go_big_quiet_want; go_big_quiet_op; first | go_big_quiet_on | (apply Exists.intro; refine ⟨fun _ => ?_, ?_⟩; (focus (first | (go_at_call 151; with_reducible exact Calls.after_of (w_may _ _ (by omega)) (congrArg Value.bool c1)) | (go_at_call 152; with_reducible exact Calls.after_same_of (n_may _ _ (by omega)) (congrArg Value.bool c2)))); go_big_quiet_on)))); refine wpQuiet_nil ?_; rintro w1 ⟨⟨_, hb1⟩, rfl⟩; (try dsimp only); obtain ⟨hc1, hf1⟩ := bcell hb1; have hs1 := hb1.size; (try simp at hs1))
    go_wp2
    go_ret
    exact ⟨rfl, (by repeat (first | exact Below.refl _ _ | assumption | refine b_then ?_ (by assumption) | refine b_alloc ?_ _ | refine b_drewN ?_ _ | refine Below.drew ?_ | refine b_set ?_ (by first | exact Nat.le_refl _ | (simp; done) | (simp; omega) | omega) _))⟩
end Go.Proofs.YtjdofncognaaoaaGreatDoor

/- A region that draws its order: quiet operations, and behind them some in one forced order. -/
namespace Go.Proofs.YtjdofncognaaoaaGreatDoor
open Go Go.RowKit
set_option linter.unusedVariables false
set_option linter.unusedSimpArgs false

section
variable {P : Program} {ops : Array Oper} {C : World → Prop}
/-- Whatever comes up is one of the first n, and quiet in C; at last L. -/
def ahd (P : Program) (ops : Array Oper) (C : World → Prop) (n : Nat) (L : Array Bool → Act → Prop) : Nat → Array Bool → Act → Prop
  | 0, s, a => L s a
  | f + 1, s, a => Region.ready .any ops s ≠ [] ∧ ∀ i, i ∈ Region.ready .any ops s → i < n ∧ qOp P ops C i (ahd P ops C n L f (s.setIfInBounds i true)) a
theorem ahd_any {n g : Nat} {L : Array Bool → Act → Prop} {Q : Exit → Act → World → Prop} (hL : ∀ s a w, C w → L s a → wpAny P .any ops Q g s a w) :
    ∀ (f : Nat) (s : Array Bool) (a : Act) (w : World), C w → ahd P ops C n L f s a → wpAny P .any ops Q (g + f) s a w
  | 0, s, a, w, hw, h => hL s a w hw h
  | f + 1, s, a, w, hw, h => ⟨fun h0 => (h.1 h0).elim, fun i hi => wpOp_of_qOp hw (fun a' w' k h' => ahd_any hL f _ a' w' k h') (h.2 i hi).2⟩
theorem ahd_one {n i : Nat} {oi : Oper} {v : Value} {L : Array Bool → Act → Prop} (hi : ops[i]? = some oi) (hsel : Region.noSelect ops = true) (hs : Region.sinkB .any ops n = true) (hc : Region.chainB .any ops n = true) (hn : n < ops.size) (hin : i < n)
    (hL : ∀ s a, L s a → ∀ j ∈ Region.ready .any ops s, n ≤ j) : ∀ (f : Nat) (s : Array Bool) (a : Act), HeadInv .any ops n s →
      (∀ j oj, ops[j]? = some oj → j ≠ i → s.getD j true = false → (∀ e ∈ oj.after, Region.binds .any e = true → e.on ≠ i) → oi.apart ops oj = true) →
      i ∈ Region.ready .any ops s → YieldsIn P ops C oi v a → ahd P ops C n L f (s.setIfInBounds i true) (a.put oi.dst v) → ahd P ops C n L (f + 1) s a := by
  intro f
  induction f with
  | zero =>
    intro s a inv hfree hr hy H
    refine ⟨List.ne_nil_of_mem hr, fun j hj => ?_⟩
    have hjn : j < n := Nat.lt_of_not_le fun h => tail_waits hs hc hn inv _ i rfl hin (mem_ready.1 hr).1 j h hj
    refine ⟨hjn, ?_⟩
    by_cases e : j = i
    · cases e; exact hy.qOp hi H
    · exact absurd (hL _ _ H j (ready_mono hj e)) (by omega)
  | succ f ih =>
    intro s a inv hfree hr hy H
    refine ⟨List.ne_nil_of_mem hr, fun j hj => ?_⟩
    have hun := (mem_ready.1 hr).1
    have hjn : j < n := Nat.lt_of_not_le fun h => tail_waits hs hc hn inv _ i rfl hin hun j h hj
    refine ⟨hjn, ?_⟩
    by_cases e : j = i
    · cases e; exact hy.qOp hi H
    · obtain ⟨hju, oj, hoj, hall⟩ := mem_ready.1 hj
      have hno : ∀ d ∈ oj.after, Region.binds .any d = true → d.on ≠ i := by
        intro d hd hb he
        have := hall d hd hb
        rw [he, getD_both hun] at this
        exact Bool.false_ne_true this
      have sel := Region.noSelect_spec hsel
      have h2 := qOp_put hoj (hfree j oj hoj e hju hno) (fun cs b => sel i oi cs b hi) (fun cs b => sel j oj cs b hoj) hy (H.2 j (ready_mono hj e)).2
      refine qOp_mono (fun a' h3 => ih _ a' (inv.set hj hjn) ?_ (ready_mono hr (Ne.symm e)) h3.1 ?_) h2
      · intro k ok hk hki hu hw
        refine hfree k ok hk hki ?_ hw
        by_cases hjk : j = k
        · cases hjk; exact hju
        · rwa [getD_set_ne true hjk] at hu
      · rw [Array.setIfInBounds_comm _ _ e]
        exact h3.2
theorem ahd_lex {n g : Nat} {K : Act → Prop} (hsel : Region.noSelect ops = true) (hs : Region.sinkB .any ops n = true) (hc : Region.chainB .any ops n = true) (hn : n < ops.size) :
    ∀ (l : List Oper) (k : Nat) (s : Array Bool) (a : Act), (∀ j, j < l.length → l[j]? = ops[k + j]?) → k + l.length = n → HeadInv .any ops n s → Region.lexHead .any ops g l.length k s = true → wpQuiet P ops C K l a →
      ahd P ops C n (fun s' a' => Region.seqB .any ops g n s' = true ∧ K a') l.length s a := by
  intro l
  induction l with
  | nil =>
    intro k s a _ hk _ hB h
    have hk' : k = n := by simpa using hk
    cases hk'
    exact ⟨by simpa [Region.lexHead] using hB, h⟩
  | cons o l ih =>
    intro k s a hl hk inv hB h
    have h0 : ops[k]? = some o := by simpa using (hl 0 (by simp)).symm
    simp only [List.length_cons, Region.lexHead, Bool.and_eq_true] at hB
    rw [List.length_cons] at hk
    have hr : k ∈ Region.ready .any ops s := by simpa using hB.1.1
    have hq : qOp P ops C k (wpQuiet P ops C K l) a := by unfold qOp; simp only [h0]; exact h
    obtain ⟨v, hy, hK⟩ := yieldsIn_of_qOp h0 hq
    refine ahd_one h0 hsel hs hc hn (by omega) (fun s' a' hL => seqB_ready hL.1) l.length s a inv (Region.free_spec h0 hB.1.2) hr hy ?_
    exact ih (k + 1) _ _ (fun j hj => by have := hl (j + 1) (by simp; omega); simpa [Nat.add_assoc, Nat.add_comm 1 j] using this) (by omega) (inv.set hr (by omega)) hB.2 hK
theorem wp_region_ahead {id : Nat} {Q : Exit → Act → World → Prop} {a : Act} {w : World} {l : List Oper} (n : Nat) (hm : P.follows .mixedOrders = true) (hB : Region.lexTailB .any l.toArray n = true)
    (h : wpQuiet P l.toArray (fun w' => ∃ x : After w, w' = x.W) (fun a' => ∀ x : After w, wpList P l.toArray Q (l.drop n) a' x.W) (l.take n) a) : (Code.region id l.toArray true).wp P Q a w := by
  simp only [Region.lexTailB, Bool.and_eq_true, decide_eq_true_eq] at hB
  obtain ⟨⟨⟨⟨hsel, hn⟩, hs⟩, hc⟩, hlex⟩ := hB
  have hn' : n < l.length := by simpa using hn
  have htl : (l.take n).length = n := by simp; omega
  have hdl : (l.drop n).length = l.toArray.size - n := by simp
  have inv : HeadInv .any l.toArray n (Array.replicate l.toArray.size false) :=
    ⟨by simp, fun j oj _ hl => (by rw [getD_replicate_false] at hl; cases hl), fun t _ ht => getD_in (by simpa using ht) (getD_replicate_false _ _)⟩
  have H := ahd_lex (g := l.toArray.size - n) hsel hs hc hn (l.take n) 0 _ a (fun j hj => by
    have : j < n := by rwa [htl] at hj
    simp [this]) (by simpa using htl) inv (by rw [htl]; exact hlex) h
  refine wp_region_any hm ?_
  have R := ahd_any (Q := Q) (g := l.toArray.size - n) (fun s a' w' hw hL => by
    obtain ⟨x, rfl⟩ := hw
    have := wpAny_of_seq (md := .any) (Q' := Q) (l.drop n) n s a' x.W (fun j => by simp [List.getElem?_drop]) (by rw [hdl]; exact hL.1) (hL.2 x)
    rwa [hdl] at this) _ _ _ _ ⟨⟨w.drewN 1, b_drewN (Below.refl _ _) 1⟩, rfl⟩ H
  rw [htl, show l.toArray.size - n + n = l.toArray.size by omega] at R
  exact R
end
end Go.Proofs.YtjdofncognaaoaaGreatDoor
