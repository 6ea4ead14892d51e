/- Fractions as pairs of texts: plain lemmas. -/
import Derived.Test.YtpoejheienohjaaGreatDoorText
namespace Go.Proofs.YtpoejheienohjaaGreatDoor
set_option linter.unusedVariables false
set_option linter.unusedSimpArgs false

/-- A pair of texts: api.Rat as it lies. -/
structure RT where
  num : ByteArray
  den : ByteArray
  deriving DecidableEq
def RT.v (x : RT) : Value := .agg #[.string x.num, .string x.den]
def RT.cs (x : RT) : List Value := [.string x.num, .string x.den]
def rzero : RT := ⟨⟨#[]⟩, ⟨#[]⟩⟩
/-- The fraction's one form. -/
def enc (q : Rat) : RT := ⟨iS q.num, nS q.den⟩
def rden (x : RT) : Nat := nval x.den.data.toList
def rnum (x : RT) : Int := ival x.num.data.toList
def rmay (x : RT) : Bool := isIB x.num && (isNB x.den && (!(x.den.toList == [48]) && (Nat.gcd (rnum x).natAbs (rden x) == 1)))
theorem enc_inj {p q : Rat} (h : enc p = enc q) : p = q := by
  injection h with h1 h2
  exact Rat.ext (iS_inj h1) (nS_inj h2)
theorem rmay_enc (q : Rat) : rmay (enc q) = true := by
  simp only [rmay, enc, isIB_iS, isNB_nS, Bool.true_and, rnum, rden, iS_l, nS_l, ival_itx, nval_ntx, nS_t, Bool.and_eq_true, Bool.not_eq_true', beq_eq_false_iff_ne, beq_iff_eq]
  exact ⟨fun e => q.den_nz (ntx_eq_zero.1 e), q.reduced⟩
theorem rmay_of {x : RT} (h : rmay x = true) : ∃ q, x = enc q := by
  simp only [rmay, Bool.and_eq_true, Bool.not_eq_true', beq_eq_false_iff_ne, beq_iff_eq] at h
  obtain ⟨h1, h2, h3, h4⟩ := h
  obtain ⟨z, hz⟩ := isIB_of h1
  obtain ⟨n, hn⟩ := isNB_of h2
  rw [hn, nS_t] at h3
  have hn0 : n ≠ 0 := fun e => h3 (ntx_eq_zero.2 e)
  simp only [rnum, rden, hz, hn, iS_l, nS_l, ival_itx, nval_ntx] at h4
  refine ⟨⟨z, n, hn0, h4⟩, ?_⟩
  cases x
  simp only at hz hn
  subst hz; subst hn; rfl
/-- The number that a pair is (0, if it is none). -/
def dec (x : RT) : Rat := if h : rmay x = true then mkRat (rnum x) (rden x) else 0
theorem dec_enc (q : Rat) : dec (enc q) = q := by
  rw [dec, dif_pos (rmay_enc q)]
  simp only [rnum, rden, enc, iS_l, nS_l, ival_itx, nval_ntx]
  exact Rat.mkRat_self q
theorem enc_dec {x : RT} (h : rmay x = true) : enc (dec x) = x := by
  obtain ⟨q, rfl⟩ := rmay_of h
  rw [dec_enc]
/-- How many digits there are at most. -/
def rsz (x : RT) : Nat := max x.num.size x.den.size
theorem rt_eq {x y : RT} : x = y ↔ x.num = y.num ∧ x.den = y.den := by
  cases x; cases y; simp
theorem s_eq {a b : ByteArray} : a = b ↔ a.toList = b.toList := by
  constructor
  · intro h; rw [h]
  · intro h; rw [tl, tl] at h; exact s_ext h
end Go.Proofs.YtpoejheienohjaaGreatDoor
