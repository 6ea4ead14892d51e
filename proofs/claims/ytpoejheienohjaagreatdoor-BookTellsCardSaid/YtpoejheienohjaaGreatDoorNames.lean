/- Names, fixes: plain lemmas. -/
import Derived.Test.YtpoejheienohjaaGreatDoorRat
namespace Go.Proofs.YtpoejheienohjaaGreatDoor
set_option linter.unusedVariables false
set_option linter.unusedSimpArgs false

def nmc (c : UInt8) : Bool := (97 ≤ c.toNat && c.toNat ≤ 122) || (48 ≤ c.toNat && c.toNat ≤ 57)
/-- A name's letters: the first one may be an exclamation mark. -/
def nmAll : List UInt8 → Bool
  | 33 :: t => t.all nmc
  | l => l.all nmc
def isName (s : ByteArray) : Bool := nmAll s.data.toList && (decide (1 ≤ s.size) && decide (s.size ≤ 20))
def nmAt (i : Nat) (c : UInt8) : Bool := nmc c || (i == 0 && c.toNat == 33)
theorem nmAll_iff (l : List UInt8) : nmAll l = true ↔ ∀ (i : Nat) c, l[i]? = some c → nmAt i c = true := by
  have h0 : ∀ (l : List UInt8), (l.all nmc = true ↔ ∀ (i : Nat) c, l[i]? = some c → nmc c = true) := by
    intro l
    rw [List.all_eq_true]
    constructor
    · intro h i c hc; exact h c (List.mem_of_getElem? hc)
    · intro h c hc
      obtain ⟨i, hi, rfl⟩ := List.mem_iff_getElem.1 hc
      exact h i _ (List.getElem?_eq_getElem hi)
  have key : ∀ c t, (c ≠ 33 → ((c :: t).all nmc = true ↔ ∀ (i : Nat) d, (c :: t)[i]? = some d → nmAt i d = true)) := by
    intro c t hc
    rw [h0]
    constructor
    · intro h i d hd; simp [nmAt, h i d hd]
    · intro h i d hd
      have := h i d hd
      unfold nmAt at this
      cases i with
      | zero =>
        have e : c = d := by simpa using hd
        subst e
        have h3 : (c.toNat == 33) = false := by
          rw [beq_eq_false_iff_ne]; intro e; exact hc (UInt8.toNat_inj.1 (by rw [e]; rfl))
        simpa [h3] using this
      | succ i => simpa using this
  cases l with
  | nil => simp [nmAll]
  | cons c t =>
    by_cases hc : c = 33
    · subst hc
      simp only [nmAll, h0]
      constructor
      · intro h i d hd
        cases i with
        | zero =>
          have e : (33 : UInt8) = d := by simpa using hd
          subst e; rfl
        | succ i => simp [nmAt, h i d (by simpa using hd)]
      · intro h i d hd
        have := h (i + 1) d (by simpa using hd)
        simpa [nmAt] using this
    · rw [show nmAll (c :: t) = (c :: t).all nmc by unfold nmAll; split <;> simp_all]
      exact key c t hc
def nmUpto (s : ByteArray) (k : Nat) : Prop := ∀ j, (h : j < s.size) → j < k → nmAt j s[j] = true
theorem nmUpto_succ {s : ByteArray} {k : Nat} (h : nmUpto s k) (hk : k < s.size) (h1 : nmAt k s[k] = true) : nmUpto s (k + 1) := by
  intro j hj hjk
  by_cases e : j = k
  · subst e; exact h1
  · exact h j hj (by omega)
theorem isName_no {s : ByteArray} {k : Nat} (hk : k < s.size) (h : nmAt k s[k] = false) : isName s = false := by
  rw [← Bool.not_eq_true]
  intro e
  simp only [isName, Bool.and_eq_true] at e
  have := (nmAll_iff _).1 e.1 k _ (s_at s k hk)
  rw [h] at this; cases this
theorem isName_all {s : ByteArray} (h : nmUpto s s.size) : isName s = (decide (1 ≤ s.size) && decide (s.size ≤ 20)) := by
  have : nmAll s.data.toList = true := by
    rw [nmAll_iff]
    intro i c hc
    have hi : i < s.size := by rw [sz]; exact (List.getElem?_eq_some_iff.1 hc).1
    rw [s_at s i hi] at hc
    rw [← Option.some.inj hc]
    exact h i hi hi
  simp [isName, this]
theorem nmAt_no {k : Nat} {c : UInt8} (h : ((c.toNat : Int) < 97 ∨ 122 < (c.toNat : Int)) ∧ ((c.toNat : Int) < 48 ∨ 57 < (c.toNat : Int)) ∧ (¬ (c.toNat : Int) = 33 ∨ 0 < k)) : nmAt k c = false := by
  obtain ⟨h1, h2, h3⟩ := h
  simp only [nmAt, nmc, Bool.or_eq_false_iff, Bool.and_eq_false_iff, decide_eq_false_iff_not, beq_eq_false_iff_ne, ne_eq]
  omega
theorem nmAt_yes {k : Nat} {c : UInt8} (h : ((97 : Int) ≤ (c.toNat : Int) ∧ (c.toNat : Int) ≤ 122) ∨ ((48 : Int) ≤ (c.toNat : Int) ∧ (c.toNat : Int) ≤ 57) ∨ ((c.toNat : Int) = 33 ∧ ¬ 0 < k)) : nmAt k c = true := by
  simp only [nmAt, nmc, Bool.or_eq_true, Bool.and_eq_true, decide_eq_true_eq, beq_iff_eq]
  omega
theorem isName_size {s : ByteArray} (h : isName s = true) : 1 ≤ s.size ∧ s.size ≤ 20 := by
  simp only [isName, Bool.and_eq_true, decide_eq_true_eq] at h; exact h.2

/-! ### Prices -/
structure Fx where
  asset : ByteArray
  day : Int
  p : RT
  deriving DecidableEq
def Fx.v (f : Fx) : Value := .agg #[.string f.asset, .int .i64 f.day, .string f.p.num, .string f.p.den]
def Fx.cs (f : Fx) : List Value := [.string f.asset, .int .i64 f.day, .string f.p.num, .string f.p.den]
/-- Bytes by bytes, the lesser one first. -/
def slt (a b : ByteArray) : Bool := Op.bytesLess a.toList b.toList
def fahead (a b : Fx) : Bool := slt a.asset b.asset || (a.asset.toList == b.asset.toList && decide (a.day < b.day))
def fone (f : Fx) : Bool := isName f.asset && (decide (0 ≤ f.day) && (decide (f.day ≤ 9999) && rmay f.p))
/-- A list that rises. -/
def rises {α : Type} (lt : α → α → Bool) : List α → Bool
  | a :: b :: l => lt a b && rises lt (b :: l)
  | _ => true
theorem rises_iff {α : Type} (lt : α → α → Bool) (l : List α) : rises lt l = true ↔ ∀ (i : Nat) a b, l[i]? = some a → l[i + 1]? = some b → lt a b = true := by
  induction l with
  | nil => simp [rises]
  | cons a l ih =>
    cases l with
    | nil => simp [rises]
    | cons b l =>
      simp only [rises, Bool.and_eq_true, ih]
      constructor
      · rintro ⟨h1, h2⟩ i x y hx hy
        cases i with
        | zero => simp at hx hy; subst hx; subst hy; exact h1
        | succ i => exact h2 i x y (by simpa using hx) (by simpa using hy)
      · intro h
        exact ⟨h 0 a b rfl rfl, fun i x y hx hy => h (i + 1) x y (by simpa using hx) (by simpa using hy)⟩
theorem rises_take_zero {α : Type} {lt : α → α → Bool} {l : List α} : rises lt (l.take 0) = true := by simp [rises]
theorem rises_take_one {α : Type} {lt : α → α → Bool} {l : List α} : rises lt (l.take 1) = true := by
  cases l <;> simp [rises]
theorem rises_take_succ {α : Type} {lt : α → α → Bool} {l : List α} {k : Nat} {a b : α} (h : rises lt (l.take k) = true) (hk : 0 < k) (ha : l[k - 1]? = some a) (hb : l[k]? = some b) (hab : lt a b = true) : rises lt (l.take (k + 1)) = true := by
  rw [rises_iff] at h ⊢
  intro i x y hx hy
  rw [List.getElem?_take] at hx hy
  split at hx <;> split at hy
  · by_cases e : i + 1 = k
    · rw [← e] at hb
      rw [show k - 1 = i by omega] at ha
      rw [hx] at ha; rw [hy] at hb
      cases ha; cases hb; exact hab
    · exact h i x y (by rw [List.getElem?_take, if_pos (by omega)]; exact hx) (by rw [List.getElem?_take, if_pos (by omega)]; exact hy)
  · cases hy
  · cases hx
  · cases hx
theorem rises_no {α : Type} {lt : α → α → Bool} {l : List α} {k : Nat} {a b : α} (hk : 0 < k) (ha : l[k - 1]? = some a) (hb : l[k]? = some b) (hab : lt a b = false) : rises lt l = false := by
  rw [← Bool.not_eq_true, rises_iff]
  intro h
  have := h (k - 1) a b ha (by rw [show k - 1 + 1 = k by omega]; exact hb)
  rw [hab] at this; cases this
theorem all_take_succ {α : Type} {p : α → Bool} {l : List α} {k : Nat} {a : α} (h : (l.take k).all p = true) (ha : l[k]? = some a) (hp : p a = true) : (l.take (k + 1)).all p = true := by
  rw [List.take_add_one, ha, List.all_append, h]; simpa using hp
theorem all_no {α : Type} {p : α → Bool} {l : List α} {k : Nat} {a : α} (ha : l[k]? = some a) (hp : p a = false) : l.all p = false := by
  rw [← Bool.not_eq_true, List.all_eq_true]
  intro h
  have := h a (List.mem_of_getElem? ha)
  rw [hp] at this; cases this
def fmay (l : List Fx) : Bool := l.all fone && rises fahead l
theorem fmay_first {l : List Fx} {a : Fx} (ha : l[0]? = some a) (h1 : fone a = true) : fmay (l.take 1) = true := by
  rw [fmay, Bool.and_eq_true]
  exact ⟨all_take_succ (k := 0) (by simp) ha h1, rises_take_one⟩
theorem fmay_first' {l : List Fx} {k : Nat} {a : Fx} (hk : k = 0) (ha : l[k]? = some a) (h1 : fone a = true) : fmay (l.take (k + 1)) = true := by subst hk; exact fmay_first ha h1
theorem fmay_next {l : List Fx} {k : Nat} {a b : Fx} (h : fmay (l.take k) = true) (hk : 0 < k) (ha : l[k - 1]? = some a) (hb : l[k]? = some b) (h1 : fone b = true) (h2 : fahead a b = true) : fmay (l.take (k + 1)) = true := by
  rw [fmay, Bool.and_eq_true] at h ⊢
  exact ⟨all_take_succ h.1 hb h1, rises_take_succ h.2 hk ha hb h2⟩
theorem fmay_bad {l : List Fx} {k : Nat} {a : Fx} (ha : l[k]? = some a) (h1 : fone a = false) : fmay l = false := by
  rw [fmay, all_no ha h1]; rfl
theorem fmay_back {l : List Fx} {k : Nat} {a b : Fx} (hk : 0 < k) (ha : l[k - 1]? = some a) (hb : l[k]? = some b) (h2 : fahead a b = false) : fmay l = false := by
  rw [fmay, rises_no hk ha hb h2, Bool.and_false]
end Go.Proofs.YtpoejheienohjaaGreatDoor
