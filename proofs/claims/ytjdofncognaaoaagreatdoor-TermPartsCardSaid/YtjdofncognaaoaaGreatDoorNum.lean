/- Naturals and whole numbers as texts of decimal digits: plain lemmas, no program in sight. -/
import Derived.Test.YtjdofncognaaoaaGreatDoorProg
import Derived.WalkKit
import Derived.Below
import Derived.Deep.QuietTactic
import Derived.BigQuiet
import Derived.WalkLawsBesides
import Derived.WalkSpells
import Derived.Lib.Hide
import Derived.Laws.MakeOwn
import Derived.Laws.BytesArg
import Derived.Laws.Rows
import Derived.Laws.IdiomStrings
import Derived.Laws.OwnMore
import Derived.Outline
import Derived.Maps.AppendAt
import Derived.RegionTactic
namespace Go.Proofs.YtjdofncognaaoaaGreatDoor
set_option linter.unusedVariables false
set_option linter.unusedSimpArgs false

/-! ### Digits -/
def dg (d : Nat) : UInt8 := UInt8.ofNat (48 + d)
def isDg (c : UInt8) : Bool := 48 ≤ c.toNat && c.toNat ≤ 57
theorem dg_toNat {d : Nat} (h : d < 10) : (dg d).toNat = 48 + d := by
  unfold dg; rw [UInt8.toNat_ofNat']; omega
theorem isDg_dg {d : Nat} (h : d < 10) : isDg (dg d) = true := by
  unfold isDg; rw [dg_toNat h]; simp; omega
theorem dg_of {c : UInt8} (h : isDg c = true) : dg (c.toNat - 48) = c := by
  unfold isDg at h; simp at h
  apply UInt8.toNat_inj.1
  rw [dg_toNat (by omega)]; omega
theorem dg_inj {a b : Nat} (ha : a < 10) (hb : b < 10) (h : dg a = dg b) : a = b := by
  have := congrArg UInt8.toNat h
  rw [dg_toNat ha, dg_toNat hb] at this; omega

/-- The k lowest digits of n, the highest one first. -/
def fdg : Nat → Nat → List UInt8
  | 0, _ => []
  | k + 1, n => fdg k (n / 10) ++ [dg (n % 10)]
theorem fdg_length (k n : Nat) : (fdg k n).length = k := by
  induction k generalizing n with
  | zero => rfl
  | succ k ih => simp [fdg, ih]
/-- How many digits a natural has. -/
def nlen : Nat → Nat → Nat
  | 0, _ => 0
  | k + 1, n => if n < 10 then 1 else nlen k (n / 10) + 1
def ndg (n : Nat) : Nat := nlen (n + 1) n
theorem nlen_any : ∀ (k j n : Nat), n < k → n < j → nlen k n = nlen j n
  | 0, _, _, h, _ => by omega
  | _ + 1, 0, _, _, h => by omega
  | k + 1, j + 1, n, h1, h2 => by
    simp only [nlen]
    split
    · rfl
    · rw [nlen_any k j (n / 10) (by omega) (by omega)]
theorem ndg_small {n : Nat} (h : n < 10) : ndg n = 1 := by simp [ndg, nlen, h]
theorem ndg_big {n : Nat} (h : 10 ≤ n) : ndg n = ndg (n / 10) + 1 := by
  unfold ndg
  rw [show nlen (n + 1) n = if n < 10 then 1 else nlen n (n / 10) + 1 from rfl, if_neg (by omega)]
  rw [nlen_any n (n / 10 + 1) (n / 10) (by omega) (by omega)]
theorem ndg_pos (n : Nat) : 1 ≤ ndg n := by
  by_cases h : n < 10
  · rw [ndg_small h]; omega
  · rw [ndg_big (by omega)]; omega
theorem ndg_lt (n : Nat) : n < 10 ^ ndg n := by
  induction n using Nat.strongRecOn with
  | _ n ih =>
    by_cases h : n < 10
    · rw [ndg_small h]; simpa using h
    · rw [ndg_big (by omega), Nat.pow_succ]
      have := ih (n / 10) (by omega)
      omega
theorem ndg_le (n : Nat) (h : 0 < n) : 10 ^ (ndg n - 1) ≤ n := by
  induction n using Nat.strongRecOn with
  | _ n ih =>
    by_cases h' : n < 10
    · rw [ndg_small h']; simp; omega
    · rw [ndg_big (by omega)]
      have := ih (n / 10) (by omega) (by omega)
      have hp := ndg_pos (n / 10)
      have : 10 ^ (ndg (n / 10) + 1 - 1) = 10 * 10 ^ (ndg (n / 10) - 1) := by
        rw [show ndg (n / 10) + 1 - 1 = (ndg (n / 10) - 1) + 1 by omega, Nat.pow_succ]; omega
      omega
theorem ndg_le_of {n k : Nat} (hk : 1 ≤ k) (h : n < 10 ^ k) : ndg n ≤ k := by
  rcases Nat.eq_zero_or_pos n with rfl | hp
  · rw [ndg_small (by omega)]; exact hk
  · have h1 := ndg_le n hp
    have h2 : 10 ^ (ndg n - 1) < 10 ^ k := Nat.lt_of_le_of_lt h1 h
    have h3 := (Nat.pow_lt_pow_iff_right (a := 10) (by omega)).1 h2
    omega
theorem lt_of_ndg {n k : Nat} (h : ndg n ≤ k) : n < 10 ^ k := Nat.lt_of_lt_of_le (ndg_lt n) (Nat.pow_le_pow_right (by omega) h)
theorem ndg_mono {m n : Nat} (h : m ≤ n) : ndg m ≤ ndg n := ndg_le_of (ndg_pos n) (Nat.lt_of_le_of_lt h (ndg_lt n))
theorem ndg_add (m n : Nat) : ndg (m + n) ≤ max (ndg m) (ndg n) + 1 := by
  apply ndg_le_of (by omega)
  rw [Nat.pow_succ]
  have h1 := lt_of_ndg (n := m) (k := max (ndg m) (ndg n)) (by omega)
  have h2 := lt_of_ndg (n := n) (k := max (ndg m) (ndg n)) (by omega)
  omega
theorem ndg_mul (m n : Nat) : ndg (m * n) ≤ ndg m + ndg n := by
  apply ndg_le_of (by have := ndg_pos m; omega)
  rw [Nat.pow_add]
  exact Nat.mul_lt_mul'' (ndg_lt m) (ndg_lt n)

/-- A natural's text. -/
def ntx (n : Nat) : List UInt8 := fdg (ndg n) n
theorem ntx_length (n : Nat) : (ntx n).length = ndg n := fdg_length _ _
theorem ntx_small {n : Nat} (h : n < 10) : ntx n = [dg n] := by
  simp [ntx, ndg_small h, fdg, Nat.mod_eq_of_lt h]
theorem ntx_big {n : Nat} (h : 10 ≤ n) : ntx n = ntx (n / 10) ++ [dg (n % 10)] := by
  simp [ntx, ndg_big h, fdg]
theorem ntx_ne_nil (n : Nat) : ntx n ≠ [] := by
  intro h; have := ntx_length n; rw [h] at this; have := ndg_pos n; simp at *; omega

/-! ### Values -/
def nval (l : List UInt8) : Nat := l.foldl (fun a c => 10 * a + (c.toNat - 48)) 0
theorem nval_snoc (l : List UInt8) (c : UInt8) : nval (l ++ [c]) = 10 * nval l + (c.toNat - 48) := by simp [nval]
theorem nval_nil : nval [] = 0 := rfl
theorem nval_fdg (k n : Nat) : nval (fdg k n) = n % 10 ^ k := by
  induction k generalizing n with
  | zero => simp [fdg, nval, Nat.mod_one]
  | succ k ih =>
    rw [fdg, nval_snoc, ih, dg_toNat (Nat.mod_lt _ (by omega)), Nat.pow_succ]
    have h := Nat.mod_mul (x := n) (a := 10) (b := 10 ^ k)
    rw [Nat.mul_comm (10 ^ k) 10, h]; omega
theorem nval_ntx (n : Nat) : nval (ntx n) = n := by
  rw [ntx, nval_fdg, Nat.mod_eq_of_lt (ndg_lt n)]
theorem ntx_inj {m n : Nat} (h : ntx m = ntx n) : m = n := by rw [← nval_ntx m, ← nval_ntx n, h]
theorem snoc_ind {α : Type} {p : List α → Prop} (h0 : p []) (h1 : ∀ l c, p l → p (l ++ [c])) (l : List α) : p l := by
  have : ∀ n (l : List α), l.length = n → p l := by
    intro n
    induction n with
    | zero => intro l h; rw [List.eq_nil_of_length_eq_zero h]; exact h0
    | succ n ih =>
      intro l h
      have hne : l ≠ [] := by intro e; rw [e] at h; simp at h
      rw [← List.dropLast_concat_getLast hne]
      exact h1 _ _ (ih _ (by simp [h]))
  exact this _ l rfl
theorem nval_lt (l : List UInt8) (h : ∀ c ∈ l, isDg c = true) : nval l < 10 ^ l.length := by
  induction l using snoc_ind with
  | h0 => simp [nval]
  | h1 l c ih =>
    rw [nval_snoc, List.length_append, List.length_singleton, Nat.pow_succ]
    have h1 := ih (fun x hx => h x (by simp [hx]))
    have h2 := h c (by simp)
    simp [isDg] at h2; omega
theorem fdg_nval (l : List UInt8) (h : ∀ c ∈ l, isDg c = true) : fdg l.length (nval l) = l := by
  induction l using snoc_ind with
  | h0 => rfl
  | h1 l c ih =>
    have h1 := ih (fun x hx => h x (by simp [hx]))
    have h2 := h c (by simp)
    have h3 : c.toNat - 48 < 10 := by simp [isDg] at h2; omega
    rw [List.length_append, List.length_singleton, fdg, nval_snoc,
      show (10 * nval l + (c.toNat - 48)) / 10 = nval l by omega, show (10 * nval l + (c.toNat - 48)) % 10 = c.toNat - 48 by omega, h1, dg_of h2]
theorem fdg_all (k n : Nat) : ∀ c ∈ fdg k n, isDg c = true := by
  induction k generalizing n with
  | zero => simp [fdg]
  | succ k ih =>
    intro c hc
    simp only [fdg, List.mem_append, List.mem_singleton] at hc
    rcases hc with hc | rfl
    · exact ih _ _ hc
    · exact isDg_dg (Nat.mod_lt _ (by omega))

/-- Is a text a natural? -/
def isN (l : List UInt8) : Bool := !l.isEmpty && l.all isDg && (l == [48] || l.head? != some 48)
theorem ntx_head (n : Nat) (h : 0 < n) : (ntx n).head? ≠ some 48 := by
  induction n using Nat.strongRecOn with
  | _ n ih =>
    by_cases h' : n < 10
    · rw [ntx_small h']
      simp only [List.head?_cons, ne_eq, Option.some.injEq]
      intro e
      have := congrArg UInt8.toNat e
      rw [dg_toNat h'] at this
      have : (48 : UInt8).toNat = 48 := rfl
      omega
    · rw [ntx_big (by omega), List.head?_append]
      have := ih (n / 10) (by omega) (by omega)
      cases hh : (ntx (n / 10)).head? with
      | none => exact absurd (List.head?_eq_none_iff.1 hh) (ntx_ne_nil _)
      | some c => rw [hh] at this; simpa using this
theorem ntx_zero : ntx 0 = [48] := rfl
theorem ntx_one : ntx 1 = [49] := rfl
theorem isN_ntx (n : Nat) : isN (ntx n) = true := by
  have h1 := ntx_ne_nil n
  have h2 : (ntx n).all isDg = true := by simp only [List.all_eq_true]; exact fdg_all _ _
  rcases Nat.eq_zero_or_pos n with rfl | hp
  · rfl
  · have h3 := ntx_head n hp
    simp [isN, h1, h2, h3]
theorem ntx_nval {l : List UInt8} (h : isN l = true) : ntx (nval l) = l := by
  simp only [isN, Bool.and_eq_true, Bool.or_eq_true, Bool.not_eq_true', List.isEmpty_eq_false_iff, List.all_eq_true, beq_iff_eq, bne_iff_ne] at h
  obtain ⟨⟨h1, h2⟩, h3⟩ := h
  rcases h3 with rfl | h3
  · rfl
  · have hf := fdg_nval l h2
    cases l with
    | nil => exact absurd rfl h1
    | cons c t =>
      have hc : isDg c = true := h2 c (by simp)
      have hge : 10 ^ t.length ≤ nval (c :: t) := by
        have hv : ∀ (t : List UInt8) (a : Nat), a * 10 ^ t.length ≤ t.foldl (fun a c => 10 * a + (c.toNat - 48)) a := by
          intro t
          induction t with
          | nil => intro a; simp
          | cons b t ih =>
            intro a
            simp only [List.foldl_cons, List.length_cons]
            refine Nat.le_trans ?_ (ih _)
            rw [Nat.pow_succ, Nat.add_mul]
            have : a * (10 ^ t.length * 10) = 10 * a * 10 ^ t.length := by rw [Nat.mul_comm (10 ^ t.length) 10, ← Nat.mul_assoc, Nat.mul_comm a 10]
            omega
        have := hv t (c.toNat - 48)
        have hc0 : 1 ≤ c.toNat - 48 := by
          simp only [isDg, Bool.and_eq_true, decide_eq_true_eq] at hc
          have : c ≠ 48 := by intro e; exact h3 (by simp [e])
          have : c.toNat ≠ 48 := fun e => this (UInt8.toNat_inj.1 (by rw [e]; rfl))
          omega
        simp only [nval, List.foldl_cons, Nat.mul_zero, Nat.zero_add]
        refine Nat.le_trans ?_ this
        exact Nat.le_mul_of_pos_left _ (by omega)
      have hlt := nval_lt _ h2
      have hn : ndg (nval (c :: t)) = (c :: t).length := by
        apply Nat.le_antisymm
        · exact ndg_le_of (by simp) hlt
        · have := ndg_lt (nval (c :: t))
          have h4 := Nat.lt_of_le_of_lt hge this
          have := (Nat.pow_lt_pow_iff_right (a := 10) (by omega)).1 h4
          simp; omega
      rw [ntx, hn, hf]
theorem isN_iff {l : List UInt8} : isN l = true ↔ ∃ n, l = ntx n := ⟨fun h => ⟨_, (ntx_nval h).symm⟩, fun ⟨n, h⟩ => h ▸ isN_ntx n⟩

/-! ### Order -/
theorem fdg_lt {k m n : Nat} (hm : m < 10 ^ k) (hn : n < 10 ^ k) : (fdg k m < fdg k n) ↔ m < n := by
  induction k generalizing m n with
  | zero => simp at hm hn; subst hm; subst hn; simp [fdg]
  | succ k ih =>
    rw [Nat.pow_succ] at hm hn
    have h1 := ih (m := m / 10) (n := n / 10) (by omega) (by omega)
    have h2 := ih (m := n / 10) (n := m / 10) (by omega) (by omega)
    have key : ∀ (a b : List UInt8) (x y : UInt8), a.length = b.length → (a ++ [x] < b ++ [y] ↔ a < b ∨ a = b ∧ x < y) := by
      intro a
      induction a with
      | nil => intro b x y h; cases b with
        | nil => simp [List.cons_lt_cons_iff]
        | cons => simp at h
      | cons u a ih => intro b x y hl; cases b with
        | nil => simp at hl
        | cons v b =>
          simp only [List.cons_append, List.cons_lt_cons_iff, ih b x y (by simpa using hl), List.cons.injEq]
          clear hl ih
          constructor
          · rintro (h | ⟨rfl, h | ⟨rfl, h⟩⟩)
            · exact .inl (.inl h)
            · exact .inl (.inr ⟨rfl, h⟩)
            · exact .inr ⟨⟨rfl, rfl⟩, h⟩
          · rintro ((h | ⟨rfl, h⟩) | ⟨⟨rfl, rfl⟩, h⟩)
            · exact .inl h
            · exact .inr ⟨rfl, .inl h⟩
            · exact .inr ⟨rfl, .inr ⟨rfl, h⟩⟩
    rw [fdg, fdg, key _ _ _ _ (by rw [fdg_length, fdg_length]), h1, UInt8.lt_iff_toNat_lt, dg_toNat (Nat.mod_lt _ (by omega)), dg_toNat (Nat.mod_lt _ (by omega))]
    constructor
    · rintro (h | ⟨h, h'⟩)
      · omega
      · have := congrArg nval h
        rw [nval_fdg, nval_fdg, Nat.mod_eq_of_lt (by omega), Nat.mod_eq_of_lt (by omega)] at this
        omega
    · intro h
      by_cases e : m / 10 = n / 10
      · exact .inr ⟨by rw [e], by omega⟩
      · exact .inl (by omega)
theorem ntx_lt_iff (m n : Nat) : m < n ↔ (ntx m).length < (ntx n).length ∨ (ntx m).length = (ntx n).length ∧ ntx m < ntx n := by
  rw [ntx_length, ntx_length]
  constructor
  · intro h
    rcases Nat.lt_or_eq_of_le (ndg_mono (Nat.le_of_lt h)) with h1 | h1
    · exact .inl h1
    · refine .inr ⟨h1, ?_⟩
      rw [ntx, ntx, h1]
      exact (fdg_lt (h1 ▸ ndg_lt m) (ndg_lt n)).2 h
  · rintro (h | ⟨h, h'⟩)
    · rcases Nat.lt_or_ge m n with h1 | h1
      · exact h1
      · have := ndg_mono h1; omega
    · rw [ntx, ntx, h] at h'
      exact (fdg_lt (h ▸ ndg_lt m) (ndg_lt n)).1 h'

/-! ### Leading zeros -/
/-- digits without needless zeros ahead -/
def ntrim : List UInt8 → List UInt8
  | [] => []
  | [c] => [c]
  | c :: d :: l => if c = 48 then ntrim (d :: l) else c :: d :: l
theorem nval_zero_cons (l : List UInt8) : nval (48 :: l) = nval l := by simp [nval]
theorem ntrim_digits (l : List UInt8) (h1 : l ≠ []) (h : ∀ c ∈ l, isDg c = true) : ntrim l = ntx (nval l) := by
  induction l with
  | nil => exact absurd rfl h1
  | cons c t ih =>
    cases t with
    | nil =>
      have hc := h c (by simp)
      have : nval [c] = c.toNat - 48 := by simp [nval]
      rw [ntrim, this, ntx_small (by simp [isDg] at hc; omega), dg_of hc]
    | cons d t =>
      rw [ntrim]
      split
      · rename_i e; subst e
        rw [nval_zero_cons]
        exact ih (by simp) (fun x hx => h x (by simp at hx ⊢; exact .inr hx))
      · rename_i e
        refine (ntx_nval ?_).symm
        simp only [isN, Bool.and_eq_true, Bool.or_eq_true, Bool.not_eq_true', List.isEmpty_eq_false_iff, List.all_eq_true, beq_iff_eq, bne_iff_ne]
        exact ⟨⟨by simp, h⟩, .inr (by simp [e])⟩

/-- The digit of place i, from behind. -/
def ndigit (n i : Nat) : Nat := n / 10 ^ i % 10
theorem fdg_get (k n i : Nat) (h : i < k) : (fdg k n)[k - 1 - i]? = some (dg (ndigit n i)) := by
  induction k generalizing n i with
  | zero => omega
  | succ k ih =>
    rw [fdg]
    rcases Nat.eq_zero_or_pos i with rfl | hi
    · rw [List.getElem?_append_right (by rw [fdg_length]; omega), fdg_length]
      simp [ndigit]
    · rw [List.getElem?_append_left (by rw [fdg_length]; omega), show k + 1 - 1 - i = k - 1 - (i - 1) by omega, ih _ _ (by omega)]
      congr 2
      unfold ndigit
      rw [Nat.div_div_eq_div_mul, ← Nat.pow_succ', show (i - 1).succ = i by omega]
theorem ntx_get (n i : Nat) (h : i < ndg n) : (ntx n)[ndg n - 1 - i]? = some (dg (ndigit n i)) := fdg_get _ _ _ h
theorem ndigit_big (n i : Nat) (h : ndg n ≤ i) : ndigit n i = 0 := by
  unfold ndigit
  rw [Nat.div_eq_of_lt (lt_of_ndg h)]
theorem fdg_cons (k n : Nat) : fdg (k + 1) n = dg (ndigit n k) :: fdg k n := by
  induction k generalizing n with
  | zero => simp [fdg, ndigit]
  | succ k ih =>
    rw [fdg, ih (n / 10), fdg]
    simp only [List.cons_append]
    congr 2
    unfold ndigit
    rw [Nat.div_div_eq_div_mul, ← Nat.pow_succ']
theorem ntrim_fdg {k n : Nat} (hk : 1 ≤ k) (h : n < 10 ^ k) : ntrim (fdg k n) = ntx n := by
  rw [ntrim_digits _ (by intro e; have := fdg_length k n; rw [e] at this; simp at this; omega) (fdg_all k n), nval_fdg, Nat.mod_eq_of_lt h]

/-! ### Whole numbers -/
def itx (z : Int) : List UInt8 := if z < 0 then 45 :: ntx z.natAbs else ntx z.natAbs
def isI : List UInt8 → Bool
  | 45 :: l => isN l && l != [48]
  | l => isN l
def ival : List UInt8 → Int
  | 45 :: l => -(nval l : Int)
  | l => (nval l : Int)
theorem itx_nonneg {z : Int} (h : 0 ≤ z) : itx z = ntx z.natAbs := by rw [itx, if_neg (by omega)]
theorem itx_nat (n : Nat) : itx (n : Int) = ntx n := by rw [itx_nonneg (by omega)]; rfl
theorem itx_neg {z : Int} (h : z < 0) : itx z = 45 :: ntx z.natAbs := by rw [itx, if_pos h]
theorem ntx_head_ne (n : Nat) : (ntx n).head? ≠ some 45 := by
  intro h
  cases hl : ntx n with
  | nil => exact ntx_ne_nil n hl
  | cons c t =>
    rw [hl] at h
    have h1 : c = 45 := by simpa using h
    have := fdg_all (ndg n) n c (by rw [show fdg (ndg n) n = ntx n from rfl, hl]; simp)
    rw [h1] at this
    revert this; decide
theorem isI_of_head {l : List UInt8} (h : l.head? ≠ some 45) : isI l = isN l := by
  unfold isI
  split
  · simp at h
  · rfl
theorem ival_of_head {l : List UInt8} (h : l.head? ≠ some 45) : ival l = (nval l : Int) := by
  unfold ival
  split
  · simp at h
  · rfl
theorem ival_itx (z : Int) : ival (itx z) = z := by
  by_cases h : z < 0
  · rw [itx_neg h]; simp only [ival, nval_ntx]; omega
  · rw [itx_nonneg (by omega), ival_of_head (ntx_head_ne _), nval_ntx]; omega
theorem itx_inj {a b : Int} (h : itx a = itx b) : a = b := by rw [← ival_itx a, ← ival_itx b, h]
theorem ntx_eq_zero {n : Nat} : ntx n = [48] ↔ n = 0 := ⟨fun h => ntx_inj (h.trans ntx_zero.symm), fun h => h ▸ rfl⟩
theorem ntx_eq_one {n : Nat} : ntx n = [49] ↔ n = 1 := ⟨fun h => ntx_inj (h.trans ntx_one.symm), fun h => h ▸ rfl⟩
theorem isI_itx (z : Int) : isI (itx z) = true := by
  by_cases h : z < 0
  · rw [itx_neg h]
    simp only [isI, isN_ntx, Bool.true_and, bne_iff_ne, ne_eq, ntx_eq_zero]; omega
  · rw [itx_nonneg (by omega), isI_of_head (ntx_head_ne _), isN_ntx]
theorem itx_ival {l : List UInt8} (h : isI l = true) : itx (ival l) = l := by
  by_cases hh : l.head? = some 45
  · cases l with
    | nil => simp at hh
    | cons c l =>
      have : c = 45 := by simpa using hh
      subst this
      simp only [isI, Bool.and_eq_true, bne_iff_ne, ne_eq] at h
      have hn : nval l ≠ 0 := by
        intro e
        have := ntx_nval h.1
        rw [e] at this
        exact h.2 (this.symm.trans ntx_zero)
      simp only [ival]
      rw [itx_neg (by omega), Int.natAbs_neg, Int.natAbs_natCast, ntx_nval h.1]
  · rw [isI_of_head hh] at h
    rw [ival_of_head hh, itx_nat, ntx_nval h]
theorem isI_iff {l : List UInt8} : isI l = true ↔ ∃ z, l = itx z := ⟨fun h => ⟨_, (itx_ival h).symm⟩, fun ⟨n, h⟩ => h ▸ isI_itx n⟩
theorem itx_length (z : Int) : (itx z).length = ndg z.natAbs + (if z < 0 then 1 else 0) := by
  unfold itx; split <;> simp [ntx_length]
end Go.Proofs.YtjdofncognaaoaaGreatDoor

/- Worlds behind calls that make memory; slices of structs that are read: small words for the walks. -/
namespace Go.Proofs.YtjdofncognaaoaaGreatDoor
open Go.RowKit
set_option linter.unusedVariables false
set_option linter.unusedSimpArgs false

/-! ### Worlds -/
theorem bcell {W w1 : World} (hb : Below W.heap.size W w1) : (∀ b o, b < W.heap.size → w1.cell? ⟨b, o, none⟩ = W.cell? ⟨b, o, none⟩) ∧ (∀ b o, b < W.heap.size → w1.frozen? ⟨b, o, none⟩ = W.frozen? ⟨b, o, none⟩) :=
  ⟨fun b o h => hb.cell (p := ⟨b, o, none⟩) h, fun b o h => hb.frozen (p := ⟨b, o, none⟩) h⟩
theorem b_drewN {B : Nat} {w W : World} (h : Below B w W) (n : Nat) : Below B w (W.drewN n) := ⟨h.os, h.tape, h.output, h.size, h.block⟩
theorem b_then {w w1 w2 : World} (h : Below w.heap.size w w1) (k : Below w1.heap.size w1 w2) : Below w.heap.size w w2 := h.trans (k.mono h.size)
theorem b_alloc {w W : World} (h : Below w.heap.size w W) (o : Obj) : Below w.heap.size w (W.alloc o) := h.alloc h.size o

theorem b_set {w W : World} (h : Below w.heap.size w W) {p : Addr} (hp : w.heap.size ≤ p.block) (u : Value) : Below w.heap.size w (W.setCell p u) := h.setCell hp u
/-- A world behind w that has w's blocks. -/
structure After (w : World) where
  W : World
  h : Below w.heap.size w W
instance (w : World) : Nonempty (After w) := ⟨⟨w, Below.refl _ _⟩⟩
theorem wp_region_after {P : Program} {id : Nat} {Q : Exit → Act → World → Prop} {a : Act} {w : World} {l : List Oper} (hm : P.follows .mixedOrders = true) (hB : Region.lexB .any l.toArray = true)
    (h : wpQuiet P l.toArray (fun w' => ∃ x : After w, w' = x.W) (fun a' => ∀ w', (∃ x : After w, w' = x.W) → Q .normal a' w') l a) : (Code.region id l.toArray true).wp P Q a w :=
  wp_region_quiet (C := fun w' => ∃ x : After w, w' = x.W) hm hB ⟨⟨w.drewN 1, b_drewN (Below.refl _ _) 1⟩, rfl⟩ (by simpa using h)
theorem Calls.after {P : Program} {f : FuncId} {args : Array Value} {w : World} {x : After w} {v : Value}
    (h : Calls P f args x.W fun e w' => e = .returned v ∧ Below x.W.heap.size x.W w') : Calls P f args x.W fun e w'' => e = .returned v ∧ ∃ y : After w, w'' = y.W :=
  h.mono fun _ w' ⟨he, hb⟩ => ⟨he, ⟨w', b_then x.h hb⟩, rfl⟩
theorem Calls.after_same {P : Program} {f : FuncId} {args : Array Value} {w : World} {x : After w} {v : Value}
    (h : Calls P f args x.W fun e w' => e = .returned v ∧ x.W = w') : Calls P f args x.W fun e w'' => e = .returned v ∧ ∃ y : After w, w'' = y.W :=
  h.mono fun _ w' ⟨he, hb⟩ => ⟨he, x, hb.symm⟩
theorem Calls.after_same_of {P : Program} {f : FuncId} {args : Array Value} {w : World} {x : After w} {v u : Value}
    (h : Calls P f args x.W fun e w' => e = .returned v ∧ x.W = w') (e : v = u) : Calls P f args x.W fun e w'' => e = .returned u ∧ ∃ y : After w, w'' = y.W := e ▸ Calls.after_same h
theorem Calls.after_of {P : Program} {f : FuncId} {args : Array Value} {w : World} {x : After w} {v u : Value}
    (h : Calls P f args x.W fun e w' => e = .returned v ∧ Below x.W.heap.size x.W w') (e : v = u) : Calls P f args x.W fun e w'' => e = .returned u ∧ ∃ y : After w, w'' = y.W := e ▸ Calls.after h
@[go_sem] theorem After.cell_at {w : World} (x : After w) (b o : Nat) (hp : b < w.heap.size) : x.W.cell? ⟨b, o, none⟩ = w.cell? ⟨b, o, none⟩ := x.h.cell (p := ⟨b, o, none⟩) hp
@[go_sem] theorem After.frozen_at {w : World} (x : After w) (b o : Nat) (hp : b < w.heap.size) : x.W.frozen? ⟨b, o, none⟩ = w.frozen? ⟨b, o, none⟩ := x.h.frozen (p := ⟨b, o, none⟩) hp
theorem After.cell {w : World} (x : After w) {p : Addr} (hp : p.block < w.heap.size) : x.W.cell? p = w.cell? p := x.h.cell hp

/-! ### Slices that are read -/
theorem add_block (a : Addr) (n : Nat) : (a.add n).block = a.block := by unfold Addr.add; split <;> rfl
theorem add_add (a : Addr) (i j : Nat) : (a.add i).add j = a.add (i + j) := by
  unfold Addr.add
  by_cases hi : i = 0 <;> by_cases hj : j = 0 <;> simp [hi, hj, Nat.add_assoc]
theorem add_field (a : Addr) (i j : Nat) (hj : j ≠ 0) : a.add (i + j) = ⟨(a.add i).block, (a.add i).off + j, none⟩ := by
  rw [← add_add]
  simp [Addr.add, hj]
/-- The slice '.slice A n c' holds, element by element, the cells 'e x' (each of z cells) of the list xs. -/
structure Rd {α : Type} (e : α → List Value) (z : Nat) (w : World) (A : Option Addr) (n : Nat) (xs : List α) : Prop where
  len : xs.length = n
  big : n ≤ 9223372036854775807
  cells : 0 < n → ∃ ad, A = some ad ∧ ad.block < w.heap.size ∧ ∀ j x, xs[j]? = some x → ∀ i u, (e x)[i]? = some u → w.cell? (ad.add (j * z + i)) = some u
theorem Rd.below {α : Type} {e : α → List Value} {z : Nat} {w w1 : World} {A : Option Addr} {n : Nat} {xs : List α} (h : Rd e z w A n xs) (hb : Below w.heap.size w w1) : Rd e z w1 A n xs :=
  ⟨h.len, h.big, fun hn => by
    obtain ⟨ad, ha, hl, hc⟩ := h.cells hn
    exact ⟨ad, ha, Nat.lt_of_lt_of_le hl hb.size, fun j x hj i u hu => (hb.cell (by rw [add_block]; exact hl)).trans (hc j x hj i u hu)⟩⟩
theorem Rd.at_ {α : Type} {e : α → List Value} {z : Nat} {w : World} {A : Option Addr} {n : Nat} {xs : List α} (h : Rd e z w A n xs) {k : Nat} (hk : k < n) : ∃ ad x, A = some ad ∧ ad.block < w.heap.size ∧ xs[k]? = some x ∧ ∀ i u, (e x)[i]? = some u → w.cell? (ad.add (k * z + i)) = some u := by
  obtain ⟨ad, ha, hl, hc⟩ := h.cells (by omega)
  have hx : xs[k]? = some (xs[k]'(by rw [h.len]; exact hk)) := List.getElem?_eq_getElem _
  exact ⟨ad, _, ha, hl, hx, fun i u hu => hc k _ hx i u hu⟩
theorem Rd.nil {α : Type} {e : α → List Value} {z : Nat} {w : World} {A : Option Addr} : Rd e z w A 0 ([] : List α) := ⟨rfl, by omega, fun h => absurd h (by omega)⟩

/-! ### A block of the call's own that is known whole -/
def Blk (w : World) (g : Nat) (t : TypeId) (cs : Array Value) : Prop := w.heap[g]? = some (.cells cs t (0, 0))
section
variable {w w' : World} {g : Nat} {t : TypeId} {cs : Array Value}
theorem Blk.lt (h : Blk w g t cs) : g < w.heap.size := by
  rcases Nat.lt_or_ge g w.heap.size with hlt | hge
  · exact hlt
  · unfold Blk at h; rw [Array.getElem?_eq_none hge] at h; cases h
theorem Blk.cell (h : Blk w g t cs) (i : Nat) : w.cell? ⟨g, i, none⟩ = cs[i]? := cell_of_row w g i cs t (0, 0) h
theorem Blk.frozen (h : Blk w g t cs) (i : Nat) : w.frozen? ⟨g, i, none⟩ = false := by
  unfold Blk at h
  simp [World.frozen?, h]
theorem Blk.new (w : World) (t : TypeId) (cs : Array Value) : Blk (w.alloc (.cells cs t)) w.heap.size t cs := heap_alloc_new w _
theorem Blk.drewN (h : Blk w g t cs) (n : Nat) : Blk (w.drewN n) g t cs := h
theorem Blk.alloc (h : Blk w g t cs) (o : Obj) : Blk (w.alloc o) g t cs := (Below.heap_alloc w o g h.lt).trans h
theorem Blk.set_ (h : Blk w g t cs) (i : Nat) (u : Value) : Blk (w.setCell ⟨g, i, none⟩ u) g t (cs.setIfInBounds i u) := by
  unfold Blk at h ⊢
  simp [World.setCell, Array.getElem?_modify, h]
theorem Blk.far (h : Blk w g t cs) {p : Addr} (hp : g ≠ p.block) (u : Value) : Blk (w.setCell p u) g t cs := (Below.heap_setCell w p u g hp).trans h
theorem Blk.below (h : Blk w g t cs) (hb : Below w.heap.size w w') : Blk w' g t cs := (hb.block g h.lt).trans h
end
theorem Blk.grown {w w' : World} {g : Nat} {t : TypeId} {cs : Array Value} {row : Option Nat} (h : Blk w g t cs) (hb : w.grownBy w' row) (hg : row ≠ some g) : Blk w' g t cs := (hb.block g h.lt (fun e => hg e.symm)).trans h
theorem Blk.two {w : World} {g : Nat} {t : TypeId} {u v : Value} (h : Blk w g t #[u, v]) : w.cell? ⟨g, 0, none⟩ = some u ∧ w.cell? ⟨g, 1, none⟩ = some v ∧ w.frozen? ⟨g, 0, none⟩ = false ∧ w.frozen? ⟨g, 1, none⟩ = false :=
  ⟨h.cell 0, h.cell 1, h.frozen 0, h.frozen 1⟩
theorem Blk.put2 {w : World} {g : Nat} {t : TypeId} {u v : Value} (h : Blk w g t #[u, v]) (x y : Value) : Blk ((w.setCell ⟨g, 0, none⟩ x).setCell ⟨g, 1, none⟩ y) g t #[x, y] := by
  have := (h.set_ 0 x).set_ 1 y
  simpa using this
theorem Blk.new2 (w : World) (o : Obj) (t : TypeId) (cs : Array Value) : Blk ((w.alloc o).alloc (.cells cs t)) (w.heap.size + 1) t cs := by
  have := Blk.new (w.alloc o) t cs
  simpa using this
/-- The cells of a row of bytes. -/
def bcells (l : List UInt8) : Array Value := (l.map fun c => Value.int .u8 (c.toNat : Int)).toArray
theorem bcells_set (l : List UInt8) (i : Nat) (c : UInt8) {x : Int} (hx : x = (c.toNat : Int)) : (bcells l).setIfInBounds i (.int .u8 x) = bcells (l.set i c) := by
  subst hx
  simp [bcells, List.map_set]
theorem bcells_get (l : List UInt8) (i : Nat) (h : i < l.length) : (bcells l)[i]? = some (.int .u8 ((l[i]).toNat : Int)) := by simp [bcells, h]
theorem bcells_zero (n : Nat) : madeCells #[.int .u8 0] n = bcells (List.replicate n 0) := by
  apply Array.ext'
  simp only [bcells, madeCells, List.map_replicate]
  apply List.ext_getElem
  · simp
  · intro i h1 h2
    simp [Nat.mod_one]
theorem run_string {P : Program} {w : World} {g : Nat} {t src e dst : TypeId} {l : List UInt8} (h : Blk w g t (bcells l)) (hs : P.underlying src = some (.slice e)) (he : P.underlying e = some (.int .u8)) (hd : P.underlying dst = some .string) {n : Nat} (hn : l.length = n) (cap : Nat) :
    (convert src dst (.slice (some ⟨g, 0, none⟩) n cap)).run P w = .ok (.string ⟨l.toArray⟩) w := by
  subst hn
  refine run_convert_bytes_back w src dst e ⟨g, 0, none⟩ cap l hs he hd fun j hj => ?_
  have h1 := h.cell j
  rw [bcells_get l j hj] at h1
  have ha : (⟨g, 0, none⟩ : Addr).add j = ⟨g, j, none⟩ := by unfold Addr.add; split <;> simp_all
  rw [ha]; exact h1

theorem ret_bool {a b : Bool} (h : a = b) : Ending.returned (.bool a) = .returned (.bool b) := by rw [h]
theorem ret_int {k : IntKind} {a b : Int} (h : a = b) : Ending.returned (.int k a) = .returned (.int k b) := by rw [h]
theorem ret_str {a b : ByteArray} (h : a = b) : Ending.returned (.string a) = .returned (.string b) := by rw [h]
end Go.Proofs.YtjdofncognaaoaaGreatDoor

/- Slices of structs that the call has made: appended to, read. -/
namespace Go.Proofs.YtjdofncognaaoaaGreatDoor
open Go.RowKit
set_option linter.unusedVariables false
set_option linter.unusedSimpArgs false

/-- v is a slice of the call's own (from block 'base' on) that holds the elements xs, each of z cells, of type T. -/
structure Own {α : Type} (e : α → List Value) (z : Nat) (T : TypeId) (w : World) (base : Nat) (v : Value) (xs : List α) : Prop where
  row : w.ownsRow base T z v xs.length (xs.flatMap e)
section
variable {α : Type} {e : α → List Value} {z : Nat} {T : TypeId} {w w' : World} {base : Nat} {v : Value} {xs : List α}
theorem Own.nil : Own e z T w base (.slice none 0 0) ([] : List α) := ⟨⟨by simp, .inl ⟨rfl, rfl⟩⟩⟩
theorem Own.made0 (hb : base ≤ w.heap.size) : Own e z T (w.alloc (.cells #[] T)) base (.slice (some ⟨w.heap.size, 0, none⟩) 0 0) ([] : List α) :=
  ⟨⟨by simp, .inr ⟨w.heap.size, 0, #[], rfl, hb, heap_alloc_new w _, Nat.le_refl _, by simp [maxLen], by simp, by simp⟩⟩⟩
theorem Own.grown (h : Own e z T w base v xs) {row : Option Nat} (hg : w.grownBy w' row) (hr : v.ownBlock = none ∨ v.ownBlock ≠ row) : Own e z T w' base v xs := ⟨h.row.kept hg hr⟩
theorem grown_of_below (h : Below w.heap.size w w') (row : Option Nat) : w.grownBy w' row := ⟨h.os, h.tape, h.output, h.size, fun i hi _ => h.block i hi⟩
theorem Own.below (h : Own e z T w base v xs) (hb : Below w.heap.size w w') : Own e z T w' base v xs := h.grown (grown_of_below hb none) (by cases v.ownBlock <;> simp)
theorem Own.alloc (h : Own e z T w base v xs) (o : Obj) : Own e z T (w.alloc o) base v xs := h.below (b_alloc (Below.refl _ _) o)
theorem Own.drewN (h : Own e z T w base v xs) (n : Nat) : Own e z T (w.drewN n) base v xs := h.below (b_drewN (Below.refl _ _) n)
theorem Own.setOld (h : Own e z T w base v xs) {p : Addr} (hp : p.block < base) (u : Value) : Own e z T (w.setCell p u) base v xs := ⟨ownsRow_setCell_below h.row hp u⟩
theorem Own.lower (h : Own e z T w base v xs) {b : Nat} (hb : b ≤ base) : Own e z T w b v xs := by
  refine ⟨h.row.1, ?_⟩
  rcases h.row.2 with h2 | ⟨g, cap, cur, hv, hg, r⟩
  · exact .inl h2
  · exact .inr ⟨g, cap, cur, hv, by omega, r⟩
theorem Own.base_le (h : Own e z T w base v xs) (k : Nat) (hk : v.ownBlock = some k) : base ≤ k := by
  rcases h.row.2 with ⟨rfl, _⟩ | ⟨g, cap, cur, rfl, hb, _⟩
  · simp [Value.ownBlock] at hk
  · have : g = k := by simpa [Value.ownBlock] using hk
    omega
theorem Own.apart (h : Own e z T w base v xs) {g : Nat} (hg : g < base) : v.ownBlock ≠ some g := fun e => by have := h.base_le g e; omega
theorem Own.lt (h : Own e z T w base v xs) (k : Nat) (hk : v.ownBlock = some k) : k < w.heap.size := by
  rcases h.row.2 with ⟨rfl, _⟩ | ⟨g, cap, cur, rfl, hb, hh, _⟩
  · simp [Value.ownBlock] at hk
  · have : g = k := by simpa [Value.ownBlock] using hk
    subst this
    exact (Array.getElem?_eq_some_iff.1 hh).1
/-- The frame of an append. -/
theorem Own.frame {W : World} (h : Own e z T w base v xs) (hB : Below W.heap.size W w) (hb : W.heap.size ≤ base) (hg : w.grownBy w' v.ownBlock) : Below W.heap.size W w' :=
  hB.grown hg hB.size fun k hk => Nat.le_trans hb (h.base_le k hk)
theorem flat_get (he : ∀ x, (e x).length = z) (l : List α) : ∀ j x, l[j]? = some x → ∀ (i : Nat) u, (e x)[i]? = some u → (l.flatMap e)[j * z + i]? = some u := by
  induction l with
  | nil => intro j x h; simp at h
  | cons a l ih =>
    intro j x h i u hu
    have hi : i < z := by rw [← he x]; exact (List.getElem?_eq_some_iff.1 hu).1
    rw [List.flatMap_cons]
    cases j with
    | zero =>
      have : a = x := by simpa using h
      subst this
      rw [Nat.zero_mul, Nat.zero_add, List.getElem?_append_left (by rw [he]; exact hi)]
      exact hu
    | succ j =>
      rw [List.getElem?_append_right (by rw [he, Nat.add_mul]; omega), he, show (j + 1) * z + i - z = j * z + i by rw [Nat.add_mul]; omega]
      exact ih j x (by simpa using h) i u hu
/-- .. and it can be read. -/
theorem Own.rd (h : Own e z T w base v xs) (he : ∀ x, (e x).length = z) : ∃ A c, v = .slice A xs.length c ∧ Rd e z w A xs.length xs := by
  rcases h.row.2 with ⟨rfl, h0⟩ | ⟨g, cap, cur, rfl, hb, hh, hc, hm, hs, ht⟩
  · have : xs = [] := List.eq_nil_of_length_eq_zero h0
    subst this
    exact ⟨none, 0, rfl, Rd.nil⟩
  · refine ⟨some ⟨g, 0, none⟩, cap, rfl, rfl, by simp only [maxLen] at hm; omega, fun hn => ⟨_, rfl, (Array.getElem?_eq_some_iff.1 hh).1, fun j x hj i u hu => ?_⟩⟩
    have h1 := flat_get he xs j x hj i u hu
    rw [← ht, List.getElem?_take] at h1
    split at h1
    · have ha : (⟨g, 0, none⟩ : Addr).add (j * z + i) = ⟨g, j * z + i, none⟩ := by unfold Addr.add; split <;> simp_all
      rw [ha, cell_of_row w g _ cur T (0, 0) hh]
      simpa using h1
    · cases h1
end
theorem new_cells (w : World) (T : TypeId) (arr : Array Value) (l : List Value) (h : arr = l.toArray) : ∀ (i : Nat) u, l[i]? = some u → (w.alloc (.cells arr T)).cell? ((⟨w.heap.size, 0, none⟩ : Addr).add i) = some u := by
  subst h
  intro i u hu
  have ha : (⟨w.heap.size, 0, none⟩ : Addr).add i = ⟨w.heap.size, i, none⟩ := by unfold Addr.add; split <;> simp_all
  rw [ha, Blk.cell (Blk.new w T l.toArray)]
  simpa using hu
/-- What a program's tables say of an element type. -/
structure Elem (P : Program) (t T : TypeId) (z bytes : Nat) : Prop where
  und : P.underlying t = some (.slice T)
  inf : ∃ zero, (P.info? T).map (fun i => (i.zero, i.size, i.bytes)) = some (some zero, z, bytes) ∧ zero.cells.size = z
theorem wpList_app {P : Program} {α : Type} {e : α → List Value} {z bytes : Nat} {t T : TypeId} (E : Elem P t T z bytes) (hz : 0 < z) (he : ∀ x, (e x).length = z) (h1 : ∀ x, ∀ u ∈ e x, u.oneCell' = true) {w : World} {ops : Array Oper} {rest : List Oper} {o : Oper} {a : Act} {Q : Exit → Act → World → Prop} (hgd : o.guard = none) (s x : Operand)
    (ho : o.op = .call { callee := .builtin .append, args := #[s, x], argTypes := #[t, t] })
    {base : Nat} {v : Value} {xs : List α} (hs : a.eval s = v) (hown : Own e z T w base v xs)
    (ad : Addr) (c : Nat) (el : α) (hx : a.eval x = .slice (some ad) 1 c) (hnews : ∀ i u, (e el)[i]? = some u → w.cell? (ad.add i) = some u)
    (hbytes : (xs.length + 1) * bytes ≤ 140737488355328) (hbig : xs.length ≤ 140737488355328) (hbase : base ≤ w.heap.size)
    (h : ∀ v' w', Own e z T w' base v' (xs ++ [el]) → w.grownBy w' v.ownBlock → (v'.ownBlock = v.ownBlock ∨ v'.ownBlock = some w.heap.size) → wpList P ops Q rest (a.put o.dst v') w') : wpList P ops Q (o :: rest) a w := by
  obtain ⟨zero, hi, hzs⟩ := E.inf
  obtain ⟨i0, hi0, hz0, hz1, hz2⟩ := info_parts hi
  refine wpList_plain hgd fun K hK => ?_
  obtain ⟨v', w', hrun, g1, g2, _, g4⟩ := run_append_own_at (P := P) w base t o.type T i0 zero z bytes E.und hi0 hz0 hz1 hz2 hzs hz v xs.length (xs.flatMap e) hown.row ad 1 c (e el) (by rw [he]; omega) hnews (h1 el) (by simp only [maxLen]; omega) hbytes hbase
  unfold Oper.wp execOp
  simp only [ho, resolve, invoke, builtin, Sem.run_bind, Sem.run_pure, Result.andThen_ok, List.map_toArray, List.map_cons, List.map_nil, hs, hx, hrun]
  refine hK _ _ (h v' w' ⟨?_⟩ g2 g4)
  rw [List.length_append, List.length_singleton, List.flatMap_append, List.flatMap_singleton]
  exact g1
end Go.Proofs.YtjdofncognaaoaaGreatDoor

/- Texts (ByteArray) that are numbers. -/
namespace Go.Proofs.YtjdofncognaaoaaGreatDoor
open Go.RowKit
set_option linter.unusedVariables false
set_option linter.unusedSimpArgs false

def mkS (l : List UInt8) : ByteArray := ⟨l.toArray⟩
def nS (n : Nat) : ByteArray := ⟨(ntx n).toArray⟩
def iS (z : Int) : ByteArray := ⟨(itx z).toArray⟩
def isNB (s : ByteArray) : Bool := isN s.data.toList
def isIB (s : ByteArray) : Bool := isI s.data.toList
theorem tl (s : ByteArray) : s.toList = s.data.toList := ByteArray.toList_eq s
theorem sz (s : ByteArray) : s.size = s.data.toList.length := by rw [Array.length_toList]; rfl
theorem s_ext {a b : ByteArray} (h : a.data.toList = b.data.toList) : a = b := ByteArray.ext (Array.ext' h)
theorem s_at (s : ByteArray) (i : Nat) (h : i < s.size) : s.data.toList[i]? = some s[i] := by
  rw [List.getElem?_eq_getElem (by rw [← sz]; exact h)]; rfl
theorem s_extract (s : ByteArray) (a b : Nat) : (s.extract a b).data.toList = (s.data.toList.take b).drop a := by
  rw [ByteArray.data_extract, Array.toList_extract]
  simp [List.extract_eq_take_drop, List.drop_take]
theorem s_append (s t : ByteArray) : (s ++ t).data.toList = s.data.toList ++ t.data.toList := ByteArray.toList_data_append
theorem mkS_l (l : List UInt8) : (mkS l).data.toList = l := rfl
theorem mkS_of (s : ByteArray) : mkS s.data.toList = s := rfl
theorem mkS_inj {a b : List UInt8} (h : mkS a = mkS b) : a = b := congrArg (fun s : ByteArray => s.data.toList) h
theorem nS_l (n : Nat) : (nS n).data.toList = ntx n := rfl
theorem nS_t (n : Nat) : (nS n).toList = ntx n := tl _
theorem nS_size (n : Nat) : (nS n).size = ndg n := by rw [sz, nS_l, ntx_length]
theorem iS_l (z : Int) : (iS z).data.toList = itx z := rfl
theorem iS_t (z : Int) : (iS z).toList = itx z := tl _
theorem iS_size (z : Int) : (iS z).size = ndg z.natAbs + (if z < 0 then 1 else 0) := by rw [sz, iS_l, itx_length]
theorem isNB_nS (n : Nat) : isNB (nS n) = true := isN_ntx n
theorem isNB_of {s : ByteArray} (h : isNB s = true) : ∃ n, s = nS n := by
  obtain ⟨n, hn⟩ := isN_iff.1 h
  exact ⟨n, s_ext hn⟩
theorem isIB_iS (z : Int) : isIB (iS z) = true := isI_itx z
theorem isIB_of {s : ByteArray} (h : isIB s = true) : ∃ z, s = iS z := by
  obtain ⟨n, hn⟩ := isI_iff.1 h
  exact ⟨n, s_ext hn⟩
theorem nS_inj {m n : Nat} (h : nS m = nS n) : m = n := ntx_inj (congrArg (fun s : ByteArray => s.data.toList) h)
theorem iS_inj {m n : Int} (h : iS m = iS n) : m = n := itx_inj (congrArg (fun s : ByteArray => s.data.toList) h)
theorem iS_nonneg {z : Int} (h : 0 ≤ z) : iS z = nS z.natAbs := by unfold iS nS; rw [itx_nonneg h]
theorem iS_nat (n : Nat) : iS (n : Int) = nS n := by unfold iS nS; rw [itx_nat]
theorem iS_neg {z : Int} (h : z < 0) : iS z = mkS (45 :: ntx z.natAbs) := by unfold iS mkS; rw [itx_neg h]
theorem nS_at (n i : Nat) (h : i < (nS n).size) : (nS n)[i] = dg (ndigit n (ndg n - 1 - i)) := by
  have h1 := s_at (nS n) i h
  rw [nS_size] at h
  have h2 := ntx_get n (ndg n - 1 - i) (by omega)
  rw [nS_l] at h1
  rw [show ndg n - 1 - (ndg n - 1 - i) = i by omega, h1] at h2
  exact Option.some.inj h2
theorem ndigit_lt (n i : Nat) : ndigit n i < 10 := Nat.mod_lt _ (by omega)
theorem nS_byte (n i : Nat) (h : i < (nS n).size) : (nS n)[i].toNat = 48 + ndigit n (ndg n - 1 - i) := by
  rw [nS_at n i h, dg_toNat (ndigit_lt _ _)]
end Go.Proofs.YtjdofncognaaoaaGreatDoor

/- Sums and differences digit by digit: plain lemmas. -/
namespace Go.Proofs.YtjdofncognaaoaaGreatDoor
set_option linter.unusedVariables false
set_option linter.unusedSimpArgs false
theorem fdg_mod (k n : Nat) : fdg k (n % 10 ^ k) = fdg k n := by
  induction k generalizing n with
  | zero => rfl
  | succ k ih =>
    rw [fdg, fdg, ← ih (n / 10), Nat.pow_succ]
    congr 2
    · rw [Nat.mul_comm (10 ^ k) 10, Nat.mod_mul_right_div_self]
    · rw [Nat.mod_mul_left_mod]
theorem fdg_put {i s d : Nat} (hs : s < 10 ^ i) (hd : d < 10) : fdg (i + 1) (s + 10 ^ i * d) = dg d :: fdg i s := by
  rw [fdg_cons, ← fdg_mod i (s + 10 ^ i * d)]
  congr 2
  · unfold ndigit
    rw [Nat.add_mul_div_left _ _ (Nat.pos_of_ne_zero (by exact Nat.ne_of_gt (Nat.pow_pos (by omega)))), Nat.div_eq_of_lt hs]
    omega
  · rw [Nat.add_mul_mod_self_left, Nat.mod_eq_of_lt hs]
theorem mod_succ (m i : Nat) : m % 10 ^ (i + 1) = m % 10 ^ i + 10 ^ i * ndigit m i := by
  unfold ndigit; rw [Nat.pow_succ, Nat.mod_mul]
theorem put_lt {i s d : Nat} (hs : s < 10 ^ i) (hd : d < 10) : s + 10 ^ i * d < 10 ^ (i + 1) := by
  have : 10 ^ i * d ≤ 10 ^ i * 9 := Nat.mul_le_mul_left _ (by omega)
  rw [Nat.pow_succ]; omega
theorem add_step {m n i s c : Nat} (h : m % 10 ^ i + n % 10 ^ i = s + c * 10 ^ i) :
    m % 10 ^ (i + 1) + n % 10 ^ (i + 1) = (s + 10 ^ i * ((ndigit m i + ndigit n i + c) % 10)) + ((ndigit m i + ndigit n i + c) / 10) * 10 ^ (i + 1) := by
  rw [mod_succ, mod_succ, Nat.pow_succ]
  generalize 10 ^ i = p at *
  generalize hx : ndigit m i + ndigit n i + c = x
  have h1 : p * (x % 10) + x / 10 * (p * 10) = p * x := by
    rw [show x / 10 * (p * 10) = p * (10 * (x / 10)) by rw [Nat.mul_comm p 10, ← Nat.mul_assoc, Nat.mul_comm (x / 10) 10, Nat.mul_comm]]
    rw [← Nat.mul_add, Nat.mod_add_div]
  have h2 : p * x = p * ndigit m i + p * ndigit n i + c * p := by rw [← hx, Nat.mul_add, Nat.mul_add, Nat.mul_comm p c]
  omega
theorem sub_step0 {m n i s c : Nat} (h : n % 10 ^ i + s = m % 10 ^ i + c * 10 ^ i) (hc : ndigit n i + c ≤ ndigit m i) :
    n % 10 ^ (i + 1) + (s + 10 ^ i * (ndigit m i - ndigit n i - c)) = m % 10 ^ (i + 1) + 0 * 10 ^ (i + 1) := by
  rw [mod_succ, mod_succ]
  generalize 10 ^ i = p at *
  obtain ⟨d, hd⟩ : ∃ d, ndigit m i = ndigit n i + c + d := ⟨_, (Nat.add_sub_cancel' hc).symm⟩
  rw [hd, show ndigit n i + c + d - ndigit n i - c = d by omega, Nat.mul_add, Nat.mul_add, Nat.mul_comm p c]
  omega
theorem sub_step1 {m n i s c : Nat} (h : n % 10 ^ i + s = m % 10 ^ i + c * 10 ^ i) (hc : ndigit m i < ndigit n i + c) (hc2 : ndigit n i + c ≤ ndigit m i + 10) :
    n % 10 ^ (i + 1) + (s + 10 ^ i * (ndigit m i + 10 - ndigit n i - c)) = m % 10 ^ (i + 1) + 1 * 10 ^ (i + 1) := by
  rw [mod_succ, mod_succ, Nat.pow_succ]
  generalize 10 ^ i = p at *
  obtain ⟨d, hd⟩ : ∃ d, ndigit m i + 10 = ndigit n i + c + d := ⟨_, (Nat.add_sub_cancel' hc2).symm⟩
  rw [show ndigit m i + 10 - ndigit n i - c = d by omega]
  have h1 : p * ndigit m i + p * 10 = p * ndigit n i + p * c + p * d := by rw [← Nat.mul_add, hd, Nat.mul_add, Nat.mul_add]
  rw [Nat.mul_comm p c] at h1
  omega
/-- i digits are laid at the end of N places. -/
def laid (N i s : Nat) : List UInt8 := List.replicate (N - i) 0 ++ fdg i s
theorem laid_length {N i s : Nat} (h : i ≤ N) : (laid N i s).length = N := by simp [laid, fdg_length]; omega
theorem laid_zero (N : Nat) : laid N 0 0 = List.replicate N 0 := by simp [laid, fdg]
theorem laid_set {N i s d : Nat} (h : i < N) (hs : s < 10 ^ i) (hd : d < 10) : (laid N i s).set (N - 1 - i) (dg d) = laid N (i + 1) (s + 10 ^ i * d) := by
  unfold laid
  rw [fdg_put hs hd, show N - i = (N - (i + 1)) + 1 by omega, List.replicate_succ', List.append_assoc, List.set_append_right _ _ (by simp; omega)]
  simp [show N - 1 - i - (N - (i + 1)) = 0 by omega]
theorem laid_full (N s : Nat) : laid N N s = fdg N s := by simp [laid]
end Go.Proofs.YtjdofncognaaoaaGreatDoor
