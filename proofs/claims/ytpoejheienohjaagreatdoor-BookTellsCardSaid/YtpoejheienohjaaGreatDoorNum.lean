/- Naturals and whole numbers as texts of decimal digits: plain lemmas, no program in sight. -/
namespace Go.Proofs.YtpoejheienohjaaGreatDoor
set_option linter.unusedVariables false
set_option linter.unusedSimpArgs false

/-! ### Digits -/
def dg (d : Nat) : UInt8 := UInt8.ofNat (48 + d)
def isDg (c : UInt8) : Bool := 48 ≤ c.toNat && c.toNat ≤ 57
theorem dg_toNat {d : Nat} (h : d < 10) : (dg d).toNat = 48 + d := by
  unfold dg; rw [UInt8.toNat_ofNat']; omega
theorem isDg_dg {d : Nat} (h : d < 10) : isDg (dg d) = true := by
  unfold isDg; rw [dg_toNat h]; simp; omega
theorem dg_of {c : UInt8} (h : isDg c = true) : dg (c.toNat - 48) = c := by
  unfold isDg at h; simp at h
  apply UInt8.toNat_inj.1
  rw [dg_toNat (by omega)]; omega
theorem dg_inj {a b : Nat} (ha : a < 10) (hb : b < 10) (h : dg a = dg b) : a = b := by
  have := congrArg UInt8.toNat h
  rw [dg_toNat ha, dg_toNat hb] at this; omega

/-- The k lowest digits of n, the highest one first. -/
def fdg : Nat → Nat → List UInt8
  | 0, _ => []
  | k + 1, n => fdg k (n / 10) ++ [dg (n % 10)]
theorem fdg_length (k n : Nat) : (fdg k n).length = k := by
  induction k generalizing n with
  | zero => rfl
  | succ k ih => simp [fdg, ih]
/-- How many digits a natural has. -/
def nlen : Nat → Nat → Nat
  | 0, _ => 0
  | k + 1, n => if n < 10 then 1 else nlen k (n / 10) + 1
def ndg (n : Nat) : Nat := nlen (n + 1) n
theorem nlen_any : ∀ (k j n : Nat), n < k → n < j → nlen k n = nlen j n
  | 0, _, _, h, _ => by omega
  | _ + 1, 0, _, _, h => by omega
  | k + 1, j + 1, n, h1, h2 => by
    simp only [nlen]
    split
    · rfl
    · rw [nlen_any k j (n / 10) (by omega) (by omega)]
theorem ndg_small {n : Nat} (h : n < 10) : ndg n = 1 := by simp [ndg, nlen, h]
theorem ndg_big {n : Nat} (h : 10 ≤ n) : ndg n = ndg (n / 10) + 1 := by
  unfold ndg
  rw [show nlen (n + 1) n = if n < 10 then 1 else nlen n (n / 10) + 1 from rfl, if_neg (by omega)]
  rw [nlen_any n (n / 10 + 1) (n / 10) (by omega) (by omega)]
theorem ndg_pos (n : Nat) : 1 ≤ ndg n := by
  by_cases h : n < 10
  · rw [ndg_small h]; omega
  · rw [ndg_big (by omega)]; omega
theorem ndg_lt (n : Nat) : n < 10 ^ ndg n := by
  induction n using Nat.strongRecOn with
  | _ n ih =>
    by_cases h : n < 10
    · rw [ndg_small h]; simpa using h
    · rw [ndg_big (by omega), Nat.pow_succ]
      have := ih (n / 10) (by omega)
      omega
theorem ndg_le (n : Nat) (h : 0 < n) : 10 ^ (ndg n - 1) ≤ n := by
  induction n using Nat.strongRecOn with
  | _ n ih =>
    by_cases h' : n < 10
    · rw [ndg_small h']; simp; omega
    · rw [ndg_big (by omega)]
      have := ih (n / 10) (by omega) (by omega)
      have hp := ndg_pos (n / 10)
      have : 10 ^ (ndg (n / 10) + 1 - 1) = 10 * 10 ^ (ndg (n / 10) - 1) := by
        rw [show ndg (n / 10) + 1 - 1 = (ndg (n / 10) - 1) + 1 by omega, Nat.pow_succ]; omega
      omega
theorem ndg_le_of {n k : Nat} (hk : 1 ≤ k) (h : n < 10 ^ k) : ndg n ≤ k := by
  rcases Nat.eq_zero_or_pos n with rfl | hp
  · rw [ndg_small (by omega)]; exact hk
  · have h1 := ndg_le n hp
    have h2 : 10 ^ (ndg n - 1) < 10 ^ k := Nat.lt_of_le_of_lt h1 h
    have h3 := (Nat.pow_lt_pow_iff_right (a := 10) (by omega)).1 h2
    omega
theorem lt_of_ndg {n k : Nat} (h : ndg n ≤ k) : n < 10 ^ k := Nat.lt_of_lt_of_le (ndg_lt n) (Nat.pow_le_pow_right (by omega) h)
theorem ndg_mono {m n : Nat} (h : m ≤ n) : ndg m ≤ ndg n := ndg_le_of (ndg_pos n) (Nat.lt_of_le_of_lt h (ndg_lt n))
theorem ndg_add (m n : Nat) : ndg (m + n) ≤ max (ndg m) (ndg n) + 1 := by
  apply ndg_le_of (by omega)
  rw [Nat.pow_succ]
  have h1 := lt_of_ndg (n := m) (k := max (ndg m) (ndg n)) (by omega)
  have h2 := lt_of_ndg (n := n) (k := max (ndg m) (ndg n)) (by omega)
  omega
theorem ndg_mul (m n : Nat) : ndg (m * n) ≤ ndg m + ndg n := by
  apply ndg_le_of (by have := ndg_pos m; omega)
  rw [Nat.pow_add]
  exact Nat.mul_lt_mul'' (ndg_lt m) (ndg_lt n)

/-- A natural's text. -/
def ntx (n : Nat) : List UInt8 := fdg (ndg n) n
theorem ntx_length (n : Nat) : (ntx n).length = ndg n := fdg_length _ _
theorem ntx_small {n : Nat} (h : n < 10) : ntx n = [dg n] := by
  simp [ntx, ndg_small h, fdg, Nat.mod_eq_of_lt h]
theorem ntx_big {n : Nat} (h : 10 ≤ n) : ntx n = ntx (n / 10) ++ [dg (n % 10)] := by
  simp [ntx, ndg_big h, fdg]
theorem ntx_ne_nil (n : Nat) : ntx n ≠ [] := by
  intro h; have := ntx_length n; rw [h] at this; have := ndg_pos n; simp at *; omega

/-! ### Values -/
def nval (l : List UInt8) : Nat := l.foldl (fun a c => 10 * a + (c.toNat - 48)) 0
theorem nval_snoc (l : List UInt8) (c : UInt8) : nval (l ++ [c]) = 10 * nval l + (c.toNat - 48) := by simp [nval]
theorem nval_nil : nval [] = 0 := rfl
theorem nval_fdg (k n : Nat) : nval (fdg k n) = n % 10 ^ k := by
  induction k generalizing n with
  | zero => simp [fdg, nval, Nat.mod_one]
  | succ k ih =>
    rw [fdg, nval_snoc, ih, dg_toNat (Nat.mod_lt _ (by omega)), Nat.pow_succ]
    have h := Nat.mod_mul (x := n) (a := 10) (b := 10 ^ k)
    rw [Nat.mul_comm (10 ^ k) 10, h]; omega
theorem nval_ntx (n : Nat) : nval (ntx n) = n := by
  rw [ntx, nval_fdg, Nat.mod_eq_of_lt (ndg_lt n)]
theorem ntx_inj {m n : Nat} (h : ntx m = ntx n) : m = n := by rw [← nval_ntx m, ← nval_ntx n, h]
theorem snoc_ind {α : Type} {p : List α → Prop} (h0 : p []) (h1 : ∀ l c, p l → p (l ++ [c])) (l : List α) : p l := by
  have : ∀ n (l : List α), l.length = n → p l := by
    intro n
    induction n with
    | zero => intro l h; rw [List.eq_nil_of_length_eq_zero h]; exact h0
    | succ n ih =>
      intro l h
      have hne : l ≠ [] := by intro e; rw [e] at h; simp at h
      rw [← List.dropLast_concat_getLast hne]
      exact h1 _ _ (ih _ (by simp [h]))
  exact this _ l rfl
theorem nval_lt (l : List UInt8) (h : ∀ c ∈ l, isDg c = true) : nval l < 10 ^ l.length := by
  induction l using snoc_ind with
  | h0 => simp [nval]
  | h1 l c ih =>
    rw [nval_snoc, List.length_append, List.length_singleton, Nat.pow_succ]
    have h1 := ih (fun x hx => h x (by simp [hx]))
    have h2 := h c (by simp)
    simp [isDg] at h2; omega
theorem fdg_nval (l : List UInt8) (h : ∀ c ∈ l, isDg c = true) : fdg l.length (nval l) = l := by
  induction l using snoc_ind with
  | h0 => rfl
  | h1 l c ih =>
    have h1 := ih (fun x hx => h x (by simp [hx]))
    have h2 := h c (by simp)
    have h3 : c.toNat - 48 < 10 := by simp [isDg] at h2; omega
    rw [List.length_append, List.length_singleton, fdg, nval_snoc,
      show (10 * nval l + (c.toNat - 48)) / 10 = nval l by omega, show (10 * nval l + (c.toNat - 48)) % 10 = c.toNat - 48 by omega, h1, dg_of h2]
theorem fdg_all (k n : Nat) : ∀ c ∈ fdg k n, isDg c = true := by
  induction k generalizing n with
  | zero => simp [fdg]
  | succ k ih =>
    intro c hc
    simp only [fdg, List.mem_append, List.mem_singleton] at hc
    rcases hc with hc | rfl
    · exact ih _ _ hc
    · exact isDg_dg (Nat.mod_lt _ (by omega))

/-- Is a text a natural? -/
def isN (l : List UInt8) : Bool := !l.isEmpty && l.all isDg && (l == [48] || l.head? != some 48)
theorem ntx_head (n : Nat) (h : 0 < n) : (ntx n).head? ≠ some 48 := by
  induction n using Nat.strongRecOn with
  | _ n ih =>
    by_cases h' : n < 10
    · rw [ntx_small h']
      simp only [List.head?_cons, ne_eq, Option.some.injEq]
      intro e
      have := congrArg UInt8.toNat e
      rw [dg_toNat h'] at this
      have : (48 : UInt8).toNat = 48 := rfl
      omega
    · rw [ntx_big (by omega), List.head?_append]
      have := ih (n / 10) (by omega) (by omega)
      cases hh : (ntx (n / 10)).head? with
      | none => exact absurd (List.head?_eq_none_iff.1 hh) (ntx_ne_nil _)
      | some c => rw [hh] at this; simpa using this
theorem ntx_zero : ntx 0 = [48] := rfl
theorem ntx_one : ntx 1 = [49] := rfl
theorem isN_ntx (n : Nat) : isN (ntx n) = true := by
  have h1 := ntx_ne_nil n
  have h2 : (ntx n).all isDg = true := by simp only [List.all_eq_true]; exact fdg_all _ _
  rcases Nat.eq_zero_or_pos n with rfl | hp
  · rfl
  · have h3 := ntx_head n hp
    simp [isN, h1, h2, h3]
theorem ntx_nval {l : List UInt8} (h : isN l = true) : ntx (nval l) = l := by
  simp only [isN, Bool.and_eq_true, Bool.or_eq_true, Bool.not_eq_true', List.isEmpty_eq_false_iff, List.all_eq_true, beq_iff_eq, bne_iff_ne] at h
  obtain ⟨⟨h1, h2⟩, h3⟩ := h
  rcases h3 with rfl | h3
  · rfl
  · have hf := fdg_nval l h2
    cases l with
    | nil => exact absurd rfl h1
    | cons c t =>
      have hc : isDg c = true := h2 c (by simp)
      have hge : 10 ^ t.length ≤ nval (c :: t) := by
        have hv : ∀ (t : List UInt8) (a : Nat), a * 10 ^ t.length ≤ t.foldl (fun a c => 10 * a + (c.toNat - 48)) a := by
          intro t
          induction t with
          | nil => intro a; simp
          | cons b t ih =>
            intro a
            simp only [List.foldl_cons, List.length_cons]
            refine Nat.le_trans ?_ (ih _)
            rw [Nat.pow_succ, Nat.add_mul]
            have : a * (10 ^ t.length * 10) = 10 * a * 10 ^ t.length := by rw [Nat.mul_comm (10 ^ t.length) 10, ← Nat.mul_assoc, Nat.mul_comm a 10]
            omega
        have := hv t (c.toNat - 48)
        have hc0 : 1 ≤ c.toNat - 48 := by
          simp only [isDg, Bool.and_eq_true, decide_eq_true_eq] at hc
          have : c ≠ 48 := by intro e; exact h3 (by simp [e])
          have : c.toNat ≠ 48 := fun e => this (UInt8.toNat_inj.1 (by rw [e]; rfl))
          omega
        simp only [nval, List.foldl_cons, Nat.mul_zero, Nat.zero_add]
        refine Nat.le_trans ?_ this
        exact Nat.le_mul_of_pos_left _ (by omega)
      have hlt := nval_lt _ h2
      have hn : ndg (nval (c :: t)) = (c :: t).length := by
        apply Nat.le_antisymm
        · exact ndg_le_of (by simp) hlt
        · have := ndg_lt (nval (c :: t))
          have h4 := Nat.lt_of_le_of_lt hge this
          have := (Nat.pow_lt_pow_iff_right (a := 10) (by omega)).1 h4
          simp; omega
      rw [ntx, hn, hf]
theorem isN_iff {l : List UInt8} : isN l = true ↔ ∃ n, l = ntx n := ⟨fun h => ⟨_, (ntx_nval h).symm⟩, fun ⟨n, h⟩ => h ▸ isN_ntx n⟩

/-! ### Order -/
theorem fdg_lt {k m n : Nat} (hm : m < 10 ^ k) (hn : n < 10 ^ k) : (fdg k m < fdg k n) ↔ m < n := by
  induction k generalizing m n with
  | zero => simp at hm hn; subst hm; subst hn; simp [fdg]
  | succ k ih =>
    rw [Nat.pow_succ] at hm hn
    have h1 := ih (m := m / 10) (n := n / 10) (by omega) (by omega)
    have h2 := ih (m := n / 10) (n := m / 10) (by omega) (by omega)
    have key : ∀ (a b : List UInt8) (x y : UInt8), a.length = b.length → (a ++ [x] < b ++ [y] ↔ a < b ∨ a = b ∧ x < y) := by
      intro a
      induction a with
      | nil => intro b x y h; cases b with
        | nil => simp [List.cons_lt_cons_iff]
        | cons => simp at h
      | cons u a ih => intro b x y hl; cases b with
        | nil => simp at hl
        | cons v b =>
          simp only [List.cons_append, List.cons_lt_cons_iff, ih b x y (by simpa using hl), List.cons.injEq]
          clear hl ih
          constructor
          · rintro (h | ⟨rfl, h | ⟨rfl, h⟩⟩)
            · exact .inl (.inl h)
            · exact .inl (.inr ⟨rfl, h⟩)
            · exact .inr ⟨⟨rfl, rfl⟩, h⟩
          · rintro ((h | ⟨rfl, h⟩) | ⟨⟨rfl, rfl⟩, h⟩)
            · exact .inl h
            · exact .inr ⟨rfl, .inl h⟩
            · exact .inr ⟨rfl, .inr ⟨rfl, h⟩⟩
    rw [fdg, fdg, key _ _ _ _ (by rw [fdg_length, fdg_length]), h1, UInt8.lt_iff_toNat_lt, dg_toNat (Nat.mod_lt _ (by omega)), dg_toNat (Nat.mod_lt _ (by omega))]
    constructor
    · rintro (h | ⟨h, h'⟩)
      · omega
      · have := congrArg nval h
        rw [nval_fdg, nval_fdg, Nat.mod_eq_of_lt (by omega), Nat.mod_eq_of_lt (by omega)] at this
        omega
    · intro h
      by_cases e : m / 10 = n / 10
      · exact .inr ⟨by rw [e], by omega⟩
      · exact .inl (by omega)
theorem ntx_lt_iff (m n : Nat) : m < n ↔ (ntx m).length < (ntx n).length ∨ (ntx m).length = (ntx n).length ∧ ntx m < ntx n := by
  rw [ntx_length, ntx_length]
  constructor
  · intro h
    rcases Nat.lt_or_eq_of_le (ndg_mono (Nat.le_of_lt h)) with h1 | h1
    · exact .inl h1
    · refine .inr ⟨h1, ?_⟩
      rw [ntx, ntx, h1]
      exact (fdg_lt (h1 ▸ ndg_lt m) (ndg_lt n)).2 h
  · rintro (h | ⟨h, h'⟩)
    · rcases Nat.lt_or_ge m n with h1 | h1
      · exact h1
      · have := ndg_mono h1; omega
    · rw [ntx, ntx, h] at h'
      exact (fdg_lt (h ▸ ndg_lt m) (ndg_lt n)).1 h'

/-! ### Leading zeros -/
/-- digits without needless zeros ahead -/
def ntrim : List UInt8 → List UInt8
  | [] => []
  | [c] => [c]
  | c :: d :: l => if c = 48 then ntrim (d :: l) else c :: d :: l
theorem nval_zero_cons (l : List UInt8) : nval (48 :: l) = nval l := by simp [nval]
theorem ntrim_digits (l : List UInt8) (h1 : l ≠ []) (h : ∀ c ∈ l, isDg c = true) : ntrim l = ntx (nval l) := by
  induction l with
  | nil => exact absurd rfl h1
  | cons c t ih =>
    cases t with
    | nil =>
      have hc := h c (by simp)
      have : nval [c] = c.toNat - 48 := by simp [nval]
      rw [ntrim, this, ntx_small (by simp [isDg] at hc; omega), dg_of hc]
    | cons d t =>
      rw [ntrim]
      split
      · rename_i e; subst e
        rw [nval_zero_cons]
        exact ih (by simp) (fun x hx => h x (by simp at hx ⊢; exact .inr hx))
      · rename_i e
        refine (ntx_nval ?_).symm
        simp only [isN, Bool.and_eq_true, Bool.or_eq_true, Bool.not_eq_true', List.isEmpty_eq_false_iff, List.all_eq_true, beq_iff_eq, bne_iff_ne]
        exact ⟨⟨by simp, h⟩, .inr (by simp [e])⟩

/-- The digit of place i, from behind. -/
def ndigit (n i : Nat) : Nat := n / 10 ^ i % 10
theorem fdg_get (k n i : Nat) (h : i < k) : (fdg k n)[k - 1 - i]? = some (dg (ndigit n i)) := by
  induction k generalizing n i with
  | zero => omega
  | succ k ih =>
    rw [fdg]
    rcases Nat.eq_zero_or_pos i with rfl | hi
    · rw [List.getElem?_append_right (by rw [fdg_length]; omega), fdg_length]
      simp [ndigit]
    · rw [List.getElem?_append_left (by rw [fdg_length]; omega), show k + 1 - 1 - i = k - 1 - (i - 1) by omega, ih _ _ (by omega)]
      congr 2
      unfold ndigit
      rw [Nat.div_div_eq_div_mul, ← Nat.pow_succ', show (i - 1).succ = i by omega]
theorem ntx_get (n i : Nat) (h : i < ndg n) : (ntx n)[ndg n - 1 - i]? = some (dg (ndigit n i)) := fdg_get _ _ _ h
theorem ndigit_big (n i : Nat) (h : ndg n ≤ i) : ndigit n i = 0 := by
  unfold ndigit
  rw [Nat.div_eq_of_lt (lt_of_ndg h)]
theorem fdg_cons (k n : Nat) : fdg (k + 1) n = dg (ndigit n k) :: fdg k n := by
  induction k generalizing n with
  | zero => simp [fdg, ndigit]
  | succ k ih =>
    rw [fdg, ih (n / 10), fdg]
    simp only [List.cons_append]
    congr 2
    unfold ndigit
    rw [Nat.div_div_eq_div_mul, ← Nat.pow_succ']
theorem ntrim_fdg {k n : Nat} (hk : 1 ≤ k) (h : n < 10 ^ k) : ntrim (fdg k n) = ntx n := by
  rw [ntrim_digits _ (by intro e; have := fdg_length k n; rw [e] at this; simp at this; omega) (fdg_all k n), nval_fdg, Nat.mod_eq_of_lt h]

/-! ### Whole numbers -/
def itx (z : Int) : List UInt8 := if z < 0 then 45 :: ntx z.natAbs else ntx z.natAbs
def isI : List UInt8 → Bool
  | 45 :: l => isN l && l != [48]
  | l => isN l
def ival : List UInt8 → Int
  | 45 :: l => -(nval l : Int)
  | l => (nval l : Int)
theorem itx_nonneg {z : Int} (h : 0 ≤ z) : itx z = ntx z.natAbs := by rw [itx, if_neg (by omega)]
theorem itx_nat (n : Nat) : itx (n : Int) = ntx n := by rw [itx_nonneg (by omega)]; rfl
theorem itx_neg {z : Int} (h : z < 0) : itx z = 45 :: ntx z.natAbs := by rw [itx, if_pos h]
theorem ntx_head_ne (n : Nat) : (ntx n).head? ≠ some 45 := by
  intro h
  cases hl : ntx n with
  | nil => exact ntx_ne_nil n hl
  | cons c t =>
    rw [hl] at h
    have h1 : c = 45 := by simpa using h
    have := fdg_all (ndg n) n c (by rw [show fdg (ndg n) n = ntx n from rfl, hl]; simp)
    rw [h1] at this
    revert this; decide
theorem isI_of_head {l : List UInt8} (h : l.head? ≠ some 45) : isI l = isN l := by
  unfold isI
  split
  · simp at h
  · rfl
theorem ival_of_head {l : List UInt8} (h : l.head? ≠ some 45) : ival l = (nval l : Int) := by
  unfold ival
  split
  · simp at h
  · rfl
theorem ival_itx (z : Int) : ival (itx z) = z := by
  by_cases h : z < 0
  · rw [itx_neg h]; simp only [ival, nval_ntx]; omega
  · rw [itx_nonneg (by omega), ival_of_head (ntx_head_ne _), nval_ntx]; omega
theorem itx_inj {a b : Int} (h : itx a = itx b) : a = b := by rw [← ival_itx a, ← ival_itx b, h]
theorem ntx_eq_zero {n : Nat} : ntx n = [48] ↔ n = 0 := ⟨fun h => ntx_inj (h.trans ntx_zero.symm), fun h => h ▸ rfl⟩
theorem ntx_eq_one {n : Nat} : ntx n = [49] ↔ n = 1 := ⟨fun h => ntx_inj (h.trans ntx_one.symm), fun h => h ▸ rfl⟩
theorem isI_itx (z : Int) : isI (itx z) = true := by
  by_cases h : z < 0
  · rw [itx_neg h]
    simp only [isI, isN_ntx, Bool.true_and, bne_iff_ne, ne_eq, ntx_eq_zero]; omega
  · rw [itx_nonneg (by omega), isI_of_head (ntx_head_ne _), isN_ntx]
theorem itx_ival {l : List UInt8} (h : isI l = true) : itx (ival l) = l := by
  by_cases hh : l.head? = some 45
  · cases l with
    | nil => simp at hh
    | cons c l =>
      have : c = 45 := by simpa using hh
      subst this
      simp only [isI, Bool.and_eq_true, bne_iff_ne, ne_eq] at h
      have hn : nval l ≠ 0 := by
        intro e
        have := ntx_nval h.1
        rw [e] at this
        exact h.2 (this.symm.trans ntx_zero)
      simp only [ival]
      rw [itx_neg (by omega), Int.natAbs_neg, Int.natAbs_natCast, ntx_nval h.1]
  · rw [isI_of_head hh] at h
    rw [ival_of_head hh, itx_nat, ntx_nval h]
theorem isI_iff {l : List UInt8} : isI l = true ↔ ∃ z, l = itx z := ⟨fun h => ⟨_, (itx_ival h).symm⟩, fun ⟨n, h⟩ => h ▸ isI_itx n⟩
theorem itx_length (z : Int) : (itx z).length = ndg z.natAbs + (if z < 0 then 1 else 0) := by
  unfold itx; split <;> simp [ntx_length]
end Go.Proofs.YtpoejheienohjaaGreatDoor
