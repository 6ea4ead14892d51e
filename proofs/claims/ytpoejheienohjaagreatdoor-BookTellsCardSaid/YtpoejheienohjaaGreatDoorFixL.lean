/- Tables of prices that rise: plain lemmas. -/
import Derived.Test.YtpoejheienohjaaGreatDoorFixB
namespace Go.Proofs.YtpoejheienohjaaGreatDoor
set_option linter.unusedVariables false
set_option linter.unusedSimpArgs false

/-- Where a search may end: what is ahead of it is lesser, what is there is not. -/
def bsI (xs : List Fx) (t : Fx) (lo hi : Nat) : Prop := lo ≤ hi ∧ hi ≤ xs.length ∧ (∀ a, 0 < lo → xs[lo - 1]? = some a → fcmp a t < 0) ∧ (∀ a, xs[hi]? = some a → 0 ≤ fcmp a t)
def fat (xs : List Fx) (t : Fx) (i : Nat) : Bool := match xs[i]? with | some a => decide (fcmp a t = 0) | none => false
theorem bsI_start (xs : List Fx) (t : Fx) : bsI xs t 0 xs.length := ⟨Nat.zero_le _, Nat.le_refl _, fun _ h => absurd h (by omega), fun a h => by simp at h⟩
theorem bsI_up {xs : List Fx} {t a : Fx} {lo hi m : Nat} (h : bsI xs t lo hi) (hm : m < hi) (ha : xs[m]? = some a) (hc : fcmp a t < 0) : bsI xs t (m + 1) hi :=
  ⟨hm, h.2.1, fun b _ hb => by rw [Nat.add_sub_cancel, ha] at hb; cases hb; exact hc, h.2.2.2⟩
theorem bsI_down {xs : List Fx} {t a : Fx} {lo hi m : Nat} (h : bsI xs t lo hi) (hl : lo ≤ m) (hm : m < hi) (ha : xs[m]? = some a) (hc : ¬ fcmp a t < 0) : bsI xs t lo m :=
  ⟨hl, by have := h.2.1; omega, h.2.2.1, fun b hb => by rw [ha] at hb; cases hb; omega⟩

theorem fahead_iff (a b : Fx) : fahead a b = true ↔ a.asset.data.toList < b.asset.data.toList ∨ (a.asset = b.asset ∧ a.day < b.day) := by
  unfold fahead slt
  rw [Bool.or_eq_true, Bool.and_eq_true, bytesLess_iff, tl, tl, beq_iff_eq, decide_eq_true_eq]
  exact ⟨fun h => h.imp id fun h => ⟨s_ext h.1, h.2⟩, fun h => h.imp id fun h => ⟨by rw [h.1], h.2⟩⟩
theorem fahead_trans {a b c : Fx} (h : fahead a b = true) (k : fahead b c = true) : fahead a c = true := by
  rw [fahead_iff] at h k ⊢
  rcases h with h | ⟨h, h'⟩ <;> rcases k with k | ⟨k, k'⟩
  · exact .inl (List.lt_trans h k)
  · exact .inl (by rw [← k]; exact h)
  · exact .inl (by rw [h]; exact k)
  · exact .inr ⟨h.trans k, by omega⟩
theorem fahead_irr (a : Fx) : fahead a a = false := by
  rw [← Bool.not_eq_true, fahead_iff]
  rintro (h | ⟨_, h⟩)
  · exact List.lt_irrefl _ h
  · omega
theorem blt_tri : ∀ a b : List UInt8, a < b ∨ a = b ∨ b < a
  | [], [] => .inr (.inl rfl)
  | [], _ :: _ => .inl (by simp)
  | _ :: _, [] => .inr (.inr (by simp))
  | x :: a, y :: b => by
    rw [List.cons_lt_cons_iff, List.cons_lt_cons_iff, List.cons.injEq]
    by_cases hxy : x < y
    · exact .inl (.inl hxy)
    · by_cases hyx : y < x
      · exact .inr (.inr (.inl hyx))
      · have he : x = y := by
          have h3 : ¬ x.toNat < y.toNat := fun h => hxy (UInt8.lt_iff_toNat_lt.2 h)
          have h4 : ¬ y.toNat < x.toNat := fun h => hyx (UInt8.lt_iff_toNat_lt.2 h)
          exact UInt8.toNat_inj.1 (by omega)
        subst he
        rcases blt_tri a b with h | h | h
        · exact .inl (.inr ⟨rfl, h⟩)
        · exact .inr (.inl ⟨rfl, h⟩)
        · exact .inr (.inr (.inr ⟨rfl, h⟩))
theorem fahead_tri (a b : Fx) : fahead a b = true ∨ fcmp a b = 0 ∨ fahead b a = true := by
  rw [fahead_iff, fcmp_zero, fahead_iff]
  rcases blt_tri a.asset.data.toList b.asset.data.toList with h | h | h
  · exact .inl (.inl h)
  · have e := s_ext h
    rcases Int.lt_trichotomy a.day b.day with h1 | h1 | h1
    · exact .inl (.inr ⟨e, h1⟩)
    · exact .inr (.inl ⟨e, h1⟩)
    · exact .inr (.inr (.inr ⟨e.symm, h1⟩))
  · exact .inr (.inr (.inl h))
theorem fahead_not_back {a b : Fx} (h : fahead a b = true) : fahead b a = false := by
  rw [← Bool.not_eq_true]; intro k
  have := fahead_trans h k
  rw [fahead_irr] at this; cases this
theorem fahead_lt (a b : Fx) : fahead a b = true ↔ fcmp a b < 0 := by rw [fahead_fcmp, decide_eq_true_eq]
theorem fahead_gt {a b : Fx} : fahead b a = true ↔ 0 < fcmp a b := by
  constructor
  · intro h
    have h1 := fahead_not_back h
    rw [fahead_fcmp, decide_eq_false_iff_not] at h1
    have h2 : ¬ fcmp a b = 0 := fun e => by
      have h3 := (fcmp_zero a b).1 e
      rw [fahead_iff, h3.1, h3.2] at h
      rcases h with h | ⟨_, h⟩
      · exact List.lt_irrefl _ h
      · omega
    omega
  · intro h
    rcases fahead_tri a b with h1 | h1 | h1
    · rw [fahead_lt] at h1; omega
    · omega
    · exact h1
theorem rises_pair {l : List Fx} (h : rises fahead l = true) : ∀ (d i : Nat) (a b : Fx), l[i]? = some a → l[i + (d + 1)]? = some b → fahead a b = true := by
  rw [rises_iff] at h
  intro d
  induction d with
  | zero => intro i a b ha hb; exact h i a b ha hb
  | succ d ih =>
    intro i a b ha hb
    have hl : i + (d + 1) < l.length := by have := (List.getElem?_eq_some_iff.1 hb).1; omega
    have hm : l[i + (d + 1)]? = some l[i + (d + 1)] := List.getElem?_eq_getElem hl
    exact fahead_trans (ih i a _ ha hm) (h (i + (d + 1)) _ b hm (by rw [← hb]; congr 1))
theorem rises_lt {l : List Fx} (h : rises fahead l = true) {i j : Nat} {a b : Fx} (hij : i < j) (ha : l[i]? = some a) (hb : l[j]? = some b) : fahead a b = true :=
  rises_pair h (j - i - 1) i a b ha (by rw [← hb]; congr 1; omega)
theorem bs_split {l : List Fx} {f : Fx} {i : Nat} (hs : rises fahead l = true) (h : bsI l f i i) {j : Nat} {a : Fx} (ha : l[j]? = some a) : (j < i → fahead a f = true) ∧ (i ≤ j → fahead a f = false) := by
  obtain ⟨_, h2, h3, h4⟩ := h
  constructor
  · intro hj
    have hl : i - 1 < l.length := by omega
    have hm : l[i - 1]? = some l[i - 1] := List.getElem?_eq_getElem hl
    have h5 := h3 _ (by omega) hm
    rw [← fahead_lt] at h5
    by_cases e : j = i - 1
    · subst e; rw [ha] at hm; cases hm; exact h5
    · exact fahead_trans (rises_lt hs (by omega) ha hm) h5
  · intro hj
    have hjl : j < l.length := (List.getElem?_eq_some_iff.1 ha).1
    have hm : l[i]? = some l[i] := List.getElem?_eq_getElem (by omega)
    have h5 := h4 _ hm
    rw [← Bool.not_eq_true]
    intro k
    by_cases e : j = i
    · subst e; rw [ha] at hm; cases hm; rw [fahead_lt] at k; omega
    · have := fahead_trans (rises_lt hs (by omega) hm ha) k
      rw [fahead_lt] at this; omega
theorem while_cut {α : Type} (p : α → Bool) : ∀ (l : List α) (i : Nat), i ≤ l.length → (∀ j a, j < i → l[j]? = some a → p a = true) → (∀ a, l[i]? = some a → p a = false) → l.takeWhile p = l.take i ∧ l.dropWhile p = l.drop i
  | [], i, hi, _, _ => by simp at hi; simp [hi]
  | x :: l, 0, _, _, h2 => by
    have := h2 x rfl
    simp [List.takeWhile_cons, List.dropWhile_cons, this]
  | x :: l, i + 1, hi, h1, h2 => by
    have hx := h1 0 x (by omega) rfl
    obtain ⟨e1, e2⟩ := while_cut p l i (by simpa using hi) (fun j a hj ha => h1 (j + 1) a (by omega) (by simpa using ha)) (fun a ha => h2 a (by simpa using ha))
    simp [List.takeWhile_cons, List.dropWhile_cons, hx, e1, e2]
theorem fins_cut {l : List Fx} {f : Fx} {i : Nat} (hs : rises fahead l = true) (h : bsI l f i i) : fins l f = l.take i ++ f :: l.drop i := by
  obtain ⟨e1, e2⟩ := while_cut (fahead · f) l i h.2.1 (fun j a hj ha => (bs_split hs h ha).1 hj) (fun a ha => (bs_split hs h ha).2 (Nat.le_refl _))
  rw [fins, e1, e2]
theorem rises_mid {α : Type} {lt : α → α → Bool} : ∀ (x : List α) (y : α) (z : List α), rises lt (x ++ y :: z) = (rises lt x && (rises lt z && (x.getLast?.all (lt · y) && z.head?.all (lt y ·))))
  | [], y, [] => by simp [rises]
  | [], y, b :: z => by simp [rises, Bool.and_comm]
  | [a], y, z => by
    have := rises_mid (lt := lt) [] y z
    simp only [List.nil_append, List.getLast?_nil, rises, Bool.true_and, Option.all_none] at this
    simp only [List.cons_append, List.nil_append, rises, this, List.getLast?_singleton, Bool.true_and, Option.all_some]
    cases lt a y <;> cases rises lt z <;> simp
  | a :: b :: x, y, z => by
    have := rises_mid (lt := lt) (b :: x) y z
    simp only [List.cons_append] at this
    simp only [List.cons_append, rises, this, List.getLast?_cons_cons, Bool.and_assoc]
theorem fmay_ins {l : List Fx} {f : Fx} {i : Nat} (hm : fmay l = true) (h : bsI l f i i) : fmay (fins l f) = (fone f && !(fat l f i)) := by
  rw [fmay, Bool.and_eq_true] at hm
  obtain ⟨h1, h2⟩ := hm
  have hil := h.2.1
  have hall : (l.take i ++ f :: l.drop i).all fone = fone f := by
    rw [List.all_append, List.all_cons]
    have e : l.all fone = ((l.take i).all fone && (l.drop i).all fone) := by rw [← List.all_append, List.take_append_drop]
    rw [h1] at e
    have e1 : (l.take i).all fone = true ∧ (l.drop i).all fone = true := by rw [← Bool.and_eq_true]; exact e.symm
    rw [e1.1, e1.2]; simp
  have hr : rises fahead (l.take i) = true ∧ rises fahead (l.drop i) = true := by
    rw [rises_iff] at h2
    constructor
    · rw [rises_iff]; intro k a b ha hb
      rw [List.getElem?_take] at ha hb
      split at ha <;> split at hb
      · exact h2 k a b ha hb
      all_goals first | cases ha | cases hb
    · rw [rises_iff]; intro k a b ha hb
      rw [List.getElem?_drop] at ha hb
      exact h2 (i + k) a b ha (by rw [← hb]; congr 1)
  rw [fins_cut h2 h, fmay, hall, rises_mid, hr.1, hr.2, Bool.true_and, Bool.true_and]
  have hlast : (l.take i).getLast?.all (fahead · f) = true := by
    rcases Nat.eq_zero_or_pos i with e | e
    · subst e; simp
    · have hm : l[i - 1]? = some l[i - 1] := List.getElem?_eq_getElem (by omega)
      have : (l.take i).getLast? = some l[i - 1] := by
        rw [List.getLast?_eq_getElem?, List.length_take, Nat.min_eq_left hil, List.getElem?_take, if_pos (by omega), hm]
      rw [this]
      exact (bs_split h2 h hm).1 (by omega)
  have hhead : (l.drop i).head?.all (fahead f ·) = !(fat l f i) := by
    rw [List.head?_drop]
    unfold fat
    cases hx : l[i]? with
    | none => rfl
    | some b =>
      have h5 := h.2.2.2 b hx
      rw [Option.all_some, Bool.eq_iff_iff, fahead_gt, Bool.not_eq_true', decide_eq_false_iff_not]
      omega
  rw [hlast, hhead, Bool.true_and]
theorem fset_cut {l : List Fx} {f : Fx} {i : Nat} (hm : fmay l = true) (h : bsI l f i i) : fset l f = if fone f && !(fat l f i) then some (l.take i ++ f :: l.drop i) else none := by
  have h2 : rises fahead l = true := by rw [fmay, Bool.and_eq_true] at hm; exact hm.2
  rw [fset, hm, fmay_ins hm h, fins_cut h2 h, Bool.true_and]
theorem fhit_cmp (a : ByteArray) (d : Int) (p : RT) (f : Fx) : fhit a d f = decide (fcmp f ⟨a, d, p⟩ = 0) := by
  rw [Bool.eq_iff_iff, decide_eq_true_eq, fcmp_zero]
  unfold fhit
  rw [Bool.and_eq_true, beq_iff_eq, beq_iff_eq, tl, tl]
  exact ⟨fun h => ⟨s_ext h.1, h.2⟩, fun h => ⟨by rw [h.1], h.2⟩⟩
theorem find_cut {α : Type} {p : α → Bool} {l : List α} {i : Nat} {a : α} (h1 : ∀ j b, j < i → l[j]? = some b → p b = false) (ha : l[i]? = some a) (hp : p a = true) : l.find? p = some a := by
  have : (l.take i).find? p = none := by
    rw [List.find?_eq_none]
    intro x hx
    obtain ⟨j, hj, rfl⟩ := List.mem_iff_getElem.1 hx
    rw [List.length_take] at hj
    have := h1 j l[j] (by omega) (List.getElem?_eq_getElem (by omega))
    rw [List.getElem_take]
    simp [this]
  exact find_hit this ha hp
theorem fget_cut {l : List Fx} {a : ByteArray} {d : Int} {p : RT} {i : Nat} (hm : fmay l = true) (h : bsI l ⟨a, d, p⟩ i i) : fget l a d = if fat l ⟨a, d, p⟩ i then (l[i]?).map Fx.p else none := by
  have h2 : rises fahead l = true := by rw [fmay, Bool.and_eq_true] at hm; exact hm.2
  rw [fget, if_pos hm]
  have hne : ∀ j b, j < i → l[j]? = some b → fhit a d b = false := fun j b hj hb => by
    have := (bs_split h2 h hb).1 hj
    rw [fahead_lt] at this
    rw [fhit_cmp a d p, decide_eq_false_iff_not]; omega
  cases hf : fat l ⟨a, d, p⟩ i with
  | true =>
    rw [if_pos rfl]
    unfold fat at hf
    cases hx : l[i]? with
    | none => rw [hx] at hf; cases hf
    | some b =>
      rw [hx] at hf
      rw [find_cut hne hx (by rw [fhit_cmp a d p]; exact hf)]
  | false =>
    rw [if_neg (by simp)]
    have : l.find? (fhit a d) = none := by
      rw [List.find?_eq_none]
      intro x hx
      obtain ⟨j, hj⟩ := List.mem_iff_getElem?.1 hx
      rw [Bool.not_eq_true]
      rcases Nat.lt_trichotomy j i with hji | hji | hji
      · exact hne j x hji hj
      · subst hji
        unfold fat at hf
        rw [hj] at hf
        rw [fhit_cmp a d p]; exact hf
      · have hil : i < l.length := by have := (List.getElem?_eq_some_iff.1 hj).1; omega
        have hm' : l[i]? = some l[i] := List.getElem?_eq_getElem hil
        have h5 := h.2.2.2 _ hm'
        have h6 := rises_lt h2 hji hm' hj
        rw [fhit_cmp a d p, decide_eq_false_iff_not]
        intro e
        have e1 := (fcmp_zero _ _).1 e
        rw [fahead_iff, e1.1, e1.2, ← fahead_iff l[i] ⟨a, d, p⟩, fahead_lt] at h6
        omega
    rw [this]; rfl
end Go.Proofs.YtpoejheienohjaaGreatDoor
