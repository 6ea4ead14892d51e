/- The print of numbers, as terms have them: they can be told apart. -/
import Derived.Test.YtjdofncognaaoaaGreatDoorTmF
import Derived.Test.YtjdofncognaaoaaGreatDoorTmD
namespace Go.Proofs.YtjdofncognaaoaaGreatDoor
open Go.RowKit
set_option linter.unusedVariables false
set_option linter.unusedSimpArgs false

/-- Digits of a decimal: those of the number without its point, with zeros ahead. -/
def ddig (n m : Nat) : Bs := List.replicate (n + 1 - (ntx m).length) 48 ++ ntx m
theorem ddig_len (n m : Nat) : n + 1 ≤ (ddig n m).length := by unfold ddig; simp; omega
theorem ddig_dg (n m : Nat) : ∀ b ∈ ddig n m, 48 ≤ b.toNat ∧ b.toNat ≤ 57 := by
  intro b hb
  unfold ddig at hb
  rcases List.mem_append.1 hb with h | h
  · have := List.eq_of_mem_replicate h
    subst this
    decide
  · exact ntx_dg m b h
theorem nval_zeros (k : Nat) (l : Bs) : nval (List.replicate k 48 ++ l) = nval l := by
  induction k with
  | zero => rfl
  | succ k ih =>
    rw [List.replicate_succ, List.cons_append, ← ih]
    rfl
theorem ddig_inj {n a b : Nat} (h : ddig n a = ddig n b) : a = b := by
  have := congrArg nval h
  unfold ddig at this
  rwa [nval_zeros, nval_zeros, nval_ntx, nval_ntx] at this
/-- A decimal: so many places. -/
def dtext (m n : Nat) : Bs := if n = 0 then ntx m else (ddig n m).take ((ddig n m).length - n) ++ 46 :: (ddig n m).drop ((ddig n m).length - n)
theorem dtext_byte (m n : Nat) : ∀ b ∈ dtext m n, (48 ≤ b.toNat ∧ b.toNat ≤ 57) ∨ b = 46 := by
  intro b hb
  unfold dtext at hb
  split at hb
  · exact .inl (ntx_dg m b hb)
  · rcases List.mem_append.1 hb with h | h
    · exact .inl (ddig_dg n m b (List.mem_of_mem_take h))
    · rcases List.mem_cons.1 h with h | h
      · exact .inr h
      · exact .inl (ddig_dg n m b (List.mem_of_mem_drop h))
theorem dtext_head (m n : Nat) : ∃ b y, dtext m n = b :: y ∧ 48 ≤ b.toNat ∧ b.toNat ≤ 57 := by
  unfold dtext
  split
  · cases h : ntx m with
    | nil => exact absurd h (ntx_ne_nil m)
    | cons b y => exact ⟨b, y, rfl, ntx_dg m b (by rw [h]; simp)⟩
  · have hl := ddig_len n m
    cases h : (ddig n m).take ((ddig n m).length - n) with
    | nil =>
      have := congrArg List.length h
      rw [List.length_take] at this
      simp at this
      omega
    | cons b y => exact ⟨b, _, rfl, ddig_dg n m b (List.mem_of_mem_take (by rw [h]; simp))⟩
theorem no_point {n m : Nat} {l : Bs} (h : ∀ b ∈ l, 48 ≤ b.toNat ∧ b.toNat ≤ 57) : (46 : UInt8) ∉ l := fun k => by have := h _ k; revert this; decide
theorem dtext_inj {m n m' n' : Nat} (h : dtext m n = dtext m' n') : m = m' ∧ n = n' := by
  unfold dtext at h
  split at h
  next e =>
    split at h
    next e' => exact ⟨ntx_inj h, by omega⟩
    next e' => exact absurd (by rw [h]; simp) (no_point (n := n) (m := m) (ntx_dg m))
  next e =>
    split at h
    next e' => exact absurd (by rw [← h]; simp) (no_point (n := n) (m := m) (ntx_dg m'))
    next e' =>
      obtain ⟨e1, e2⟩ := cut_at (no_point (n := n) (m := m) fun b hb => ddig_dg n m b (List.mem_of_mem_take hb)) (no_point (n := n) (m := m) fun b hb => ddig_dg n' m' b (List.mem_of_mem_take hb)) h
      have l1 := ddig_len n m
      have l2 := ddig_len n' m'
      have hn : n = n' := by
        have := congrArg List.length e2
        rw [List.length_drop, List.length_drop] at this
        omega
      subst hn
      have hd : ddig n m = ddig n m' := by rw [← List.take_append_drop ((ddig n m).length - n) (ddig n m), e1, e2, List.take_append_drop]
      exact ⟨ddig_inj hd, rfl⟩
/-- How a number is printed in a term. -/
def numT (x : RT) : Bs :=
  match dplaces (nval x.den.data.toList) with
  | some n => if n ≤ 20 ∧ 0 ≤ ival x.num.data.toList then dtext ((ival x.num.data.toList).natAbs * (10 ^ n / nval x.den.data.toList)) n else 110 :: 117 :: 109 :: 40 :: (x.num.data.toList ++ 44 :: (32 :: (x.den.data.toList ++ 41 :: [])))
  | none => 110 :: 117 :: 109 :: 40 :: (x.num.data.toList ++ 44 :: (32 :: (x.den.data.toList ++ 41 :: [])))
theorem numT_cases (q : Rat) : (∃ n, dplaces q.den = some n ∧ 0 ≤ q.num ∧ numT (enc q) = dtext (q.num.natAbs * (10 ^ n / q.den)) n) ∨ numT (enc q) = 110 :: 117 :: 109 :: 40 :: (itx q.num ++ 44 :: (32 :: (ntx q.den ++ 41 :: []))) := by
  have e1 : nval (enc q).den.data.toList = q.den := nval_ntx q.den
  have e2 : ival (enc q).num.data.toList = q.num := ival_itx q.num
  unfold numT
  rw [e1, e2]
  cases h : dplaces q.den with
  | none => exact .inr rfl
  | some n =>
    dsimp only
    split
    next hc => exact .inl ⟨n, rfl, hc.2, rfl⟩
    next => exact .inr rfl
theorem itx_byte (z : Int) : ∀ b ∈ itx z, b = 45 ∨ (48 ≤ b.toNat ∧ b.toNat ≤ 57) := by
  intro b hb
  unfold itx at hb
  split at hb
  · rcases List.mem_cons.1 hb with h | h
    · exact .inl h
    · exact .inr (ntx_dg _ b h)
  · exact .inr (ntx_dg _ b hb)
theorem num_ok : NumOk numT (fun x => rmay x = true) where
  head := fun x hx => by
    obtain ⟨q, rfl⟩ := rmay_of hx
    rcases numT_cases q with ⟨n, _, _, e⟩ | e
    · obtain ⟨b, y, h1, h2⟩ := dtext_head (q.num.natAbs * (10 ^ n / q.den)) n
      exact ⟨b, y, by rw [e, h1], .inl h2⟩
    · exact ⟨_, _, e, .inr rfl⟩
  inj := fun x x' r r' hx hx' hr hr' h => by
    obtain ⟨q, rfl⟩ := rmay_of hx
    obtain ⟨q', rfl⟩ := rmay_of hx'
    have dl : ∀ {r : Bs}, delim r → ∀ b, r.head? = some b → (decide (48 ≤ b.toNat ∧ b.toNat ≤ 57) || b == 46) = false := by
      intro r hr b hb
      rcases hr b hb with rfl | rfl | rfl <;> decide
    have db : ∀ (m n : Nat) b, b ∈ dtext m n → (decide (48 ≤ b.toNat ∧ b.toNat ≤ 57) || b == 46) = true := by
      intro m n b hb
      rcases dtext_byte m n b hb with k | k
      · simp [k]
      · simp [k]
    have bad : ∀ {m n : Nat} {y z s : Bs}, dtext m n ++ y ≠ 110 :: s ++ z := by
      intro m n y z s h
      obtain ⟨b, w, e1, e2, e3⟩ := dtext_head m n
      rw [e1] at h
      simp only [List.cons_append, List.cons.injEq] at h
      obtain ⟨rfl, _⟩ := h
      revert e3; decide
    rcases numT_cases q with ⟨n, a1, a2, a3⟩ | a3 <;> rcases numT_cases q' with ⟨n', c1, c2, c3⟩ | c3
    · rw [a3, c3] at h
      obtain ⟨e1, e2⟩ := cut_all (p := fun b => decide (48 ≤ b.toNat ∧ b.toNat ≤ 57) || b == 46) (db _ _) (db _ _) (dl hr) (dl hr') h
      obtain ⟨e3, e4⟩ := dtext_inj e1
      subst e4
      refine ⟨?_, e2⟩
      have key : ∀ {p : Rat} {k : Nat}, 0 ≤ p.num → dplaces p.den = some n → p.num.natAbs * (10 ^ n / p.den) = k → p = mkRat k (10 ^ n) := by
        intro p k h1 h2 h3
        obtain ⟨c, hc⟩ := dplaces_dvd p.den_pos h2
        have hcp : 0 < p.den := p.den_pos
        rw [hc, Nat.mul_div_cancel_left _ hcp] at h3
        have hc0 : c ≠ 0 := by
          rintro rfl
          rw [Nat.mul_zero] at hc
          have : 0 < 10 ^ n := Nat.pow_pos (by omega)
          omega
        rw [hc, ← h3]
        have hnum : p.num = (p.num.natAbs : Int) := by omega
        exact ((Rat.mkRat_self p).symm.trans (Rat.mkRat_mul_right (n := p.num) (d := p.den) hc0).symm).trans (by rw [Int.natCast_mul, ← hnum])
      exact congrArg enc ((key a2 a1 e3).trans (key c2 c1 rfl).symm)
    · rw [a3, c3] at h
      exact absurd h bad
    · rw [a3, c3] at h
      exact absurd h.symm bad
    · rw [a3, c3] at h
      simp only [List.cons_append, List.cons.injEq, true_and, List.append_assoc, List.nil_append] at h
      have n44 : ∀ z : Int, (44 : UInt8) ∉ itx z := fun z k => by
        rcases itx_byte z _ k with k | k
        · revert k; decide
        · revert k; decide
      have n41 : ∀ m : Nat, (41 : UInt8) ∉ ntx m := fun m k => by have := ntx_dg m _ k; revert this; decide
      obtain ⟨e1, e2⟩ := cut_at (n44 _) (n44 _) h
      simp only [List.cons.injEq, true_and] at e2
      obtain ⟨e3, e4⟩ := cut_at (n41 _) (n41 _) e2
      have e5 := itx_inj e1
      have e6 := ntx_inj e3
      exact ⟨by rw [Rat.ext e5 e6], e4⟩
end Go.Proofs.YtjdofncognaaoaaGreatDoor
