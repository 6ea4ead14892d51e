/- Terms: unlike terms have unlike prints (for whatever print of numbers that can be told apart). -/
import Derived.Test.YtjdofncognaaoaaGreatDoorTmC
namespace Go.Proofs.YtjdofncognaaoaaGreatDoor
open Go.RowKit
set_option linter.unusedVariables false
set_option linter.unusedSimpArgs false

abbrev Bs := List UInt8
/-- What stands behind a term in a print: nothing, a space, a comma, or a bracket. -/
def delim (r : Bs) : Prop := ∀ b, r.head? = some b → b = 32 ∨ b = 44 ∨ b = 41
theorem delim_nil : delim [] := fun b h => by cases h
theorem delim_cons {b : UInt8} {r : Bs} (h : b = 32 ∨ b = 44 ∨ b = 41) : delim (b :: r) := fun c e => by simp at e; subst e; exact h
/-- Texts are told apart up to the first byte that neither has. -/
theorem cut_at {c : UInt8} : ∀ {x x' y y' : Bs}, c ∉ x → c ∉ x' → x ++ c :: y = x' ++ c :: y' → x = x' ∧ y = y'
  | [], [], y, y', _, _, h => by simp at h; exact ⟨rfl, h⟩
  | [], b :: x', y, y', _, h2, h => by simp at h; exact absurd h.1 (fun e => h2 (by simp [e]))
  | a :: x, [], y, y', h1, _, h => by simp at h; exact absurd h.1.symm (fun e => h1 (by simp [e]))
  | a :: x, b :: x', y, y', h1, h2, h => by
    simp only [List.cons_append, List.cons.injEq] at h
    obtain ⟨rfl, h⟩ := h
    obtain ⟨e1, e2⟩ := cut_at (fun k => h1 (by simp [k])) (fun k => h2 (by simp [k])) h
    exact ⟨by rw [e1], e2⟩
/-- Texts of some bytes are told apart where others follow. -/
theorem cut_all {p : UInt8 → Bool} : ∀ {x x' r r' : Bs}, (∀ b ∈ x, p b = true) → (∀ b ∈ x', p b = true) → (∀ b, r.head? = some b → p b = false) → (∀ b, r'.head? = some b → p b = false) → x ++ r = x' ++ r' → x = x' ∧ r = r'
  | [], [], r, r', _, _, _, _, h => ⟨rfl, h⟩
  | [], b :: x', r, r', _, h2, h3, _, h => by
    have := h3 b (by simp at h; rw [h]; rfl)
    rw [h2 b (by simp)] at this; cases this
  | a :: x, [], r, r', h1, _, _, h4, h => by
    have := h4 a (by simp at h; rw [← h]; rfl)
    rw [h1 a (by simp)] at this; cases this
  | a :: x, b :: x', r, r', h1, h2, h3, h4, h => by
    simp only [List.cons_append, List.cons.injEq] at h
    obtain ⟨rfl, h⟩ := h
    obtain ⟨e1, e2⟩ := cut_all (fun c hc => h1 c (by simp [hc])) (fun c hc => h2 c (by simp [hc])) h3 h4 h
    exact ⟨by rw [e1], e2⟩
theorem ntx_dg (n : Nat) : ∀ b ∈ ntx n, 48 ≤ b.toNat ∧ b.toNat ≤ 57 := by
  intro b hb
  have h := isN_ntx n
  unfold isN at h
  rw [Bool.and_eq_true, Bool.and_eq_true, List.all_eq_true] at h
  have := h.1.2 b hb
  unfold isDg at this
  simpa using this
theorem itx_no {z : Int} (hz : 0 ≤ z) {c : UInt8} (hc : c.toNat < 48) : c ∉ itx z := by
  rw [itx_nonneg hz]
  intro h
  have := ntx_dg _ c h
  omega
section
variable {nt : RT → Bs} {ok : RT → Prop}
/-- A print of numbers that can be told apart. -/
structure NumOk (nt : RT → Bs) (ok : RT → Prop) : Prop where
  head : ∀ x, ok x → ∃ b y, nt x = b :: y ∧ ((48 ≤ b.toNat ∧ b.toNat ≤ 57) ∨ b = 110)
  inj : ∀ x x' r r', ok x → ok x' → delim r → delim r' → nt x ++ r = nt x' ++ r' → x = x' ∧ r = r'
def nzero : RT := ⟨⟨#[]⟩, ⟨#[]⟩⟩
/-- The print of a node that takes none. -/
def leafT (nt : RT → Bs) (n : Nd) : Bs :=
  if n.op = 0 then nt n.num
  else if n.op = 1 then 112 :: 120 :: 40 :: (n.asset.data.toList ++ 44 :: (32 :: (itx n.a ++ 41 :: [])))
  else (if n.op = 2 then [97, 118, 103] else if n.op = 3 then [104, 105] else [108, 111]) ++ 40 :: (n.asset.data.toList ++ 44 :: (32 :: (itx n.a ++ 44 :: (32 :: (itx n.b ++ 41 :: [])))))
/-- A node, its fields its own. -/
def nodeOk (ok : RT → Prop) (n : Nd) : Prop :=
  (n.op = 0 ∧ ok n.num ∧ n.asset = ⟨#[]⟩ ∧ n.a = 0 ∧ n.b = 0) ∨
  (n.op = 1 ∧ n.num = nzero ∧ n.b = 0 ∧ 0 ≤ n.a ∧ 44 ∉ n.asset.data.toList) ∨
  (2 ≤ n.op ∧ n.op ≤ 4 ∧ n.num = nzero ∧ 0 ≤ n.a ∧ 0 ≤ n.b ∧ 44 ∉ n.asset.data.toList) ∨
  (5 ≤ n.op ∧ n.num = nzero ∧ n.asset = ⟨#[]⟩ ∧ n.a = 0 ∧ n.b = 0)
theorem leaf_inj (hn : NumOk nt ok) {n n' : Nd} (h : nodeOk ok n) (h' : nodeOk ok n') (k : n.op ≤ 4) (k' : n'.op ≤ 4) {r r' : Bs} (hr : delim r) (hr' : delim r') (e : leafT nt n ++ r = leafT nt n' ++ r') : n = n' ∧ r = r' := by
  obtain ⟨op, num, sa, a, b⟩ := n
  obtain ⟨op', num', sa', a', b'⟩ := n'
  have bad : ∀ {x : RT} {q q' s : Bs} {c : UInt8}, ok x → c ≠ 110 → ¬ (48 ≤ c.toNat ∧ c.toNat ≤ 57) → nt x ++ q ≠ c :: s ++ q' := by
    intro x q q' s c hx h1 h2 h3
    obtain ⟨y, z, e1, e2⟩ := hn.head x hx
    rw [e1] at h3
    simp only [List.cons_append, List.cons.injEq] at h3
    rcases e2 with e2 | e2
    · exact h2 (h3.1 ▸ e2)
    · exact h1 (h3.1 ▸ e2)
  have name : ∀ {x x' : ByteArray} {y y' : Bs}, 44 ∉ x.data.toList → 44 ∉ x'.data.toList → x.data.toList ++ 44 :: y = x'.data.toList ++ 44 :: y' → x = x' ∧ y = y' := by
    intro x x' y y' h1 h2 h3
    obtain ⟨e1, e2⟩ := cut_at h1 h2 h3
    exact ⟨by cases x; cases x'; simp at e1; rw [e1], e2⟩
  have day : ∀ {c : UInt8} {x x' : Int} {y y' : Bs}, c.toNat < 48 → 0 ≤ x → 0 ≤ x' → itx x ++ c :: y = itx x' ++ c :: y' → x = x' ∧ y = y' := by
    intro c x x' y y' hc h1 h2 h3
    obtain ⟨e1, e2⟩ := cut_at (itx_no h1 hc) (itx_no h2 hc) h3
    exact ⟨itx_inj e1, e2⟩
  rcases h with ⟨h0, h1, h2, h3, h4⟩ | ⟨h0, h1, h2, h3, h4⟩ | ⟨h0, h0', h1, h2, h3, h4⟩ | ⟨h0, _⟩
  · rcases h' with ⟨g0, g1, g2, g3, g4⟩ | ⟨g0, g1, g2, g3, g4⟩ | ⟨g0, g0', g1, g2, g3, g4⟩ | ⟨g0, _⟩
    · dsimp only at *
      subst h0; subst h2; subst h3; subst h4; subst g0; subst g2; subst g3; subst g4
      obtain ⟨e1, e2⟩ := hn.inj _ _ _ _ h1 g1 hr hr' e
      exact ⟨by rw [e1], e2⟩
    · dsimp only at *
      subst h0; subst g0
      exact absurd e (bad h1 (by decide) (by decide))
    · dsimp only at *
      subst h0
      have hop : op' = 2 ∨ op' = 3 ∨ op' = 4 := by omega
      rcases hop with rfl | rfl | rfl
      · exact absurd e (bad h1 (by decide) (by decide))
      · exact absurd e (bad h1 (by decide) (by decide))
      · exact absurd e (bad h1 (by decide) (by decide))
    · dsimp only at *; omega
  · rcases h' with ⟨g0, g1, g2, g3, g4⟩ | ⟨g0, g1, g2, g3, g4⟩ | ⟨g0, g0', g1, g2, g3, g4⟩ | ⟨g0, _⟩
    · dsimp only at *
      subst h0; subst g0
      exact absurd e.symm (bad g1 (by decide) (by decide))
    · dsimp only at *
      subst h0; subst g0; subst h1; subst g1; subst h2; subst g2
      unfold leafT at e
      simp only [if_neg (show ¬ (1 : Int) = 0 by decide), if_true, List.cons_append, List.cons.injEq, true_and, List.append_assoc] at e
      obtain ⟨e1, e2⟩ := name h4 g4 e
      simp only [List.cons.injEq, true_and] at e2
      obtain ⟨e3, e4⟩ := day (by decide) h3 g3 e2
      subst e1; subst e3
      exact ⟨rfl, by simpa using e4⟩
    · dsimp only at *
      subst h0
      have hop : op' = 2 ∨ op' = 3 ∨ op' = 4 := by omega
      rcases hop with rfl | rfl | rfl <;> (unfold leafT at e; simp at e)
    · dsimp only at *; omega
  · rcases h' with ⟨g0, g1, g2, g3, g4⟩ | ⟨g0, g1, g2, g3, g4⟩ | ⟨g0, g0', g1, g2, g3, g4⟩ | ⟨g0, _⟩
    · dsimp only at *
      subst g0
      have hop : op = 2 ∨ op = 3 ∨ op = 4 := by omega
      rcases hop with rfl | rfl | rfl
      · exact absurd e.symm (bad g1 (by decide) (by decide))
      · exact absurd e.symm (bad g1 (by decide) (by decide))
      · exact absurd e.symm (bad g1 (by decide) (by decide))
    · dsimp only at *
      subst g0
      have hop : op = 2 ∨ op = 3 ∨ op = 4 := by omega
      rcases hop with rfl | rfl | rfl <;> (unfold leafT at e; simp at e)
    · dsimp only at *
      have hop : op = 2 ∨ op = 3 ∨ op = 4 := by omega
      have hop' : op' = 2 ∨ op' = 3 ∨ op' = 4 := by omega
      subst h1; subst g1
      have fin : ∀ {u : Int}, (sa.data.toList ++ 44 :: (32 :: (itx a ++ 44 :: (32 :: (itx b ++ 41 :: []))))) ++ r = (sa'.data.toList ++ 44 :: (32 :: (itx a' ++ 44 :: (32 :: (itx b' ++ 41 :: []))))) ++ r' → (⟨u, nzero, sa, a, b⟩ : Nd) = ⟨u, nzero, sa', a', b'⟩ ∧ r = r' := by
        intro u e
        simp only [List.cons_append, List.append_assoc] at e
        obtain ⟨e1, e2⟩ := name h4 g4 e
        simp only [List.cons.injEq, true_and] at e2
        obtain ⟨e3, e4⟩ := day (by decide) h2 g2 e2
        simp only [List.cons.injEq, true_and] at e4
        obtain ⟨e5, e6⟩ := day (by decide) h3 g3 e4
        subst e1; subst e3; subst e5
        exact ⟨rfl, by simpa using e6⟩
      rcases hop with rfl | rfl | rfl <;> rcases hop' with rfl | rfl | rfl
      all_goals
        first
          | (refine fin ?_; unfold leafT at e; simpa using e)
          | (exfalso; unfold leafT at e; simp at e)
    · dsimp only at *; omega
  · dsimp only at *; omega
end
end Go.Proofs.YtjdofncognaaoaaGreatDoor
