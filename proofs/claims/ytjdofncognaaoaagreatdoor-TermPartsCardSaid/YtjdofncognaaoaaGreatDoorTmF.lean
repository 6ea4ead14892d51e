/- Terms: unlike terms have unlike prints. -/
import Derived.Test.YtjdofncognaaoaaGreatDoorTmE
namespace Go.Proofs.YtjdofncognaaoaaGreatDoor
open Go.RowKit
set_option linter.unusedVariables false
set_option linter.unusedSimpArgs false

section
variable {nt : RT → Bs} {ok : RT → Prop} {may : Nd → Bool}
def opc (op : Int) : UInt8 := if op = 6 then 43 else if op = 7 then 45 else if op = 8 then 42 else 47
def b0 (l : List Bs) : Bs := l.getD 0 []
def b1 (l : List Bs) : Bs := l.getD 1 []
def b2 (l : List Bs) : Bs := l.getD 2 []
/-- The print of a node that takes some. -/
def upT (op : Int) (l : List Bs) : Bs :=
  if op = 5 then 40 :: 45 :: (b0 l ++ 41 :: [])
  else if op ≤ 9 then 40 :: (b0 l ++ 32 :: (opc op :: (32 :: (b1 l ++ 41 :: []))))
  else if op = 10 then 109 :: 97 :: 120 :: 40 :: (b0 l ++ 44 :: (32 :: (b1 l ++ 41 :: [])))
  else if op = 11 then 109 :: 105 :: 110 :: 40 :: (b0 l ++ 44 :: (32 :: (b1 l ++ 41 :: [])))
  else 105 :: 102 :: 40 :: (b0 l ++ 44 :: (32 :: (b1 l ++ 44 :: (32 :: (b2 l ++ 41 :: [])))))
def ptx (nt : RT → Bs) (may : Nd → Bool) (n : Nd) (l : List Bs) : Option Bs := if may n then some (if n.op ≤ 4 then leafT nt n else upT n.op l) else none
theorem ptx_some {n : Nd} {l : List Bs} {s : Bs} (h : ptx nt may n l = some s) : may n = true ∧ s = if n.op ≤ 4 then leafT nt n else upT n.op l := by
  unfold ptx at h
  split at h
  next hm => injection h with h; exact ⟨hm, h.symm⟩
  next => cases h
theorem leaf_head (hn : NumOk nt ok) {n : Nd} (h : nodeOk ok n) (k : n.op ≤ 4) : ∃ b y, leafT nt n = b :: y ∧ b ≠ 45 ∧ b ≠ 40 ∧ b ≠ 109 ∧ b ≠ 105 := by
  rcases h with ⟨h0, h1, _⟩ | ⟨h0, _⟩ | ⟨h0, h0', _⟩ | ⟨h0, _⟩
  · obtain ⟨b, y, e1, e2⟩ := hn.head _ h1
    refine ⟨b, y, by unfold leafT; rw [if_pos h0, e1], ?_⟩
    rcases e2 with e2 | e2
    · refine ⟨?_, ?_, ?_, ?_⟩ <;> (rintro rfl; revert e2; decide)
    · subst e2; decide
  · refine ⟨112, _, by unfold leafT; rw [if_neg (by omega), if_pos h0], by decide, by decide, by decide, by decide⟩
  · have hop : n.op = 2 ∨ n.op = 3 ∨ n.op = 4 := by omega
    rcases hop with e | e | e
    · exact ⟨97, _, by unfold leafT; rw [e]; rfl, by decide, by decide, by decide, by decide⟩
    · exact ⟨104, _, by unfold leafT; rw [e]; rfl, by decide, by decide, by decide, by decide⟩
    · exact ⟨108, _, by unfold leafT; rw [e]; rfl, by decide, by decide, by decide, by decide⟩
  · omega
theorem up_head {op : Int} (k : ¬ op ≤ 4) (l : List Bs) : ∃ b y, upT op l = b :: y ∧ (b = 40 ∨ b = 109 ∨ b = 105) := by
  unfold upT
  split
  · exact ⟨_, _, rfl, .inl rfl⟩
  split
  · exact ⟨_, _, rfl, .inl rfl⟩
  split
  · exact ⟨_, _, rfl, .inr (.inl rfl)⟩
  split
  · exact ⟨_, _, rfl, .inr (.inl rfl)⟩
  · exact ⟨_, _, rfl, .inr (.inr rfl)⟩
/-- A print does not begin with a minus. -/
theorem pr_head (hn : NumOk nt ok) (hmay : ∀ n, may n = true → nodeOk ok n) {t : List Nd} {s : Bs} (ht : t ≠ []) (h : tfold (ptx nt may) [] t = some [s]) : ∃ b y, s = b :: y ∧ b ≠ 45 := by
  rcases List.eq_nil_or_concat t with rfl | ⟨u, n, rfl⟩
  · exact absurd rfl ht
  rw [List.concat_eq_append] at h
  obtain ⟨ps, _, _, _, _, hv⟩ := tm_split h
  obtain ⟨hm, rfl⟩ := ptx_some hv
  split
  next k =>
    obtain ⟨b, y, e, h1, _⟩ := leaf_head hn (hmay n hm) k
    exact ⟨b, y, e, h1⟩
  next k =>
    obtain ⟨b, y, e, h1⟩ := up_head k (ps.map (·.2))
    refine ⟨b, y, e, ?_⟩
    rcases h1 with rfl | rfl | rfl <;> decide
theorem node_up {n n' : Nd} (h : nodeOk ok n) (h' : nodeOk ok n') (k : ¬ n.op ≤ 4) (e : n.op = n'.op) : n = n' := by
  obtain ⟨op, num, a, x, y⟩ := n
  obtain ⟨op', num', a', x', y'⟩ := n'
  dsimp only at *
  subst e
  rcases h with ⟨h0, _⟩ | ⟨h0, _⟩ | ⟨h0, h0', _⟩ | ⟨h0, h1, h2, h3, h4⟩
  · dsimp only at *; omega
  · dsimp only at *; omega
  · dsimp only at *; omega
  · rcases h' with ⟨g0, _⟩ | ⟨g0, _⟩ | ⟨g0, g0', _⟩ | ⟨g0, g1, g2, g3, g4⟩
    · dsimp only at *; omega
    · dsimp only at *; omega
    · dsimp only at *; omega
    · dsimp only at *
      subst h1; subst h2; subst h3; subst h4; subst g1; subst g2; subst g3; subst g4
      rfl
theorem arity_up {op : Int} (h : 0 ≤ arity op) (k : ¬ op ≤ 4) : (op = 5 ∧ arity op = 1) ∨ (6 ≤ op ∧ op ≤ 9 ∧ arity op = 2) ∨ (op = 10 ∧ arity op = 2) ∨ (op = 11 ∧ arity op = 2) ∨ (op = 12 ∧ arity op = 3) := by
  unfold arity at h ⊢
  split at h
  · omega
  · rename_i hc
    rw [if_neg hc] 
    split
    · omega
    split
    · omega
    split <;> omega
theorem arity_leaf {op : Int} (h : 0 ≤ arity op) (k : op ≤ 4) : arity op = 0 := by
  unfold arity at h ⊢
  split at h
  · omega
  · rename_i hc
    rw [if_neg hc, if_pos k]
theorem opc_inj {a b : Int} (h1 : 6 ≤ a) (h2 : a ≤ 9) (h3 : 6 ≤ b) (h4 : b ≤ 9) (h : opc a = opc b) : a = b := by
  have ha : a = 6 ∨ a = 7 ∨ a = 8 ∨ a = 9 := by omega
  have hb : b = 6 ∨ b = 7 ∨ b = 8 ∨ b = 9 := by omega
  rcases ha with rfl | rfl | rfl | rfl <;> rcases hb with rfl | rfl | rfl | rfl <;> first | rfl | (exact absurd h (by decide))
theorem up5 {op : Int} (h : op = 5) (l : List Bs) : upT op l = 40 :: 45 :: (b0 l ++ 41 :: []) := by unfold upT; rw [if_pos h]
theorem up6 {op : Int} (h : 6 ≤ op) (h' : op ≤ 9) (l : List Bs) : upT op l = 40 :: (b0 l ++ 32 :: (opc op :: (32 :: (b1 l ++ 41 :: [])))) := by unfold upT; rw [if_neg (by omega), if_pos h']
theorem up10 {op : Int} (h : op = 10) (l : List Bs) : upT op l = 109 :: 97 :: 120 :: 40 :: (b0 l ++ 44 :: (32 :: (b1 l ++ 41 :: []))) := by unfold upT; rw [if_neg (by omega), if_neg (by omega), if_pos h]
theorem up11 {op : Int} (h : op = 11) (l : List Bs) : upT op l = 109 :: 105 :: 110 :: 40 :: (b0 l ++ 44 :: (32 :: (b1 l ++ 41 :: []))) := by unfold upT; rw [if_neg (by omega), if_neg (by omega), if_neg (by omega), if_pos h]
theorem up12 {op : Int} (h : op = 12) (l : List Bs) : upT op l = 105 :: 102 :: 40 :: (b0 l ++ 44 :: (32 :: (b1 l ++ 44 :: (32 :: (b2 l ++ 41 :: []))))) := by unfold upT; rw [if_neg (by omega), if_neg (by omega), if_neg (by omega), if_neg (by omega)]
theorem len1 {α : Type} {l : List α} (h : l.length = 1) : ∃ a, l = [a] := by
  match l, h with
  | [a], _ => exact ⟨a, rfl⟩
theorem len2 {α : Type} {l : List α} (h : l.length = 2) : ∃ a b, l = [a, b] := by
  match l, h with
  | [a, b], _ => exact ⟨a, b, rfl⟩
theorem len3 {α : Type} {l : List α} (h : l.length = 3) : ∃ a b c, l = [a, b, c] := by
  match l, h with
  | [a, b, c], _ => exact ⟨a, b, c, rfl⟩
theorem apart (hn : NumOk nt ok) (hmay : ∀ n, may n = true → nodeOk ok n) : ∀ (k : Nat) (t t' : List Nd) (s s' r r' : Bs), t.length ≤ k → t ≠ [] → t' ≠ [] → tfold (ptx nt may) [] t = some [s] → tfold (ptx nt may) [] t' = some [s'] → delim r → delim r' → s ++ r = s' ++ r' → t = t' ∧ r = r'
  | k, t, t', s, s', r, r', hk, ht, ht', h, h', hr, hr', e => by
    rcases List.eq_nil_or_concat t with rfl | ⟨u, n, rfl⟩
    · exact absurd rfl ht
    rcases List.eq_nil_or_concat t' with rfl | ⟨u', n', rfl⟩
    · exact absurd rfl ht'
    rw [List.concat_eq_append] at h h' hk ⊢
    rw [List.concat_eq_append]
    obtain ⟨ps, p1, p2, p3, p4, pv⟩ := tm_split h
    obtain ⟨qs, q1, q2, q3, q4, qv⟩ := tm_split h'
    obtain ⟨hm, rfl⟩ := ptx_some pv
    obtain ⟨hm', rfl⟩ := ptx_some qv
    have on := hmay n hm
    have on' := hmay n' hm'
    have nz : ∀ p ∈ ps, p.1 ≠ [] := fun p hp e => by have := p2 p hp; rw [e] at this; unfold Tm tfold at this; simp at this
    have nz' : ∀ p ∈ qs, p.1 ≠ [] := fun p hp e => by have := q2 p hp; rw [e] at this; unfold Tm tfold at this; simp at this
    by_cases k4 : n.op ≤ 4
    · rw [if_pos k4] at e
      by_cases k4' : n'.op ≤ 4
      · rw [if_pos k4'] at e
        obtain ⟨e1, e2⟩ := leaf_inj hn on on' k4 k4' hr hr' e
        have a1 := arity_leaf (by omega) k4
        have a2 := arity_leaf (by omega) k4'
        have l1 : ps = [] := List.eq_nil_of_length_eq_zero (by omega)
        have l2 : qs = [] := List.eq_nil_of_length_eq_zero (by omega)
        subst l1; subst l2; subst p3; subst q3; subst e1
        exact ⟨rfl, e2⟩
      · rw [if_neg k4'] at e
        obtain ⟨b, y, e1, _, g1, g2, g3⟩ := leaf_head hn on k4
        obtain ⟨c, z, e2, g4⟩ := up_head k4' (qs.map (·.2))
        rw [e1, e2] at e
        simp only [List.cons_append, List.cons.injEq] at e
        rcases g4 with rfl | rfl | rfl
        · exact absurd e.1 g1
        · exact absurd e.1 g2
        · exact absurd e.1 g3
    · rw [if_neg k4] at e
      by_cases k4' : n'.op ≤ 4
      · rw [if_pos k4'] at e
        obtain ⟨b, y, e1, _, g1, g2, g3⟩ := leaf_head hn on' k4'
        obtain ⟨c, z, e2, g4⟩ := up_head k4 (ps.map (·.2))
        rw [e1, e2] at e
        simp only [List.cons_append, List.cons.injEq] at e
        rcases g4 with rfl | rfl | rfl
        · exact absurd e.1.symm g1
        · exact absurd e.1.symm g2
        · exact absurd e.1.symm g3
      · rw [if_neg k4'] at e
        have A := arity_up (by omega) k4
        have A' := arity_up (by omega) k4'
        have sub : ∀ p ∈ ps, ∀ q ∈ qs, ∀ {x x' : Bs}, delim x → delim x' → p.2 ++ x = q.2 ++ x' → p.1 = q.1 ∧ x = x' := by
          intro p hp q hq x x' hx hx' e
          have hlt : p.1.length < k := by
            have h1 : p.1.length ≤ (ps.map (·.1)).flatten.length := by
              obtain ⟨a, b, rfl⟩ := List.append_of_mem hp
              simp; omega
            rw [p3] at h1
            simp at hk
            omega
          cases k with
          | zero => omega
          | succ k => exact apart hn hmay k p.1 q.1 p.2 q.2 x x' (by omega) (nz p hp) (nz' q hq) (p1 p hp) (q1 q hq) hx hx' e
        have hd : ∀ p ∈ ps, ∃ b y, p.2 = b :: y ∧ b ≠ 45 := fun p hp => pr_head hn hmay (nz p hp) (p1 p hp)
        have hd' : ∀ p ∈ qs, ∃ b y, p.2 = b :: y ∧ b ≠ 45 := fun p hp => pr_head hn hmay (nz' p hp) (q1 p hp)
        have nn : n.op = n'.op → n = n' := fun e => node_up on on' k4 e
        have two : ∀ {c : UInt8} {p q p' q' : List Nd × Bs}, (c = 32 ∨ c = 44) → ps = [p, q] → qs = [p', q'] → ∀ {d d' : UInt8}, p.2 ++ c :: (d :: (32 :: (q.2 ++ 41 :: r))) = p'.2 ++ c :: (d' :: (32 :: (q'.2 ++ 41 :: r'))) → d = d' ∧ ps.map (·.1) = qs.map (·.1) ∧ r = r' := by
          intro c p q p' q' hc e1 e2 d d' e3
          have s1 := sub p (by rw [e1]; simp) p' (by rw [e2]; simp) (delim_cons (by rcases hc with h | h <;> simp [h])) (delim_cons (by rcases hc with h | h <;> simp [h])) e3
          have s2 := s1.2
          simp only [List.cons.injEq, true_and] at s2
          have s3 := sub q (by rw [e1]; simp) q' (by rw [e2]; simp) (delim_cons (by simp)) (delim_cons (by simp)) s2.2
          have s4 := s3.2
          simp only [List.cons.injEq, true_and] at s4
          refine ⟨s2.1, ?_, s4⟩
          rw [e1, e2]
          simp [s1.1, s3.1]
        have two' : ∀ {p q p' q' : List Nd × Bs}, ps = [p, q] → qs = [p', q'] → p.2 ++ 44 :: (32 :: (q.2 ++ 41 :: r)) = p'.2 ++ 44 :: (32 :: (q'.2 ++ 41 :: r')) → ps.map (·.1) = qs.map (·.1) ∧ r = r' := by
          intro p q p' q' e1 e2 e3
          have s1 := sub p (by rw [e1]; simp) p' (by rw [e2]; simp) (delim_cons (by simp)) (delim_cons (by simp)) e3
          have s2 := s1.2
          simp only [List.cons.injEq, true_and] at s2
          have s3 := sub q (by rw [e1]; simp) q' (by rw [e2]; simp) (delim_cons (by simp)) (delim_cons (by simp)) s2
          have s4 := s3.2
          simp only [List.cons.injEq, true_and] at s4
          refine ⟨?_, s4⟩
          rw [e1, e2]
          simp [s1.1, s3.1]
        have done' : n.op = n'.op → ps.map (·.1) = qs.map (·.1) → r = r' → u ++ [n] = u' ++ [n'] ∧ r = r' := fun e1 e2 e3 => ⟨by rw [← p3, ← q3, e2, nn e1], e3⟩
        rcases A with ⟨a1, a2⟩ | ⟨a1, a1', a2⟩ | ⟨a1, a2⟩ | ⟨a1, a2⟩ | ⟨a1, a2⟩
        · obtain ⟨p, rfl⟩ := len1 (l := ps) (by omega)
          rw [up5 a1] at e
          rcases A' with ⟨c1, c2⟩ | ⟨c1, c1', c2⟩ | ⟨c1, c2⟩ | ⟨c1, c2⟩ | ⟨c1, c2⟩
          · obtain ⟨q, rfl⟩ := len1 (l := qs) (by omega)
            rw [up5 c1] at e
            simp only [List.cons_append, List.cons.injEq, true_and, List.append_assoc, List.nil_append] at e
            have s1 := sub p (by simp) q (by simp) (delim_cons (by simp)) (delim_cons (by simp)) e
            have s2 := s1.2
            simp only [List.cons.injEq, true_and] at s2
            exact done' (by omega) (by simp [s1.1]) s2
          · obtain ⟨q, q', rfl⟩ := len2 (l := qs) (by omega)
            rw [up6 c1 c1'] at e
            obtain ⟨b, y, g1, g2⟩ := hd' q (by simp)
            simp only [List.cons_append, List.cons.injEq, true_and] at e
            have e' := e
            rw [show b0 (List.map (fun x => x.2) [q, q']) = q.2 from rfl, g1] at e'
            simp only [List.cons_append, List.cons.injEq] at e'
            exact absurd e'.1.symm g2
          · rw [up10 c1] at e; simp at e
          · rw [up11 c1] at e; simp at e
          · rw [up12 c1] at e; simp at e
        · obtain ⟨p, q, rfl⟩ := len2 (l := ps) (by omega)
          rw [up6 a1 a1'] at e
          rcases A' with ⟨c1, c2⟩ | ⟨c1, c1', c2⟩ | ⟨c1, c2⟩ | ⟨c1, c2⟩ | ⟨c1, c2⟩
          · rw [up5 c1] at e
            obtain ⟨b, y, g1, g2⟩ := hd p (by simp)
            simp only [List.cons_append, List.cons.injEq, true_and] at e
            have e' := e
            rw [show b0 (List.map (fun x => x.2) [p, q]) = p.2 from rfl, g1] at e'
            simp only [List.cons_append, List.cons.injEq] at e'
            exact absurd e'.1 g2
          · obtain ⟨p', q', rfl⟩ := len2 (l := qs) (by omega)
            rw [up6 c1 c1'] at e
            simp only [List.cons_append, List.cons.injEq, true_and, List.append_assoc, List.nil_append] at e
            obtain ⟨s1, s2, s3⟩ := two (.inl rfl) rfl rfl e
            exact done' (opc_inj a1 a1' c1 c1' s1) s2 s3
          · rw [up10 c1] at e; simp at e
          · rw [up11 c1] at e; simp at e
          · rw [up12 c1] at e; simp at e
        · obtain ⟨p, q, rfl⟩ := len2 (l := ps) (by omega)
          rw [up10 a1] at e
          rcases A' with ⟨c1, c2⟩ | ⟨c1, c1', c2⟩ | ⟨c1, c2⟩ | ⟨c1, c2⟩ | ⟨c1, c2⟩
          · rw [up5 c1] at e; simp at e
          · rw [up6 c1 c1'] at e; simp at e
          · obtain ⟨p', q', rfl⟩ := len2 (l := qs) (by omega)
            rw [up10 c1] at e
            simp only [List.cons_append, List.cons.injEq, true_and, List.append_assoc, List.nil_append] at e
            obtain ⟨s2, s3⟩ := two' rfl rfl e
            exact done' (by omega) s2 s3
          · rw [up11 c1] at e; simp at e
          · rw [up12 c1] at e; simp at e
        · obtain ⟨p, q, rfl⟩ := len2 (l := ps) (by omega)
          rw [up11 a1] at e
          rcases A' with ⟨c1, c2⟩ | ⟨c1, c1', c2⟩ | ⟨c1, c2⟩ | ⟨c1, c2⟩ | ⟨c1, c2⟩
          · rw [up5 c1] at e; simp at e
          · rw [up6 c1 c1'] at e; simp at e
          · rw [up10 c1] at e; simp at e
          · obtain ⟨p', q', rfl⟩ := len2 (l := qs) (by omega)
            rw [up11 c1] at e
            simp only [List.cons_append, List.cons.injEq, true_and, List.append_assoc, List.nil_append] at e
            obtain ⟨s2, s3⟩ := two' rfl rfl e
            exact done' (by omega) s2 s3
          · rw [up12 c1] at e; simp at e
        · obtain ⟨p, q, m, rfl⟩ := len3 (l := ps) (by omega)
          rw [up12 a1] at e
          rcases A' with ⟨c1, c2⟩ | ⟨c1, c1', c2⟩ | ⟨c1, c2⟩ | ⟨c1, c2⟩ | ⟨c1, c2⟩
          · rw [up5 c1] at e; simp at e
          · rw [up6 c1 c1'] at e; simp at e
          · rw [up10 c1] at e; simp at e
          · rw [up11 c1] at e; simp at e
          · obtain ⟨p', q', m', rfl⟩ := len3 (l := qs) (by omega)
            rw [up12 c1] at e
            simp only [List.cons_append, List.cons.injEq, true_and, List.append_assoc, List.nil_append] at e
            have s1 := sub p (by simp) p' (by simp) (delim_cons (by simp)) (delim_cons (by simp)) e
            have s2 := s1.2
            simp only [List.cons.injEq, true_and] at s2
            have s3 := sub q (by simp) q' (by simp) (delim_cons (by simp)) (delim_cons (by simp)) s2
            have s4 := s3.2
            simp only [List.cons.injEq, true_and] at s4
            have s5 := sub m (by simp) m' (by simp) (delim_cons (by simp)) (delim_cons (by simp)) s4
            have s6 := s5.2
            simp only [List.cons.injEq, true_and] at s6
            exact done' (by omega) (by simp [s1.1, s3.1, s5.1]) s6
end
end Go.Proofs.YtjdofncognaaoaaGreatDoor
