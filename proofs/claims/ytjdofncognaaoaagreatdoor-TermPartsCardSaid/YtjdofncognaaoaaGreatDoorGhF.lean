/- A region that draws its order: a slice that is made, an element's place in it, and what is read there, besides quiet operations. -/
import Derived.Test.YtjdofncognaaoaaGreatDoorGhA
namespace Go.Proofs.YtjdofncognaaoaaGreatDoor
open Go Go.RowKit
set_option linter.unusedVariables false
set_option linter.unusedSimpArgs false

section
variable {P : Program} {l : List Oper} {w : World} {Q : Exit → Act → World → Prop}
structure Pick (P : Program) (l : List Oper) (i r j d f e m : Nat) (V : Sl → Value) (v : Value) (R : Option Addr → Nat → World → Prop) (w : World) (A : Sl → Act) (Q : Exit → Act → World → Prop) : Prop where
  back : backB l = true
  dist : distinctB l = true
  n1 : i ≠ j
  n2 : i ≠ r
  n3 : r ≠ j
  w1 : waitsB l r i = true
  w2 : waitsB l j r = true
  k : ∀ p, ∃ o, l[i]? = some o ∧ o.dst = some d ∧ ∀ (a : Act) (W : World), Below w.heap.size w W → Given l i a (A p) → Region.wanted o (yielded l.toArray a.tmps) = true ∧
    wpOp P l.toArray Q i (fun a' W' => ∃ B k, a' = a.put (some d) (.slice B m k) ∧ R B k W' ∧ Below W.heap.size W W') a W
  g : ∀ p, ∃ o, l[r]? = some o ∧ o.dst = some f ∧ ∀ (a : Act) (W : World), Below w.heap.size w W → R p.1 p.2 W → Given l r a (A p) → Region.wanted o (yielded l.toArray a.tmps) = true ∧
    wpOp P l.toArray Q r (fun a' W' => a' = a.put (some f) (V p) ∧ Below W.heap.size W W') a W
  c : ∀ p, ∃ o, l[j]? = some o ∧ o.dst = some e ∧ ∀ (a : Act) (W : World), Below w.heap.size w W → R p.1 p.2 W → Given l j a (A p) → Region.wanted o (yielded l.toArray a.tmps) = true ∧
    wpOp P l.toArray Q j (fun a' W' => a' = a.put (some e) v ∧ Below W.heap.size W W') a W
  stay : ∀ B k W W', R B k W → Below W.heap.size W W' → R B k W'
  hA : ∀ p, A p = (((A (none, 0)).put (some d) (p.v m)).put (some f) (V p)).put (some e) v
  hQ : ∀ p W, Below w.heap.size w W → R p.1 p.2 W → Q .normal (A p) W
variable {i r j d f e m : Nat} {V : Sl → Value} {v : Value} {R : Option Addr → Nat → World → Prop} {A : Sl → Act}
def pkJ (i r : Nat) (R : Option Addr → Nat → World → Prop) (s : Array Bool) (p : Sl) (W : World) : Prop := (s.getD i true = true → R p.1 p.2 W) ∧ (s.getD r true = true → s.getD i true = true)
theorem set_self (s : Array Bool) (i : Nat) : (s.setIfInBounds i true).getD i true = true := by
  rw [Array.getD_eq_getD_getElem?, Array.getElem?_setIfInBounds, if_pos rfl]
  split <;> rfl
theorem Pick.ghost (B : Pick P l i r j d f e m V v R w A Q) (hi' : i < l.length) : Ghost P l (fun t => t == i || (t == r || t == j)) Sl (fun p t => if t = i then p.v m else if t = r then V p else v) w A (pkJ i r R) Q where
  back := B.back
  dist := B.dist
  hA := fun p p' d' hd => by
    obtain ⟨o, ho, e1, _⟩ := B.k p
    obtain ⟨o2, ho2, e2, _⟩ := B.c p
    obtain ⟨o3, ho3, e3, _⟩ := B.g p
    have n1 : d ≠ d' := fun e' => hd i o (by simp) ho (by rw [e1, e'])
    have n2 : e ≠ d' := fun e' => hd j o2 (by simp) ho2 (by rw [e2, e'])
    have n3 : f ≠ d' := fun e' => hd r o3 (by simp) ho3 (by rw [e3, e'])
    rw [B.hA p, B.hA p']
    unfold Act.put
    dsimp only
    rw [Array.getElem?_setIfInBounds, if_neg n2, Array.getElem?_setIfInBounds, if_neg n3, Array.getElem?_setIfInBounds, if_neg n1, Array.getElem?_setIfInBounds, if_neg n2, Array.getElem?_setIfInBounds, if_neg n3, Array.getElem?_setIfInBounds, if_neg n1]
  hJ := fun s t p W W' hsp hj hW hB => by
    have hn : t ≠ i ∧ t ≠ r ∧ t ≠ j := by simpa using hsp
    exact ⟨fun h => B.stay _ _ _ _ (hj.1 (by rwa [set_keep hn.1] at h)) hB, fun h => by rw [set_keep hn.1]; exact hj.2 (by rwa [set_keep hn.2.1] at h)⟩
  hS := fun s t o a p W hsp ho hi hsz hW hj hsl => by
    have hun := (mem_ready.1 hi).1
    have hgiv : Given l t a (A p) := fun u oj d' hjo hjd hw => hsl u oj d' hjo hjd (waits_at hw hi)
    have hti : t = i ∨ t = r ∨ t = j := by simpa using hsp
    rcases hti with rfl | rfl | rfl
    · obtain ⟨o', ho', hod, hr⟩ := B.k p
      rw [ho] at ho'
      injection ho' with ho'
      subst ho'
      obtain ⟨hw, hop⟩ := hr a W hW hgiv
      refine ⟨hw, wpOp_mono (fun a' W' h => ?_) hop⟩
      obtain ⟨C, k, rfl, hR, hB⟩ := h
      refine ⟨(C, k), ?_, b_then hW hB, by rw [hod]; simp [Sl.v], fun _ => hR, fun _ => set_self s t⟩
      intro u hu hs
      have hne : u ≠ t := fun e' => by subst e'; rw [hun] at hs; cases hs
      have hnr : u ≠ r := fun e' => by
        subst e'
        have := hj.2 hs
        rw [hun] at this; cases this
      simp [hne, hnr]
    · obtain ⟨o', ho', hod, hr⟩ := B.g p
      rw [ho] at ho'
      injection ho' with ho'
      subst ho'
      have hsi := waits_at B.w1 hi
      obtain ⟨hw, hop⟩ := hr a W hW (hj.1 hsi) hgiv
      refine ⟨hw, wpOp_mono (fun a' W' h => ?_) hop⟩
      obtain ⟨rfl, hB⟩ := h
      refine ⟨p, fun _ _ _ => rfl, b_then hW hB, by rw [hod]; simp [Ne.symm B.n2], fun h => B.stay _ _ _ _ (hj.1 hsi) hB, fun _ => by rw [set_keep (Ne.symm B.n2)]; exact hsi⟩
    · obtain ⟨o', ho', hod, hr⟩ := B.c p
      rw [ho] at ho'
      injection ho' with ho'
      subst ho'
      have hsi := hj.2 (waits_at B.w2 hi)
      obtain ⟨hw, hop⟩ := hr a W hW (hj.1 hsi) hgiv
      refine ⟨hw, wpOp_mono (fun a' W' h => ?_) hop⟩
      obtain ⟨rfl, hB⟩ := h
      refine ⟨p, fun _ _ _ => rfl, b_then hW hB, by rw [hod]; simp [Ne.symm B.n1, Ne.symm B.n3], fun h => B.stay _ _ _ _ (hj.1 hsi) hB, fun h => by rw [set_keep (Ne.symm B.n1)]; exact hsi⟩
  hQ := fun s p W hall hj hW => B.hQ p W hW (hj.1 (hall i hi'))
def pickl (l : List Oper) (i r j : Nat) (u x v : Value) : List Oper := ((l.modify i (repV u)).modify r (repV x)).modify j (repV v)
theorem ghost_pick (n1 : i ≠ j) (n2 : i ≠ r) (n3 : r ≠ j) (p : Sl) : Go.Proofs.YtjdofncognaaoaaGreatDoor.ghost (fun t => t == i || (t == r || t == j)) (fun t => if t = i then p.v m else if t = r then V p else v) l = pickl l i r j (.slice p.1 m p.2) (V p) v := by
  apply List.ext_getElem?
  intro t
  unfold Go.Proofs.YtjdofncognaaoaaGreatDoor.ghost pickl
  rw [List.getElem?_mapIdx, List.getElem?_modify, List.getElem?_modify, List.getElem?_modify]
  cases l[t]? with
  | none => rfl
  | some o =>
    by_cases e1 : t = i
    · subst e1; simp [repV, Sl.v, Ne.symm n1, Ne.symm n2]
    · by_cases e2 : t = r
      · subst e2; simp [repV, e1, Ne.symm e1, Ne.symm n3]
      · by_cases e3 : t = j
        · subst e3; simp [repV, e1, Ne.symm e1, e2, Ne.symm e2]
        · simp [e1, Ne.symm e1, e2, Ne.symm e2, e3, Ne.symm e3]
theorem wp_region_pick {id : Nat} {a : Act} (i r j d f e m : Nat) (V : Sl → Value) (v : Value) (R : Option Addr → Nat → World → Prop) (A : Sl → Act) (hm : P.follows .mixedOrders = true) (hB : ∀ p : Sl, Region.lexB .any (pickl l i r j (.slice p.1 m p.2) (V p) v).toArray = true)
    (h : ∀ (p : Sl) (x : After w), wpQuiet P (pickl l i r j (.slice p.1 m p.2) (V p) v).toArray (fun w' => ∃ y : After x.W, w' = y.W) (fun a' => a' = A p) (pickl l i r j (.slice p.1 m p.2) (V p) v) a)
    (B : Pick P l i r j d f e m V v R w A Q) (hi : i < l.length) (hr : r < l.length) : (Code.region id l.toArray true).wp P Q a w :=
  wp_region_ghost ((none, 0) : Sl) hm (fun p => by rw [ghost_pick B.n1 B.n2 B.n3 p]; exact hB p) (fun p x => by rw [ghost_pick B.n1 B.n2 B.n3 p]; exact h p x)
    (fun W hW => ⟨fun h => (by rw [getD_replicate_false' hi] at h; cases h), fun h => (by rw [getD_replicate_false' hr] at h; cases h)⟩) (B.ghost hi)
/-- An operation that yields a value, and leaves the world. -/
theorem pk_val {t s : Nat} {o : Oper} {a : Act} {W : World} {u : Value} (ho : l[t]? = some o) (hod : o.dst = some s) (hg : o.guard = none) (hr : (execOp a.eval o).run P W = .ok (.value u) W) :
    Region.wanted o (yielded l.toArray a.tmps) = true ∧ wpOp P l.toArray Q t (fun a' W' => a' = a.put (some s) u ∧ Below W.heap.size W W') a W :=
  ⟨wanted_none hg, wpOp_val ho (wanted_none hg) hr ⟨by rw [hod], Below.refl _ _⟩⟩
end
end Go.Proofs.YtjdofncognaaoaaGreatDoor
