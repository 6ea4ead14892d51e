/- A region that draws its order, with one call that answers a slice and true, which are taken apart and kept, besides quiet operations. -/
import Derived.Test.YtdkpbifpafaabaaGreatDoorGhA
namespace Go.Proofs.YtdkpbifpafaabaaGreatDoor
open Go Go.RowKit
set_option linter.unusedVariables false
set_option linter.unusedSimpArgs false

section
variable {P : Program} {l : List Oper} {w : World} {Q : Exit → Act → World → Prop}
def Sl.t (m : Nat) (p : Sl) : Value := .tuple #[.slice p.1 m p.2, .bool true]
def resSp (i1 i2 i3 i4 : Nat) (i : Nat) : Bool := i == i1 || (i == i2 || (i == i3 || i == i4))
def resΓ (m i1 i2 : Nat) (p : Sl) (i : Nat) : Value := if i = i1 then p.t m else if i = i2 then p.t m else p.v m
structure Res (P : Program) (l : List Oper) (i1 i2 i3 i4 d1 d2 d3 d4 m : Nat) (R : Option Addr → Nat → World → Prop) (w : World) (A : Sl → Act) (Q : Exit → Act → World → Prop) : Prop where
  back : backB l = true
  dist : distinctB l = true
  n12 : i1 ≠ i2
  n13 : i1 ≠ i3
  n14 : i1 ≠ i4
  n23 : i2 ≠ i3
  n24 : i2 ≠ i4
  n34 : i3 ≠ i4
  w21 : waitsB l i2 i1 = true
  w32 : waitsB l i3 i2 = true
  w43 : waitsB l i4 i3 = true
  k1 : ∀ p, ∃ o, l[i1]? = some o ∧ o.dst = some d1 ∧ ∀ (a : Act) (W : World), Below w.heap.size w W → Given l i1 a (A p) → Region.wanted o (yielded l.toArray a.tmps) = true ∧
    wpOp P l.toArray Q i1 (fun a' W' => ∃ B k, a' = a.put (some d1) (Sl.t m (B, k)) ∧ R B k W' ∧ Below W.heap.size W W') a W
  k2 : ∃ o, l[i2]? = some o ∧ o.dst = some d2 ∧ o.guard = none ∧ o.op = .move (.tmp d1)
  k3 : ∃ o, l[i3]? = some o ∧ o.dst = some d3 ∧ o.guard = none ∧ o.op = .extract (.tmp d2) 0
  k4 : ∃ o, l[i4]? = some o ∧ o.dst = some d4 ∧ o.guard = none ∧ o.op = .assign (.tmp d3)
  s1 : ∀ p, (A p).tmps[d1]? = some (p.t m)
  s2 : ∀ p, (A p).tmps[d2]? = some (p.t m)
  s3 : ∀ p, (A p).tmps[d3]? = some (p.v m)
  stay : ∀ B k W W', R B k W → Below W.heap.size W W' → R B k W'
  hA : ∀ p, A p = ((((A (none, 0)).put (some d1) (p.t m)).put (some d2) (p.t m)).put (some d3) (p.v m)).put (some d4) (p.v m)
  hQ : ∀ p W, R p.1 p.2 W → Below w.heap.size w W → Q .normal (A p) W
structure ResJ (i1 i2 i3 i4 : Nat) (R : Option Addr → Nat → World → Prop) (s : Array Bool) (p : Sl) (W : World) : Prop where
  a : s.getD i1 true = true → R p.1 p.2 W
  b : s.getD i2 true = true → s.getD i1 true = true
  c : s.getD i3 true = true → s.getD i1 true = true
  d : s.getD i4 true = true → s.getD i1 true = true
variable {i1 i2 i3 i4 d1 d2 d3 d4 m : Nat} {R : Option Addr → Nat → World → Prop} {A : Sl → Act}
theorem ResJ.set {s : Array Bool} {p : Sl} {W W' : World} {i : Nat} (h : ResJ i1 i2 i3 i4 R s p W) (hs : ∀ B k W W', R B k W → Below W.heap.size W W' → R B k W') (hB : Below W.heap.size W W') (n1 : i ≠ i1) (h1 : i = i2 ∨ i = i3 ∨ i = i4 → s.getD i1 true = true) : ResJ i1 i2 i3 i4 R (s.setIfInBounds i true) p W' := by
  have e1 : (s.setIfInBounds i true).getD i1 true = s.getD i1 true := set_keep n1
  refine ⟨fun h' => hs _ _ _ _ (h.a (by rwa [e1] at h')) hB, fun h' => ?_, fun h' => ?_, fun h' => ?_⟩
  · rw [e1]
    by_cases e : i = i2
    · exact h1 (.inl e)
    · exact h.b (by rwa [set_keep e] at h')
  · rw [e1]
    by_cases e : i = i3
    · exact h1 (.inr (.inl e))
    · exact h.c (by rwa [set_keep e] at h')
  · rw [e1]
    by_cases e : i = i4
    · exact h1 (.inr (.inr e))
    · exact h.d (by rwa [set_keep e] at h')
theorem Res.ghost (B : Res P l i1 i2 i3 i4 d1 d2 d3 d4 m R w A Q) (h1l : i1 < l.length) : Ghost P l (resSp i1 i2 i3 i4) Sl (resΓ m i1 i2) w A (ResJ i1 i2 i3 i4 R) Q where
  back := B.back
  dist := B.dist
  hA := fun p p' d hd => by
    obtain ⟨o1, h1, e1, _⟩ := B.k1 p
    obtain ⟨o2, h2, e2, _⟩ := B.k2
    obtain ⟨o3, h3, e3, _⟩ := B.k3
    obtain ⟨o4, h4, e4, _⟩ := B.k4
    have n1 : d1 ≠ d := fun e => hd i1 o1 (by simp [resSp]) h1 (by rw [e1, e])
    have n2 : d2 ≠ d := fun e => hd i2 o2 (by simp [resSp]) h2 (by rw [e2, e])
    have n3 : d3 ≠ d := fun e => hd i3 o3 (by simp [resSp]) h3 (by rw [e3, e])
    have n4 : d4 ≠ d := fun e => hd i4 o4 (by simp [resSp]) h4 (by rw [e4, e])
    rw [B.hA p, B.hA p']
    unfold Act.put
    dsimp only
    rw [Array.getElem?_setIfInBounds, if_neg n4, Array.getElem?_setIfInBounds, if_neg n3, Array.getElem?_setIfInBounds, if_neg n2, Array.getElem?_setIfInBounds, if_neg n1, Array.getElem?_setIfInBounds, if_neg n4, Array.getElem?_setIfInBounds, if_neg n3, Array.getElem?_setIfInBounds, if_neg n2, Array.getElem?_setIfInBounds, if_neg n1]
  hJ := fun s i p W W' hsp hj hW hB => by
    have n : i ≠ i1 ∧ i ≠ i2 ∧ i ≠ i3 ∧ i ≠ i4 := by simpa [resSp] using hsp
    exact hj.set B.stay hB n.1 fun h => by rcases h with e | e | e; exact absurd e n.2.1; exact absurd e n.2.2.1; exact absurd e n.2.2.2
  hS := fun s i o a p W hsp ho hi hsz hW hj hsl => by
    have hun := (mem_ready.1 hi).1
    have hgiv : Given l i a (A p) := fun j oj d hjo hjd hw => hsl j oj d hjo hjd (waits_at hw hi)
    have hval : ∀ {v : Value}, o.guard = none → i ≠ i1 → (i = i2 ∨ i = i3 ∨ i = i4 → s.getD i1 true = true) → resΓ m i1 i2 p i = v → (execOp a.eval o).run P W = .ok (.value v) W → Region.wanted o (yielded l.toArray a.tmps) = true ∧
        wpOp P l.toArray Q i (fun a' W' => ∃ p', (∀ j, resSp i1 i2 i3 i4 j = true → s.getD j true = true → resΓ m i1 i2 p' j = resΓ m i1 i2 p j) ∧ Below w.heap.size w W' ∧ a' = a.put o.dst (resΓ m i1 i2 p' i) ∧ ResJ i1 i2 i3 i4 R (s.setIfInBounds i true) p' W') a W := fun hg n1 hd hv hr =>
      ⟨wanted_none hg, wpOp_val ho (wanted_none hg) hr ⟨p, fun _ _ _ => rfl, hW, by rw [hv], hj.set B.stay (Below.refl _ _) n1 hd⟩⟩
    simp only [resSp, Bool.or_eq_true, beq_iff_eq] at hsp
    rcases hsp with e | e | e | e
    · subst e
      obtain ⟨o', ho', hod, hr⟩ := B.k1 p
      rw [ho] at ho'
      injection ho' with ho'
      subst ho'
      obtain ⟨hw, hop⟩ := hr a W hW hgiv
      refine ⟨hw, wpOp_mono (fun a' W' h => ?_) hop⟩
      obtain ⟨C, k, rfl, hR, hB⟩ := h
      refine ⟨(C, k), fun j hj2 hjs => ?_, b_then hW hB, by rw [hod]; simp [resΓ], ?_⟩
      · have hji : j ≠ i := fun e => by subst e; rw [hun] at hjs; cases hjs
        simp only [resSp, Bool.or_eq_true, beq_iff_eq] at hj2
        rcases hj2 with e | e | e | e
        · exact absurd e hji
        · subst e; have := hj.b hjs; rw [hun] at this; cases this
        · subst e; have := hj.c hjs; rw [hun] at this; cases this
        · subst e; have := hj.d hjs; rw [hun] at this; cases this
      · have e1 : (s.setIfInBounds i true).getD i true = true := listed_at s i
        exact ⟨fun _ => hR, fun _ => e1, fun _ => e1, fun _ => e1⟩
    · subst e
      obtain ⟨o', ho', hod, hg, hop⟩ := B.k2
      rw [ho] at ho'
      injection ho' with ho'
      subst ho'
      obtain ⟨o1, h1, e1, _⟩ := B.k1 p
      have g := (hgiv i1 o1 d1 h1 e1 B.w21).trans (B.s1 p)
      exact hval (v := p.t m) hg (Ne.symm B.n12) (fun _ => waits_at B.w21 hi) (by simp [resΓ, Ne.symm B.n12]) (by unfold execOp; rw [hop]; simp [go_sem, g])
    · subst e
      obtain ⟨o', ho', hod, hg, hop⟩ := B.k3
      rw [ho] at ho'
      injection ho' with ho'
      subst ho'
      obtain ⟨o1, h1, e1, _⟩ := B.k2
      have g := (hgiv i2 o1 d2 h1 e1 B.w32).trans (B.s2 p)
      exact hval (v := p.v m) hg (Ne.symm B.n13) (fun _ => hj.b (waits_at B.w32 hi)) (by simp [resΓ, Ne.symm B.n13, Ne.symm B.n23]) (by unfold execOp; rw [hop]; simp [go_sem, g, Sl.t, Sl.v])
    · subst e
      obtain ⟨o', ho', hod, hg, hop⟩ := B.k4
      rw [ho] at ho'
      injection ho' with ho'
      subst ho'
      obtain ⟨o1, h1, e1, _⟩ := B.k3
      have g := (hgiv i3 o1 d3 h1 e1 B.w43).trans (B.s3 p)
      exact hval (v := p.v m) hg (Ne.symm B.n14) (fun _ => hj.c (waits_at B.w43 hi)) (by simp [resΓ, Ne.symm B.n14, Ne.symm B.n24]) (by unfold execOp; rw [hop]; simp [go_sem, g])
  hQ := fun s p W hall hj hW => B.hQ p W (hj.a (hall i1 h1l)) hW
/-- The region, the answer named. -/
def resl (l : List Oper) (i1 i2 i3 i4 : Nat) (t v : Value) : List Oper := (((l.modify i1 (repV t)).modify i2 (repV t)).modify i3 (repV v)).modify i4 (repV v)
theorem ghost_res (n12 : i1 ≠ i2) (n13 : i1 ≠ i3) (n14 : i1 ≠ i4) (n23 : i2 ≠ i3) (n24 : i2 ≠ i4) (n34 : i3 ≠ i4) (p : Sl) : Go.Proofs.YtdkpbifpafaabaaGreatDoor.ghost (resSp i1 i2 i3 i4) (resΓ m i1 i2 p) l = resl l i1 i2 i3 i4 (.tuple #[.slice p.1 m p.2, .bool true]) (.slice p.1 m p.2) := by
  apply List.ext_getElem?
  intro i
  unfold Go.Proofs.YtdkpbifpafaabaaGreatDoor.ghost resl
  rw [List.getElem?_mapIdx, List.getElem?_modify, List.getElem?_modify, List.getElem?_modify, List.getElem?_modify]
  cases l[i]? with
  | none => rfl
  | some o =>
    by_cases e1 : i = i1
    · subst e1; simp [resSp, resΓ, repV, Sl.t, Sl.v, n12, n13, n14, Ne.symm n12, Ne.symm n13, Ne.symm n14]
    · by_cases e2 : i = i2
      · subst e2; simp [resSp, resΓ, repV, Sl.t, Sl.v, e1, Ne.symm e1, Ne.symm n23, Ne.symm n24]
      · by_cases e3 : i = i3
        · subst e3; simp [resSp, resΓ, repV, Sl.t, Sl.v, e1, Ne.symm e1, e2, Ne.symm e2, Ne.symm n34]
        · by_cases e4 : i = i4
          · subst e4; simp [resSp, resΓ, repV, Sl.t, Sl.v, e1, Ne.symm e1, e2, Ne.symm e2, e3, Ne.symm e3]
          · simp [resSp, e1, Ne.symm e1, e2, Ne.symm e2, e3, Ne.symm e3, e4, Ne.symm e4]
theorem wp_region_res {id : Nat} {a : Act} (i1 i2 i3 i4 d1 d2 d3 d4 m : Nat) (R : Option Addr → Nat → World → Prop) (A : Sl → Act) (hm : P.follows .mixedOrders = true) (hB : ∀ p : Sl, Region.lexB .any (resl l i1 i2 i3 i4 (.tuple #[.slice p.1 m p.2, .bool true]) (.slice p.1 m p.2)).toArray = true)
    (h : ∀ (p : Sl) (x : After w), wpQuiet P (resl l i1 i2 i3 i4 (.tuple #[.slice p.1 m p.2, .bool true]) (.slice p.1 m p.2)).toArray (fun w' => ∃ y : After x.W, w' = y.W) (fun a' => a' = A p) (resl l i1 i2 i3 i4 (.tuple #[.slice p.1 m p.2, .bool true]) (.slice p.1 m p.2)) a)
    (B : Res P l i1 i2 i3 i4 d1 d2 d3 d4 m R w A Q) (h1 : i1 < l.length) (h2 : i2 < l.length) (h3 : i3 < l.length) (h4 : i4 < l.length) : (Code.region id l.toArray true).wp P Q a w := by
  have f : ∀ {i}, i < l.length → (Array.replicate l.length false).getD i true = true → False := fun hi h => by rw [getD_replicate_false' hi] at h; cases h
  exact wp_region_ghost ((none, 0) : Sl) hm (fun p => by rw [ghost_res B.n12 B.n13 B.n14 B.n23 B.n24 B.n34 p]; exact hB p) (fun p x => by rw [ghost_res B.n12 B.n13 B.n14 B.n23 B.n24 B.n34 p]; exact h p x)
    (fun W hW => ⟨fun h => (f h1 h).elim, fun h => (f h2 h).elim, fun h => (f h3 h).elim, fun h => (f h4 h).elim⟩) (B.ghost h1)
/-- A call that answers a slice and true. -/
theorem res_call {i d : Nat} {o : Oper} {a : Act} {W : World} {f : FuncId} {args : Array Value} (ho : l[i]? = some o) (hod : o.dst = some d) (hg : o.guard = none)
    (hr : (execOp a.eval o).run P W = .ok (.enter f args) W) (h : Calls P f args W fun e w' => ∃ B k, e = .returned (.tuple #[.slice B m k, .bool true]) ∧ R B k w' ∧ Below W.heap.size W w') :
    Region.wanted o (yielded l.toArray a.tmps) = true ∧ wpOp P l.toArray Q i (fun a' W' => ∃ B k, a' = a.put (some d) (Sl.t m (B, k)) ∧ R B k W' ∧ Below W.heap.size W W') a W :=
  ⟨wanted_none hg, wpOp_call ho (wanted_none hg) hr (h.mono fun e w' ⟨B, k, he, hR, hB⟩ => ⟨_, he, B, k, by rw [hod]; rfl, hR, hB⟩)⟩
end
end Go.Proofs.YtdkpbifpafaabaaGreatDoor
