/- A region that draws its order, with one variable that it makes and one store into it, besides quiet operations: walked once. -/
import Derived.Test.YtjdofncognaaoaaGreatDoorNum
namespace Go.Proofs.YtjdofncognaaoaaGreatDoor
open Go Go.RowKit
set_option linter.unusedVariables false
set_option linter.unusedSimpArgs false

abbrev ptr (g : Nat) : Value := .pointer (some ⟨g, 0, none⟩)
def repA (g : Nat) (o : Oper) : Oper := { o with op := .move (.const (ptr g)) }
def repS (o : Oper) : Oper := { o with op := .move (.const (.bool true)) }
/-- The region, its variable at a place that is known, and no store. -/
def boxed (l : List Oper) (iA iS g : Nat) : List Oper := (l.modify iA (repA g)).modify iS repS
/-- Each operation waits for earlier ones alone. -/
def backFrom : Nat → List Oper → Bool
  | _, [] => true
  | j, o :: r => o.after.all (fun e => !(Region.binds .any e) || decide (e.on < j)) && backFrom (j + 1) r
def backB (l : List Oper) : Bool := backFrom 0 l
/-- Operation j waits for operation i. -/
def waitsB (l : List Oper) (j i : Nat) : Bool := match l[j]? with | some o => o.after.any (fun e => Region.binds .any e && e.on == i) | none => false
/-- None but operation i writes slot d. -/
def loneB (l : List Oper) (i d : Nat) : Bool := (List.range l.length).all fun j => j == i || (match l[j]? with | some o => o.dst != some d | none => true)
def plainB (l : List Oper) (i : Nat) : Bool := match l[i]? with | some o => o.guard.isNone | none => false

section
variable {P : Program}
theorem backFrom_at : ∀ (l : List Oper) (k : Nat), backFrom k l = true → ∀ (j : Nat) o, l[j]? = some o → ∀ e ∈ o.after, Region.binds .any e = true → e.on < k + j
  | [], _, _, j, o, h, _, _, _ => by simp at h
  | a :: l, k, hb, j, o, h, e, he, hbind => by
    rw [backFrom, Bool.and_eq_true, Array.all_eq_true_iff_forall_mem] at hb
    cases j with
    | zero =>
      have : a = o := by simpa using h
      subst this
      have := hb.1 e he
      rw [hbind] at this
      simpa using this
    | succ j =>
      have := backFrom_at l (k + 1) hb.2 j o (by simpa using h) e he hbind
      omega
/-- While an operation has not come up, some can. -/
theorem ready_some {ops : Array Oper} {s : Array Bool} (hb : ∀ (j : Nat) o, ops[j]? = some o → ∀ e ∈ o.after, Region.binds .any e = true → e.on < j) (hs : s.size = ops.size) :
    ∀ j, s.getD j true = false → Region.ready .any ops s ≠ [] := by
  intro j
  induction j using Nat.strongRecOn with
  | ind j ih =>
    intro hj
    have hjs : j < ops.size := by
      rcases Nat.lt_or_ge j s.size with h | h
      · omega
      · rw [Array.getD_eq_getD_getElem?, Array.getElem?_eq_none h] at hj; cases hj
    by_cases hall : ∀ e ∈ (ops[j]'hjs).after, Region.binds .any e = true → s.getD e.on false = true
    · exact List.ne_nil_of_mem (mem_ready.2 ⟨hj, _, Array.getElem?_eq_getElem hjs, hall⟩)
    · simp only [Classical.not_forall] at hall
      obtain ⟨e, he, hbind, hn⟩ := hall
      have hlt := hb j _ (Array.getElem?_eq_getElem hjs) e he hbind
      refine ih e.on hlt ?_
      have hes : e.on < s.size := by omega
      simp only [Array.getD_eq_getD_getElem?, Array.getElem?_eq_getElem hes, Option.getD_some] at hn ⊢
      simpa using hn
theorem boxed_at {l : List Oper} {iA iS g i : Nat} (h1 : i ≠ iA) (h2 : i ≠ iS) : (boxed l iA iS g)[i]? = l[i]? := by
  unfold boxed
  rw [List.getElem?_modify, List.getElem?_modify]
  cases l[i]? with
  | none => rfl
  | some o => simp [Ne.symm h2, Ne.symm h1]
theorem boxed_some {l : List Oper} {iA iS g i : Nat} : ((boxed l iA iS g)[i]?).map (fun o => (o.dst, o.after, o.guard)) = (l[i]?).map (fun o => (o.dst, o.after, o.guard)) := by
  unfold boxed
  rw [List.getElem?_modify, List.getElem?_modify]
  cases l[i]? with
  | none => simp
  | some o => simp only [Option.map_some]; split <;> split <;> rfl
theorem boxed_ready {l : List Oper} {iA iS g : Nat} {s : Array Bool} {i : Nat} : i ∈ Region.ready .any (boxed l iA iS g).toArray s ↔ i ∈ Region.ready .any l.toArray s := by
  rw [mem_ready, mem_ready]
  have h := boxed_some (l := l) (iA := iA) (iS := iS) (g := g) (i := i)
  simp only [List.getElem?_toArray]
  cases h1 : (boxed l iA iS g)[i]? with
  | none =>
    rw [h1] at h
    cases h2 : l[i]? with
    | none => simp
    | some o => rw [h2] at h; cases h
  | some o' =>
    rw [h1] at h
    cases h2 : l[i]? with
    | none => rw [h2] at h; cases h
    | some o =>
      rw [h2] at h
      simp only [Option.map_some, Option.some.injEq, Prod.mk.injEq] at h
      simp only [Option.some.injEq, exists_eq_left', h.2.1]
theorem boxed_yielded {l : List Oper} {iA iS g : Nat} : yielded (boxed l iA iS g).toArray = yielded l.toArray := by
  funext tmps j
  unfold yielded
  have h := boxed_some (l := l) (iA := iA) (iS := iS) (g := g) (i := j)
  simp only [List.getElem?_toArray]
  have h' : ((boxed l iA iS g)[j]?).bind (·.dst) = (l[j]?).bind (·.dst) := by
    cases h1 : (boxed l iA iS g)[j]? with
    | none => rw [h1] at h; cases h2 : l[j]? with | none => rfl | some o => rw [h2] at h; cases h
    | some o' => rw [h1] at h; cases h2 : l[j]? with | none => rw [h2] at h; cases h | some o => rw [h2] at h; simp only [Option.map_some, Option.some.injEq, Prod.mk.injEq] at h; simp [h.1]
  rw [h']
/-- What stands in a slot that nothing to come writes stands there at the end. -/
theorem anyQ_slot {ops : Array Oper} {C : World → Prop} {K : Act → Prop} {d : Nat} : ∀ (fuel : Nat) (s : Array Bool) (a : Act), wpAnyQ P .any ops C K fuel s a →
    (∀ (j : Nat) o, ops[j]? = some o → s.getD j true = false → o.dst ≠ some d) → ∃ a', K a' ∧ a'.tmps[d]? = a.tmps[d]? := by
  intro fuel
  induction fuel with
  | zero => intro s a h _; exact ⟨a, h.2, rfl⟩
  | succ fuel ih =>
    intro s a h hd
    cases hr : Region.ready .any ops s with
    | nil => exact ⟨a, h.1 hr, rfl⟩
    | cons i r =>
      have hi : i ∈ Region.ready .any ops s := by rw [hr]; simp
      obtain ⟨hun, o, ho, _⟩ := mem_ready.1 hi
      obtain ⟨v, _, hK⟩ := yieldsIn_of_qOp ho (h.2 i hi)
      obtain ⟨a', h1, h2⟩ := ih _ _ hK fun j oj hj hun' => hd j oj hj (by
        by_cases e : i = j
        · subst e; exact hun
        · rwa [getD_set_ne true e] at hun')
      refine ⟨a', h1, h2.trans ?_⟩
      have hne := hd i o ho hun
      unfold Act.put
      cases hod : o.dst with
      | none => rfl
      | some k =>
        rw [hod] at hne
        have hkd : k ≠ d := fun e => hne (by rw [e])
        simp only [Array.getElem?_setIfInBounds]
        rw [if_neg hkd]
abbrev CL (x : World) : World → Prop := fun w' => ∃ y : After x, w' = y.W
def distinctB (l : List Oper) : Bool := (List.range l.length).all fun i => match l[i]? with | some o => (match o.dst with | some d => loneB l i d | none => true) | none => true
theorem lone_at {l : List Oper} {i d : Nat} (h : loneB l i d = true) : ∀ (j : Nat) o, l[j]? = some o → j ≠ i → o.dst ≠ some d := by
  intro j o hj hne he
  unfold loneB at h
  rw [List.all_eq_true] at h
  have := h j (List.mem_range.2 (List.getElem?_eq_some_iff.1 hj).1)
  rw [hj] at this
  simp [hne, he] at this
theorem distinct_at {l : List Oper} (h : distinctB l = true) {i d : Nat} {o : Oper} (hi : l[i]? = some o) (hd : o.dst = some d) : ∀ (j : Nat) oj, l[j]? = some oj → j ≠ i → oj.dst ≠ some d := by
  unfold distinctB at h
  rw [List.all_eq_true] at h
  have := h i (List.mem_range.2 (List.getElem?_eq_some_iff.1 hi).1)
  rw [hi] at this
  simp only [hd] at this
  exact lone_at this
def nxt (b a : Act) (o : Oper) : Act := match o.dst with | some d => a.put (some d) ((b.tmps[d]?).getD undef) | none => a
/-- All at once: what is known of the region. -/
structure Box (P : Program) (l : List Oper) (iA iS iT dA t : Nat) (T : TypeId) (z1 z2 u1 u2 : Value) (w : World) (A : Nat → Act) (Q : Exit → Act → World → Prop) : Prop where
  back : backB l = true
  dist : distinctB l = true
  oA : ∃ o, l[iA]? = some o ∧ o.guard = none ∧ o.dst = some dA ∧ ∀ (a : Act) (W : World), (execOp a.eval o).run P W = .ok (.value (ptr W.heap.size)) (W.alloc (.cells #[z1, z2] T))
  oS : ∃ o, l[iS]? = some o ∧ o.guard = none ∧ o.dst = none ∧ ∀ (a : Act) (W : World) (g : Nat), a.tmps[dA]? = some (ptr g) → a.tmps[t]? = some (.agg #[u1, u2]) → Blk W g T #[z1, z2] → (execOp a.eval o).run P W = .ok .skip ((W.setCell ⟨g, 0, none⟩ u1).setCell ⟨g, 1, none⟩ u2)
  oT : ∃ o, l[iT]? = some o ∧ o.dst = some t
  wA : waitsB l iS iA = true
  wT : waitsB l iS iT = true
  ne : iA ≠ iS
  hA : ∀ g, A g = (A 0).put (some dA) (ptr g)
  hs : dA < (A 0).tmps.size
  ht : ∀ g, (A g).tmps[t]? = some (.agg #[u1, u2])
  hQ : ∀ g W, w.heap.size ≤ g → Below w.heap.size w W → Blk W g T #[u1, u2] → Q .normal (A g) W
def BF (P : Program) (l : List Oper) (iA iS : Nat) (w : World) (A : Nat → Act) (g fuel : Nat) (s : Array Bool) (a : Act) : Prop :=
  ∀ x : After w, wpAnyQ P .any (boxed l iA iS g).toArray (CL x.W) (fun a' => a' = A g) fuel s a
theorem listed_at (s : Array Bool) (i : Nat) : (s.setIfInBounds i true).getD i true = true := by
  rw [Array.getD_eq_getD_getElem?, Array.getElem?_setIfInBounds]
  rw [if_pos rfl]
  split <;> rfl
theorem getD_of {s : Array Bool} {i : Nat} {b : Bool} (h : s.getD i b = true) : s.getD i true = true := by
  rw [Array.getD_eq_getD_getElem?] at h ⊢
  cases hi : s[i]? with
  | none => rfl
  | some c => rw [hi] at h; exact h
variable {l : List Oper} {iA iS iT dA t : Nat} {T : TypeId} {z1 z2 u1 u2 : Value} {w : World} {A : Nat → Act} {Q : Exit → Act → World → Prop}
theorem yields_of {C : World → Prop} {g : Nat} {o : Oper} {v : Value} {a : Act} (h : YieldsIn P (boxed l iA iS g).toArray C o v a) : YieldsIn P l.toArray C o v a := by
  unfold YieldsIn at h ⊢
  rwa [boxed_yielded] at h
theorem box_put {g fuel : Nat} {C : World → Prop} {s : Array Bool} {a : Act} {i : Nat} {o : Oper} {v : Value} (hd : distinctB l = true) (ho : l[i]? = some o)
    (h : wpAnyQ P .any (boxed l iA iS g).toArray C (fun a' => a' = A g) fuel (s.setIfInBounds i true) (a.put o.dst v)) : a.put o.dst v = nxt (A g) a o := by
  unfold nxt
  cases hod : o.dst with
  | none => rfl
  | some d =>
    rw [hod] at h
    obtain ⟨a', rfl, h2⟩ := anyQ_slot (d := d) _ _ _ h fun j oj hj hun => by
      have hji : j ≠ i := fun e => by subst e; rw [listed_at] at hun; cases hun
      have hb := boxed_some (l := l) (iA := iA) (iS := iS) (g := g) (i := j)
      simp only [List.getElem?_toArray] at hj
      rw [hj] at hb
      cases hlj : l[j]? with
      | none => rw [hlj] at hb; cases hb
      | some ol =>
        rw [hlj] at hb
        simp only [Option.map_some, Option.some.injEq, Prod.mk.injEq] at hb
        rw [hb.1]
        exact distinct_at hd ho hod j ol hlj hji
    dsimp only
    rw [h2]
    unfold Act.put
    dsimp only
    rw [Array.getElem?_setIfInBounds, if_pos rfl]
    by_cases hs : d < a.tmps.size
    · rw [if_pos hs]; rfl
    · rw [if_neg hs]
      have e : ∀ u, a.tmps.setIfInBounds d u = a.tmps := fun u => by simp [Array.setIfInBounds, hs]
      rw [e, e]
/-- A quiet operation comes up. -/
theorem box_step {g fuel : Nat} {s : Array Bool} {a : Act} {i : Nat} {o : Oper} (hd : distinctB l = true) (hF : BF P l iA iS w A g (fuel + 1) s a) (hi : i ∈ Region.ready .any l.toArray s) (ho : l[i]? = some o) (h1 : i ≠ iA) (h2 : i ≠ iS) :
    (∀ x : After w, qOp P l.toArray (CL x.W) i (fun b => b = nxt (A g) a o) a) ∧ BF P l iA iS w A g fuel (s.setIfInBounds i true) (nxt (A g) a o) := by
  have key : ∀ x : After w, ∃ v, YieldsIn P (boxed l iA iS g).toArray (CL x.W) o v a ∧ wpAnyQ P .any (boxed l iA iS g).toArray (CL x.W) (fun a' => a' = A g) fuel (s.setIfInBounds i true) (a.put o.dst v) := fun x =>
    yieldsIn_of_qOp (by simp only [List.getElem?_toArray]; rw [boxed_at h1 h2, ho]) ((hF x).2 i (boxed_ready.2 hi))
  refine ⟨fun x => ?_, fun x => ?_⟩
  · obtain ⟨v, hy, hw⟩ := key x
    exact (yields_of hy).qOp (by simpa using ho) (box_put hd ho hw)
  · obtain ⟨v, hy, hw⟩ := key x
    rw [← box_put hd ho hw]; exact hw
theorem ready_nil {g : Nat} {s : Array Bool} (h : Region.ready .any (boxed l iA iS g).toArray s = []) : Region.ready .any l.toArray s = [] :=
  List.eq_nil_iff_forall_not_mem.2 fun i hi => by have := boxed_ready (iA := iA) (iS := iS) (g := g).2 hi; rw [h] at this; cases this
theorem ready_nil' {g : Nat} {s : Array Bool} (h : Region.ready .any l.toArray s = []) : Region.ready .any (boxed l iA iS g).toArray s = [] :=
  List.eq_nil_iff_forall_not_mem.2 fun i hi => by have := boxed_ready.1 hi; rw [h] at this; cases this
theorem not_ready {ops : Array Oper} {s : Array Bool} {i : Nat} (h : s.getD i true = true) (hi : i ∈ Region.ready .any ops s) : False := by
  rw [(mem_ready.1 hi).1] at h; cases h
theorem listed_more {s : Array Bool} {i j : Nat} (h : s.getD i true = true) : (s.setIfInBounds j true).getD i true = true := by
  by_cases e : j = i
  · subst e; exact listed_at s j
  · rw [getD_set_ne true e]; exact h
/-- Behind the store. -/
theorem box3 (B : Box P l iA iS iT dA t T z1 z2 u1 u2 w A Q) {g : Nat} (hg : w.heap.size ≤ g) : ∀ (fuel : Nat) (s : Array Bool) (a : Act) (W : World), Below w.heap.size w W → Blk W g T #[u1, u2] → s.getD iA true = true → s.getD iS true = true →
    BF P l iA iS w A g fuel s a → wpAny P .any l.toArray Q fuel s a W := by
  intro fuel
  induction fuel with
  | zero =>
    intro s a W hW hB _ _ hF
    obtain ⟨h1, h2⟩ := hF ⟨w, Below.refl _ _⟩
    subst h2
    exact ⟨ready_nil h1, B.hQ g W hg hW hB⟩
  | succ fuel ih =>
    intro s a W hW hB lA lS hF
    refine ⟨fun h0 => ?_, fun i hi => ?_⟩
    · have := (hF ⟨w, Below.refl _ _⟩).1 (ready_nil' h0)
      subst this
      exact B.hQ g W hg hW hB
    · obtain ⟨_, o, ho, _⟩ := mem_ready.1 hi
      have h1 : i ≠ iA := fun e => by subst e; exact not_ready lA hi
      have h2 : i ≠ iS := fun e => by subst e; exact not_ready lS hi
      obtain ⟨hq, hF'⟩ := box_step B.dist hF hi (by simpa using ho) h1 h2
      refine wpOp_of_qOp (C := CL W) ⟨⟨W, Below.refl _ _⟩, rfl⟩ (fun a' w' ⟨y, e⟩ ha => ?_) (hq ⟨W, hW⟩)
      subst e; subst ha
      exact ih _ _ _ (b_then hW y.h) (hB.below y.h) (listed_more lA) (listed_more lS) hF'
theorem waits_at {j i : Nat} (h : waitsB l j i = true) {s : Array Bool} (hj : j ∈ Region.ready .any l.toArray s) : s.getD i true = true := by
  obtain ⟨_, o, ho, hall⟩ := mem_ready.1 hj
  unfold waitsB at h
  rw [show l[j]? = some o by simpa using ho] at h
  simp only [Array.any_eq_true, Bool.and_eq_true, beq_iff_eq] at h
  obtain ⟨k, hk, hb, rfl⟩ := h
  exact getD_of (hall _ (Array.getElem_mem hk) hb)
theorem box_slot {g fuel : Nat} {s : Array Bool} {a : Act} {i d : Nat} {o : Oper} (hd : distinctB l = true) (hF : BF P l iA iS w A g fuel s a) (ho : l[i]? = some o) (hod : o.dst = some d) (hl : s.getD i true = true) : a.tmps[d]? = (A g).tmps[d]? := by
  obtain ⟨a', rfl, h2⟩ := anyQ_slot (d := d) _ _ _ (hF ⟨w, Below.refl _ _⟩) fun j oj hj hun => by
    have hji : j ≠ i := fun e => by subst e; rw [hl] at hun; cases hun
    have hb := boxed_some (l := l) (iA := iA) (iS := iS) (g := g) (i := j)
    simp only [List.getElem?_toArray] at hj
    rw [hj] at hb
    cases hlj : l[j]? with
    | none => rw [hlj] at hb; cases hb
    | some ol =>
      rw [hlj] at hb
      simp only [Option.map_some, Option.some.injEq, Prod.mk.injEq] at hb
      rw [hb.1]
      exact distinct_at hd ho hod j ol hlj hji
  exact h2.symm
theorem box_some (B : Box P l iA iS iT dA t T z1 z2 u1 u2 w A Q) {s : Array Bool} (hs : s.size = l.length) {j : Nat} (hj : s.getD j true = false) : Region.ready .any l.toArray s ≠ [] :=
  ready_some (ops := l.toArray) (fun j o ho e he hb => by have := backFrom_at l 0 B.back j o (by simpa using ho) e he hb; omega) (by simpa using hs) j hj
theorem unlisted_more {s : Array Bool} {i j : Nat} (h : s.getD i true = false) (e : j ≠ i) : (s.setIfInBounds j true).getD i true = false := by rw [getD_set_ne true e]; exact h
theorem wpOp_run {i : Nat} {o : Oper} {a : Act} {W W' : World} {n : Next} {K : Act → World → Prop} (ho : l[i]? = some o) (hg : o.guard = none) (hr : (execOp a.eval o).run P W = .ok n W')
    (h : match n with | .value v => K (a.put o.dst v) W' | .skip => K (a.put o.dst undef) W' | _ => False) : wpOp P l.toArray Q i K a W := by
  unfold wpOp
  rw [show l.toArray[i]? = some o by simpa using ho]
  dsimp only
  rw [if_pos (by unfold Region.wanted; rw [hg])]
  left
  unfold Oper.wp
  rw [hr]
  cases n <;> simp only [Oper.upon] <;> first | exact h | exact h.elim
/-- Between the variable and the store. -/
theorem box2 (B : Box P l iA iS iT dA t T z1 z2 u1 u2 w A Q) {g : Nat} (hg : w.heap.size ≤ g) : ∀ (fuel : Nat) (s : Array Bool) (a : Act) (W : World), s.size = l.length → Below w.heap.size w W → Blk W g T #[z1, z2] → s.getD iA true = true → s.getD iS true = false →
    BF P l iA iS w A g fuel s a → wpAny P .any l.toArray Q fuel s a W := by
  intro fuel
  induction fuel with
  | zero =>
    intro s a W hsz _ _ _ lS hF
    exact absurd (ready_nil (hF ⟨w, Below.refl _ _⟩).1) (box_some B hsz lS)
  | succ fuel ih =>
    intro s a W hsz hW hB lA lS hF
    refine ⟨fun h0 => absurd h0 (box_some B hsz lS), fun i hi => ?_⟩
    obtain ⟨_, o, ho, _⟩ := mem_ready.1 hi
    have h1 : i ≠ iA := fun e => by subst e; exact not_ready lA hi
    by_cases h2 : i = iS
    · subst h2
      obtain ⟨oS, hS, gS, dS, rS⟩ := B.oS
      obtain ⟨oA, hA, _, dAe, _⟩ := B.oA
      obtain ⟨oT, hT, dT⟩ := B.oT
      have e1 : a.tmps[dA]? = some (ptr g) := by
        rw [box_slot B.dist hF hA dAe lA, B.hA g]
        unfold Act.put
        dsimp only
        rw [Array.getElem?_setIfInBounds, if_pos rfl, if_pos B.hs]
      have e2 : a.tmps[t]? = some (.agg #[u1, u2]) := by
        rw [box_slot B.dist hF hT dT (waits_at B.wT hi), B.ht g]
      refine wpOp_run hS gS (rS a W g e1 e2 hB) ?_
      dsimp only
      rw [dS]
      refine box3 B hg fuel _ a _ (b_set (b_set hW hg _) hg _) (hB.put2 u1 u2) (listed_more lA) (listed_at s i) fun x => ?_
      obtain ⟨v, _, hw⟩ := yieldsIn_of_qOp (o := repS oS) (by
        simp only [List.getElem?_toArray]
        unfold boxed
        rw [List.getElem?_modify, List.getElem?_modify, hS]
        simp [B.ne]) ((hF x).2 i (boxed_ready.2 hi))
      have : (repS oS).dst = none := dS
      rw [this] at hw
      exact hw
    · obtain ⟨hq, hF'⟩ := box_step B.dist hF hi (by simpa using ho) h1 h2
      refine wpOp_of_qOp (C := CL W) ⟨⟨W, Below.refl _ _⟩, rfl⟩ (fun a' w' ⟨y, e⟩ ha => ?_) (hq ⟨W, hW⟩)
      subst e; subst ha
      exact ih _ _ _ (by simpa using hsz) (b_then hW y.h) (hB.below y.h) (listed_more lA) (unlisted_more lS h2) hF'
/-- Ahead of the variable. -/
theorem box1 (B : Box P l iA iS iT dA t T z1 z2 u1 u2 w A Q) : ∀ (fuel : Nat) (s : Array Bool) (a : Act) (W : World), s.size = l.length → Below w.heap.size w W → s.getD iA true = false → s.getD iS true = false →
    (∀ g, w.heap.size ≤ g → BF P l iA iS w A g fuel s a) → wpAny P .any l.toArray Q fuel s a W := by
  intro fuel
  induction fuel with
  | zero =>
    intro s a W hsz _ _ lS hF
    exact absurd (ready_nil (hF _ (Nat.le_refl _) ⟨w, Below.refl _ _⟩).1) (box_some B hsz lS)
  | succ fuel ih =>
    intro s a W hsz hW lA lS hF
    refine ⟨fun h0 => absurd h0 (box_some B hsz lS), fun i hi => ?_⟩
    obtain ⟨_, o, ho, _⟩ := mem_ready.1 hi
    have h2 : i ≠ iS := fun e => by subst e; have := waits_at B.wA hi; rw [lA] at this; cases this
    obtain ⟨oA, hA, gA, dAe, rA⟩ := B.oA
    by_cases h1 : i = iA
    · subst h1
      refine wpOp_run hA gA (rA a W) ?_
      dsimp only
      rw [dAe]
      refine box2 B hW.size fuel _ _ _ (by simpa using hsz) (b_alloc hW _) (Blk.new W T #[z1, z2]) (listed_at s i) (unlisted_more lS h2) fun x => ?_
      obtain ⟨v, hy, hw⟩ := yieldsIn_of_qOp (o := repA W.heap.size oA) (by
        simp only [List.getElem?_toArray]
        unfold boxed
        rw [List.getElem?_modify, List.getElem?_modify, hA]
        simp [Ne.symm B.ne]) ((hF _ hW.size x).2 i (boxed_ready.2 hi))
      have hv : v = ptr W.heap.size := by
        rcases hy with ⟨_, hy⟩ | ⟨hy, _⟩
        · have := hy x.W ⟨⟨x.W, Below.refl _ _⟩, rfl⟩
          unfold Oper.quietAt at this
          have hr : (execOp a.eval (repA W.heap.size oA)).run P x.W = .ok (.value (ptr W.heap.size)) x.W := rfl
          rw [hr] at this
          exact this.2.symm
        · unfold Region.wanted at hy
          rw [show (repA W.heap.size oA).guard = none from gA] at hy
          cases hy
      rw [hv, show (repA W.heap.size oA).dst = some dA from dAe] at hw
      exact hw
    · have hoi : l[i]? = some o := by simpa using ho
      have hnx : ∀ g, nxt (A g) a o = nxt (A w.heap.size) a o := fun g => by
        unfold nxt
        cases hod : o.dst with
        | none => rfl
        | some d =>
          have hne : d ≠ dA := fun e => distinct_at B.dist hA dAe i o hoi h1 (by rw [hod, e])
          dsimp only
          rw [B.hA g, B.hA w.heap.size]
          unfold Act.put
          dsimp only
          rw [Array.getElem?_setIfInBounds, Array.getElem?_setIfInBounds, if_neg (fun e => hne e.symm), if_neg (fun e => hne e.symm)]
      obtain ⟨hq, _⟩ := box_step B.dist (hF _ (Nat.le_refl _)) hi hoi h1 h2
      refine wpOp_of_qOp (C := CL W) ⟨⟨W, Below.refl _ _⟩, rfl⟩ (fun a' w' ⟨y, e⟩ ha => ?_) (hq ⟨W, hW⟩)
      subst e; subst ha
      refine ih _ _ _ (by simpa using hsz) (b_then hW y.h) (unlisted_more lA h1) (unlisted_more lS h2) fun g hg => ?_
      have := (box_step B.dist (hF g hg) hi hoi h1 h2).2
      rwa [hnx g] at this
theorem getD_replicate_false' {n i : Nat} (h : i < n) : (Array.replicate n false).getD i true = false := by
  rw [Array.getD_eq_getD_getElem?, Array.getElem?_replicate, if_pos h]; rfl
/-- The region, walked once: its variable at a place g, its store left out. -/
theorem wp_region_boxed {id : Nat} {a : Act} (iA iS iT dA t : Nat) (hm : P.follows .mixedOrders = true) (hB : ∀ g, Region.lexB .any (boxed l iA iS g).toArray = true)
    (h : ∀ (g : Nat) (x : After w), wpQuiet P (boxed l iA iS g).toArray (fun w' => ∃ y : After x.W, w' = y.W) (fun a' => a' = A g) (boxed l iA iS g) a)
    (B : Box P l iA iS iT dA t T z1 z2 u1 u2 w A Q) (hne : iA < l.length) (hne2 : iS < l.length) : (Code.region id l.toArray true).wp P Q a w := by
  refine wp_region_any hm ?_
  have key := box1 B l.toArray.size (Array.replicate l.toArray.size false) a (w.drewN 1) (by simp) (b_drewN (Below.refl _ _) 1) (getD_replicate_false' (by simpa using hne)) (getD_replicate_false' (by simpa using hne2)) fun g hg x => by
    have hb := hB g
    simp only [Region.lexB, Bool.and_eq_true] at hb
    have hl : (boxed l iA iS g).length = l.length := by unfold boxed; simp
    have := wpAnyQ_lex (P := P) (C := fun w' => ∃ y : After x.W, w' = y.W) (Q := fun a' => a' = A g) (md := .any) hb.1 (boxed l iA iS g) 0 (Array.replicate (boxed l iA iS g).toArray.size false) a (by simp) (by simpa using hb.2) (h g x)
    rw [hl] at this
    simpa [hl] using this
  exact key
@[go_sem] theorem After.lt {w : World} (x : After w) {b : Nat} (h : b < w.heap.size) : b < x.W.heap.size := Nat.lt_of_lt_of_le h x.h.size
theorem run_alloc_rat {o : Oper} {a : Act} {W : World} (h : o.op = .alloc 39) : (execOp a.eval o).run Tryz.prog W = .ok (.value (ptr W.heap.size)) (W.alloc (.cells #[.string ⟨#[]⟩, .string ⟨#[]⟩] 39)) := by
  simp [execOp, h, go_sem]
theorem run_store_rat {o : Oper} {a : Act} {W : World} {dA t g : Nat} {u1 u2 : ByteArray} {z1 z2 : Value} (h : o.op = .store 39 (.tmp dA) (.tmp t)) (h1 : a.tmps[dA]? = some (ptr g)) (h2 : a.tmps[t]? = some (.agg #[.string u1, .string u2])) (hB : Blk W g 39 #[z1, z2]) :
    (execOp a.eval o).run Tryz.prog W = .ok .skip ((W.setCell ⟨g, 0, none⟩ (.string u1)).setCell ⟨g, 1, none⟩ (.string u2)) := by
  obtain ⟨c0, c1, f0, f1⟩ := hB.two
  simp [execOp, h, h1, h2, go_sem, c0, c1, f0, f1]
end
end Go.Proofs.YtjdofncognaaoaaGreatDoor
