/- A region that draws its order, with special operations (variables made, stores, calls whose answers hang on the world) besides quiet ones: walked once, the special ones' values named. -/
import Derived.Test.YtjdofncognaaoaaGreatDoorBoxed
namespace Go.Proofs.YtjdofncognaaoaaGreatDoor
open Go Go.RowKit
set_option linter.unusedVariables false
set_option linter.unusedSimpArgs false

/-- The region, its special operations' values given. -/
def ghost (sp : Nat → Bool) (γ : Nat → Value) (l : List Oper) : List Oper := l.mapIdx fun i o => if sp i then { o with op := .move (.const (γ i)) } else o
section
variable {P : Program} {l : List Oper} {sp : Nat → Bool} {γ : Nat → Value}
theorem ghost_at {i : Nat} (h : sp i = false) : (ghost sp γ l)[i]? = l[i]? := by
  unfold ghost
  rw [List.getElem?_mapIdx, h]
  cases l[i]? <;> rfl
theorem ghost_sp {i : Nat} {o : Oper} (h : sp i = true) (ho : l[i]? = some o) : (ghost sp γ l)[i]? = some { o with op := .move (.const (γ i)) } := by
  unfold ghost
  rw [List.getElem?_mapIdx, h, ho]
  rfl
theorem ghost_length : (ghost sp γ l).length = l.length := by unfold ghost; simp
theorem ghost_some {i : Nat} : ((ghost sp γ l)[i]?).map (fun o => (o.dst, o.after, o.guard)) = (l[i]?).map (fun o => (o.dst, o.after, o.guard)) := by
  unfold ghost
  rw [List.getElem?_mapIdx]
  cases l[i]? with
  | none => rfl
  | some o => simp only [Option.map_some]; split <;> rfl
theorem ghost_ready {s : Array Bool} {i : Nat} : i ∈ Region.ready .any (ghost sp γ l).toArray s ↔ i ∈ Region.ready .any l.toArray s := by
  rw [mem_ready, mem_ready]
  have h := ghost_some (l := l) (sp := sp) (γ := γ) (i := i)
  simp only [List.getElem?_toArray]
  cases h1 : (ghost sp γ l)[i]? with
  | none =>
    rw [h1] at h
    cases h2 : l[i]? with
    | none => simp
    | some o => rw [h2] at h; cases h
  | some o' =>
    rw [h1] at h
    cases h2 : l[i]? with
    | none => rw [h2] at h; cases h
    | some o =>
      rw [h2] at h
      simp only [Option.map_some, Option.some.injEq, Prod.mk.injEq] at h
      simp only [Option.some.injEq, exists_eq_left', h.2.1]
theorem ghost_yielded : yielded (ghost sp γ l).toArray = yielded l.toArray := by
  funext tmps j
  unfold yielded
  have h := ghost_some (l := l) (sp := sp) (γ := γ) (i := j)
  simp only [List.getElem?_toArray]
  have h' : ((ghost sp γ l)[j]?).bind (·.dst) = (l[j]?).bind (·.dst) := by
    cases h1 : (ghost sp γ l)[j]? with
    | none => rw [h1] at h; cases h2 : l[j]? with | none => rfl | some o => rw [h2] at h; cases h
    | some o' => rw [h1] at h; cases h2 : l[j]? with | none => rw [h2] at h; cases h | some o => rw [h2] at h; simp only [Option.map_some, Option.some.injEq, Prod.mk.injEq] at h; simp [h.1]
  rw [h']
theorem ghost_dst {j : Nat} {oj : Oper} (hj : (ghost sp γ l)[j]? = some oj) : ∃ ol, l[j]? = some ol ∧ oj.dst = ol.dst := by
  have hb := ghost_some (l := l) (sp := sp) (γ := γ) (i := j)
  rw [hj] at hb
  cases hlj : l[j]? with
  | none => rw [hlj] at hb; cases hb
  | some ol =>
    rw [hlj] at hb
    simp only [Option.map_some, Option.some.injEq, Prod.mk.injEq] at hb
    exact ⟨ol, rfl, hb.1⟩
theorem ghost_yields {C : World → Prop} {o : Oper} {v : Value} {a : Act} (h : YieldsIn P (ghost sp γ l).toArray C o v a) : YieldsIn P l.toArray C o v a := by
  unfold YieldsIn at h ⊢
  rwa [ghost_yielded] at h
theorem ghost_put {fuel : Nat} {C : World → Prop} {s : Array Bool} {a b : Act} {i : Nat} {o : Oper} {v : Value} (hd : distinctB l = true) (ho : l[i]? = some o)
    (h : wpAnyQ P .any (ghost sp γ l).toArray C (fun a' => a' = b) fuel (s.setIfInBounds i true) (a.put o.dst v)) : a.put o.dst v = nxt b a o := by
  unfold nxt
  cases hod : o.dst with
  | none => rfl
  | some d =>
    rw [hod] at h
    obtain ⟨a', rfl, h2⟩ := anyQ_slot (d := d) _ _ _ h fun j oj hj hun => by
      have hji : j ≠ i := fun e => by subst e; rw [listed_at] at hun; cases hun
      obtain ⟨ol, hlj, e⟩ := ghost_dst (by simpa using hj)
      rw [e]
      exact distinct_at hd ho hod j ol hlj hji
    dsimp only
    rw [h2]
    unfold Act.put
    dsimp only
    rw [Array.getElem?_setIfInBounds, if_pos rfl]
    by_cases hs : d < a.tmps.size
    · rw [if_pos hs]; rfl
    · rw [if_neg hs]
      have e : ∀ u, a.tmps.setIfInBounds d u = a.tmps := fun u => by simp [Array.setIfInBounds, hs]
      rw [e, e]
end
section
variable {P : Program} {l : List Oper} {sp : Nat → Bool} {π : Type} {Γ : π → Nat → Value} {w : World} {A : π → Act} {J : Array Bool → π → World → Prop} {Q : Exit → Act → World → Prop}
def GF (P : Program) (l : List Oper) (sp : Nat → Bool) (w : World) (γ : Nat → Value) (b : Act) (fuel : Nat) (s : Array Bool) (a : Act) : Prop :=
  ∀ x : After w, wpAnyQ P .any (ghost sp γ l).toArray (CL x.W) (fun a' => a' = b) fuel s a
/-- What is known of the special operations. -/
structure Ghost (P : Program) (l : List Oper) (sp : Nat → Bool) (π : Type) (Γ : π → Nat → Value) (w : World) (A : π → Act) (J : Array Bool → π → World → Prop) (Q : Exit → Act → World → Prop) : Prop where
  back : backB l = true
  dist : distinctB l = true
  hA : ∀ p p' d, (∀ i o, sp i = true → l[i]? = some o → o.dst ≠ some d) → (A p).tmps[d]? = (A p').tmps[d]?
  hJ : ∀ s i p W W', sp i = false → J s p W → Below w.heap.size w W → Below W.heap.size W W' → J (s.setIfInBounds i true) p W'
  hS : ∀ s i o a p W, sp i = true → l[i]? = some o → i ∈ Region.ready .any l.toArray s → s.size = l.length → Below w.heap.size w W → J s p W →
    (∀ j oj d, l[j]? = some oj → oj.dst = some d → s.getD j true = true → a.tmps[d]? = (A p).tmps[d]?) →
    Region.wanted o (yielded l.toArray a.tmps) = true ∧
    wpOp P l.toArray Q i (fun a' W' => ∃ p', (∀ j, sp j = true → s.getD j true = true → Γ p' j = Γ p j) ∧ Below w.heap.size w W' ∧ a' = a.put o.dst (Γ p' i) ∧ J (s.setIfInBounds i true) p' W') a W
  hQ : ∀ s p W, (∀ j, j < l.length → s.getD j true = true) → J s p W → Below w.heap.size w W → Q .normal (A p) W
theorem ghost_slot {fuel : Nat} {s : Array Bool} {a b : Act} {γ : Nat → Value} {i d : Nat} {o : Oper} (hd : distinctB l = true) (hF : GF P l sp w γ b fuel s a) (ho : l[i]? = some o) (hod : o.dst = some d) (hl : s.getD i true = true) : a.tmps[d]? = b.tmps[d]? := by
  obtain ⟨a', rfl, h2⟩ := anyQ_slot (d := d) _ _ _ (hF ⟨w, Below.refl _ _⟩) fun j oj hj hun => by
    have hji : j ≠ i := fun e => by subst e; rw [hl] at hun; cases hun
    obtain ⟨ol, hlj, e⟩ := ghost_dst (by simpa using hj)
    rw [e]
    exact distinct_at hd ho hod j ol hlj hji
  exact h2.symm
/-- A quiet operation comes up. -/
theorem ghost_step {fuel : Nat} {s : Array Bool} {a b : Act} {γ : Nat → Value} {i : Nat} {o : Oper} (hd : distinctB l = true) (hF : GF P l sp w γ b (fuel + 1) s a) (hi : i ∈ Region.ready .any l.toArray s) (ho : l[i]? = some o) (h1 : sp i = false) :
    (∀ x : After w, qOp P l.toArray (CL x.W) i (fun a' => a' = nxt b a o) a) ∧ GF P l sp w γ b fuel (s.setIfInBounds i true) (nxt b a o) := by
  have key : ∀ x : After w, ∃ v, YieldsIn P (ghost sp γ l).toArray (CL x.W) o v a ∧ wpAnyQ P .any (ghost sp γ l).toArray (CL x.W) (fun a' => a' = b) fuel (s.setIfInBounds i true) (a.put o.dst v) := fun x =>
    yieldsIn_of_qOp (by simp only [List.getElem?_toArray]; rw [ghost_at h1, ho]) ((hF x).2 i (ghost_ready.2 hi))
  refine ⟨fun x => ?_, fun x => ?_⟩
  · obtain ⟨v, hy, hw⟩ := key x
    exact (ghost_yields hy).qOp (by simpa using ho) (ghost_put hd ho hw)
  · obtain ⟨v, hy, hw⟩ := key x
    rw [← ghost_put hd ho hw]; exact hw
/-- A special one comes up. -/
theorem ghost_special {fuel : Nat} {s : Array Bool} {a b : Act} {γ : Nat → Value} {i : Nat} {o : Oper} (hF : GF P l sp w γ b (fuel + 1) s a) (hi : i ∈ Region.ready .any l.toArray s) (ho : l[i]? = some o) (h1 : sp i = true)
    (hwn : Region.wanted o (yielded l.toArray a.tmps) = true) : GF P l sp w γ b fuel (s.setIfInBounds i true) (a.put o.dst (γ i)) := by
  intro x
  obtain ⟨v, hy, hw⟩ := yieldsIn_of_qOp (by simp only [List.getElem?_toArray]; exact ghost_sp h1 ho) ((hF x).2 i (ghost_ready.2 hi))
  have hv : v = γ i := by
    rcases hy with ⟨_, hy⟩ | ⟨hy, _⟩
    · have := hy x.W ⟨⟨x.W, Below.refl _ _⟩, rfl⟩
      unfold Oper.quietAt at this
      have hr : (execOp a.eval { o with op := .move (.const (γ i)) }).run P x.W = .ok (.value (γ i)) x.W := rfl
      rw [hr] at this
      exact this.2.symm
    · rw [ghost_yielded] at hy
      unfold Region.wanted at hy hwn
      rw [hwn] at hy
      cases hy
  rw [hv] at hw
  exact hw
theorem ghost_nil {γ : Nat → Value} {s : Array Bool} (h : Region.ready .any (ghost sp γ l).toArray s = []) : Region.ready .any l.toArray s = [] :=
  List.eq_nil_iff_forall_not_mem.2 fun i hi => by have := ghost_ready (sp := sp) (γ := γ).2 hi; rw [h] at this; cases this
theorem ghost_nil' {γ : Nat → Value} {s : Array Bool} (h : Region.ready .any l.toArray s = []) : Region.ready .any (ghost sp γ l).toArray s = [] :=
  List.eq_nil_iff_forall_not_mem.2 fun i hi => by have := ghost_ready.1 hi; rw [h] at this; cases this
theorem all_done (hb : backB l = true) {s : Array Bool} (hs : s.size = l.length) (h : Region.ready .any l.toArray s = []) : ∀ j, j < l.length → s.getD j true = true := fun j hj => by
  cases hc : s.getD j true with
  | true => rfl
  | false => exact absurd h (ready_some (ops := l.toArray) (fun j o ho e he hbi => by have := backFrom_at l 0 hb j o (by simpa using ho) e he hbi; omega) (by simpa using hs) j hc)
theorem ghost_any (B : Ghost P l sp π Γ w A J Q) : ∀ (fuel : Nat) (s : Array Bool) (a : Act) (W : World) (p : π), s.size = l.length → Below w.heap.size w W → J s p W →
    (∀ p', (∀ j, sp j = true → s.getD j true = true → Γ p' j = Γ p j) → GF P l sp w (Γ p') (A p') fuel s a) → wpAny P .any l.toArray Q fuel s a W := by
  intro fuel
  induction fuel with
  | zero =>
    intro s a W p hsz hW hj hF
    obtain ⟨h1, h2⟩ := hF p (fun _ _ _ => rfl) ⟨w, Below.refl _ _⟩
    subst h2
    have h0 := ghost_nil h1
    exact ⟨h0, B.hQ s p W (all_done B.back hsz h0) hj hW⟩
  | succ fuel ih =>
    intro s a W p hsz hW hj hF
    have hFp := hF p (fun _ _ _ => rfl)
    refine ⟨fun h0 => ?_, fun i hi => ?_⟩
    · have := (hFp ⟨w, Below.refl _ _⟩).1 (ghost_nil' h0)
      subst this
      exact B.hQ s p W (all_done B.back hsz h0) hj hW
    · obtain ⟨_, o, ho', _⟩ := mem_ready.1 hi
      have ho : l[i]? = some o := by simpa using ho'
      cases h1 : sp i with
      | false =>
        obtain ⟨hq, _⟩ := ghost_step B.dist hFp hi ho h1
        refine wpOp_of_qOp (C := CL W) ⟨⟨W, Below.refl _ _⟩, rfl⟩ (fun a' w' ⟨y, e⟩ ha => ?_) (hq ⟨W, hW⟩)
        subst e; subst ha
        refine ih _ _ _ p (by simpa using hsz) (b_then hW y.h) (B.hJ s i p W y.W h1 hj hW y.h) fun p' hp => ?_
        have hF' := (ghost_step B.dist (hF p' fun j hj1 hj2 => hp j hj1 (listed_more hj2)) hi ho h1).2
        have e : nxt (A p') a o = nxt (A p) a o := by
          unfold nxt
          cases hod : o.dst with
          | none => rfl
          | some d =>
            dsimp only
            rw [B.hA p' p d fun k ok hk hok he => by
              by_cases hki : k = i
              · subst hki; rw [h1] at hk; cases hk
              · exact distinct_at B.dist ho hod k ok hok hki he]
        rwa [e] at hF'
      | true =>
        obtain ⟨hwn, hop⟩ := B.hS s i o a p W h1 ho hi hsz hW hj fun j oj d hjo hjd hjs => ghost_slot B.dist hFp hjo hjd hjs
        refine wpOp_mono (fun a' W' h => ?_) hop
        obtain ⟨p', hp, hW', rfl, hj'⟩ := h
        refine ih _ _ W' p' (by simpa using hsz) hW' hj' fun p'' hp2 => ?_
        have hag : ∀ j, sp j = true → s.getD j true = true → Γ p'' j = Γ p j := fun j h2 h3 => (hp2 j h2 (listed_more h3)).trans (hp j h2 h3)
        have := ghost_special (hF p'' hag) hi ho h1 hwn
        rwa [hp2 i h1 (listed_at s i)] at this
/-- The region, walked once, for whatever values its special operations have. -/
theorem wp_region_ghost {id : Nat} {a : Act} (p0 : π) (hm : P.follows .mixedOrders = true) (hB : ∀ p, Region.lexB .any (ghost sp (Γ p) l).toArray = true)
    (h : ∀ (p : π) (x : After w), wpQuiet P (ghost sp (Γ p) l).toArray (fun w' => ∃ y : After x.W, w' = y.W) (fun a' => a' = A p) (ghost sp (Γ p) l) a)
    (h0 : ∀ W, Below w.heap.size w W → J (Array.replicate l.length false) p0 W) (B : Ghost P l sp π Γ w A J Q) : (Code.region id l.toArray true).wp P Q a w := by
  refine wp_region_any hm ?_
  have key := ghost_any B l.toArray.size (Array.replicate l.toArray.size false) a (w.drewN 1) p0 (by simp) (b_drewN (Below.refl _ _) 1) (by simpa using h0 _ (b_drewN (Below.refl _ _) 1)) fun p _ x => by
    have hb := hB p
    simp only [Region.lexB, Bool.and_eq_true] at hb
    have hl : (ghost sp (Γ p) l).length = l.length := ghost_length
    have := wpAnyQ_lex (P := P) (C := fun w' => ∃ y : After x.W, w' = y.W) (Q := fun a' => a' = A p) (md := .any) hb.1 (ghost sp (Γ p) l) 0 (Array.replicate (ghost sp (Γ p) l).toArray.size false) a (by simp) (by simpa using hb.2) (h p x)
    rw [hl] at this
    simpa [hl] using this
  exact key
end
end Go.Proofs.YtjdofncognaaoaaGreatDoor

/- A region that draws its order, with two variables of api.Rat that it makes, and a store into each, besides quiet operations. -/
namespace Go.Proofs.YtjdofncognaaoaaGreatDoor
open Go Go.RowKit
set_option linter.unusedVariables false
set_option linter.unusedSimpArgs false

theorem Blk.aftr {w : World} {g : Nat} {t : TypeId} {a b : Value} (h : Blk w g t #[a, b]) : (∀ y : After w, y.W.cell? ⟨g, 0, none⟩ = some a) ∧ (∀ y : After w, y.W.cell? ⟨g, 1, none⟩ = some b) :=
  ⟨fun y => (h.below y.h).two.1, fun y => (h.below y.h).two.2.1⟩
structure TwoJ (iA iB iS iT : Nat) (T : TypeId) (z1 z2 u1 u2 v1 v2 : Value) (w : World) (s : Array Bool) (p : Nat × Nat) (W : World) : Prop where
  a : s.getD iA true = true → w.heap.size ≤ p.1 ∧ Blk W p.1 T (if s.getD iS true = true then #[u1, u2] else #[z1, z2])
  b : s.getD iB true = true → w.heap.size ≤ p.2 ∧ Blk W p.2 T (if s.getD iT true = true then #[v1, v2] else #[z1, z2])
  ne : s.getD iA true = true → s.getD iB true = true → p.1 ≠ p.2
  sa : s.getD iS true = true → s.getD iA true = true
  tb : s.getD iT true = true → s.getD iB true = true
def twoΓ (iA iB : Nat) (p : Nat × Nat) (i : Nat) : Value := if i = iA then ptr p.1 else if i = iB then ptr p.2 else .bool true
def twoSp (iA iB iS iT : Nat) (i : Nat) : Bool := i == iA || (i == iB || (i == iS || i == iT))
/-- All at once: what is known of the region. -/
structure Two (P : Program) (l : List Oper) (iA iB iS iT kA kB dA dB tA tB : Nat) (T : TypeId) (z1 z2 u1 u2 v1 v2 : Value) (w : World) (A : Nat × Nat → Act) (Q : Exit → Act → World → Prop) : Prop where
  back : backB l = true
  dist : distinctB l = true
  oA : ∃ o, l[iA]? = some o ∧ o.guard = none ∧ o.dst = some dA ∧ ∀ (a : Act) (W : World), (execOp a.eval o).run P W = .ok (.value (ptr W.heap.size)) (W.alloc (.cells #[z1, z2] T))
  oB : ∃ o, l[iB]? = some o ∧ o.guard = none ∧ o.dst = some dB ∧ ∀ (a : Act) (W : World), (execOp a.eval o).run P W = .ok (.value (ptr W.heap.size)) (W.alloc (.cells #[z1, z2] T))
  oS : ∃ o, l[iS]? = some o ∧ o.guard = none ∧ o.dst = none ∧ ∀ (a : Act) (W : World) (g : Nat), a.tmps[dA]? = some (ptr g) → a.tmps[tA]? = some (.agg #[u1, u2]) → Blk W g T #[z1, z2] → (execOp a.eval o).run P W = .ok .skip ((W.setCell ⟨g, 0, none⟩ u1).setCell ⟨g, 1, none⟩ u2)
  oT : ∃ o, l[iT]? = some o ∧ o.guard = none ∧ o.dst = none ∧ ∀ (a : Act) (W : World) (g : Nat), a.tmps[dB]? = some (ptr g) → a.tmps[tB]? = some (.agg #[v1, v2]) → Blk W g T #[z1, z2] → (execOp a.eval o).run P W = .ok .skip ((W.setCell ⟨g, 0, none⟩ v1).setCell ⟨g, 1, none⟩ v2)
  oKA : ∃ o, l[kA]? = some o ∧ o.dst = some tA
  oKB : ∃ o, l[kB]? = some o ∧ o.dst = some tB
  wA : waitsB l iS iA = true
  wB : waitsB l iT iB = true
  wKA : waitsB l iS kA = true
  wKB : waitsB l iT kB = true
  nAB : iA ≠ iB
  nAS : iA ≠ iS
  nAT : iA ≠ iT
  nBS : iB ≠ iS
  nBT : iB ≠ iT
  nST : iS ≠ iT
  hA : ∀ g h, A (g, h) = ((A (0, 0)).put (some dA) (ptr g)).put (some dB) (ptr h)
  hs : dA < (A (0, 0)).tmps.size
  hs2 : dB < (A (0, 0)).tmps.size
  hd : dA ≠ dB
  htA : ∀ p, (A p).tmps[tA]? = some (.agg #[u1, u2])
  htB : ∀ p, (A p).tmps[tB]? = some (.agg #[v1, v2])
  hQ : ∀ g h W, w.heap.size ≤ g → w.heap.size ≤ h → Below w.heap.size w W → Blk W g T #[u1, u2] → Blk W h T #[v1, v2] → Q .normal (A (g, h)) W
section
variable {P : Program} {l : List Oper} {iA iB iS iT kA kB dA dB tA tB : Nat} {T : TypeId} {z1 z2 u1 u2 v1 v2 : Value} {w : World} {A : Nat × Nat → Act} {Q : Exit → Act → World → Prop}
theorem Two.slotA (B : Two P l iA iB iS iT kA kB dA dB tA tB T z1 z2 u1 u2 v1 v2 w A Q) (p : Nat × Nat) : (A p).tmps[dA]? = some (ptr p.1) := by
  obtain ⟨g, h⟩ := p
  rw [B.hA g h]
  unfold Act.put
  dsimp only
  rw [Array.getElem?_setIfInBounds, if_neg (Ne.symm B.hd), Array.getElem?_setIfInBounds, if_pos rfl, if_pos B.hs]
theorem Two.slotB (B : Two P l iA iB iS iT kA kB dA dB tA tB T z1 z2 u1 u2 v1 v2 w A Q) (p : Nat × Nat) : (A p).tmps[dB]? = some (ptr p.2) := by
  obtain ⟨g, h⟩ := p
  rw [B.hA g h]
  unfold Act.put
  dsimp only
  rw [Array.getElem?_setIfInBounds, if_pos rfl, if_pos (by simpa using B.hs2)]
theorem not_sp {i : Nat} (h : twoSp iA iB iS iT i = false) : i ≠ iA ∧ i ≠ iB ∧ i ≠ iS ∧ i ≠ iT := by
  simpa [twoSp] using h
theorem set_keep {s : Array Bool} {i j : Nat} (h : i ≠ j) : (s.setIfInBounds i true).getD j true = s.getD j true := getD_set_ne true h
theorem wanted_none {o : Oper} {ops : Array Oper} {t : Array Value} (h : o.guard = none) : Region.wanted o (yielded ops t) = true := by unfold Region.wanted; rw [h]
theorem Two.ghost (B : Two P l iA iB iS iT kA kB dA dB tA tB T z1 z2 u1 u2 v1 v2 w A Q) : Ghost P l (twoSp iA iB iS iT) (Nat × Nat) (twoΓ iA iB) w A (TwoJ iA iB iS iT T z1 z2 u1 u2 v1 v2 w) Q where
  back := B.back
  dist := B.dist
  hA := fun p p' d hd => by
    obtain ⟨oA, hoA, _, eA, _⟩ := B.oA
    obtain ⟨oB, hoB, _, eB, _⟩ := B.oB
    have n1 : dA ≠ d := fun e => hd iA oA (by simp [twoSp]) hoA (by rw [eA, e])
    have n2 : dB ≠ d := fun e => hd iB oB (by simp [twoSp]) hoB (by rw [eB, e])
    obtain ⟨g, h⟩ := p
    obtain ⟨g', h'⟩ := p'
    rw [B.hA g h, B.hA g' h']
    unfold Act.put
    dsimp only
    rw [Array.getElem?_setIfInBounds, if_neg n2, Array.getElem?_setIfInBounds, if_neg n1, Array.getElem?_setIfInBounds, if_neg n2, Array.getElem?_setIfInBounds, if_neg n1]
  hJ := fun s i p W W' hsp hj hW hB => by
    obtain ⟨n1, n2, n3, n4⟩ := not_sp hsp
    refine ⟨?_, ?_, ?_, ?_, ?_⟩ <;> simp only [set_keep n1, set_keep n2, set_keep n3, set_keep n4]
    · exact fun h => ⟨(hj.a h).1, (hj.a h).2.below hB⟩
    · exact fun h => ⟨(hj.b h).1, (hj.b h).2.below hB⟩
    · exact hj.ne
    · exact hj.sa
    · exact hj.tb
  hS := fun s i o a p W hsp ho hi hsz hW hj hsl => by
    have hun := (mem_ready.1 hi).1
    have hno : ∀ {b : Bool}, s.getD i true = true → False := fun h => by rw [hun] at h; cases h
    simp only [twoSp, Bool.or_eq_true, beq_iff_eq] at hsp
    rcases hsp with e | e | e | e
    · subst e
      obtain ⟨o', ho', gA, dAe, rA⟩ := B.oA
      rw [ho] at ho'
      injection ho' with ho'
      subst ho'
      refine ⟨wanted_none gA, wpOp_run ho gA (rA a W) ?_⟩
      dsimp only
      have hs0 : s.getD iS true = true → False := fun h => by have := hj.sa h; rw [hun] at this; cases this
      refine ⟨(W.heap.size, p.2), ?_, b_alloc hW _, ?_, ?_⟩
      · intro j _ hjs
        have hji : j ≠ i := fun e => by subst e; rw [hun] at hjs; cases hjs
        simp [twoΓ, hji]
      · simp [twoΓ]
      · refine ⟨?_, ?_, ?_, ?_, ?_⟩ <;> simp only [set_keep B.nAB, set_keep B.nAS, set_keep B.nAT, listed_at]
        · intro _
          rw [if_neg (fun h => hs0 h)]
          exact ⟨hW.size, Blk.new W T _⟩
        · exact fun h => ⟨(hj.b h).1, (hj.b h).2.alloc _⟩
        · exact fun _ h => Ne.symm (Nat.ne_of_lt (hj.b h).2.lt)
        · exact fun h => trivial
        · exact hj.tb
    · subst e
      obtain ⟨o', ho', gA, dAe, rA⟩ := B.oB
      rw [ho] at ho'
      injection ho' with ho'
      subst ho'
      refine ⟨wanted_none gA, wpOp_run ho gA (rA a W) ?_⟩
      dsimp only
      have hs0 : s.getD iT true = true → False := fun h => by have := hj.tb h; rw [hun] at this; cases this
      refine ⟨(p.1, W.heap.size), ?_, b_alloc hW _, ?_, ?_⟩
      · intro j _ hjs
        have hji : j ≠ i := fun e => by subst e; rw [hun] at hjs; cases hjs
        simp [twoΓ, hji]
      · simp [twoΓ, Ne.symm B.nAB]
      · refine ⟨?_, ?_, ?_, ?_, ?_⟩ <;> simp only [set_keep (Ne.symm B.nAB), set_keep B.nBS, set_keep B.nBT, listed_at]
        · exact fun h => ⟨(hj.a h).1, (hj.a h).2.alloc _⟩
        · intro _
          rw [if_neg (fun h => hs0 h)]
          exact ⟨hW.size, Blk.new W T _⟩
        · exact fun h _ => Nat.ne_of_lt (hj.a h).2.lt
        · exact hj.sa
        · exact fun h => trivial
    · subst e
      obtain ⟨o', ho', gS, dS, rS⟩ := B.oS
      rw [ho] at ho'
      injection ho' with ho'
      subst ho'
      obtain ⟨oA, hoA, _, eA, _⟩ := B.oA
      obtain ⟨oK, hoK, eK⟩ := B.oKA
      have lA := waits_at B.wA hi
      have e1 := (hsl iA oA dA hoA eA lA).trans (B.slotA p)
      have e2 := (hsl kA oK tA hoK eK (waits_at B.wKA hi)).trans (B.htA p)
      obtain ⟨hg, hb⟩ := hj.a lA
      rw [if_neg (fun h => hno (b := true) h)] at hb
      refine ⟨wanted_none gS, wpOp_run ho gS (rS a W p.1 e1 e2 hb) ?_⟩
      dsimp only
      refine ⟨p, fun _ _ _ => rfl, b_set (b_set hW hg _) hg _, by rw [dS]; rfl, ?_⟩
      refine ⟨?_, ?_, ?_, ?_, ?_⟩ <;> simp only [set_keep (Ne.symm B.nAS), set_keep (Ne.symm B.nBS), set_keep B.nST, listed_at]
      · exact fun _ => ⟨hg, hb.put2 u1 u2⟩
      · exact fun h => ⟨(hj.b h).1, ((hj.b h).2.far (Ne.symm (hj.ne lA h)) _).far (Ne.symm (hj.ne lA h)) _⟩
      · exact hj.ne
      · exact fun _ => lA
      · exact hj.tb
    · subst e
      obtain ⟨o', ho', gS, dS, rS⟩ := B.oT
      rw [ho] at ho'
      injection ho' with ho'
      subst ho'
      obtain ⟨oA, hoA, _, eA, _⟩ := B.oB
      obtain ⟨oK, hoK, eK⟩ := B.oKB
      have lA := waits_at B.wB hi
      have e1 := (hsl iB oA dB hoA eA lA).trans (B.slotB p)
      have e2 := (hsl kB oK tB hoK eK (waits_at B.wKB hi)).trans (B.htB p)
      obtain ⟨hg, hb⟩ := hj.b lA
      rw [if_neg (fun h => hno (b := true) h)] at hb
      refine ⟨wanted_none gS, wpOp_run ho gS (rS a W p.2 e1 e2 hb) ?_⟩
      dsimp only
      refine ⟨p, fun _ _ _ => rfl, b_set (b_set hW hg _) hg _, by rw [dS]; rfl, ?_⟩
      refine ⟨?_, ?_, ?_, ?_, ?_⟩ <;> simp only [set_keep (Ne.symm B.nAT), set_keep (Ne.symm B.nBT), set_keep (Ne.symm B.nST), listed_at]
      · exact fun h => ⟨(hj.a h).1, ((hj.a h).2.far (hj.ne h lA) _).far (hj.ne h lA) _⟩
      · exact fun _ => ⟨hg, hb.put2 v1 v2⟩
      · exact hj.ne
      · exact hj.sa
      · exact fun _ => lA
  hQ := fun s p W hall hj hW => by
    obtain ⟨oA, hoA, _⟩ := B.oA
    obtain ⟨oB, hoB, _⟩ := B.oB
    obtain ⟨oS, hoS, _⟩ := B.oS
    obtain ⟨oT, hoT, _⟩ := B.oT
    have lS := hall iS (List.getElem?_eq_some_iff.1 hoS).1
    have lT := hall iT (List.getElem?_eq_some_iff.1 hoT).1
    obtain ⟨h1, h2⟩ := hj.a (hall iA (List.getElem?_eq_some_iff.1 hoA).1)
    obtain ⟨h3, h4⟩ := hj.b (hall iB (List.getElem?_eq_some_iff.1 hoB).1)
    rw [if_pos lS] at h2
    rw [if_pos lT] at h4
    exact B.hQ p.1 p.2 W h1 h3 hW h2 h4
/-- The region, its variables at places that are known, and no store. -/
def twol (l : List Oper) (iA iB iS iT g h : Nat) : List Oper := (((l.modify iA (repA g)).modify iB (repA h)).modify iS repS).modify iT repS
theorem ghost_two (B : Two P l iA iB iS iT kA kB dA dB tA tB T z1 z2 u1 u2 v1 v2 w A Q) (p : Nat × Nat) : Go.Proofs.YtjdofncognaaoaaGreatDoor.ghost (twoSp iA iB iS iT) (twoΓ iA iB p) l = twol l iA iB iS iT p.1 p.2 := by
  apply List.ext_getElem?
  intro i
  unfold Go.Proofs.YtjdofncognaaoaaGreatDoor.ghost twol
  rw [List.getElem?_mapIdx, List.getElem?_modify, List.getElem?_modify, List.getElem?_modify, List.getElem?_modify]
  have n1 := B.nAB
  have n2 := B.nAS
  have n3 := B.nAT
  have n4 := B.nBS
  have n5 := B.nBT
  have n6 := B.nST
  cases l[i]? with
  | none => rfl
  | some o =>
    by_cases e1 : i = iA
    · subst e1; simp [twoSp, twoΓ, repA, repS, Ne.symm n1, Ne.symm n2, Ne.symm n3]
    · by_cases e2 : i = iB
      · subst e2; simp [twoSp, twoΓ, repA, repS, n1, e1, Ne.symm e1, Ne.symm n4, Ne.symm n5]
      · by_cases e3 : i = iS
        · subst e3; simp [twoSp, twoΓ, repA, repS, e1, Ne.symm e1, e2, Ne.symm e2, Ne.symm n6]
        · by_cases e4 : i = iT
          · subst e4; simp [twoSp, twoΓ, repA, repS, e1, Ne.symm e1, e2, Ne.symm e2, e3, Ne.symm e3]
          · simp [twoSp, e1, Ne.symm e1, e2, Ne.symm e2, e3, Ne.symm e3, e4, Ne.symm e4]
/-- The region, walked once: its variables at places g and h, its stores left out. -/
theorem wp_region_two {id : Nat} {a : Act} (iA iB iS iT kA kB dA dB tA tB : Nat) (hm : P.follows .mixedOrders = true) (hB : ∀ p : Nat × Nat, Region.lexB .any (twol l iA iB iS iT p.1 p.2).toArray = true)
    (h : ∀ (p : Nat × Nat) (x : After w), wpQuiet P (twol l iA iB iS iT p.1 p.2).toArray (fun w' => ∃ y : After x.W, w' = y.W) (fun a' => a' = A p) (twol l iA iB iS iT p.1 p.2) a)
    (B : Two P l iA iB iS iT kA kB dA dB tA tB T z1 z2 u1 u2 v1 v2 w A Q) (h1 : iA < l.length) (h2 : iB < l.length) (h3 : iS < l.length) (h4 : iT < l.length) : (Code.region id l.toArray true).wp P Q a w := by
  have f : ∀ {i}, i < l.length → (Array.replicate l.length false).getD i true = true → False := fun hi h => by rw [getD_replicate_false' hi] at h; cases h
  exact wp_region_ghost (0, 0) hm (fun p => by rw [ghost_two B p]; exact hB p) (fun p x => by rw [ghost_two B p]; exact h p x)
    (fun W hW => ⟨fun h => (f h1 h).elim, fun h => (f h2 h).elim, fun h => (f h1 h).elim, fun h => (f h3 h).elim, fun h => (f h4 h).elim⟩) B.ghost
end
end Go.Proofs.YtjdofncognaaoaaGreatDoor

/- A region that draws its order, with two calls whose answers hang on the world and a third call on these two, besides quiet operations. -/
namespace Go.Proofs.YtjdofncognaaoaaGreatDoor
open Go Go.RowKit
set_option linter.unusedVariables false
set_option linter.unusedSimpArgs false

section
variable {P : Program} {l : List Oper} {w : World} {Q : Exit → Act → World → Prop}
theorem wpOp_call {i : Nat} {o : Oper} {a : Act} {W : World} {f : FuncId} {args : Array Value} {K : Act → World → Prop} (ho : l[i]? = some o) (hw : Region.wanted o (yielded l.toArray a.tmps) = true)
    (hr : (execOp a.eval o).run P W = .ok (.enter f args) W) (h : Calls P f args W fun e w' => ∃ v, e = .returned v ∧ K (a.put o.dst v) w') : wpOp P l.toArray Q i K a W := by
  unfold wpOp
  rw [show l.toArray[i]? = some o by simpa using ho]
  dsimp only
  rw [if_pos hw]
  left
  unfold Oper.wp
  rw [hr]
  simp only [Oper.upon]
  exact h.mono fun e w' ⟨v, he, hk⟩ => by subst he; exact hk
/-- The slots of what operation i waits for stand as at the end. -/
def Given (l : List Oper) (i : Nat) (a b : Act) : Prop := ∀ j oj d, l[j]? = some oj → oj.dst = some d → waitsB l i j = true → a.tmps[d]? = b.tmps[d]?
/-- An operation that calls f with args, once what it waits for stands. -/
structure Call1 (P : Program) (l : List Oper) (i d : Nat) (f : FuncId) (args : Array Value) (b : Act) : Prop where
  at_ : ∃ o, l[i]? = some o ∧ o.dst = some d ∧ ∀ (a : Act) (W : World), Given l i a b → Region.wanted o (yielded l.toArray a.tmps) = true ∧ (execOp a.eval o).run P W = .ok (.enter f args) W
abbrev Sl := Option Addr × Nat
def Sl.v (m : Nat) (p : Sl) : Value := .slice p.1 m p.2
structure Pair (P : Program) (l : List Oper) (i1 i2 i3 d1 d2 d3 m : Nat) (f1 f2 f3 : FuncId) (a1 a2 : Array Value) (R : Option Addr → World → Prop) (w : World) (A : Sl × Sl → Act) (Q : Exit → Act → World → Prop) : Prop where
  back : backB l = true
  dist : distinctB l = true
  n12 : i1 ≠ i2
  n13 : i1 ≠ i3
  n23 : i2 ≠ i3
  w31 : waitsB l i3 i1 = true
  w32 : waitsB l i3 i2 = true
  k1 : ∀ p, Call1 P l i1 d1 f1 a1 (A p)
  k2 : ∀ p, Call1 P l i2 d2 f2 a2 (A p)
  k3 : ∀ p, Call1 P l i3 d3 f3 #[Sl.v m p.1, Sl.v m p.2] (A p)
  c1 : ∀ W, Below w.heap.size w W → Calls P f1 a1 W fun e w' => ∃ B k, e = .returned (.slice B m k) ∧ R B w' ∧ Below W.heap.size W w'
  c2 : ∀ W, Below w.heap.size w W → Calls P f2 a2 W fun e w' => ∃ B k, e = .returned (.slice B m k) ∧ R B w' ∧ Below W.heap.size W w'
  c3 : ∀ B k B' k' W, R B W → R B' W → Calls P f3 #[.slice B m k, .slice B' m k'] W fun e w' => e = .returned (.bool true) ∧ Below W.heap.size W w'
  stay : ∀ B W W', R B W → Below W.heap.size W W' → R B W'
  hA : ∀ p, A p = ((A ((none, 0), (none, 0))).put (some d1) (p.1.v m)).put (some d2) (p.2.v m)
  hQ : ∀ p W, Below w.heap.size w W → Q .normal (A p) W
structure PairJ (i1 i2 : Nat) (R : Option Addr → World → Prop) (s : Array Bool) (p : Sl × Sl) (W : World) : Prop where
  a : s.getD i1 true = true → R p.1.1 W
  b : s.getD i2 true = true → R p.2.1 W
def pairΓ (m i1 i2 : Nat) (p : Sl × Sl) (i : Nat) : Value := if i = i1 then p.1.v m else if i = i2 then p.2.v m else .bool true
def pairSp (i1 i2 i3 : Nat) (i : Nat) : Bool := i == i1 || (i == i2 || i == i3)
variable {i1 i2 i3 d1 d2 d3 m : Nat} {f1 f2 f3 : FuncId} {a1 a2 : Array Value} {R : Option Addr → World → Prop} {A : Sl × Sl → Act}
theorem Pair.ghost (B : Pair P l i1 i2 i3 d1 d2 d3 m f1 f2 f3 a1 a2 R w A Q) : Ghost P l (pairSp i1 i2 i3) (Sl × Sl) (pairΓ m i1 i2) w A (PairJ i1 i2 R) Q where
  back := B.back
  dist := B.dist
  hA := fun p p' d hd => by
    obtain ⟨o1, h1, e1, _⟩ := (B.k1 p).at_
    obtain ⟨o2, h2, e2, _⟩ := (B.k2 p).at_
    have n1 : d1 ≠ d := fun e => hd i1 o1 (by simp [pairSp]) h1 (by rw [e1, e])
    have n2 : d2 ≠ d := fun e => hd i2 o2 (by simp [pairSp]) h2 (by rw [e2, e])
    rw [B.hA p, B.hA p']
    unfold Act.put
    dsimp only
    rw [Array.getElem?_setIfInBounds, if_neg n2, Array.getElem?_setIfInBounds, if_neg n1, Array.getElem?_setIfInBounds, if_neg n2, Array.getElem?_setIfInBounds, if_neg n1]
  hJ := fun s i p W W' hsp hj hW hB => by
    have n : i ≠ i1 ∧ i ≠ i2 ∧ i ≠ i3 := by simpa [pairSp] using hsp
    exact ⟨fun h => B.stay _ _ _ (hj.a (by rwa [set_keep n.1] at h)) hB, fun h => B.stay _ _ _ (hj.b (by rwa [set_keep n.2.1] at h)) hB⟩
  hS := fun s i o a p W hsp ho hi hsz hW hj hsl => by
    have hun := (mem_ready.1 hi).1
    have hgiv : Given l i a (A p) := fun j oj d hjo hjd hw => hsl j oj d hjo hjd (waits_at hw hi)
    simp only [pairSp, Bool.or_eq_true, beq_iff_eq] at hsp
    rcases hsp with e | e | e
    · subst e
      obtain ⟨o', ho', _, hr⟩ := (B.k1 p).at_
      rw [ho] at ho'
      injection ho' with ho'
      subst ho'
      obtain ⟨hw, hrun⟩ := hr a W hgiv
      refine ⟨hw, wpOp_call ho hw hrun ((B.c1 W hW).mono ?_)⟩
      rintro e w' ⟨C, k, he, hR, hB⟩
      refine ⟨_, he, ((C, k), p.2), ?_, b_then hW hB, ?_, ?_⟩
      · intro j _ hjs
        have hji : j ≠ i := fun e => by subst e; rw [hun] at hjs; cases hjs
        simp [pairΓ, hji]
      · simp [pairΓ, Sl.v]
      · exact ⟨fun _ => hR, fun h => B.stay _ _ _ (hj.b (by rwa [set_keep B.n12] at h)) hB⟩
    · subst e
      obtain ⟨o', ho', _, hr⟩ := (B.k2 p).at_
      rw [ho] at ho'
      injection ho' with ho'
      subst ho'
      obtain ⟨hw, hrun⟩ := hr a W hgiv
      refine ⟨hw, wpOp_call ho hw hrun ((B.c2 W hW).mono ?_)⟩
      rintro e w' ⟨C, k, he, hR, hB⟩
      refine ⟨_, he, (p.1, (C, k)), ?_, b_then hW hB, ?_, ?_⟩
      · intro j _ hjs
        have hji : j ≠ i := fun e => by subst e; rw [hun] at hjs; cases hjs
        simp [pairΓ, hji]
      · simp [pairΓ, Sl.v, Ne.symm B.n12]
      · exact ⟨fun h => B.stay _ _ _ (hj.a (by rwa [set_keep (Ne.symm B.n12)] at h)) hB, fun _ => hR⟩
    · subst e
      obtain ⟨o', ho', _, hr⟩ := (B.k3 p).at_
      rw [ho] at ho'
      injection ho' with ho'
      subst ho'
      obtain ⟨hw, hrun⟩ := hr a W hgiv
      refine ⟨hw, wpOp_call ho hw hrun ((B.c3 p.1.1 p.1.2 p.2.1 p.2.2 W (hj.a (waits_at B.w31 hi)) (hj.b (waits_at B.w32 hi))).mono ?_)⟩
      rintro e w' ⟨he, hB⟩
      refine ⟨_, he, p, fun _ _ _ => rfl, b_then hW hB, ?_, ?_⟩
      · simp [pairΓ, Ne.symm B.n13, Ne.symm B.n23]
      · exact ⟨fun h => B.stay _ _ _ (hj.a (by rwa [set_keep (Ne.symm B.n13)] at h)) hB, fun h => B.stay _ _ _ (hj.b (by rwa [set_keep (Ne.symm B.n23)] at h)) hB⟩
  hQ := fun s p W hall hj hW => B.hQ p W hW
def repV (v : Value) (o : Oper) : Oper := { o with op := .move (.const v) }
/-- The region, the two answers named. -/
def pairl (l : List Oper) (i1 i2 i3 : Nat) (u v : Value) : List Oper := ((l.modify i1 (repV u)).modify i2 (repV v)).modify i3 repS
theorem ghost_pair (n1 : i1 ≠ i2) (n2 : i1 ≠ i3) (n3 : i2 ≠ i3) (p : Sl × Sl) : Go.Proofs.YtjdofncognaaoaaGreatDoor.ghost (pairSp i1 i2 i3) (pairΓ m i1 i2 p) l = pairl l i1 i2 i3 (.slice p.1.1 m p.1.2) (.slice p.2.1 m p.2.2) := by
  apply List.ext_getElem?
  intro i
  unfold Go.Proofs.YtjdofncognaaoaaGreatDoor.ghost pairl
  rw [List.getElem?_mapIdx, List.getElem?_modify, List.getElem?_modify, List.getElem?_modify]
  cases l[i]? with
  | none => rfl
  | some o =>
    by_cases e1 : i = i1
    · subst e1; simp [pairSp, pairΓ, repV, repS, Sl.v, Ne.symm n1, Ne.symm n2]
    · by_cases e2 : i = i2
      · subst e2; simp [pairSp, pairΓ, repV, repS, Sl.v, e1, Ne.symm e1, Ne.symm n3]
      · by_cases e3 : i = i3
        · subst e3; simp [pairSp, pairΓ, repV, repS, e1, Ne.symm e1, e2, Ne.symm e2]
        · simp [pairSp, e1, Ne.symm e1, e2, Ne.symm e2, e3, Ne.symm e3]
theorem wp_region_pair {id : Nat} {a : Act} (i1 i2 i3 d1 d2 d3 : Nat) (hm : P.follows .mixedOrders = true) (hB : ∀ p : Sl × Sl, Region.lexB .any (pairl l i1 i2 i3 (.slice p.1.1 m p.1.2) (.slice p.2.1 m p.2.2)).toArray = true)
    (h : ∀ (p : Sl × Sl) (x : After w), wpQuiet P (pairl l i1 i2 i3 (.slice p.1.1 m p.1.2) (.slice p.2.1 m p.2.2)).toArray (fun w' => ∃ y : After x.W, w' = y.W) (fun a' => a' = A p) (pairl l i1 i2 i3 (.slice p.1.1 m p.1.2) (.slice p.2.1 m p.2.2)) a)
    (B : Pair P l i1 i2 i3 d1 d2 d3 m f1 f2 f3 a1 a2 R w A Q) (h1 : i1 < l.length) (h2 : i2 < l.length) : (Code.region id l.toArray true).wp P Q a w := by
  have f : ∀ {i}, i < l.length → (Array.replicate l.length false).getD i true = true → False := fun hi h => by rw [getD_replicate_false' hi] at h; cases h
  exact wp_region_ghost (((none, 0), (none, 0)) : Sl × Sl) hm (fun p => by rw [ghost_pair B.n12 B.n13 B.n23 p]; exact hB p) (fun p x => by rw [ghost_pair B.n12 B.n13 B.n23 p]; exact h p x)
    (fun W hW => ⟨fun h => (f h1 h).elim, fun h => (f h2 h).elim⟩) B.ghost
end
end Go.Proofs.YtjdofncognaaoaaGreatDoor
