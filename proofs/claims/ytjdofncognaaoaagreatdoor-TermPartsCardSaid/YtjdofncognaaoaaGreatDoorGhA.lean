/- A region that draws its order: heads, one of them special (its answer hangs on the world), and behind them a forced tail. -/
import Derived.Test.YtjdofncognaaoaaGreatDoorGhost
import Derived.Test.YtjdofncognaaoaaGreatDoorRat
namespace Go.Proofs.YtjdofncognaaoaaGreatDoor
open Go Go.RowKit
set_option linter.unusedVariables false
set_option linter.unusedSimpArgs false

section
variable {P : Program} {l : List Oper} {sp : Nat → Bool} {γ : Nat → Value}
theorem ready_ghost {s : Array Bool} : Region.ready .any (ghost sp γ l).toArray s = Region.ready .any l.toArray s := by
  have hm := fun i => ghost_ready (l := l) (sp := sp) (γ := γ) (s := s) (i := i)
  unfold Region.ready at hm ⊢
  have hz : (ghost sp γ l).toArray.size = l.toArray.size := by simp [ghost_length]
  rw [hz] at hm ⊢
  refine List.filter_congr fun i hi => ?_
  have h := hm i
  rw [List.mem_filter, List.mem_filter] at h
  rw [Bool.eq_iff_iff]
  exact ⟨fun e => (h.1 ⟨hi, e⟩).2, fun e => (h.2 ⟨hi, e⟩).2⟩
theorem seqB_ghost : ∀ (g k : Nat) (s : Array Bool), Region.seqB .any (ghost sp γ l).toArray g k s = Region.seqB .any l.toArray g k s
  | 0, k, s => by unfold Region.seqB; rw [ready_ghost]
  | g + 1, k, s => by unfold Region.seqB; rw [ready_ghost, seqB_ghost g]
theorem heads_done (hb : backB l = true) {g n : Nat} {s : Array Bool} (hn : n ≤ l.length) (hs : s.size = l.length) (h : Region.seqB .any l.toArray g n s = true) : ∀ j, j < n → s.getD j true = true := by
  intro j
  induction j using Nat.strongRecOn with
  | ind j ih =>
    intro hj
    cases hc : s.getD j true with
    | true => rfl
    | false =>
      exfalso
      have hjl : j < l.length := by omega
      have hr : j ∈ Region.ready .any l.toArray s := by
        rw [mem_ready]
        refine ⟨hc, l[j], by simp [hjl], fun e he hbi => ?_⟩
        have h1 : e.on < j := by
          have := backFrom_at l 0 hb j l[j] (by simp [hjl]) e he hbi
          omega
        have h2 := ih e.on h1 (by omega)
        have h3 : e.on < s.size := by omega
        simp only [Array.getD, h3, dif_pos] at h2 ⊢
        exact h2
      have := seqB_ready h j hr
      omega
theorem ahd_slot {ops : Array Oper} {C : World → Prop} {n : Nat} {S : Array Bool → Prop} {K : Act → Prop} {d : Nat} : ∀ (fuel : Nat) (s : Array Bool) (a : Act), ahd P ops C n (fun s' a' => S s' ∧ K a') fuel s a →
    (∀ (j : Nat) o, ops[j]? = some o → s.getD j true = false → o.dst ≠ some d) → ∃ a', K a' ∧ a'.tmps[d]? = a.tmps[d]? := by
  intro fuel
  induction fuel with
  | zero => intro s a h _; exact ⟨a, h.2, rfl⟩
  | succ fuel ih =>
    intro s a h hd
    cases hr : Region.ready .any ops s with
    | nil => exact absurd hr h.1
    | cons i r =>
      have hi : i ∈ Region.ready .any ops s := by rw [hr]; simp
      obtain ⟨hun, o, ho, _⟩ := mem_ready.1 hi
      obtain ⟨v, _, hK⟩ := yieldsIn_of_qOp ho (h.2 i hi).2
      obtain ⟨a', h1, h2⟩ := ih _ _ hK fun j oj hj hun' => hd j oj hj (by
        by_cases e : i = j
        · subst e; exact hun
        · rwa [getD_set_ne true e] at hun')
      refine ⟨a', h1, h2.trans ?_⟩
      have hne := hd i o ho hun
      unfold Act.put
      cases hod : o.dst with
      | none => rfl
      | some k =>
        dsimp only
        rw [Array.getElem?_setIfInBounds, if_neg fun e => hne (by rw [hod, e])]
end
section
variable {P : Program} {l : List Oper} {sp : Nat → Bool} {π : Type} {Γ : π → Nat → Value} {w : World} {A : π → Act} {J : Array Bool → π → World → Prop} {Q : Exit → Act → World → Prop} {n g : Nat}
def GA (P : Program) (l : List Oper) (sp : Nat → Bool) (w : World) (γ : Nat → Value) (b : Act) (n g : Nat) (fuel : Nat) (s : Array Bool) (a : Act) : Prop :=
  ∀ x : After w, ahd P (ghost sp γ l).toArray (CL x.W) n (fun s' a' => Region.seqB .any (ghost sp γ l).toArray g n s' = true ∧ a' = b) fuel s a
structure GhostA (P : Program) (l : List Oper) (sp : Nat → Bool) (π : Type) (Γ : π → Nat → Value) (w : World) (A : π → Act) (J : Array Bool → π → World → Prop) (Q : Exit → Act → World → Prop) (n : Nat) : Prop where
  back : backB l = true
  dist : distinctB l = true
  le : n ≤ l.length
  hA : ∀ p p' d, (∀ i o, sp i = true → l[i]? = some o → o.dst ≠ some d) → (A p).tmps[d]? = (A p').tmps[d]?
  hJ : ∀ s i p W W', sp i = false → J s p W → Below w.heap.size w W → Below W.heap.size W W' → J (s.setIfInBounds i true) p W'
  hS : ∀ s i o a p W, sp i = true → l[i]? = some o → i ∈ Region.ready .any l.toArray s → s.size = l.length → Below w.heap.size w W → J s p W →
    (∀ j oj d, l[j]? = some oj → oj.dst = some d → s.getD j true = true → a.tmps[d]? = (A p).tmps[d]?) →
    Region.wanted o (yielded l.toArray a.tmps) = true ∧
    wpOp P l.toArray Q i (fun a' W' => ∃ p', (∀ j, sp j = true → s.getD j true = true → Γ p' j = Γ p j) ∧ Below w.heap.size w W' ∧ a' = a.put o.dst (Γ p' i) ∧ J (s.setIfInBounds i true) p' W') a W
  hQ : ∀ s p W, (∀ j, j < n → s.getD j true = true) → J s p W → Below w.heap.size w W → wpList P l.toArray Q (l.drop n) (A p) W
theorem gha_dist {s : Array Bool} {i d : Nat} {o : Oper} {γ : Nat → Value} (hd : distinctB l = true) (ho : l[i]? = some o) (hod : o.dst = some d) (hl : s.getD i true = true) : ∀ (j : Nat) oj, (ghost sp γ l).toArray[j]? = some oj → s.getD j true = false → oj.dst ≠ some d := fun j oj hj hun => by
  have hji : j ≠ i := fun e => by subst e; rw [hl] at hun; cases hun
  obtain ⟨ol, hlj, e⟩ := ghost_dst (by simpa using hj)
  rw [e]
  exact distinct_at hd ho hod j ol hlj hji
theorem gha_slot {fuel : Nat} {s : Array Bool} {a b : Act} {γ : Nat → Value} {i d : Nat} {o : Oper} (hd : distinctB l = true) (hF : GA P l sp w γ b n g fuel s a) (ho : l[i]? = some o) (hod : o.dst = some d) (hl : s.getD i true = true) : a.tmps[d]? = b.tmps[d]? := by
  obtain ⟨a', rfl, h2⟩ := ahd_slot (d := d) _ _ _ (hF ⟨w, Below.refl _ _⟩) (gha_dist hd ho hod hl)
  exact h2.symm
theorem gha_put {γ : Nat → Value} {fuel : Nat} {C : World → Prop} {S : Array Bool → Prop} {s : Array Bool} {a b : Act} {i : Nat} {o : Oper} {v : Value} (hd : distinctB l = true) (ho : l[i]? = some o)
    (h : ahd P (ghost sp γ l).toArray C n (fun s' a' => S s' ∧ a' = b) fuel (s.setIfInBounds i true) (a.put o.dst v)) : a.put o.dst v = nxt b a o := by
  unfold nxt
  cases hod : o.dst with
  | none => rfl
  | some d =>
    rw [hod] at h
    obtain ⟨a', rfl, h2⟩ := ahd_slot (d := d) _ _ _ h (gha_dist hd ho hod (listed_at s i))
    dsimp only
    rw [h2]
    unfold Act.put
    dsimp only
    rw [Array.getElem?_setIfInBounds, if_pos rfl]
    by_cases hs : d < a.tmps.size
    · rw [if_pos hs]; rfl
    · rw [if_neg hs]
      have e : ∀ u, a.tmps.setIfInBounds d u = a.tmps := fun u => by simp [Array.setIfInBounds, hs]
      rw [e, e]
theorem gha_step {fuel : Nat} {s : Array Bool} {a b : Act} {γ : Nat → Value} {i : Nat} {o : Oper} (hd : distinctB l = true) (hF : GA P l sp w γ b n g (fuel + 1) s a) (hi : i ∈ Region.ready .any l.toArray s) (ho : l[i]? = some o) (h1 : sp i = false) :
    (∀ x : After w, qOp P l.toArray (CL x.W) i (fun a' => a' = nxt b a o) a) ∧ GA P l sp w γ b n g fuel (s.setIfInBounds i true) (nxt b a o) := by
  have key : ∀ x : After w, ∃ v, YieldsIn P (ghost sp γ l).toArray (CL x.W) o v a ∧ ahd P (ghost sp γ l).toArray (CL x.W) n (fun s' a' => Region.seqB .any (ghost sp γ l).toArray g n s' = true ∧ a' = b) fuel (s.setIfInBounds i true) (a.put o.dst v) := fun x =>
    yieldsIn_of_qOp (by simp only [List.getElem?_toArray]; rw [ghost_at h1, ho]) ((hF x).2 i (ghost_ready.2 hi)).2
  refine ⟨fun x => ?_, fun x => ?_⟩
  · obtain ⟨v, hy, hw⟩ := key x
    exact (ghost_yields hy).qOp (by simpa using ho) (gha_put hd ho hw)
  · obtain ⟨v, hy, hw⟩ := key x
    rw [← gha_put hd ho hw]; exact hw
theorem gha_special {fuel : Nat} {s : Array Bool} {a b : Act} {γ : Nat → Value} {i : Nat} {o : Oper} (hF : GA P l sp w γ b n g (fuel + 1) s a) (hi : i ∈ Region.ready .any l.toArray s) (ho : l[i]? = some o) (h1 : sp i = true)
    (hwn : Region.wanted o (yielded l.toArray a.tmps) = true) : GA P l sp w γ b n g fuel (s.setIfInBounds i true) (a.put o.dst (γ i)) := by
  intro x
  obtain ⟨v, hy, hw⟩ := yieldsIn_of_qOp (by simp only [List.getElem?_toArray]; exact ghost_sp h1 ho) ((hF x).2 i (ghost_ready.2 hi)).2
  have hv : v = γ i := by
    rcases hy with ⟨_, hy⟩ | ⟨hy, _⟩
    · have := hy x.W ⟨⟨x.W, Below.refl _ _⟩, rfl⟩
      unfold Oper.quietAt at this
      have hr : (execOp a.eval { o with op := .move (.const (γ i)) }).run P x.W = .ok (.value (γ i)) x.W := rfl
      rw [hr] at this
      exact this.2.symm
    · rw [ghost_yielded] at hy
      unfold Region.wanted at hy hwn
      rw [hwn] at hy
      cases hy
  rw [hv] at hw
  exact hw
theorem gha_any (B : GhostA P l sp π Γ w A J Q n) (hg : (l.drop n).length = g) : ∀ (fuel : Nat) (s : Array Bool) (a : Act) (W : World) (p : π), s.size = l.length → Below w.heap.size w W → J s p W →
    (∀ p', (∀ j, sp j = true → s.getD j true = true → Γ p' j = Γ p j) → GA P l sp w (Γ p') (A p') n g fuel s a) → wpAny P .any l.toArray Q (g + fuel) s a W := by
  intro fuel
  induction fuel with
  | zero =>
    intro s a W p hsz hW hj hF
    obtain ⟨h1, h2⟩ := hF p (fun _ _ _ => rfl) ⟨w, Below.refl _ _⟩
    subst h2
    rw [seqB_ghost] at h1
    have hd := heads_done B.back B.le hsz h1
    have := wpAny_of_seq (md := .any) (Q' := Q) (l.drop n) n s (A p) W (fun j => by simp [List.getElem?_drop]) (by rw [hg]; exact h1) (B.hQ s p W hd hj hW)
    rwa [hg] at this
  | succ fuel ih =>
    intro s a W p hsz hW hj hF
    have hFp := hF p (fun _ _ _ => rfl)
    refine ⟨fun h0 => ?_, fun i hi => ?_⟩
    · exact absurd (ready_ghost.trans h0) (hFp ⟨w, Below.refl _ _⟩).1
    · obtain ⟨_, o, ho', _⟩ := mem_ready.1 hi
      have ho : l[i]? = some o := by simpa using ho'
      cases h1 : sp i with
      | false =>
        obtain ⟨hq, _⟩ := gha_step B.dist hFp hi ho h1
        refine wpOp_of_qOp (C := CL W) ⟨⟨W, Below.refl _ _⟩, rfl⟩ (fun a' w' ⟨y, e⟩ ha => ?_) (hq ⟨W, hW⟩)
        subst e; subst ha
        refine ih _ _ _ p (by simpa using hsz) (b_then hW y.h) (B.hJ s i p W y.W h1 hj hW y.h) fun p' hp => ?_
        have hF' := (gha_step B.dist (hF p' fun j hj1 hj2 => hp j hj1 (listed_more hj2)) hi ho h1).2
        have e : nxt (A p') a o = nxt (A p) a o := by
          unfold nxt
          cases hod : o.dst with
          | none => rfl
          | some d =>
            dsimp only
            rw [B.hA p' p d fun k ok hk hok he => by
              by_cases hki : k = i
              · subst hki; rw [h1] at hk; cases hk
              · exact distinct_at B.dist ho hod k ok hok hki he]
        rwa [e] at hF'
      | true =>
        obtain ⟨hwn, hop⟩ := B.hS s i o a p W h1 ho hi hsz hW hj fun j oj d hjo hjd hjs => gha_slot B.dist hFp hjo hjd hjs
        refine wpOp_mono (fun a' W' h => ?_) hop
        obtain ⟨p', hp, hW', rfl, hj'⟩ := h
        refine ih _ _ W' p' (by simpa using hsz) hW' hj' fun p'' hp2 => ?_
        have hag : ∀ j, sp j = true → s.getD j true = true → Γ p'' j = Γ p j := fun j h2 h3 => (hp2 j h2 (listed_more h3)).trans (hp j h2 h3)
        have := gha_special (hF p'' hag) hi ho h1 hwn
        rwa [hp2 i h1 (listed_at s i)] at this
theorem wp_region_gha {id : Nat} {a : Act} (p0 : π) (n : Nat) (hm : P.follows .mixedOrders = true) (hB : ∀ p, Region.lexTailB .any (ghost sp (Γ p) l).toArray n = true)
    (h : ∀ (p : π) (x : After w), wpQuiet P (ghost sp (Γ p) l).toArray (fun w' => ∃ y : After x.W, w' = y.W) (fun a' => a' = A p) ((ghost sp (Γ p) l).take n) a)
    (h0 : ∀ W, Below w.heap.size w W → J (Array.replicate l.length false) p0 W) (B : GhostA P l sp π Γ w A J Q n) : (Code.region id l.toArray true).wp P Q a w := by
  refine wp_region_any hm ?_
  have key := gha_any B (g := l.toArray.size - n) (by simp) n (Array.replicate l.toArray.size false) a (w.drewN 1) p0 (by simp) (b_drewN (Below.refl _ _) 1) (by simpa using h0 _ (b_drewN (Below.refl _ _) 1)) fun p _ x => by
    have hb := hB p
    simp only [Region.lexTailB, Bool.and_eq_true, decide_eq_true_eq] at hb
    obtain ⟨⟨⟨⟨hsel, hn⟩, hs⟩, hc⟩, hlex⟩ := hb
    have hl : (ghost sp (Γ p) l).toArray.size = l.toArray.size := by simp [ghost_length]
    have hn' : n < l.length := by rw [hl] at hn; simpa using hn
    have htl : ((ghost sp (Γ p) l).take n).length = n := by rw [List.length_take, ghost_length]; omega
    have inv : HeadInv .any (ghost sp (Γ p) l).toArray n (Array.replicate (ghost sp (Γ p) l).toArray.size false) :=
      ⟨by simp, fun j oj _ hl => (by rw [getD_replicate_false] at hl; cases hl), fun t _ ht => getD_in (by simpa using ht) (getD_replicate_false _ _)⟩
    have H := ahd_lex (C := fun w' => ∃ y : After x.W, w' = y.W) (g := (ghost sp (Γ p) l).toArray.size - n) hsel hs hc hn ((ghost sp (Γ p) l).take n) 0 _ a (fun j hj => by
      have : j < n := by rwa [htl] at hj
      simp [this]) (by simpa using htl) inv (by rw [htl]; exact hlex) (h p x)
    rw [htl, hl] at H
    exact H
  have hsz : l.toArray.size - n + n = l.toArray.size := by
    have := B.le
    simp
    omega
  rw [hsz] at key
  exact key
end
/-! ### One special head, whose answer is a slice -/
section
variable {P : Program} {l : List Oper} {w : World} {Q : Exit → Act → World → Prop}
/-- The special head i, at slot d: it makes a slice of m elements of which R holds. -/
structure Src (P : Program) (l : List Oper) (i d m n : Nat) (R : Option Addr → Nat → World → Prop) (w : World) (A : Sl → Act) (Q : Exit → Act → World → Prop) : Prop where
  back : backB l = true
  dist : distinctB l = true
  le : n ≤ l.length
  lt : i < n
  k : ∀ p, ∃ o, l[i]? = some o ∧ o.dst = some d ∧ ∀ (a : Act) (W : World), Below w.heap.size w W → Given l i a (A p) → Region.wanted o (yielded l.toArray a.tmps) = true ∧
    wpOp P l.toArray Q i (fun a' W' => ∃ B k, a' = a.put (some d) (.slice B m k) ∧ R B k W' ∧ Below W.heap.size W W') a W
  stay : ∀ B k W W', R B k W → Below W.heap.size W W' → R B k W'
  hA : ∀ p, A p = (A (none, 0)).put (some d) (p.v m)
  hQ : ∀ p W, R p.1 p.2 W → Below w.heap.size w W → wpList P l.toArray Q (l.drop n) (A p) W
variable {i d m n : Nat} {R : Option Addr → Nat → World → Prop} {A : Sl → Act}
theorem Src.ghost (B : Src P l i d m n R w A Q) : GhostA P l (fun j => j == i) Sl (fun p _ => p.v m) w A (fun s p W => s.getD i true = true → R p.1 p.2 W) Q n where
  back := B.back
  dist := B.dist
  le := B.le
  hA := fun p p' d' hd => by
    obtain ⟨o, ho, e, _⟩ := B.k p
    have n1 : d ≠ d' := fun e' => hd i o (by simp) ho (by rw [e, e'])
    rw [B.hA p, B.hA p']
    unfold Act.put
    dsimp only
    rw [Array.getElem?_setIfInBounds, if_neg n1, Array.getElem?_setIfInBounds, if_neg n1]
  hJ := fun s j p W W' hsp hj hW hB h => by
    have hn : j ≠ i := by simpa using hsp
    exact B.stay _ _ _ _ (hj (by rwa [set_keep hn] at h)) hB
  hS := fun s j o a p W hsp ho hi hsz hW hj hsl => by
    obtain rfl : j = i := by simpa using hsp
    have hun := (mem_ready.1 hi).1
    have hgiv : Given l j a (A p) := fun t oj d' hjo hjd hw => hsl t oj d' hjo hjd (waits_at hw hi)
    obtain ⟨o', ho', hod, hr⟩ := B.k p
    rw [ho] at ho'
    injection ho' with ho'
    subst ho'
    obtain ⟨hw, hop⟩ := hr a W hW hgiv
    refine ⟨hw, wpOp_mono (fun a' W' h => ?_) hop⟩
    obtain ⟨C, k, rfl, hR, hB⟩ := h
    refine ⟨(C, k), ?_, b_then hW hB, by rw [hod]; rfl, fun _ => hR⟩
    intro t ht hs
    have : t = j := by simpa using ht
    subst this
    rw [hun] at hs; cases hs
  hQ := fun s p W hall hj hW => B.hQ p W (hj (hall i B.lt)) hW
def srcl (l : List Oper) (i : Nat) (v : Value) : List Oper := l.modify i (repV v)
theorem ghost_src (p : Sl) : Go.Proofs.YtjdofncognaaoaaGreatDoor.ghost (fun j => j == i) (fun _ => p.v m) l = srcl l i (.slice p.1 m p.2) := by
  apply List.ext_getElem?
  intro j
  unfold Go.Proofs.YtjdofncognaaoaaGreatDoor.ghost srcl
  rw [List.getElem?_mapIdx, List.getElem?_modify]
  cases l[j]? with
  | none => rfl
  | some o =>
    by_cases e1 : j = i
    · subst e1; simp [repV, Sl.v]
    · simp [e1, Ne.symm e1]
theorem wp_region_src {id : Nat} {a : Act} (n i d m : Nat) (R : Option Addr → Nat → World → Prop) (A : Sl → Act) (hm : P.follows .mixedOrders = true) (hB : ∀ p : Sl, Region.lexTailB .any (srcl l i (.slice p.1 m p.2)).toArray n = true)
    (h : ∀ (p : Sl) (x : After w), wpQuiet P (srcl l i (.slice p.1 m p.2)).toArray (fun w' => ∃ y : After x.W, w' = y.W) (fun a' => a' = A p) ((srcl l i (.slice p.1 m p.2)).take n) a)
    (B : Src P l i d m n R w A Q) : (Code.region id l.toArray true).wp P Q a w := by
  have hil : i < l.length := Nat.lt_of_lt_of_le B.lt B.le
  exact wp_region_gha ((none, 0) : Sl) n hm (fun p => by rw [ghost_src p]; exact hB p) (fun p x => by rw [ghost_src p]; exact h p x)
    (fun W hW h => by rw [getD_replicate_false' hil] at h; cases h) B.ghost
/-- A call that makes the slice. -/
theorem src_call {o : Oper} {a : Act} {W : World} {f : FuncId} {args : Array Value} (ho : l[i]? = some o) (hod : o.dst = some d) (hg : o.guard = none)
    (hr : (execOp a.eval o).run P W = .ok (.enter f args) W) (h : Calls P f args W fun e w' => ∃ B k, e = .returned (.slice B m k) ∧ R B k w' ∧ Below W.heap.size W w') :
    Region.wanted o (yielded l.toArray a.tmps) = true ∧ wpOp P l.toArray Q i (fun a' W' => ∃ B k, a' = a.put (some d) (.slice B m k) ∧ R B k W' ∧ Below W.heap.size W W') a W :=
  ⟨wanted_none hg, wpOp_call ho (wanted_none hg) hr (h.mono fun e w' ⟨B, k, he, hR, hB⟩ => ⟨_, he, B, k, by rw [hod], hR, hB⟩)⟩
/-- A slice of one element that is built. -/
theorem wpOp_val {o : Oper} {a : Act} {W W' : World} {v : Value} {K : Act → World → Prop} (ho : l[i]? = some o) (hw : Region.wanted o (yielded l.toArray a.tmps) = true)
    (hr : (execOp a.eval o).run P W = .ok (.value v) W') (h : K (a.put o.dst v) W') : wpOp P l.toArray Q i K a W := by
  unfold wpOp
  rw [show l.toArray[i]? = some o by simpa using ho]
  dsimp only
  rw [if_pos hw]
  left
  unfold Oper.wp
  rw [hr]
  exact h
theorem src_built {o : Oper} {a : Act} {W : World} {b : Obj} {k : Nat} (ho : l[i]? = some o) (hod : o.dst = some d) (hg : o.guard = none)
    (hr : (execOp a.eval o).run P W = .ok (.value (.slice (some ⟨W.heap.size, 0, none⟩) m k)) (W.alloc b)) (h : R (some ⟨W.heap.size, 0, none⟩) k (W.alloc b)) :
    Region.wanted o (yielded l.toArray a.tmps) = true ∧ wpOp P l.toArray Q i (fun a' W' => ∃ B k, a' = a.put (some d) (.slice B m k) ∧ R B k W' ∧ Below W.heap.size W W') a W :=
  ⟨wanted_none hg, wpOp_val ho (wanted_none hg) hr ⟨_, _, by rw [hod], h, b_alloc (Below.refl _ _) _⟩⟩
end

/-! ### A slice that is made, and a call that takes it, besides quiet operations -/
section
variable {P : Program} {l : List Oper} {w : World} {Q : Exit → Act → World → Prop}
structure Use (P : Program) (l : List Oper) (i j d e m : Nat) (v : Value) (R : Option Addr → Nat → World → Prop) (w : World) (A : Sl → Act) (Q : Exit → Act → World → Prop) : Prop where
  back : backB l = true
  dist : distinctB l = true
  ne : i ≠ j
  wt : waitsB l j i = true
  k : ∀ p, ∃ o, l[i]? = some o ∧ o.dst = some d ∧ ∀ (a : Act) (W : World), Below w.heap.size w W → Given l i a (A p) → Region.wanted o (yielded l.toArray a.tmps) = true ∧
    wpOp P l.toArray Q i (fun a' W' => ∃ B k, a' = a.put (some d) (.slice B m k) ∧ R B k W' ∧ Below W.heap.size W W') a W
  c : ∀ p, ∃ o, l[j]? = some o ∧ o.dst = some e ∧ ∀ (a : Act) (W : World), Below w.heap.size w W → R p.1 p.2 W → Given l j a (A p) → Region.wanted o (yielded l.toArray a.tmps) = true ∧
    wpOp P l.toArray Q j (fun a' W' => a' = a.put (some e) v ∧ Below W.heap.size W W') a W
  stay : ∀ B k W W', R B k W → Below W.heap.size W W' → R B k W'
  hA : ∀ p, A p = ((A (none, 0)).put (some d) (p.v m)).put (some e) v
  hQ : ∀ p W, Below w.heap.size w W → Q .normal (A p) W
variable {i j d e m : Nat} {v : Value} {R : Option Addr → Nat → World → Prop} {A : Sl → Act}
theorem Use.ghost (B : Use P l i j d e m v R w A Q) : Ghost P l (fun t => t == i || t == j) Sl (fun p t => if t = i then p.v m else v) w A (fun s p W => s.getD i true = true → R p.1 p.2 W) Q where
  back := B.back
  dist := B.dist
  hA := fun p p' d' hd => by
    obtain ⟨o, ho, e1, _⟩ := B.k p
    obtain ⟨o2, ho2, e2, _⟩ := B.c p
    have n1 : d ≠ d' := fun e' => hd i o (by simp) ho (by rw [e1, e'])
    have n2 : e ≠ d' := fun e' => hd j o2 (by simp) ho2 (by rw [e2, e'])
    rw [B.hA p, B.hA p']
    unfold Act.put
    dsimp only
    rw [Array.getElem?_setIfInBounds, if_neg n2, Array.getElem?_setIfInBounds, if_neg n1, Array.getElem?_setIfInBounds, if_neg n2, Array.getElem?_setIfInBounds, if_neg n1]
  hJ := fun s t p W W' hsp hj hW hB h => by
    have hn : t ≠ i ∧ t ≠ j := by simpa using hsp
    exact B.stay _ _ _ _ (hj (by rwa [set_keep hn.1] at h)) hB
  hS := fun s t o a p W hsp ho hi hsz hW hj hsl => by
    have hun := (mem_ready.1 hi).1
    have hgiv : Given l t a (A p) := fun u oj d' hjo hjd hw => hsl u oj d' hjo hjd (waits_at hw hi)
    have hti : t = i ∨ t = j := by simpa using hsp
    rcases hti with rfl | rfl
    · obtain ⟨o', ho', hod, hr⟩ := B.k p
      rw [ho] at ho'
      injection ho' with ho'
      subst ho'
      obtain ⟨hw, hop⟩ := hr a W hW hgiv
      refine ⟨hw, wpOp_mono (fun a' W' h => ?_) hop⟩
      obtain ⟨C, k, rfl, hR, hB⟩ := h
      refine ⟨(C, k), ?_, b_then hW hB, by rw [hod]; simp [Sl.v], fun _ => hR⟩
      intro u hu hs
      have hne : u ≠ t := fun e' => by subst e'; rw [hun] at hs; cases hs
      simp [hne]
    · obtain ⟨o', ho', hod, hr⟩ := B.c p
      rw [ho] at ho'
      injection ho' with ho'
      subst ho'
      obtain ⟨hw, hop⟩ := hr a W hW (hj (waits_at B.wt hi)) hgiv
      refine ⟨hw, wpOp_mono (fun a' W' h => ?_) hop⟩
      obtain ⟨rfl, hB⟩ := h
      refine ⟨p, fun _ _ _ => rfl, b_then hW hB, by rw [hod]; simp [Ne.symm B.ne], fun h => B.stay _ _ _ _ (hj (by rwa [set_keep (Ne.symm B.ne)] at h)) hB⟩
  hQ := fun s p W hall hj hW => B.hQ p W hW
def usel (l : List Oper) (i j : Nat) (u v : Value) : List Oper := (l.modify i (repV u)).modify j (repV v)
theorem ghost_use (ne : i ≠ j) (p : Sl) : Go.Proofs.YtjdofncognaaoaaGreatDoor.ghost (fun t => t == i || t == j) (fun t => if t = i then p.v m else v) l = usel l i j (.slice p.1 m p.2) v := by
  apply List.ext_getElem?
  intro t
  unfold Go.Proofs.YtjdofncognaaoaaGreatDoor.ghost usel
  rw [List.getElem?_mapIdx, List.getElem?_modify, List.getElem?_modify]
  cases l[t]? with
  | none => rfl
  | some o =>
    by_cases e1 : t = i
    · subst e1; simp [repV, Sl.v, Ne.symm ne]
    · by_cases e2 : t = j
      · subst e2; simp [repV, e1, Ne.symm e1]
      · simp [e1, Ne.symm e1, e2, Ne.symm e2]
theorem wp_region_use {id : Nat} {a : Act} (i j d e m : Nat) (v : Value) (R : Option Addr → Nat → World → Prop) (A : Sl → Act) (hm : P.follows .mixedOrders = true) (hB : ∀ p : Sl, Region.lexB .any (usel l i j (.slice p.1 m p.2) v).toArray = true)
    (h : ∀ (p : Sl) (x : After w), wpQuiet P (usel l i j (.slice p.1 m p.2) v).toArray (fun w' => ∃ y : After x.W, w' = y.W) (fun a' => a' = A p) (usel l i j (.slice p.1 m p.2) v) a)
    (B : Use P l i j d e m v R w A Q) (hi : i < l.length) : (Code.region id l.toArray true).wp P Q a w :=
  wp_region_ghost ((none, 0) : Sl) hm (fun p => by rw [ghost_use B.ne p]; exact hB p) (fun p x => by rw [ghost_use B.ne p]; exact h p x)
    (fun W hW h => by rw [getD_replicate_false' hi] at h; cases h) B.ghost
/-- A call whose answer is v. -/
theorem use_call {o : Oper} {a : Act} {W : World} {f : FuncId} {args : Array Value} (ho : l[j]? = some o) (hod : o.dst = some e) (hg : o.guard = none)
    (hr : (execOp a.eval o).run P W = .ok (.enter f args) W) (h : Calls P f args W fun e' w' => e' = .returned v ∧ Below W.heap.size W w') :
    Region.wanted o (yielded l.toArray a.tmps) = true ∧ wpOp P l.toArray Q j (fun a' W' => a' = a.put (some e) v ∧ Below W.heap.size W W') a W :=
  ⟨wanted_none hg, wpOp_call ho (wanted_none hg) hr (h.mono fun e' w' ⟨he, hB⟩ => ⟨_, he, by rw [hod], hB⟩)⟩
end
end Go.Proofs.YtjdofncognaaoaaGreatDoor
