/- A region that draws its order, for a class of worlds of one's own: older blocks may change too. With it: a call that writes older blocks, and a variable that is made and laid. -/
import Derived.Test.YtjdofncognaaoaaGreatDoorGhF
namespace Go.Proofs.YtjdofncognaaoaaGreatDoor
open Go Go.RowKit
set_option linter.unusedVariables false
set_option linter.unusedSimpArgs false

structure Kc (K : World → Prop) where
  W : World
  h : K W
section
variable {P : Program} {l : List Oper} {sp : Nat → Bool} {π : Type} {Γ : π → Nat → Value} {K : World → Prop} {A : π → Act} {J : Array Bool → π → World → Prop} {Q : Exit → Act → World → Prop}
def GK (P : Program) (l : List Oper) (sp : Nat → Bool) (K : World → Prop) (γ : Nat → Value) (b : Act) (fuel : Nat) (s : Array Bool) (a : Act) : Prop :=
  ∀ x : Kc K, wpAnyQ P .any (ghost sp γ l).toArray (CL x.W) (fun a' => a' = b) fuel s a
/-- What is known of the special operations. -/
structure GhostK (P : Program) (l : List Oper) (sp : Nat → Bool) (π : Type) (Γ : π → Nat → Value) (K : World → Prop) (A : π → Act) (J : Array Bool → π → World → Prop) (Q : Exit → Act → World → Prop) : Prop where
  cl : ∀ W W', K W → Below W.heap.size W W' → K W'
  back : backB l = true
  dist : distinctB l = true
  hA : ∀ p p' d, (∀ i o, sp i = true → l[i]? = some o → o.dst ≠ some d) → (A p).tmps[d]? = (A p').tmps[d]?
  hJ : ∀ s i p W W', sp i = false → J s p W → K W → Below W.heap.size W W' → J (s.setIfInBounds i true) p W'
  hS : ∀ s i o a p W, sp i = true → l[i]? = some o → i ∈ Region.ready .any l.toArray s → s.size = l.length → K W → J s p W →
    (∀ j oj d, l[j]? = some oj → oj.dst = some d → s.getD j true = true → a.tmps[d]? = (A p).tmps[d]?) →
    Region.wanted o (yielded l.toArray a.tmps) = true ∧
    wpOp P l.toArray Q i (fun a' W' => ∃ p', (∀ j, sp j = true → s.getD j true = true → Γ p' j = Γ p j) ∧ K W' ∧ a' = a.put o.dst (Γ p' i) ∧ J (s.setIfInBounds i true) p' W') a W
  hQ : ∀ s p W, (∀ j, j < l.length → s.getD j true = true) → J s p W → K W → Q .normal (A p) W
theorem ghost_slotK (x0 : Kc K) {fuel : Nat} {s : Array Bool} {a b : Act} {γ : Nat → Value} {i d : Nat} {o : Oper} (hd : distinctB l = true) (hF : GK P l sp K γ b fuel s a) (ho : l[i]? = some o) (hod : o.dst = some d) (hl : s.getD i true = true) : a.tmps[d]? = b.tmps[d]? := by
  obtain ⟨a', rfl, h2⟩ := anyQ_slot (d := d) _ _ _ (hF x0) fun j oj hj hun => by
    have hji : j ≠ i := fun e => by subst e; rw [hl] at hun; cases hun
    obtain ⟨ol, hlj, e⟩ := ghost_dst (by simpa using hj)
    rw [e]
    exact distinct_at hd ho hod j ol hlj hji
  exact h2.symm
/-- A quiet operation comes up. -/
theorem ghost_stepK {fuel : Nat} {s : Array Bool} {a b : Act} {γ : Nat → Value} {i : Nat} {o : Oper} (hd : distinctB l = true) (hF : GK P l sp K γ b (fuel + 1) s a) (hi : i ∈ Region.ready .any l.toArray s) (ho : l[i]? = some o) (h1 : sp i = false) :
    (∀ x : Kc K, qOp P l.toArray (CL x.W) i (fun a' => a' = nxt b a o) a) ∧ GK P l sp K γ b fuel (s.setIfInBounds i true) (nxt b a o) := by
  have key : ∀ x : Kc K, ∃ v, YieldsIn P (ghost sp γ l).toArray (CL x.W) o v a ∧ wpAnyQ P .any (ghost sp γ l).toArray (CL x.W) (fun a' => a' = b) fuel (s.setIfInBounds i true) (a.put o.dst v) := fun x =>
    yieldsIn_of_qOp (by simp only [List.getElem?_toArray]; rw [ghost_at h1, ho]) ((hF x).2 i (ghost_ready.2 hi))
  refine ⟨fun x => ?_, fun x => ?_⟩
  · obtain ⟨v, hy, hw⟩ := key x
    exact (ghost_yields hy).qOp (by simpa using ho) (ghost_put hd ho hw)
  · obtain ⟨v, hy, hw⟩ := key x
    rw [← ghost_put hd ho hw]; exact hw
/-- A special one comes up. -/
theorem ghost_specialK {fuel : Nat} {s : Array Bool} {a b : Act} {γ : Nat → Value} {i : Nat} {o : Oper} (hF : GK P l sp K γ b (fuel + 1) s a) (hi : i ∈ Region.ready .any l.toArray s) (ho : l[i]? = some o) (h1 : sp i = true)
    (hwn : Region.wanted o (yielded l.toArray a.tmps) = true) : GK P l sp K γ b fuel (s.setIfInBounds i true) (a.put o.dst (γ i)) := by
  intro x
  obtain ⟨v, hy, hw⟩ := yieldsIn_of_qOp (by simp only [List.getElem?_toArray]; exact ghost_sp h1 ho) ((hF x).2 i (ghost_ready.2 hi))
  have hv : v = γ i := by
    rcases hy with ⟨_, hy⟩ | ⟨hy, _⟩
    · have := hy x.W ⟨⟨x.W, Below.refl _ _⟩, rfl⟩
      unfold Oper.quietAt at this
      have hr : (execOp a.eval { o with op := .move (.const (γ i)) }).run P x.W = .ok (.value (γ i)) x.W := rfl
      rw [hr] at this
      exact this.2.symm
    · rw [ghost_yielded] at hy
      unfold Region.wanted at hy hwn
      rw [hwn] at hy
      cases hy
  rw [hv] at hw
  exact hw
theorem ghost_anyK (B : GhostK P l sp π Γ K A J Q) : ∀ (fuel : Nat) (s : Array Bool) (a : Act) (W : World) (p : π), s.size = l.length → K W → J s p W →
    (∀ p', (∀ j, sp j = true → s.getD j true = true → Γ p' j = Γ p j) → GK P l sp K (Γ p') (A p') fuel s a) → wpAny P .any l.toArray Q fuel s a W := by
  intro fuel
  induction fuel with
  | zero =>
    intro s a W p hsz hW hj hF
    obtain ⟨h1, h2⟩ := hF p (fun _ _ _ => rfl) ⟨W, hW⟩
    subst h2
    have h0 := ghost_nil h1
    exact ⟨h0, B.hQ s p W (all_done B.back hsz h0) hj hW⟩
  | succ fuel ih =>
    intro s a W p hsz hW hj hF
    have hFp := hF p (fun _ _ _ => rfl)
    refine ⟨fun h0 => ?_, fun i hi => ?_⟩
    · have := (hFp ⟨W, hW⟩).1 (ghost_nil' h0)
      subst this
      exact B.hQ s p W (all_done B.back hsz h0) hj hW
    · obtain ⟨_, o, ho', _⟩ := mem_ready.1 hi
      have ho : l[i]? = some o := by simpa using ho'
      cases h1 : sp i with
      | false =>
        obtain ⟨hq, _⟩ := ghost_stepK B.dist hFp hi ho h1
        refine wpOp_of_qOp (C := CL W) ⟨⟨W, Below.refl _ _⟩, rfl⟩ (fun a' w' ⟨y, e⟩ ha => ?_) (hq ⟨W, hW⟩)
        subst e; subst ha
        refine ih _ _ _ p (by simpa using hsz) (B.cl _ _ hW y.h) (B.hJ s i p W y.W h1 hj hW y.h) fun p' hp => ?_
        have hF' := (ghost_stepK B.dist (hF p' fun j hj1 hj2 => hp j hj1 (listed_more hj2)) hi ho h1).2
        have e : nxt (A p') a o = nxt (A p) a o := by
          unfold nxt
          cases hod : o.dst with
          | none => rfl
          | some d =>
            dsimp only
            rw [B.hA p' p d fun k ok hk hok he => by
              by_cases hki : k = i
              · subst hki; rw [h1] at hk; cases hk
              · exact distinct_at B.dist ho hod k ok hok hki he]
        rwa [e] at hF'
      | true =>
        obtain ⟨hwn, hop⟩ := B.hS s i o a p W h1 ho hi hsz hW hj fun j oj d hjo hjd hjs => ghost_slotK ⟨W, hW⟩ B.dist hFp hjo hjd hjs
        refine wpOp_mono (fun a' W' h => ?_) hop
        obtain ⟨p', hp, hW', rfl, hj'⟩ := h
        refine ih _ _ W' p' (by simpa using hsz) hW' hj' fun p'' hp2 => ?_
        have hag : ∀ j, sp j = true → s.getD j true = true → Γ p'' j = Γ p j := fun j h2 h3 => (hp2 j h2 (listed_more h3)).trans (hp j h2 h3)
        have := ghost_specialK (hF p'' hag) hi ho h1 hwn
        rwa [hp2 i h1 (listed_at s i)] at this
/-- The region, walked once, for whatever values its special operations have. -/
theorem wp_region_ghostK {w : World} {id : Nat} {a : Act} (p0 : π) (hm : P.follows .mixedOrders = true) (hB : ∀ p, Region.lexB .any (ghost sp (Γ p) l).toArray = true)
    (h : ∀ (p : π) (x : Kc K), wpQuiet P (ghost sp (Γ p) l).toArray (fun w' => ∃ y : After x.W, w' = y.W) (fun a' => a' = A p) (ghost sp (Γ p) l) a)
    (hK : K w) (h0 : J (Array.replicate l.length false) p0 (w.drewN 1)) (B : GhostK P l sp π Γ K A J Q) : (Code.region id l.toArray true).wp P Q a w := by
  refine wp_region_any hm ?_
  have key := ghost_anyK B l.toArray.size (Array.replicate l.toArray.size false) a (w.drewN 1) p0 (by simp) (B.cl _ _ hK (b_drewN (Below.refl _ _) 1)) (by simpa using h0) fun p _ x => by
    have hb := hB p
    simp only [Region.lexB, Bool.and_eq_true] at hb
    have hl : (ghost sp (Γ p) l).length = l.length := ghost_length
    have := wpAnyQ_lex (P := P) (C := fun w' => ∃ y : After x.W, w' = y.W) (Q := fun a' => a' = A p) (md := .any) hb.1 (ghost sp (Γ p) l) 0 (Array.replicate (ghost sp (Γ p) l).toArray.size false) a (by simp) (by simpa using hb.2) (h p x)
    rw [hl] at this
    simpa [hl] using this
  exact key
end
/-! ### A call that changes what is known, and a variable that is made and laid -/
section
variable {P : Program} {l : List Oper} {K : World → Prop} {Q : Exit → Act → World → Prop}
/-- ic: the call (slot dc, answer v): from S0 to S1. iA: the variable is made (slot dA, zeros z), iS: it is laid (u). S1's blocks are none of the variable's. -/
structure CallBox (P : Program) (l : List Oper) (lo ic iA iS dc dA : Nat) (v : Value) (T : TypeId) (z u : Array Value) (K : World → Prop) (S0 : World → Prop) (S1 : Option Nat → World → Prop) (A : Nat → Act) (Q : Exit → Act → World → Prop) : Prop where
  cl : ∀ W W', K W → Below W.heap.size W W' → K W'
  back : backB l = true
  dist : distinctB l = true
  n1 : ic ≠ iA
  n2 : ic ≠ iS
  n3 : iA ≠ iS
  w1 : waitsB l iS iA = true
  w2 : waitsB l iS ic = true
  klo : ∀ W, K W → lo ≤ W.heap.size
  kS0 : ∀ W W', S0 W → Below W.heap.size W W' → S0 W'
  kS1 : ∀ og W W', S1 og W → Below W.heap.size W W' → S1 og W'
  kS2 : ∀ W W', S1 none W → Below W.heap.size W W' → S1 (some W.heap.size) W'
  c : ∀ g : Nat, ∃ o, l[ic]? = some o ∧ o.dst = some dc ∧ ∀ (a : Act) (W : World) (og : Option Nat), K W → S0 W → (∀ b, og = some b → b < W.heap.size ∧ lo ≤ b) → Given l ic a (A g) → Region.wanted o (yielded l.toArray a.tmps) = true ∧
    wpOp P l.toArray Q ic (fun a' W' => a' = a.put (some dc) v ∧ K W' ∧ S1 og W' ∧ (∀ b, og = some b → W'.heap[b]? = W.heap[b]?)) a W
  a : ∀ g : Nat, ∃ o, l[iA]? = some o ∧ o.dst = some dA ∧ ∀ (a : Act) (W : World), Region.wanted o (yielded l.toArray a.tmps) = true ∧
    wpOp P l.toArray Q iA (fun a' W' => a' = a.put (some dA) (.pointer (some ⟨W.heap.size, 0, none⟩)) ∧ W' = W.alloc (.cells z T)) a W
  s : ∀ g : Nat, ∃ o, l[iS]? = some o ∧ o.dst = none ∧ ∀ (a : Act) (W : World), K W → S1 (some g) W → Blk W g T z → lo ≤ g → Given l iS a (A g) → Region.wanted o (yielded l.toArray a.tmps) = true ∧
    wpOp P l.toArray Q iS (fun a' W' => a' = a ∧ K W' ∧ S1 (some g) W' ∧ Blk W' g T u) a W
  hA : ∀ g : Nat, A g = ((A 0).put (some dc) v).put (some dA) (.pointer (some ⟨g, 0, none⟩))
  hQ : ∀ (g : Nat) (W : World), K W → S1 (some g) W → Blk W g T u → lo ≤ g → Q .normal (A g) W
variable {lo ic iA iS dc dA : Nat} {v : Value} {T : TypeId} {z u : Array Value} {S0 : World → Prop} {S1 : Option Nat → World → Prop} {A : Nat → Act}
def cbΓ (iA : Nat) (v : Value) (g t : Nat) : Value := if t = iA then .pointer (some ⟨g, 0, none⟩) else v
structure CbJ (lo ic iA iS : Nat) (T : TypeId) (z u : Array Value) (S0 : World → Prop) (S1 : Option Nat → World → Prop) (s : Array Bool) (g : Nat) (W : World) : Prop where
  j0 : s.getD ic true = false → S0 W
  j1 : s.getD ic true = true → S1 (if s.getD iA true then some g else none) W
  j2 : s.getD iA true = true → Blk W g T (if s.getD iS true then u else z)
  j3 : s.getD iS true = true → s.getD iA true = true
  j4 : s.getD iA true = true → lo ≤ g
theorem CallBox.ghost (B : CallBox P l lo ic iA iS dc dA v T z u K S0 S1 A Q) (hl1 : ic < l.length) (hl2 : iA < l.length) (hl3 : iS < l.length) : GhostK P l (fun t => t == ic || (t == iA || t == iS)) Nat (cbΓ iA v) K A (CbJ lo ic iA iS T z u S0 S1) Q where
  cl := B.cl
  back := B.back
  dist := B.dist
  hA := fun p p' d' hd => by
    obtain ⟨o, ho, e1, _⟩ := B.c p
    obtain ⟨o2, ho2, e2, _⟩ := B.a p
    have n1 : dc ≠ d' := fun e' => hd ic o (by simp) ho (by rw [e1, e'])
    have n2 : dA ≠ d' := fun e' => hd iA o2 (by simp) ho2 (by rw [e2, e'])
    rw [B.hA p, B.hA p']
    unfold Act.put
    dsimp only
    rw [Array.getElem?_setIfInBounds, if_neg n2, Array.getElem?_setIfInBounds, if_neg n1, Array.getElem?_setIfInBounds, if_neg n2, Array.getElem?_setIfInBounds, if_neg n1]
  hJ := fun s t p W W' hsp hj hW hB => by
    have hn : t ≠ ic ∧ t ≠ iA ∧ t ≠ iS := by simpa using hsp
    refine ⟨fun h => ?_, fun h => ?_, fun h => ?_, fun h => ?_, fun h => hj.j4 (by rwa [set_keep hn.2.1] at h)⟩
    · rw [set_keep hn.1] at h; exact B.kS0 _ _ (hj.j0 h) hB
    · rw [set_keep hn.1] at h; rw [set_keep hn.2.1]; exact B.kS1 _ _ _ (hj.j1 h) hB
    · rw [set_keep hn.2.1] at h; rw [set_keep hn.2.2]; exact (hj.j2 h).below hB
    · rw [set_keep hn.2.2] at h; rw [set_keep hn.2.1]; exact hj.j3 h
  hS := fun s t o a p W hsp ho hi hsz hW hj hsl => by
    have hun := (mem_ready.1 hi).1
    have hgiv : Given l t a (A p) := fun u oj d' hjo hjd hw => hsl u oj d' hjo hjd (waits_at hw hi)
    have hti : t = ic ∨ t = iA ∨ t = iS := by simpa using hsp
    have getF : ∀ i, i < l.length → (s.getD i true = false ∨ s.getD i true = true) := fun i _ => by cases s.getD i true <;> simp
    rcases hti with rfl | rfl | rfl
    · obtain ⟨o', ho', hod, hr⟩ := B.c p
      rw [ho] at ho'
      injection ho' with ho'
      subst ho'
      have hun' : s.getD t true = false := hun
      obtain ⟨hw, hop⟩ := hr a W (if s.getD iA true then some p else none) hW (hj.j0 hun') (fun b hb => by
        split at hb
        next h => injection hb with hb; subst hb; exact ⟨(hj.j2 h).lt, hj.j4 h⟩
        next => cases hb) hgiv
      refine ⟨hw, wpOp_mono (fun a' W' h => ?_) hop⟩
      obtain ⟨rfl, hK, hS1, hkeep⟩ := h
      refine ⟨p, fun _ _ _ => rfl, hK, by rw [hod]; unfold cbΓ; rw [if_neg B.n1], ⟨fun h => ?_, fun _ => ?_, fun h => ?_, fun h => ?_, fun h => hj.j4 (by rwa [set_keep B.n1] at h)⟩⟩
      · rw [set_self] at h; cases h
      · rw [set_keep B.n1]; exact hS1
      · rw [set_keep B.n1] at h
        rw [set_keep B.n2]
        have h2 := hj.j2 h
        unfold Blk at h2 ⊢
        rw [hkeep p (by rw [if_pos h])]; exact h2
      · rw [set_keep B.n2] at h
        rw [set_keep B.n1]; exact hj.j3 h
    · obtain ⟨o', ho', hod, hr⟩ := B.a p
      rw [ho] at ho'
      injection ho' with ho'
      subst ho'
      have hun' : s.getD t true = false := hun
      obtain ⟨hw, hop⟩ := hr a W
      refine ⟨hw, wpOp_mono (fun a' W' h => ?_) hop⟩
      obtain ⟨rfl, rfl⟩ := h
      have hb : Below W.heap.size W (W.alloc (.cells z T)) := b_alloc (Below.refl _ _) _
      refine ⟨W.heap.size, ?_, B.cl _ _ hW hb, by rw [hod]; unfold cbΓ; rw [if_pos rfl], ⟨fun h => ?_, fun h => ?_, fun _ => ?_, fun _ => set_self _ _, fun _ => B.klo _ hW⟩⟩
      · intro j hj2 hjs
        unfold cbΓ
        by_cases e : j = t
        · subst e; rw [hun'] at hjs; cases hjs
        · rw [if_neg e, if_neg e]
      · rw [set_keep (Ne.symm B.n1)] at h; exact B.kS0 _ _ (hj.j0 h) hb
      · rw [set_keep (Ne.symm B.n1)] at h
        rw [set_self, if_pos rfl]
        have := hj.j1 h
        rw [hun'] at this
        exact B.kS2 _ _ this hb
      · have h3 : s.getD iS true = false := by
          cases h : s.getD iS true with
          | false => rfl
          | true => have := hj.j3 h; rw [hun'] at this; cases this
        rw [set_keep B.n3, h3]
        exact Blk.new W T z
    · obtain ⟨o', ho', hod, hr⟩ := B.s p
      rw [ho] at ho'
      injection ho' with ho'
      subst ho'
      have hun' : s.getD t true = false := hun
      have hA1 := waits_at B.w1 hi
      have hC1 := waits_at B.w2 hi
      have hb := hj.j2 hA1
      rw [hun'] at hb
      have hs1 := hj.j1 hC1
      rw [hA1] at hs1
      obtain ⟨hw, hop⟩ := hr a W hW hs1 hb (hj.j4 hA1) hgiv
      refine ⟨hw, wpOp_mono (fun a' W' h => ?_) hop⟩
      obtain ⟨rfl, hK, hS1, hbl⟩ := h
      refine ⟨p, fun _ _ _ => rfl, hK, by rw [hod]; rfl, ⟨fun h => ?_, fun _ => ?_, fun _ => ?_, fun _ => ?_, fun _ => hj.j4 hA1⟩⟩
      · rw [set_keep (Ne.symm B.n2), hC1] at h; cases h
      · rw [set_keep (Ne.symm B.n3), hA1]; exact hS1
      · rw [set_self]; exact hbl
      · rw [set_keep (Ne.symm B.n3)]; exact hA1
  hQ := fun s p W hall hj hW => by
    have h1 := hj.j1 (hall ic hl1)
    have h2 := hj.j2 (hall iA hl2)
    rw [hall iA hl2] at h1
    rw [hall iS hl3] at h2
    exact B.hQ p W hW h1 h2 (hj.j4 (hall iA hl2))
def cbl (l : List Oper) (ic iA iS : Nat) (v p : Value) : List Oper := ((l.modify ic (repV v)).modify iA (repV p)).modify iS (repV v)
theorem ghost_cb (n1 : ic ≠ iA) (n2 : ic ≠ iS) (n3 : iA ≠ iS) (g : Nat) : Go.Proofs.YtjdofncognaaoaaGreatDoor.ghost (fun t => t == ic || (t == iA || t == iS)) (cbΓ iA v g) l = cbl l ic iA iS v (.pointer (some ⟨g, 0, none⟩)) := by
  apply List.ext_getElem?
  intro t
  unfold Go.Proofs.YtjdofncognaaoaaGreatDoor.ghost cbl cbΓ
  rw [List.getElem?_mapIdx, List.getElem?_modify, List.getElem?_modify, List.getElem?_modify]
  cases l[t]? with
  | none => rfl
  | some o =>
    by_cases e1 : t = ic
    · subst e1; simp [repV, n1, Ne.symm n1, Ne.symm n2]
    · by_cases e2 : t = iA
      · subst e2; simp [repV, e1, Ne.symm e1, Ne.symm n3]
      · by_cases e3 : t = iS
        · subst e3; simp [repV, e1, Ne.symm e1, e2, Ne.symm e2]
        · simp [e1, Ne.symm e1, e2, Ne.symm e2, e3, Ne.symm e3]
theorem wp_region_callbox {w : World} {id : Nat} {a : Act} (lo ic iA iS dc dA : Nat) (v : Value) (T : TypeId) (z u : Array Value) (K : World → Prop) (S0 : World → Prop) (S1 : Option Nat → World → Prop) (A : Nat → Act) (hm : P.follows .mixedOrders = true) (hB : ∀ g : Nat, Region.lexB .any (cbl l ic iA iS v (.pointer (some ⟨g, 0, none⟩))).toArray = true)
    (h : ∀ (g : Nat) (x : Kc K), wpQuiet P (cbl l ic iA iS v (.pointer (some ⟨g, 0, none⟩))).toArray (fun w' => ∃ y : After x.W, w' = y.W) (fun a' => a' = A g) (cbl l ic iA iS v (.pointer (some ⟨g, 0, none⟩))) a)
    (B : CallBox P l lo ic iA iS dc dA v T z u K S0 S1 A Q) (hK : K w) (hS : S0 w) (hl1 : ic < l.length) (hl2 : iA < l.length) (hl3 : iS < l.length) : (Code.region id l.toArray true).wp P Q a w := by
  refine wp_region_ghostK (K := fun W => K W) (0 : Nat) hm (fun g => by rw [ghost_cb B.n1 B.n2 B.n3 g]; exact hB g) (fun g x => by rw [ghost_cb B.n1 B.n2 B.n3 g]; exact h g x) hK ?_ (B.ghost hl1 hl2 hl3)
  have g0 : ∀ i, i < l.length → (Array.replicate l.length false).getD i true = false := fun i hi => getD_replicate_false' hi
  refine ⟨fun _ => B.kS0 _ _ hS (b_drewN (Below.refl _ _) 1), fun h => ?_, fun h => ?_, fun h => ?_, fun h => ?_⟩
  · rw [g0 _ hl1] at h; cases h
  · rw [g0 _ hl2] at h; cases h
  · rw [g0 _ hl3] at h; cases h
  · rw [g0 _ hl2] at h; cases h
end
end Go.Proofs.YtjdofncognaaoaaGreatDoor
