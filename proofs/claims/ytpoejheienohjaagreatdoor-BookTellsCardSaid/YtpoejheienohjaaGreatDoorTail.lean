/- A region that draws its order: quiet operations, and behind them some in one forced order. -/
import Derived.Test.YtpoejheienohjaaGreatDoorBase
import Derived.StillTail
namespace Go.Proofs.YtpoejheienohjaaGreatDoor
open Go Go.RowKit
set_option linter.unusedVariables false
set_option linter.unusedSimpArgs false

section
variable {P : Program} {ops : Array Oper} {C : World → Prop}
/-- Whatever comes up is one of the first n, and quiet in C; at last L. -/
def ahd (P : Program) (ops : Array Oper) (C : World → Prop) (n : Nat) (L : Array Bool → Act → Prop) : Nat → Array Bool → Act → Prop
  | 0, s, a => L s a
  | f + 1, s, a => Region.ready .any ops s ≠ [] ∧ ∀ i, i ∈ Region.ready .any ops s → i < n ∧ qOp P ops C i (ahd P ops C n L f (s.setIfInBounds i true)) a
theorem ahd_any {n g : Nat} {L : Array Bool → Act → Prop} {Q : Exit → Act → World → Prop} (hL : ∀ s a w, C w → L s a → wpAny P .any ops Q g s a w) :
    ∀ (f : Nat) (s : Array Bool) (a : Act) (w : World), C w → ahd P ops C n L f s a → wpAny P .any ops Q (g + f) s a w
  | 0, s, a, w, hw, h => hL s a w hw h
  | f + 1, s, a, w, hw, h => ⟨fun h0 => (h.1 h0).elim, fun i hi => wpOp_of_qOp hw (fun a' w' k h' => ahd_any hL f _ a' w' k h') (h.2 i hi).2⟩
theorem ahd_one {n i : Nat} {oi : Oper} {v : Value} {L : Array Bool → Act → Prop} (hi : ops[i]? = some oi) (hsel : Region.noSelect ops = true) (hs : Region.sinkB .any ops n = true) (hc : Region.chainB .any ops n = true) (hn : n < ops.size) (hin : i < n)
    (hL : ∀ s a, L s a → ∀ j ∈ Region.ready .any ops s, n ≤ j) : ∀ (f : Nat) (s : Array Bool) (a : Act), HeadInv .any ops n s →
      (∀ j oj, ops[j]? = some oj → j ≠ i → s.getD j true = false → (∀ e ∈ oj.after, Region.binds .any e = true → e.on ≠ i) → oi.apart ops oj = true) →
      i ∈ Region.ready .any ops s → YieldsIn P ops C oi v a → ahd P ops C n L f (s.setIfInBounds i true) (a.put oi.dst v) → ahd P ops C n L (f + 1) s a := by
  intro f
  induction f with
  | zero =>
    intro s a inv hfree hr hy H
    refine ⟨List.ne_nil_of_mem hr, fun j hj => ?_⟩
    have hjn : j < n := Nat.lt_of_not_le fun h => tail_waits hs hc hn inv _ i rfl hin (mem_ready.1 hr).1 j h hj
    refine ⟨hjn, ?_⟩
    by_cases e : j = i
    · cases e; exact hy.qOp hi H
    · exact absurd (hL _ _ H j (ready_mono hj e)) (by omega)
  | succ f ih =>
    intro s a inv hfree hr hy H
    refine ⟨List.ne_nil_of_mem hr, fun j hj => ?_⟩
    have hun := (mem_ready.1 hr).1
    have hjn : j < n := Nat.lt_of_not_le fun h => tail_waits hs hc hn inv _ i rfl hin hun j h hj
    refine ⟨hjn, ?_⟩
    by_cases e : j = i
    · cases e; exact hy.qOp hi H
    · obtain ⟨hju, oj, hoj, hall⟩ := mem_ready.1 hj
      have hno : ∀ d ∈ oj.after, Region.binds .any d = true → d.on ≠ i := by
        intro d hd hb he
        have := hall d hd hb
        rw [he, getD_both hun] at this
        exact Bool.false_ne_true this
      have sel := Region.noSelect_spec hsel
      have h2 := qOp_put hoj (hfree j oj hoj e hju hno) (fun cs b => sel i oi cs b hi) (fun cs b => sel j oj cs b hoj) hy (H.2 j (ready_mono hj e)).2
      refine qOp_mono (fun a' h3 => ih _ a' (inv.set hj hjn) ?_ (ready_mono hr (Ne.symm e)) h3.1 ?_) h2
      · intro k ok hk hki hu hw
        refine hfree k ok hk hki ?_ hw
        by_cases hjk : j = k
        · cases hjk; exact hju
        · rwa [getD_set_ne true hjk] at hu
      · rw [Array.setIfInBounds_comm _ _ e]
        exact h3.2
theorem ahd_lex {n g : Nat} {K : Act → Prop} (hsel : Region.noSelect ops = true) (hs : Region.sinkB .any ops n = true) (hc : Region.chainB .any ops n = true) (hn : n < ops.size) :
    ∀ (l : List Oper) (k : Nat) (s : Array Bool) (a : Act), (∀ j, j < l.length → l[j]? = ops[k + j]?) → k + l.length = n → HeadInv .any ops n s → Region.lexHead .any ops g l.length k s = true → wpQuiet P ops C K l a →
      ahd P ops C n (fun s' a' => Region.seqB .any ops g n s' = true ∧ K a') l.length s a := by
  intro l
  induction l with
  | nil =>
    intro k s a _ hk _ hB h
    have hk' : k = n := by simpa using hk
    cases hk'
    exact ⟨by simpa [Region.lexHead] using hB, h⟩
  | cons o l ih =>
    intro k s a hl hk inv hB h
    have h0 : ops[k]? = some o := by simpa using (hl 0 (by simp)).symm
    simp only [List.length_cons, Region.lexHead, Bool.and_eq_true] at hB
    rw [List.length_cons] at hk
    have hr : k ∈ Region.ready .any ops s := by simpa using hB.1.1
    have hq : qOp P ops C k (wpQuiet P ops C K l) a := by unfold qOp; simp only [h0]; exact h
    obtain ⟨v, hy, hK⟩ := yieldsIn_of_qOp h0 hq
    refine ahd_one h0 hsel hs hc hn (by omega) (fun s' a' hL => seqB_ready hL.1) l.length s a inv (Region.free_spec h0 hB.1.2) hr hy ?_
    exact ih (k + 1) _ _ (fun j hj => by have := hl (j + 1) (by simp; omega); simpa [Nat.add_assoc, Nat.add_comm 1 j] using this) (by omega) (inv.set hr (by omega)) hB.2 hK
theorem wp_region_ahead {id : Nat} {Q : Exit → Act → World → Prop} {a : Act} {w : World} {l : List Oper} (n : Nat) (hm : P.follows .mixedOrders = true) (hB : Region.lexTailB .any l.toArray n = true)
    (h : wpQuiet P l.toArray (fun w' => ∃ x : After w, w' = x.W) (fun a' => ∀ x : After w, wpList P l.toArray Q (l.drop n) a' x.W) (l.take n) a) : (Code.region id l.toArray true).wp P Q a w := by
  simp only [Region.lexTailB, Bool.and_eq_true, decide_eq_true_eq] at hB
  obtain ⟨⟨⟨⟨hsel, hn⟩, hs⟩, hc⟩, hlex⟩ := hB
  have hn' : n < l.length := by simpa using hn
  have htl : (l.take n).length = n := by simp; omega
  have hdl : (l.drop n).length = l.toArray.size - n := by simp
  have inv : HeadInv .any l.toArray n (Array.replicate l.toArray.size false) :=
    ⟨by simp, fun j oj _ hl => (by rw [getD_replicate_false] at hl; cases hl), fun t _ ht => getD_in (by simpa using ht) (getD_replicate_false _ _)⟩
  have H := ahd_lex (g := l.toArray.size - n) hsel hs hc hn (l.take n) 0 _ a (fun j hj => by
    have : j < n := by rwa [htl] at hj
    simp [this]) (by simpa using htl) inv (by rw [htl]; exact hlex) h
  refine wp_region_any hm ?_
  have R := ahd_any (Q := Q) (g := l.toArray.size - n) (fun s a' w' hw hL => by
    obtain ⟨x, rfl⟩ := hw
    have := wpAny_of_seq (md := .any) (Q' := Q) (l.drop n) n s a' x.W (fun j => by simp [List.getElem?_drop]) (by rw [hdl]; exact hL.1) (hL.2 x)
    rwa [hdl] at this) _ _ _ _ ⟨⟨w.drewN 1, b_drewN (Below.refl _ _) 1⟩, rfl⟩ H
  rw [htl, show l.toArray.size - n + n = l.toArray.size by omega] at R
  exact R
end
end Go.Proofs.YtpoejheienohjaaGreatDoor
