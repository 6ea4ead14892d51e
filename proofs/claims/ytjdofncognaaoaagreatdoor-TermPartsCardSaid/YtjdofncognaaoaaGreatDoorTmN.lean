/- Folding a term: what a walk asks. -/
import Derived.Test.YtjdofncognaaoaaGreatDoorTmI
namespace Go.Proofs.YtjdofncognaaoaaGreatDoor
open Go.RowKit
set_option linter.unusedVariables false
set_option linter.unusedSimpArgs false

section
variable {T : Type} {node : Nd → List T → Option T}
theorem tfold_at {t : List Nd} {k : Nat} {n : Nd} {st : List T} (h : tfold node [] (t.take k) = some st) (hn : t[k]? = some n) : tfold node [] (t.take (k + 1)) = tstep node st n := by
  rw [List.take_add_one, hn]
  show tfold node [] (t.take k ++ [n]) = _
  rw [tfold_snoc, h]; rfl
theorem tval_stop {t : List Nd} {k : Nat} {n : Nd} {st : List T} (h : tfold node [] (t.take k) = some st) (hn : t[k]? = some n) (hs : tstep node st n = none) : tval node t = none := by
  unfold tval
  split
  · have e : tfold node [] t = none := by
      conv => lhs; rw [← List.take_append_drop (k + 1) t]
      rw [tfold_append, tfold_at h hn, hs]; rfl
    rw [e]; rfl
  · rfl
theorem tval_done {t : List Nd} {st : List T} (h : tfold node [] t = some st) (hl : t.length ≤ 2000) : tval node t = tone st := by
  unfold tval; rw [if_pos hl, h]; rfl
theorem tval_big {t : List Nd} (hl : ¬ t.length ≤ 2000) : tval node t = none := by
  unfold tval; rw [if_neg hl]
/-- Why a node stops the fold. -/
theorem tstep_none {st : List T} {n : Nd} (h : arity n.op < 0 ∨ (st.length : Int) < arity n.op) : tstep node st n = none := by unfold tstep; rw [if_pos h]
theorem tstep_at {st : List T} {n : Nd} {q m : Nat} (hm : arity n.op = (m : Int)) (hl : st.length = q + m) : tstep node st n = (node n (st.drop q)).map fun x => st.take q ++ [x] := by
  unfold tstep
  rw [if_neg (by omega)]
  have e : st.length - (arity n.op).toNat = q := by omega
  rw [e]
/-- Sizes add up. -/
theorem tfold_wt {wt : T → Nat} {C : Nat} : ∀ {t : List Nd} {st u : List T}, (∀ n ∈ t, ∀ l x, node n l = some x → wt x ≤ (l.map wt).sum + C) → tfold node st t = some u → (u.map wt).sum ≤ (st.map wt).sum + C * t.length
  | [], st, u, _, h => by injection h with h; subst h; simp
  | n :: t, st, u, H, h => by
    have h' : (tstep node st n).bind (fun s => tfold node s t) = some u := h
    cases hs : tstep node st n with
    | none => rw [hs] at h'; cases h'
    | some s =>
      rw [hs] at h'
      have ih := tfold_wt (fun m hm => H m (by simp [hm])) h'
      unfold tstep at hs
      split at hs
      · cases hs
      next hc =>
        cases hx : node n (st.drop (st.length - (arity n.op).toNat)) with
        | none => rw [hx] at hs; cases hs
        | some x =>
          rw [hx] at hs
          injection hs with hs
          have h1 := H n (by simp) _ _ hx
          have h2 : (st.map wt).sum = ((st.take (st.length - (arity n.op).toNat)).map wt).sum + ((st.drop (st.length - (arity n.op).toNat)).map wt).sum := by
            rw [← List.sum_append, ← List.map_append, List.take_append_drop]
          have h3 : (s.map wt).sum = ((st.take (st.length - (arity n.op).toNat)).map wt).sum + wt x := by rw [← hs]; simp
          rw [List.length_cons, Nat.mul_add]
          omega
theorem tfold_map {S : Type} {f : S → T} {node' : Nd → List S → Option S} : ∀ {t : List Nd}, (∀ n ∈ t, 0 ≤ arity n.op → ∀ l, (l.length : Int) = arity n.op → (node' n l).map f = node n (l.map f)) → ∀ (st : List S), (tfold node' st t).map (List.map f) = tfold node (st.map f) t
  | [], _, st => rfl
  | n :: t, H, st => by
    show ((tstep node' st n).bind (fun s => tfold node' s t)).map (List.map f) = (tstep node (st.map f) n).bind (fun s => tfold node s t)
    have e : tstep node (st.map f) n = (tstep node' st n).map (List.map f) := by
      unfold tstep
      rw [List.length_map]
      split
      · rfl
      next hc =>
        rw [← List.map_drop, ← H n (by simp) (by omega) _ (by rw [List.length_drop]; omega)]
        cases node' n (st.drop (st.length - (arity n.op).toNat)) with
        | none => rfl
        | some x => simp
    rw [e]
    cases tstep node' st n with
    | none => rfl
    | some s => exact tfold_map (fun m hm => H m (by simp [hm])) s
theorem tone_map {S : Type} (f : S → T) (l : List S) : tone (l.map f) = (tone l).map f := by
  match l with
  | [] => rfl
  | [x] => rfl
  | x :: y :: l => rfl
theorem tval_map {S : Type} {f : S → T} {node' : Nd → List S → Option S} {t : List Nd} (H : ∀ n ∈ t, 0 ≤ arity n.op → ∀ l, (l.length : Int) = arity n.op → (node' n l).map f = node n (l.map f)) : (tval node' t).map f = tval node t := by
  unfold tval
  split
  · have := tfold_map H []
    rw [List.map_nil] at this
    rw [← this]
    cases tfold node' [] t with
    | none => rfl
    | some st => show (tone st).map f = tone (st.map f); rw [tone_map]
  · rfl
/-- As many values lie on the stack as terms. -/
theorem tfold_len {t : List Nd} {st : List T} (h : tfold node [] t = some st) : ∃ us, tfold nterm [] t = some us ∧ us.length = st.length := by
  obtain ⟨qs, e1, _, e3⟩ := tfold_sim (ps := []) (fun p hp => by cases hp) h
  exact ⟨_, e3, by rw [e1]; simp⟩
end
/-- Is a term formed? -/
def tform (t : List Nd) : Bool := decide (t.length ≤ 2000) && decide (tfold nterm [] t = some [t])
theorem tform_iff {t : List Nd} : tform t = true ↔ t.length ≤ 2000 ∧ Tm t := by unfold tform Tm; rw [Bool.and_eq_true, decide_eq_true_eq, decide_eq_true_eq]
/-- So many terms lie on the stack behind k nodes of a formed term: the next node's are there. -/
theorem tm_next {t : List Nd} {k : Nat} {n : Nd} {us : List (List Nd)} (h : Tm t) (hk : t[k]? = some n) (hu : tfold nterm [] (t.take k) = some us) : 0 ≤ arity n.op ∧ arity n.op ≤ us.length := by
  have e : tfold nterm [] t = ((tfold nterm [] (t.take k)).bind fun s => tfold nterm s (n :: t.drop (k + 1))) := by
    conv => lhs; rw [← List.take_append_drop k t]
    rw [tfold_append]
    congr 1
    have hkl := (List.getElem?_eq_some_iff.1 hk).1
    have hx := (List.getElem?_eq_some_iff.1 hk).2
    rw [List.drop_eq_getElem_cons hkl, hx]
  unfold Tm at h
  rw [e, hu] at h
  have h' : (tstep nterm us n).bind (fun s => tfold nterm s (t.drop (k + 1))) = some [t] := h
  cases hs : tstep nterm us n with
  | none => rw [hs] at h'; cases h'
  | some s =>
    unfold tstep at hs
    split at hs
    · cases hs
    next hc => omega
/-- A total fold of a formed term. -/
theorem tm_tval {T : Type} {node : Nd → List T → Option T} {t : List Nd} (hf : tform t = true) {st : List T} (h : tfold node [] t = some st) : ∃ x, st = [x] ∧ tval node t = some x := by
  obtain ⟨hl, ht⟩ := tform_iff.1 hf
  obtain ⟨us, h1, h2⟩ := tfold_len h
  unfold Tm at ht
  rw [ht] at h1
  injection h1 with h1
  subst h1
  match st, h2 with
  | [x], _ => exact ⟨x, rfl, tval_done h hl⟩
theorem tval_form {T : Type} {node : Nd → List T → Option T} {t : List Nd} {x : T} (h : tval node t = some x) : tform t = true := by
  unfold tval at h
  split at h
  next hl =>
    cases hf : tfold node [] t with
    | none => rw [hf] at h; cases h
    | some st =>
      rw [hf] at h
      have h' : tone st = some x := h
      unfold tone at h'
      split at h'
      · refine tform_iff.2 ⟨hl, ?_⟩
        obtain ⟨us, h1, h2⟩ := tfold_len hf
        match us, h2 with
        | [u], _ =>
          have := nterm_flat h1
          have hu : u = t := by simpa using this
          unfold Tm
          rw [h1, hu]
      · cases h'
  · cases h
theorem tval_unform {T : Type} {node : Nd → List T → Option T} {t : List Nd} (h : tform t = false) : tval node t = none := by
  cases hv : tval node t with
  | none => rfl
  | some x => rw [tval_form hv] at h; cases h
/-- Depth, as the program has it: 0 where the term is not formed. -/
def tdeep (t : List Nd) : Int := (tval ndep t).getD 0
theorem tdeep_tm {t : List Nd} (h : tform t = true) : tdeep t = tdep t := by
  obtain ⟨hl, ht⟩ := tform_iff.1 h
  unfold tdeep
  rw [tval_done (tdep_tm ht) hl]; rfl
theorem tdeep_un {t : List Nd} (h : tform t = false) : tdeep t = 0 := by unfold tdeep; rw [tval_unform h]; rfl
/-- Prints, as strings. -/
def bsl (s : ByteArray) : Bs := s.data.toList
def pnode (n : Nd) (l : List ByteArray) : Option ByteArray := (ptx numT pmay n (l.map bsl)).map mkS
def tpr (t : List Nd) : ByteArray := ((tval pnode t).getD ⟨#[]⟩)
theorem bsl_mkS (l : Bs) : bsl (mkS l) = l := rfl
theorem pnode_map (n : Nd) (l : List ByteArray) : (pnode n l).map bsl = ptx numT pmay n (l.map bsl) := by
  unfold pnode
  cases ptx numT pmay n (l.map bsl) with
  | none => rfl
  | some x => rfl
theorem tpr_val (t : List Nd) : (tval pnode t).map bsl = tprint t := tval_map fun n _ _ l _ => pnode_map n l
theorem tpr_some {t : List Nd} {s : Bs} (h : tprint t = some s) : tpr t = mkS s := by
  have := tpr_val t
  rw [h] at this
  unfold tpr
  cases hv : tval pnode t with
  | none => rw [hv] at this; cases this
  | some x =>
    rw [hv] at this
    injection this with this
    rw [← this]; rfl
theorem tpr_none {t : List Nd} (h : tprint t = none) : tpr t = ⟨#[]⟩ := by
  have := tpr_val t
  rw [h] at this
  unfold tpr
  cases hv : tval pnode t with
  | none => rfl
  | some x => rw [hv] at this; cases this
/-- May a term be? 0, or the error's number. -/
def tchk (t : List Nd) : Int := if (tpr t).toList == [] ∨ 20000 < (tpr t).size ∨ 150 < tdeep t then 100 else 0
end Go.Proofs.YtjdofncognaaoaaGreatDoor
