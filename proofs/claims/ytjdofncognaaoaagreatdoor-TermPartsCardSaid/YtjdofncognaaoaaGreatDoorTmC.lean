/- Terms: reckoned part by part; depth. -/
import Derived.Test.YtjdofncognaaoaaGreatDoorTmB
namespace Go.Proofs.YtjdofncognaaoaaGreatDoor
open Go.RowKit
set_option linter.unusedVariables false
set_option linter.unusedSimpArgs false

section
variable {T : Type} {node : Nd → List T → Option T}
/-- What a joined term comes to. -/
theorem tfold_join {ps : List (List Nd × T)} {n : Nd} (h : ∀ p ∈ ps, tfold node [] p.1 = some [p.2]) (hn : (ps.length : Int) = arity n.op) : tfold node [] ((ps.map (·.1)).flatten ++ [n]) = (node n (ps.map (·.2))).map fun x => [x] := by
  rw [tfold_snoc, tfold_pairs [] h]
  show tstep node ([] ++ ps.map (·.2)) n = _
  unfold tstep
  rw [List.nil_append, List.length_map, if_neg (by omega)]
  have e : ps.length - (arity n.op).toNat = 0 := by omega
  rw [e]
  rfl
/-- The values of formed terms, side by side. -/
theorem tvals {l : List (List Nd)} (h : ∀ x ∈ l, ∃ v, tfold node [] x = some [v]) : ∃ ps : List (List Nd × T), ps.map (·.1) = l ∧ ∀ p ∈ ps, tfold node [] p.1 = some [p.2] := by
  induction l with
  | nil => exact ⟨[], rfl, fun p hp => by cases hp⟩
  | cons x l ih =>
    obtain ⟨v, hv⟩ := h x (by simp)
    obtain ⟨ps, e, hp⟩ := ih fun y hy => h y (by simp [hy])
    refine ⟨(x, v) :: ps, by simp [e], fun p hp' => ?_⟩
    rcases List.mem_cons.1 hp' with rfl | hp'
    · exact hv
    · exact hp p hp'
/-- A formed term comes to something, where each node does. -/
theorem tm_value (tot : ∀ (n : Nd) (l : List T), (l.length : Int) = arity n.op → ∃ v, node n l = some v) {t : List Nd} (ht : Tm t) : ∃ v, tfold node [] t = some [v] := by
  refine tm_ind (P := fun t => ∃ v, tfold node [] t = some [v]) (fun l n h1 h2 h3 => ?_) t.length t (Nat.le_refl _) ht
  obtain ⟨ps, rfl, hp⟩ := tvals h2
  obtain ⟨v, hv⟩ := tot n (ps.map (·.2)) (by simpa using h3)
  exact ⟨v, by rw [tfold_join hp (by simpa using h3), hv]; rfl⟩
/-- A term that comes to something has parts that do. -/
theorem tm_split {s : List Nd} {n : Nd} {v : T} (h : tfold node [] (s ++ [n]) = some [v]) : ∃ ps : List (List Nd × T), (∀ p ∈ ps, tfold node [] p.1 = some [p.2]) ∧ (∀ p ∈ ps, Tm p.1) ∧ (ps.map (·.1)).flatten = s ∧ (ps.length : Int) = arity n.op ∧ node n (ps.map (·.2)) = some v := by
  have ht := tval_tm h (by simp)
  rw [tfold_snoc] at h
  cases hs : tfold node [] s with
  | none => rw [hs] at h; cases h
  | some st =>
    rw [hs] at h
    obtain ⟨qs, rfl, h2, h3⟩ := tfold_sim (ps := []) (fun p hp => by cases hp) hs
    obtain ⟨l, e1, e2, e3⟩ := tm_parts ht
    have h3' : tfold nterm [] s = some (qs.map (·.1)) := h3
    rw [h3'] at e1
    injection e1 with e1
    subst e1
    refine ⟨qs, h2, fun p hp => tm_all (fun x hx => by cases hx) h3' p.1 (List.mem_map.2 ⟨p, hp, rfl⟩), e3, by simpa using e2, ?_⟩
    have h' : tstep node (qs.map (·.2)) n = some [v] := h
    unfold tstep at h'
    rw [List.length_map] at h'
    split at h'
    · cases h'
    next hc =>
      have e : qs.length - (arity n.op).toNat = 0 := by simp at e2; omega
      rw [e] at h'
      cases hx : node n (qs.map (·.2)) with
      | none => rw [List.drop_zero, hx] at h'; cases h'
      | some x =>
        rw [List.drop_zero, hx] at h'
        injection h' with h'
        simp at h'
        rw [h']
end
/-- Depth. -/
def ndeep (l : List Int) : Int := l.foldl max 0
def ndep (_ : Nd) (l : List Int) : Option Int := some (ndeep l + 1)
def tdep (t : List Nd) : Int := ((tfold ndep [] t).bind tone).getD 0
theorem tdep_of {t : List Nd} {d : Int} (h : tfold ndep [] t = some [d]) : tdep t = d := by unfold tdep; rw [h]; rfl
theorem tdep_tm {t : List Nd} (h : Tm t) : tfold ndep [] t = some [tdep t] := by
  obtain ⟨d, hd⟩ := tm_value (node := ndep) (fun n l _ => ⟨_, rfl⟩) h
  rw [hd, tdep_of hd]
theorem tdep_join {l : List (List Nd)} {n : Nd} (hl : ∀ x ∈ l, Tm x) (hn : (l.length : Int) = arity n.op) : tdep (l.flatten ++ [n]) = ndeep (l.map tdep) + 1 := by
  have h := tfold_join (node := ndep) (n := n) (ps := l.map fun x => (x, tdep x)) (fun p hp => by
    obtain ⟨x, hx, rfl⟩ := List.mem_map.1 hp
    exact tdep_tm (hl x hx)) (by simpa using hn)
  rw [List.map_map, List.map_map] at h
  have e1 : (l.map ((fun p : List Nd × Int => p.1) ∘ fun x => (x, tdep x))) = l := by
    conv => rhs; rw [← List.map_id l]
    rfl
  have e2 : (l.map ((fun p : List Nd × Int => p.2) ∘ fun x => (x, tdep x))) = l.map tdep := rfl
  rw [e1, e2] at h
  exact tdep_of h
end Go.Proofs.YtjdofncognaaoaaGreatDoor
