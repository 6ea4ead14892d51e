/- Instructions: plain laws of a day's run. -/
import Derived.Test.YtjdkbmlkplbmoaaGreatDoorInF
import Derived.Test.YtjdkbmlkplbmoaaGreatDoorInI
namespace Go.Proofs.YtjdkbmlkplbmoaaGreatDoor
open Go.RowKit
set_option linter.unusedVariables false
set_option linter.unusedSimpArgs false

theorem irun_snoc (b : List Ln) (l : List In) (x : In) (day : Int) : irun b (l ++ [x]) day = istep day (irun b l day) x := by unfold irun; rw [List.foldl_append]; rfl
theorem istep_keeps (day : Int) (s : List Ln × List In × List Int) (x y : In) (h : y ∈ s.2.1) : y ∈ (istep day s x).2.1 := by
  unfold istep
  split
  · exact h
  · exact List.mem_append_left _ h
theorem irun_idle {b : List Ln} {day : Int} {l : List In} : (∀ x ∈ l, ¬ x.due ≤ day) → irun b l day = (b, l, []) := by
  refine list_rev_ind (p := fun l => (∀ x ∈ l, ¬ x.due ≤ day) → irun b l day = (b, l, [])) (fun _ => rfl) ?_ l
  intro l x ih h
  rw [irun_snoc, ih fun y hy => h y (List.mem_append_left _ hy), istep_late (h x (by simp))]
theorem irun_stays {b : List Ln} {day : Int} {x : In} (hd : ¬ x.due ≤ day) {l : List In} : x ∈ l → x ∈ (irun b l day).2.1 := by
  refine list_rev_ind (p := fun l => x ∈ l → x ∈ (irun b l day).2.1) (fun h => by cases h) ?_ l
  intro l y ih h
  rw [irun_snoc]
  rcases List.mem_append.1 h with h | h
  · exact istep_keeps _ _ _ _ (ih h)
  · obtain rfl := List.mem_singleton.1 h
    rw [istep_late hd]
    simp
theorem ifind_mem {l : List In} {x : In} (h : x ∈ l) : 0 ≤ ifind l x.id := by
  unfold ifind
  cases hf : l.findIdx? (fun y => y.id == x.id) with
  | some k => simp
  | none =>
    rw [List.findIdx?_eq_none_iff] at hf
    have := hf x h
    simp at this
theorem imay_due {l : List In} (h : imay l = true) : ∀ x ∈ l, ¬ x.due ≤ -1 := fun x hx => by
  have o := ione_of (imay_all h x hx)
  have h1 := o.dealt
  have h2 := o.due
  omega
end Go.Proofs.YtjdkbmlkplbmoaaGreatDoor
