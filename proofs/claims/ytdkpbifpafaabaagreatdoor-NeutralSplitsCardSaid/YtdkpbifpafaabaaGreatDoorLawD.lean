/- The first law of the prices: the walk. -/
import Derived.Test.YtdkpbifpafaabaaGreatDoorLawA
namespace Go.Proofs.YtdkpbifpafaabaaGreatDoor
open Go.RowKit
set_option linter.unusedVariables false
set_option linter.unusedSimpArgs false

theorem rd_one (w : World) (f : Fx) : Rd Fx.cs 4 (w.alloc (.cells (Fx.cs f).toArray 47)) (some ⟨w.heap.size, 0, none⟩) 1 [f] :=
  ⟨rfl, by omega, fun _ => ⟨_, rfl, by simp, fun j x hj i u hu => by
    obtain ⟨rfl, rfl⟩ := one_at hj
    rw [Nat.zero_mul, Nat.zero_add, add_lit4]
    exact (Blk.cell (Blk.new w _ _) _).trans (by simpa using hu)⟩⟩
/-- What Set gives, in the law's words. -/
def SetIs (ys : List Fx) (m : Nat) (b : Bool) (w : World) (e : Ending) (w' : World) : Prop := ∃ B k, e = .returned (.tuple #[.slice B m k, .bool b]) ∧ Rd Fx.cs 4 w' B m ys ∧ Below w.heap.size w w'
theorem SetPost.is_ {xs : List Fx} {f : Fx} {w w' : World} {e : Ending} {ys : List Fx} {m : Nat} {b : Bool} (h : SetPost xs f w e w') (hy : (fset xs f).getD [] = ys) (hm : ys.length = m) (hb : (fset xs f).isSome = b) : SetIs ys m b w e w' := by
  obtain ⟨v, he, ho, hB⟩ := h
  rw [hy] at ho
  rw [hb] at he
  obtain ⟨B, k, hv, hr⟩ := ho.rd Fx.cs_length
  subst hm
  subst hv
  exact ⟨B, k, he, hr, hB⟩
theorem small_q {l : List Fx} (h : fsmall l = true) : (∀ f ∈ l, fxq f) ∧ l.length ≤ 60 := by
  unfold fsmall at h
  rw [Bool.and_eq_true, List.all_eq_true, decide_eq_true_eq] at h
  refine ⟨fun f hf => ?_, h.2⟩
  have := h.1 f hf
  unfold fsm at this
  simp only [Bool.and_eq_true, decide_eq_true_eq] at this
  exact ⟨by omega, by omega, by omega⟩
def fxok (f : Fx) : Prop := f.asset.size ≤ 9223372036854775807 ∧ f.p.num.size ≤ 9223372036854775807 ∧ f.p.den.size ≤ 9223372036854775807
end Go.Proofs.YtdkpbifpafaabaaGreatDoor
