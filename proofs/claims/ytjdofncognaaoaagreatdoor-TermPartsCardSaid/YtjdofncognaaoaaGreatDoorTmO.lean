/- Walks: a node's arity; terms joined, compared. -/
import Derived.Test.YtjdofncognaaoaaGreatDoorTmM
import Derived.Test.YtjdofncognaaoaaGreatDoorTmN
namespace Go.Proofs.YtjdofncognaaoaaGreatDoor
open Go.RowKit
set_option linter.unusedVariables false
set_option linter.unusedSimpArgs false

set_option maxHeartbeats 800000 in
theorem p_arity (op : Int) (w : World) : Calls Tryz.prog 25 #[.int .i64 op] w fun e w' => e = .returned (.int .i64 (arity op)) ∧ w = w' := by
  have H : op < 0 ∨ (0 ≤ op ∧ op ≤ 4) ∨ op = 5 ∨ (6 ≤ op ∧ op ≤ 11) ∨ op = 12 ∨ 12 < op := by omega
  rcases H with h | h | h | h | h | h
  all_goals
    obtain ⟨v, hv⟩ : ∃ v, arity op = v := ⟨_, rfl⟩
    have HV := Lib.hid hv
    have e5 : op = 5 ∨ (op == 5) = false := by by_cases e : op = 5; exact .inl e; exact .inr (beq_eq_false_iff_ne.2 e)
    have e12 : op = 12 ∨ (op == 12) = false := by by_cases e : op = 12; exact .inl e; exact .inr (beq_eq_false_iff_ne.2 e)
    rw [hv]
    clear hv
    go_enter Tryz.func25, Tryz.ntmps25
    first
      | (rcases e5 with e5 | e5 <;> first | (exfalso; omega) | (rcases e12 with e12 | e12 <;> first | (exfalso; omega) | (go_wp2; go_ret; exact ⟨ret_int (by rw [← HV.out]; unfold arity; (repeat' split) <;> omega), rfl⟩)))
      | (subst h; clear e5 e12; go_wp2; go_ret; exact ⟨ret_int (by rw [← HV.out]; unfold arity; (repeat' split) <;> omega), rfl⟩)
def aryArr : Array Value := #[.int .i64 0, .int .i64 0, .int .i64 0, .int .i64 0, .int .i64 0, .int .i64 1, .int .i64 2, .int .i64 2, .int .i64 2, .int .i64 2, .int .i64 2, .int .i64 2, .int .i64 3]
theorem ary_ix (k : Nat) (hk : k < 13) (W : World) : (Instr.index 92 (.agg #[.int .i64 0, .int .i64 0, .int .i64 0, .int .i64 0, .int .i64 0, .int .i64 1, .int .i64 2, .int .i64 2, .int .i64 2, .int .i64 2, .int .i64 2, .int .i64 2, .int .i64 3]) (.int .i64 (k : Nat))).run Tryz.prog W = .ok (.int .i64 (arity (k : Nat))) W := by
  have : ∀ j : Fin 13, (Instr.index 92 (.agg #[.int .i64 0, .int .i64 0, .int .i64 0, .int .i64 0, .int .i64 0, .int .i64 1, .int .i64 2, .int .i64 2, .int .i64 2, .int .i64 2, .int .i64 2, .int .i64 2, .int .i64 3]) (.int .i64 (j.1 : Nat))).run Tryz.prog W = .ok (.int .i64 (arity (j.1 : Nat))) W := by
    intro j
    match j with
    | ⟨0, _⟩ => show _ = _; kernel_rfl
    | ⟨1, _⟩ => show _ = _; kernel_rfl
    | ⟨2, _⟩ => show _ = _; kernel_rfl
    | ⟨3, _⟩ => show _ = _; kernel_rfl
    | ⟨4, _⟩ => show _ = _; kernel_rfl
    | ⟨5, _⟩ => show _ = _; kernel_rfl
    | ⟨6, _⟩ => show _ = _; kernel_rfl
    | ⟨7, _⟩ => show _ = _; kernel_rfl
    | ⟨8, _⟩ => show _ = _; kernel_rfl
    | ⟨9, _⟩ => show _ = _; kernel_rfl
    | ⟨10, _⟩ => show _ = _; kernel_rfl
    | ⟨11, _⟩ => show _ = _; kernel_rfl
    | ⟨12, _⟩ => show _ = _; kernel_rfl
  exact this ⟨k, hk⟩
set_option maxRecDepth 100000 in
set_option maxHeartbeats 800000 in
theorem r10_arity (op : Int) (w : World) : Calls Tryz.prog 26 #[.int .i64 op] w fun e w' => e = .returned (.int .i64 (arity op)) ∧ Below w.heap.size w w' := by
  by_cases h : 0 ≤ op ∧ op ≤ 12
  · obtain ⟨k, rfl⟩ : ∃ k : Nat, op = (k : Int) := ⟨op.toNat, by omega⟩
    have hk : k < 13 := by omega
    have ix := ary_ix k hk
    obtain ⟨h1, h2⟩ := h
    go_enter Tryz.func26, Tryz.ntmps26
    go_wp2
    go_ret
    exact ⟨rfl, (by repeat (first | exact Below.refl _ _ | assumption | refine b_then ?_ (by assumption) | refine b_alloc ?_ _ | refine b_drewN ?_ _ | refine Below.drew ?_ | refine b_set ?_ (by first | exact Nat.le_refl _ | (simp; done) | (simp; omega) | omega) _))⟩
  · obtain ⟨v, hv⟩ : ∃ v, arity op = v := ⟨_, rfl⟩
    have hm : v = -1 := by rw [← hv]; unfold arity; rw [if_pos (by omega)]
    rw [hv, hm]
    clear hv hm
    by_cases h1 : op < 0
    · go_enter Tryz.func26, Tryz.ntmps26
      go_wp2
      go_ret
      exact ⟨rfl, (by repeat (first | exact Below.refl _ _ | assumption | refine b_then ?_ (by assumption) | refine b_alloc ?_ _ | refine b_drewN ?_ _ | refine Below.drew ?_ | refine b_set ?_ (by first | exact Nat.le_refl _ | (simp; done) | (simp; omega) | omega) _))⟩
    · have h2 : 12 < op := by omega
      go_enter Tryz.func26, Tryz.ntmps26
      go_wp2
      go_ret
      exact ⟨rfl, (by repeat (first | exact Below.refl _ _ | assumption | refine b_then ?_ (by assumption) | refine b_alloc ?_ _ | refine b_drewN ?_ _ | refine Below.drew ?_ | refine b_set ?_ (by first | exact Nat.le_refl _ | (simp; done) | (simp; omega) | omega) _))⟩
end Go.Proofs.YtjdofncognaaoaaGreatDoor
