/- Walk of fixing.compare. -/
import Derived.Test.YtpoejheienohjaaGreatDoorFixB
import Derived.Test.YtpoejheienohjaaGreatDoorTail
namespace Go.Proofs.YtpoejheienohjaaGreatDoor
open Go.RowKit
set_option linter.unusedVariables false
set_option linter.unusedSimpArgs false

set_option maxRecDepth 100000 in
set_option maxHeartbeats 2000000 in
theorem p_cmp (a0 a2 a3 b0 b2 b3 : ByteArray) (a1 b1 : Int) (w : World) :
    Calls Tryz.prog 60 #[.agg #[.string a0, .int .i64 a1, .string a2, .string a3], .agg #[.string b0, .int .i64 b1, .string b2, .string b3]] w fun e w' => e = .returned (.int .i64 (fcmp ⟨a0, a1, ⟨a2, a3⟩⟩ ⟨b0, b1, ⟨b2, b3⟩⟩)) ∧ Below w.heap.size w w' := by
  unfold fcmp
  dsimp only
  obtain ⟨x, hx⟩ : ∃ x, Lib.compareBytes a0.data.toList b0.data.toList = x := ⟨_, rfl⟩
  obtain ⟨y, hy⟩ : ∃ y, Lib.compareInt a1 b1 = y := ⟨_, rfl⟩
  have hc := fun w => c_compare a0 b0 w
  have hi := fun w => c_cmpInt a1 b1 w
  rw [hx] at hc ⊢
  rw [hy] at hi ⊢
  clear hx hy
  go_enter Tryz.func60, Tryz.ntmps60
  go_wp2
  (refine wp_region_ahead 10 (by kernel_rfl) (by kernel_rfl) ?_; simp only [List.take_succ_cons, List.take_zero, List.drop_succ_cons, List.drop_zero]; (repeat (first | go_big_quiet_skip | (go_big_quiet_want; go_big_quiet_op; first | go_big_quiet_on | (apply Exists.intro; refine ⟨fun _ => ?_, ?_⟩; (focus (first | (go_at_call 91; exact Calls.after_same (hc _)) | (go_at_call 92; exact Calls.after_same (hi _)))); go_big_quiet_on)))); refine wpQuiet_nil ?_; rintro ⟨w1, hb1⟩; (try dsimp only); obtain ⟨hc1, hf1⟩ := bcell hb1; have hs1 := hb1.size; (try simp at hs1))
  go_wp2_with ((go_at_call 90; (with_reducible refine (c_or2n _ _ (by simp) x y).mono ?_); rintro e w' ⟨rfl, rfl⟩))
  go_ret
  exact ⟨rfl, (by repeat (first | exact Below.refl _ _ | assumption | refine b_then ?_ (by assumption) | refine b_alloc ?_ _ | refine b_drewN ?_ _ | refine b_set ?_ (by first | exact Nat.le_refl _ | (simp; done) | omega) _))⟩
end Go.Proofs.YtpoejheienohjaaGreatDoor

/- Walk of fixing.one. -/
namespace Go.Proofs.YtpoejheienohjaaGreatDoor
open Go.RowKit
set_option linter.unusedVariables false
set_option linter.unusedSimpArgs false

def fxq (f : Fx) : Prop := f.asset.size ≤ 9000000000 ∧ f.p.num.size ≤ 890000000 ∧ f.p.den.size ≤ 890000000
theorem fxq_sz {f : Fx} (h : fxq f) : fxsz f := ⟨h.1, Nat.le_trans h.2.1 (by omega), Nat.le_trans h.2.2 (by omega)⟩
set_option maxHeartbeats 800000 in
theorem p_one (a0 a2 a3 : ByteArray) (a1 : Int) (w : World) (hg : Glob w) (h1 : a0.size ≤ 9223372036854775807) (h2 : a2.size ≤ 890000000) (h3 : a3.size ≤ 890000000) :
    Calls Tryz.prog 55 #[.agg #[.string a0, .int .i64 a1, .string a2, .string a3]] w fun e w' => e = .returned (.bool (fone ⟨a0, a1, ⟨a2, a3⟩⟩)) ∧ Below w.heap.size w w' := by
  unfold fone
  dsimp only
  have hG0 : Glob (w.alloc (.cells #[.string a0, .int .i64 a1, .string a2, .string a3] 26)) := hg.below (b_alloc (Below.refl _ _) _)
  go_enter Tryz.func55, Tryz.ntmps55
  go_wp2_with (first | (go_at_call 35; (with_reducible refine (p_name _ _ (by omega)).mono ?_); rintro e w1 ⟨rfl, hb1⟩; obtain ⟨hc1, hf1⟩ := bcell hb1; have hs1 := hb1.size; (try simp at hs1)) | (go_at_call 84; (with_reducible refine (p_rmay _ _ _ (hG0.below hb1) (by omega) (by omega)).mono ?_); rintro e w2 ⟨rfl, hb2⟩; obtain ⟨hc2, hf2⟩ := bcell hb2; have hs2 := hb2.size; (try simp at hs2)))
  all_goals
    go_ret
    exact ⟨ret_bool (by grind), (by repeat (first | exact Below.refl _ _ | assumption | refine b_then ?_ (by assumption) | refine b_alloc ?_ _ | refine b_drewN ?_ _ | refine b_set ?_ (by first | exact Nat.le_refl _ | (simp; done) | omega) _))⟩
end Go.Proofs.YtpoejheienohjaaGreatDoor
