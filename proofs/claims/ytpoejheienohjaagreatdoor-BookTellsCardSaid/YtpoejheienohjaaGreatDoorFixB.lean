/- Walks of cmp.Or, fixing.compare, fixing.one. -/
import Derived.Test.YtpoejheienohjaaGreatDoorFixA
namespace Go.Proofs.YtpoejheienohjaaGreatDoor
open Go.RowKit
set_option linter.unusedVariables false
set_option linter.unusedSimpArgs false

def or2 (x y : Int) : Int := if x = 0 then y else x
set_option maxHeartbeats 400000 in
theorem c_or2 (g : Nat) (x y : Int) (w : World) (h0 : w.cell? ⟨g, 0, none⟩ = some (.int .i64 x)) (h1 : w.cell? ⟨g, 1, none⟩ = some (.int .i64 y)) :
    Calls Tryz.prog 90 #[.slice (some ⟨g, 0, none⟩) 2 2] w fun e w' => e = .returned (.int .i64 (or2 x y)) ∧ w = w' := by
  go_enter Tryz.func90, Tryz.ntmps90
  go_wp2
  go_loop [8] (fun i => ∃ k : Nat, k ≤ 2 ∧ i = .int .i64 k ∧ (1 ≤ k → x = 0) ∧ (2 ≤ k → y = 0)) (fun i => 2 - (intOf i).toNat)
  case atStart => exact ⟨0, by omega, rfl, fun h => by omega, fun h => by omega⟩
  case round =>
    obtain ⟨k, hk, rfl, hx, hy⟩ := hrel
    match k, hk with
    | 0, _ =>
      by_cases hx0 : x = 0
      · have hb : (x == 0) = true := by simpa using hx0
        go_wp2
        go_round
        case rel => exact ⟨1, by omega, rfl, fun _ => hx0, fun h => by omega⟩
        case measure => simp [intOf]
      · have hb : (x == 0) = false := by simpa using hx0
        go_wp2
        go_ret
        exact ⟨ret_int (by rw [or2, if_neg hx0]), rfl⟩
    | 1, _ =>
      have hx0 := hx (by omega)
      clear hx hy
      by_cases hy0 : y = 0
      · have hb : (y == 0) = true := by simpa using hy0
        go_wp2
        go_round
        case rel => exact ⟨2, by omega, rfl, fun _ => hx0, fun _ => hy0⟩
        case measure => simp [intOf]
      · have hb : (y == 0) = false := by simpa using hy0
        go_wp2
        go_ret
        exact ⟨ret_int (by simp [or2, hx0]), rfl⟩
    | 2, _ =>
      have hx0 := hx (by omega)
      have hy0 := hy (by omega)
      clear hx hy
      go_wp2
      go_ret
      exact ⟨ret_int (by simp [or2, hx0, hy0]), rfl⟩
theorem c_or2n (W : World) (g : Nat) (hg : W.heap.size = g) (x y : Int) :
    Calls Tryz.prog 90 #[.slice (some ⟨g, 0, none⟩) 2 2] (W.alloc (.cells #[.int .i64 x, .int .i64 y] 3)) fun e w' => e = .returned (.int .i64 (or2 x y)) ∧ (W.alloc (.cells #[.int .i64 x, .int .i64 y] 3)) = w' := by
  subst hg
  obtain ⟨h0, h1, _, _⟩ := Blk.two (Blk.new W 3 #[.int .i64 x, .int .i64 y])
  exact c_or2 _ x y _ h0 h1
/-- An order of prices. -/
def fcmp (a b : Fx) : Int := or2 (Lib.compareBytes a.asset.data.toList b.asset.data.toList) (Lib.compareInt a.day b.day)
theorem cmpB_spec (a b : List UInt8) : (Lib.compareBytes a b < 0 ↔ a < b) ∧ (Lib.compareBytes a b = 0 ↔ a = b) := by
  induction a generalizing b with
  | nil => cases b <;> simp [Lib.compareBytes]
  | cons x a ih =>
    cases b with
    | nil => simp [Lib.compareBytes]
    | cons y b =>
      obtain ⟨h1, h2⟩ := ih b
      simp only [Lib.compareBytes, List.cons_lt_cons_iff, List.cons.injEq]
      by_cases hxy : x < y
      · have hne : x ≠ y := fun e => by subst e; exact absurd hxy (by simp)
        simp [hxy, hne]
      · by_cases hyx : y < x
        · have hne : x ≠ y := fun e => by subst e; exact absurd hyx (by simp)
          simp [hxy, hyx, hne]
        · have he : x = y := by
            have h3 : ¬ x.toNat < y.toNat := fun h => hxy (UInt8.lt_iff_toNat_lt.2 h)
            have h4 : ¬ y.toNat < x.toNat := fun h => hyx (UInt8.lt_iff_toNat_lt.2 h)
            exact UInt8.toNat_inj.1 (by omega)
          subst he
          simp [h1, h2]
theorem fahead_fcmp (a b : Fx) : fahead a b = decide (fcmp a b < 0) := by
  obtain ⟨h1, h2⟩ := cmpB_spec a.asset.data.toList b.asset.data.toList
  unfold fahead slt fcmp or2
  rw [Bool.eq_iff_iff, Bool.or_eq_true, Bool.and_eq_true, bytesLess_iff, tl, tl, beq_iff_eq, decide_eq_true_eq, decide_eq_true_eq, ← h1, ← h2]
  have h3 : Lib.compareInt a.day b.day < 0 ↔ a.day < b.day := by unfold Lib.compareInt; split <;> (try split) <;> omega
  split
  · rename_i h; rw [h3]; omega
  · omega
theorem fcmp_zero (a b : Fx) : fcmp a b = 0 ↔ a.asset = b.asset ∧ a.day = b.day := by
  obtain ⟨h1, h2⟩ := cmpB_spec a.asset.data.toList b.asset.data.toList
  have h3 : Lib.compareInt a.day b.day = 0 ↔ a.day = b.day := by unfold Lib.compareInt; split <;> (try split) <;> omega
  have h4 : a.asset = b.asset ↔ a.asset.data.toList = b.asset.data.toList := ⟨fun e => by rw [e], s_ext⟩
  unfold fcmp or2
  rw [h4, ← h2]
  split
  · rename_i h; rw [h3]; exact ⟨fun e => ⟨h, e⟩, fun e => e.2⟩
  · rename_i h; exact ⟨fun e => absurd e h, fun e => absurd e.1 h⟩
theorem wp_one {P : Program} {c : Code} {Q : Exit → Act → World → Prop} {a : Act} {w : World} {a0 : Act} {w0 : World} (h : c.wp P (OneN a0 w0) a w) (hq : Q .normal a0 w0) : c.wp P Q a w := wp_mono h (OneN.to hq)
end Go.Proofs.YtpoejheienohjaaGreatDoor
