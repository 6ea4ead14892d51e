/- Walks of slices.BinarySearchFunc of prices, fixing.Find. -/
import Derived.Test.YtpoejheienohjaaGreatDoorFixC
import Derived.Test.YtpoejheienohjaaGreatDoorFixL
namespace Go.Proofs.YtpoejheienohjaaGreatDoor
open Go.RowKit
set_option linter.unusedVariables false
set_option linter.unusedSimpArgs false

def FindPost (xs : List Fx) (t : Fx) (w : World) (e : Ending) (w' : World) : Prop := ∃ i, e = .returned (.tuple #[.int .i64 (i : Nat), .bool (fat xs t i)]) ∧ bsI xs t i i ∧ Below w.heap.size w w'
set_option maxHeartbeats 2000000 in
theorem p_bs {A : Option Addr} {n c : Nat} {xs : List Fx} (t0 t2 t3 : ByteArray) (t1 : Int) (w : World) (hx : Rd Fx.cs 4 w A n xs) (hn : n ≤ 1000000) :
    Calls Tryz.prog 87 #[.slice A n c, .agg #[.string t0, .int .i64 t1, .string t2, .string t3], .func (.func 60) #[] #[]] w fun e w' => FindPost xs ⟨t0, t1, ⟨t2, t3⟩⟩ w e w' := by
  have hxl := hx.len
  have hB0 : Below w.heap.size w (w.alloc (.cells #[.string t0, .int .i64 t1, .string t2, .string t3] 26)) := b_alloc (Below.refl _ _) _
  have H0 : Hid (bsI xs ⟨t0, t1, ⟨t2, t3⟩⟩ 0 n) := by have := bsI_start xs ⟨t0, t1, ⟨t2, t3⟩⟩; rw [hxl] at this; exact this
  go_enter Tryz.func87, Tryz.ntmps87
  go_wp2
  go_loopw [9, 10] (fun a b wr => ∃ lo hi : Nat, a = .int .i64 lo ∧ b = .int .i64 hi ∧ lo ≤ hi ∧ hi ≤ n ∧ Hid (bsI xs ⟨t0, t1, ⟨t2, t3⟩⟩ lo hi) ∧ Below (w.heap.size + 1) (w.alloc (.cells #[.string t0, .int .i64 t1, .string t2, .string t3] 26)) wr) (fun a b _ => (intOf b - intOf a).toNat)
  case atStart => exact ⟨0, n, rfl, rfl, Nat.zero_le _, Nat.le_refl _, H0, Below.refl _ _⟩
  case round =>
    obtain ⟨lo, hi, rfl, rfl, hlh, hhi, H, hB⟩ := hrel
    have hBw : Below w.heap.size w wr := b_then hB0 (by simpa using hB)
    have hsz := hB.size
    simp only [World.size_alloc] at hsz
    have ht : ∀ o, wr.cell? ⟨w.heap.size, o, none⟩ = (w.alloc (.cells #[.string t0, .int .i64 t1, .string t2, .string t3] 26)).cell? ⟨w.heap.size, o, none⟩ := fun o => hB.cell (p := ⟨w.heap.size, o, none⟩) (by simp)
    obtain ⟨ht0, ht1, ht2, ht3⟩ : wr.cell? ⟨w.heap.size, 0, none⟩ = some (.string t0) ∧ wr.cell? ⟨w.heap.size, 1, none⟩ = some (.int .i64 t1) ∧ wr.cell? ⟨w.heap.size, 2, none⟩ = some (.string t2) ∧ wr.cell? ⟨w.heap.size, 3, none⟩ = some (.string t3) := by
      refine ⟨(ht 0).trans ?_, (ht 1).trans ?_, (ht 2).trans ?_, (ht 3).trans ?_⟩ <;> exact Blk.cell (Blk.new w _ _) _
    clear ht
    have hszt : w.heap.size < wr.heap.size := by omega
    by_cases hlt : lo < hi
    · obtain ⟨m, hm⟩ : ∃ m, (lo + hi) / 2 = m := ⟨_, rfl⟩
      have hmn : m < n := by omega
      obtain ⟨ad, a0, a1, a2, a3, rfl, hxk, hc'⟩ := fx_at hx hBw hmn
      have hy0 := fun y => (hc' y).1
      have hy1 := fun y => (hc' y).2.1
      have hy2 := fun y => (hc' y).2.2.1
      have hy3 := fun y => (hc' y).2.2.2
      have HX := Lib.hid hxk
      have HC := Lib.hid hc'
      clear hxk hc'
      by_cases c1 : fcmp ⟨a0, a1, ⟨a2, a3⟩⟩ ⟨t0, t1, ⟨t2, t3⟩⟩ < 0
      · go_wp2
        (refine wp_region_after (by kernel_rfl) (by kernel_rfl) ?_; (repeat (first | go_big_quiet_skip | (go_big_quiet_want; go_big_quiet_op; first | go_big_quiet_on | (apply Exists.intro; refine ⟨fun _ => ?_, ?_⟩; (focus ((go_at_call 60; exact Calls.after (p_cmp _ _ _ _ _ _ _ _ _)))); go_big_quiet_on)))); refine wpQuiet_nil ?_; rintro w1 ⟨⟨_, hb1⟩, rfl⟩; (try dsimp only); obtain ⟨hc1, hf1⟩ := bcell hb1; have hs1 := hb1.size; (try simp at hs1))
        go_wp2
        go_roundw
        case rel => exact ⟨m + 1, hi, int_eq (by omega), rfl, by omega, hhi, bsI_up H.out (by omega) HX.out c1, hB.trans (hb1.mono hsz)⟩
        case measure => (simp [intOf]; try omega)
      · go_wp2
        (refine wp_region_after (by kernel_rfl) (by kernel_rfl) ?_; (repeat (first | go_big_quiet_skip | (go_big_quiet_want; go_big_quiet_op; first | go_big_quiet_on | (apply Exists.intro; refine ⟨fun _ => ?_, ?_⟩; (focus ((go_at_call 60; exact Calls.after (p_cmp _ _ _ _ _ _ _ _ _)))); go_big_quiet_on)))); refine wpQuiet_nil ?_; rintro w1 ⟨⟨_, hb1⟩, rfl⟩; (try dsimp only); obtain ⟨hc1, hf1⟩ := bcell hb1; have hs1 := hb1.size; (try simp at hs1))
        go_wp2
        go_roundw
        case rel => exact ⟨lo, m, rfl, int_eq (by omega), by omega, by omega, bsI_down H.out (by omega) (by omega) HX.out (by omega), hB.trans (hb1.mono hsz)⟩
        case measure => (simp [intOf]; try omega)
    · obtain rfl : hi = lo := by omega
      by_cases hln : hi < n
      · obtain ⟨ad, a0, a1, a2, a3, rfl, hxk, hc'⟩ := fx_at hx hBw hln
        have hy0 := fun y => (hc' y).1
        have hy1 := fun y => (hc' y).2.1
        have hy2 := fun y => (hc' y).2.2.1
        have hy3 := fun y => (hc' y).2.2.2
        have HX := Lib.hid hxk
        have HC := Lib.hid hc'
        clear hxk hc'
        have hld : decide ((hi : Int) < (n : Int)) = true := decide_eq_true (by omega)
        by_cases c1 : fcmp ⟨a0, a1, ⟨a2, a3⟩⟩ ⟨t0, t1, ⟨t2, t3⟩⟩ = 0
        · have cb : (fcmp ⟨a0, a1, ⟨a2, a3⟩⟩ ⟨t0, t1, ⟨t2, t3⟩⟩ == 0) = true := by simpa using c1
          have C1 := Lib.hid c1
          clear c1
          go_wp2
          (refine wp_region_after (by kernel_rfl) (by kernel_rfl) ?_; (repeat (first | go_big_quiet_skip | (go_big_quiet_want; go_big_quiet_op; first | go_big_quiet_on | (apply Exists.intro; refine ⟨fun _ => ?_, ?_⟩; (focus ((go_at_call 60; exact Calls.after (p_cmp _ _ _ _ _ _ _ _ _)))); go_big_quiet_on)))); refine wpQuiet_nil ?_; rintro w1 ⟨⟨_, hb1⟩, rfl⟩; (try dsimp only); obtain ⟨hc1, hf1⟩ := bcell hb1; have hs1 := hb1.size; (try simp at hs1))
          go_wp2
          go_ret2
          refine ⟨hi, ?_, H.out, b_then hBw hb1⟩
          have : fat xs ⟨t0, t1, ⟨t2, t3⟩⟩ hi = true := by unfold fat; rw [HX.out]; exact decide_eq_true C1.out
          rw [this]; rfl
        · have cb : (fcmp ⟨a0, a1, ⟨a2, a3⟩⟩ ⟨t0, t1, ⟨t2, t3⟩⟩ == 0) = false := by simpa using c1
          have C1 := Lib.hid c1
          clear c1
          go_wp2
          (refine wp_region_after (by kernel_rfl) (by kernel_rfl) ?_; (repeat (first | go_big_quiet_skip | (go_big_quiet_want; go_big_quiet_op; first | go_big_quiet_on | (apply Exists.intro; refine ⟨fun _ => ?_, ?_⟩; (focus ((go_at_call 60; exact Calls.after (p_cmp _ _ _ _ _ _ _ _ _)))); go_big_quiet_on)))); refine wpQuiet_nil ?_; rintro w1 ⟨⟨_, hb1⟩, rfl⟩; (try dsimp only); obtain ⟨hc1, hf1⟩ := bcell hb1; have hs1 := hb1.size; (try simp at hs1))
          go_wp2
          go_ret2
          refine ⟨hi, ?_, H.out, b_then hBw hb1⟩
          have : fat xs ⟨t0, t1, ⟨t2, t3⟩⟩ hi = false := by unfold fat; rw [HX.out]; exact decide_eq_false C1.out
          rw [this]; rfl
      · have hld : decide ((hi : Int) < (n : Int)) = false := decide_eq_false (by omega)
        go_wp2
        (refine wp_region_after (by kernel_rfl) (by kernel_rfl) ?_; (repeat (first | go_big_quiet_skip | (go_big_quiet_want; go_big_quiet_op; first | go_big_quiet_on | (apply Exists.intro; refine ⟨fun _ => ?_, ?_⟩; (focus (fail)); go_big_quiet_on)))); refine wpQuiet_nil ?_; rintro w1 ⟨⟨_, hb1⟩, rfl⟩; (try dsimp only); obtain ⟨hc1, hf1⟩ := bcell hb1; have hs1 := hb1.size; (try simp at hs1))
        go_wp2
        go_ret2
        refine ⟨hi, ?_, H.out, b_then hBw hb1⟩
        have : fat xs ⟨t0, t1, ⟨t2, t3⟩⟩ hi = false := by unfold fat; rw [List.getElem?_eq_none (by omega)]
        rw [this]; rfl
set_option maxHeartbeats 400000 in
theorem p_find {A : Option Addr} {n c : Nat} {xs : List Fx} (s : ByteArray) (d : Int) (w : World) (hx : Rd Fx.cs 4 w A n xs) (hn : n ≤ 1000000) :
    Calls Tryz.prog 56 #[.slice A n c, .string s, .int .i64 d] w fun e w' => FindPost xs ⟨s, d, rzero⟩ w e w' := by
  go_enter Tryz.func56, Tryz.ntmps56
  go_wp2_with (go_at_call 87; (with_reducible refine (p_bs s ⟨#[]⟩ ⟨#[]⟩ d w hx hn).mono ?_); rintro e w1 ⟨i, rfl, hi, hb1⟩)
  go_ret2
  exact ⟨i, rfl, hi, hb1⟩
end Go.Proofs.YtpoejheienohjaaGreatDoor
