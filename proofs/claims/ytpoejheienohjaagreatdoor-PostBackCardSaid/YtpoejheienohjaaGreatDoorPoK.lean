/- PostTells: the walk (given the fixed calls). -/
import Derived.Test.YtpoejheienohjaaGreatDoorPoH
namespace Go.Proofs.YtpoejheienohjaaGreatDoor
open Go.RowKit
set_option linter.unusedVariables false
set_option linter.unusedSimpArgs false

set_option maxRecDepth 100000 in
set_option maxHeartbeats 4000000 in
theorem l_ptells (HF : Fixed7Ok) {A A2 : Option Addr} {n c n2 c2 : Nat} {xs ls : List Ln} (cov : Bool) (w : World) (hg : Glob w) (hx : Rd Ln.cs 4 w A n xs) (hy : Rd Ln.cs 4 w A2 n2 ls) (hz : ∀ f ∈ xs, lnok f) (hzl : ∀ f ∈ ls, lnok f) :
    Calls Tryz.prog 11 #[.slice A n c, .slice A2 n2 c2, .bool cov] w fun e w' => e = .returned (.bool true) ∧ Below w.heap.size w w' := by
  have HFX := Lib.hid HF
  clear HF
  have hS := r6_small (c := c) w hx hz
  have hS2 := fun W (h : Below w.heap.size w W) => r6_small (c := c2) W (hy.below h) hzl
  cases c1 : lsmall xs with
  | false =>
    rw [c1] at hS
    go_enter Tryz.func11, Tryz.ntmps11
    go_wp2_with (first | (go_at_call 28; (with_reducible refine (hS).mono ?_); rintro e w1 ⟨rfl, hb1⟩; obtain ⟨hc1, hf1⟩ := bcell hb1; have hs1 := hb1.size; (try simp at hs1)) | (go_at_call 46; (with_reducible refine (HFX.out w1 (hg.below (by repeat (first | exact Below.refl _ _ | assumption | refine b_then ?_ (by assumption) | refine b_alloc ?_ _ | refine b_drewN ?_ _ | refine Below.drew ?_ | refine b_set ?_ (by first | exact Nat.le_refl _ | (simp; done) | (simp; omega) | omega) _)))).mono ?_); rintro e w2 ⟨rfl, hb2⟩; obtain ⟨hc2, hf2⟩ := bcell hb2; have hs2 := hb2.size; (try simp at hs2)))
    go_ret
    exact ⟨rfl, (by repeat (first | exact Below.refl _ _ | assumption | refine b_then ?_ (by assumption) | refine b_alloc ?_ _ | refine b_drewN ?_ _ | refine Below.drew ?_ | refine b_set ?_ (by first | exact Nat.le_refl _ | (simp; done) | (simp; omega) | omega) _))⟩
  | true =>
  rw [c1] at hS
  cases c2' : lsmall ls with
  | false =>
    rw [c2'] at hS2
    go_enter Tryz.func11, Tryz.ntmps11
    go_wp2_with (first | (go_at_call 28; (with_reducible refine (hS).mono ?_); rintro e w1 ⟨rfl, hb1⟩; obtain ⟨hc1, hf1⟩ := bcell hb1; have hs1 := hb1.size; (try simp at hs1)) | (go_at_call 28; (with_reducible refine (hS2 w1 hb1).mono ?_); rintro e w3 ⟨rfl, hb3⟩; obtain ⟨hc3, hf3⟩ := bcell hb3; have hs3 := hb3.size; (try simp at hs3)) | (go_at_call 46; (with_reducible refine (HFX.out w3 (hg.below (by repeat (first | exact Below.refl _ _ | assumption | refine b_then ?_ (by assumption) | refine b_alloc ?_ _ | refine b_drewN ?_ _ | refine Below.drew ?_ | refine b_set ?_ (by first | exact Nat.le_refl _ | (simp; done) | (simp; omega) | omega) _)))).mono ?_); rintro e w2 ⟨rfl, hb2⟩; obtain ⟨hc2, hf2⟩ := bcell hb2; have hs2 := hb2.size; (try simp at hs2)))
    go_ret
    exact ⟨rfl, (by repeat (first | exact Below.refl _ _ | assumption | refine b_then ?_ (by assumption) | refine b_alloc ?_ _ | refine b_drewN ?_ _ | refine Below.drew ?_ | refine b_set ?_ (by first | exact Nat.le_refl _ | (simp; done) | (simp; omega) | omega) _))⟩
  | true =>
  rw [c2'] at hS2
  obtain ⟨hxB, hxn⟩ := lsmall_B c1
  obtain ⟨hyB, hyn⟩ := lsmall_B c2'
  have hxl := hx.len
  have hyl := hy.len
  obtain ⟨ys, z, hp⟩ : ∃ ys z, papply xs ls cov = (ys, z) := ⟨_, _, rfl⟩
  obtain ⟨m, hm⟩ : ∃ m, ys.length = m := ⟨_, rfl⟩
  obtain ⟨bl, hbl⟩ : ∃ b, lbal ls = b := ⟨_, rfl⟩
  have hn2 : n2 ≤ 40 := by omega
  have KA := Lib.hid (fun W (hW : Below w.heap.size w W) => (p_apply (c := c) (c2 := c2) cov W (hg.below hW) (hx.below hW) (by omega) (fun f hf => lnB_mono (hxB f hf) (by omega)) (hy.below hW) (by omega) (fun f hf => lnB_mono (hyB f hf) (by omega))).mono fun e w' h => h.of hp hm)
  have KR := Lib.hid (fun W (hW : Below w.heap.size w W) => (r7_apply (c := c) (c2 := c2) cov W (hx.below hW) (by omega) (fun f hf => lnB_mono (hxB f hf) (by omega)) (hy.below hW) (by omega) (fun f hf => lnB_mono (hyB f hf) (by omega))).mono fun e w' h => h.of hp hm)
  have hB1 := fun W (hW : Below w.heap.size w W) => p_balanced (c := c2) W (hg.below hW) (hy.below hW) (by omega) (fun f hf => lnB_S (hyB f hf) (by omega))
  have hB2 := fun W (hW : Below w.heap.size w W) => r7_balanced (c := c2) W (hy.below hW) (by omega) (fun f hf => lnB_S (hyB f hf) (by omega))
  rw [hbl] at hB1 hB2
  have KB1 := Lib.hid hB1
  have KB2 := Lib.hid hB2
  have HYB := Lib.hid hyB
  clear hB1 hB2 hp hm hbl hxB hyB hxl hyl c1 c2' hz hzl
  go_enter Tryz.func11, Tryz.ntmps11
  go_wp2_with (first
    | (go_at_call 28; (with_reducible refine (hS).mono ?_); rintro e w1 ⟨rfl, hb1⟩; obtain ⟨hc1, hf1⟩ := bcell hb1; have hs1 := hb1.size; (try simp at hs1))
    | (go_at_call 28; (with_reducible refine (hS2 w1 hb1).mono ?_); rintro e w3 ⟨rfl, hb3⟩; obtain ⟨hc3, hf3⟩ := bcell hb3; have hs3 := hb3.size; (try simp at hs3))
    | (go_at_call 47; (with_reducible refine (KA.out w3 (b_then hb1 hb3)).mono ?_); rintro e w4 ⟨B4, k4, rfl, R4, hb4⟩)
    | (go_at_call 48; (with_reducible refine (KR.out w4 (b_then (b_then hb1 hb3) hb4)).mono ?_); rintro e w5 ⟨B5, k5, rfl, R5, hb5⟩))
  have hB5 := b_then (b_then (b_then hb1 hb3) hb4) hb5
  have R4' := R4.below hb5
  clear hb1 hc1 hf1 hs1 hb3 hc3 hf3 hs3 hb4 hb5 R4 hS hS2
  go_loopw [11] (fun i wr => ∃ k : Nat, k ≤ n2 ∧ i = .int .i64 (k : Nat) ∧ Rd Ln.cs 4 wr B4 m ys ∧ Rd Ln.cs 4 wr B5 m ys ∧ Below w.heap.size w wr) (fun i _ => n2 - (intOf i).toNat)
  case atStart => exact ⟨0, Nat.zero_le _, rfl, R4', R5, hB5⟩
  case round =>
    clear R4' R5 hB5
    obtain ⟨k, hk, rfl, R4, R5, hB⟩ := hrel
    by_cases hlt : k < n2
    · obtain ⟨ad, a0, a1, a2, a3, rfl, hxk, hl⟩ := ln_in hy hB hlt
      have hms := (HYB.out _ (List.mem_of_getElem? hxk)).1
      have hy0 := fun y : After wr => (hl y.W y.h).c0
      have hP := fun W => p_free a0 W
      have hR := fun W => r7_free a0 W (by dsimp only at hms; omega)
      obtain ⟨b, hb⟩ : ∃ b, pfree a0 = b := ⟨_, rfl⟩
      rw [hb] at hP hR
      clear hb hxk hl hms
      go_wp2
      (refine wp_region_after (by kernel_rfl) (by kernel_rfl) ?_; (repeat (first | go_big_quiet_skip | (go_big_quiet_want; go_big_quiet_op; first | go_big_quiet_on | (apply Exists.intro; refine ⟨fun _ => ?_, ?_⟩; (focus (first | (go_at_call 49; with_reducible exact Calls.after_same (hP _)) | (go_at_call 50; with_reducible exact Calls.after_same (hR _)))); go_big_quiet_on)))); refine wpQuiet_nil ?_; rintro w1 ⟨⟨_, hb1⟩, rfl⟩; (try dsimp only); obtain ⟨hc1, hf1⟩ := bcell hb1; have hs1 := hb1.size; (try simp at hs1))
      go_wp2
      go_roundw
      case rel => exact ⟨k + 1, by omega, by go_num, R4.below hb1, R5.below hb1, b_then hB hb1⟩
      case measure => simp [intOf]; omega
    · obtain rfl : k = n2 := by omega
      have KSM := Lib.hid (fun W (h : Rd Ln.cs 4 W B4 m ys) (h' : Rd Ln.cs 4 W B5 m ys) => ((r6_same (c := k4) (d := k5) W h h').mono fun e w' he => ⟨by rw [he.1]; simp, he.2⟩ : Calls Tryz.prog 32 #[.slice B4 m k4, .slice B5 m k5] W fun e w' => e = .returned (.bool true) ∧ Below W.heap.size W w'))
      go_wp2_with (first
        | (go_at_call 46; (with_reducible refine (HFX.out _ (hg.below hB)).mono ?_); rintro e w6 ⟨rfl, hb6⟩; obtain ⟨hc6, hf6⟩ := bcell hb6; have hs6 := hb6.size; (try simp at hs6))
        | (go_at_call 32; (with_reducible refine (KSM.out w6 (R4.below hb6) (R5.below hb6)).mono ?_); rintro e w7 ⟨rfl, hb7⟩; obtain ⟨hc7, hf7⟩ := bcell hb7; have hs7 := hb7.size; (try simp at hs7))
        | (go_at_call 51; (with_reducible refine (KB1.out w7 (b_then hB (b_then hb6 hb7))).mono ?_); rintro e w8 ⟨rfl, hb8⟩; obtain ⟨hc8, hf8⟩ := bcell hb8; have hs8 := hb8.size; (try simp at hs8))
        | (go_at_call 52; (with_reducible refine (KB2.out w8 (b_then hB (b_then (b_then hb6 hb7) hb8))).mono ?_); rintro e w9 ⟨rfl, hb9⟩; obtain ⟨hc9, hf9⟩ := bcell hb9; have hs9 := hb9.size; (try simp at hs9)))
      go_ret
      exact ⟨ret_bool (by simp), (by repeat (first | exact Below.refl _ _ | assumption | refine b_then ?_ (by assumption) | refine b_alloc ?_ _ | refine b_drewN ?_ _ | refine Below.drew ?_ | refine b_set ?_ (by first | exact Nat.le_refl _ | (simp; done) | (simp; omega) | omega) _))⟩
end Go.Proofs.YtpoejheienohjaaGreatDoor
