/- InstructDays: the walk (given the fixed calls). -/
import Derived.Test.YtjdkbmlkplbmoaaGreatDoorInP
namespace Go.Proofs.YtjdkbmlkplbmoaaGreatDoor
open Go.RowKit
set_option linter.unusedVariables false
set_option linter.unusedSimpArgs false

set_option maxRecDepth 100000 in
set_option maxHeartbeats 4000000 in
theorem l_idays (HF : Fixed8Ok) {A A2 : Option Addr} {n c n2 c2 : Nat} {xs : List Ln} {ls : List In} (day : Int) (w : World) (hg : Glob w) (hx : Rd Ln.cs 4 w A n xs) (hy : Rd In.cs 10 w A2 n2 ls) (hz : ∀ f ∈ xs, lnok f) (hzl : ∀ f ∈ ls, inok f) :
    Calls Tryz.prog 7 #[.slice A n c, .slice A2 n2 c2, .int .i64 day] w fun e w' => e = .returned (.bool true) ∧ Below w.heap.size w w' := by
  have HFX := Lib.hid HF
  clear HF
  have hS := fun W (h : Below w.heap.size w W) => r6_small (c := c) W (hx.below h) hz
  have hS2 := fun W (h : Below w.heap.size w W) => r8_small (c := c2) W (hy.below h) hzl
  cases d1 : lsmall xs with
  | false =>
    rw [d1] at hS
    go_enter Tryz.func7, Tryz.ntmps7
    go_wp2_with (first | (go_at_call 14; (with_reducible refine (HFX.out w hg).mono ?_); rintro e w1 ⟨rfl, hb1⟩; obtain ⟨hc1, hf1⟩ := bcell hb1; have hs1 := hb1.size; (try simp at hs1)) | (go_at_call 12; (with_reducible refine (hS _ hb1).mono ?_); rintro e w2 ⟨rfl, hb2⟩; obtain ⟨hc2, hf2⟩ := bcell hb2; have hs2 := hb2.size; (try simp at hs2)) | (go_at_call 14; (with_reducible refine (HFX.out w2 (hg.below (by repeat (first | exact Below.refl _ _ | assumption | refine b_then ?_ (by assumption) | refine b_alloc ?_ _ | refine b_drewN ?_ _ | refine Below.drew ?_ | refine b_set ?_ (by first | exact Nat.le_refl _ | (simp; done) | (simp; omega) | omega) _)))).mono ?_); rintro e w3 ⟨rfl, hb3⟩; obtain ⟨hc3, hf3⟩ := bcell hb3; have hs3 := hb3.size; (try simp at hs3)))
    go_ret
    exact ⟨rfl, (by repeat (first | exact Below.refl _ _ | assumption | refine b_then ?_ (by assumption) | refine b_alloc ?_ _ | refine b_drewN ?_ _ | refine Below.drew ?_ | refine b_set ?_ (by first | exact Nat.le_refl _ | (simp; done) | (simp; omega) | omega) _))⟩
  | true =>
  rw [d1] at hS
  cases d2 : ismall ls with
  | false =>
    rw [d2] at hS2
    go_enter Tryz.func7, Tryz.ntmps7
    go_wp2_with (first | (go_at_call 14; (with_reducible refine (HFX.out w hg).mono ?_); rintro e w1 ⟨rfl, hb1⟩; obtain ⟨hc1, hf1⟩ := bcell hb1; have hs1 := hb1.size; (try simp at hs1)) | (go_at_call 12; (with_reducible refine (hS _ hb1).mono ?_); rintro e w2 ⟨rfl, hb2⟩; obtain ⟨hc2, hf2⟩ := bcell hb2; have hs2 := hb2.size; (try simp at hs2)) | (go_at_call 13; (with_reducible refine (hS2 w2 (b_then hb1 hb2)).mono ?_); rintro e w3 ⟨rfl, hb3⟩; obtain ⟨hc3, hf3⟩ := bcell hb3; have hs3 := hb3.size; (try simp at hs3)) | (go_at_call 14; (with_reducible refine (HFX.out w3 (hg.below (by repeat (first | exact Below.refl _ _ | assumption | refine b_then ?_ (by assumption) | refine b_alloc ?_ _ | refine b_drewN ?_ _ | refine Below.drew ?_ | refine b_set ?_ (by first | exact Nat.le_refl _ | (simp; done) | (simp; omega) | omega) _)))).mono ?_); rintro e w4 ⟨rfl, hb4⟩; obtain ⟨hc4, hf4⟩ := bcell hb4; have hs4 := hb4.size; (try simp at hs4)))
    go_ret
    exact ⟨rfl, (by repeat (first | exact Below.refl _ _ | assumption | refine b_then ?_ (by assumption) | refine b_alloc ?_ _ | refine b_drewN ?_ _ | refine Below.drew ?_ | refine b_set ?_ (by first | exact Nat.le_refl _ | (simp; done) | (simp; omega) | omega) _))⟩
  | true =>
  rw [d2] at hS2
  obtain ⟨hxB, hxn⟩ := lsmall_B d1
  obtain ⟨hyB, hyn⟩ := ismall_B d2
  have hxl := hx.len
  have hyl := hy.len
  have hM := fun W (h : Below w.heap.size w W) => r6_may (c := c) W (hx.below h) (fun f hf => lnB_q (hxB f hf) (by omega))
  have hM2 := fun W (h : Below w.heap.size w W) => r8_may (c := c2) W (hy.below h) (by omega) (fun f hf => inB_mono (hyB f hf) (by omega))
  cases d3 : bmay xs with
  | false =>
    rw [d3] at hM
    clear d1 d2 d3 hxB hyB hxn hyn hxl hyl
    go_enter Tryz.func7, Tryz.ntmps7
    go_wp2_with (first | (go_at_call 14; (with_reducible refine (HFX.out w hg).mono ?_); rintro e w1 ⟨rfl, hb1⟩; obtain ⟨hc1, hf1⟩ := bcell hb1; have hs1 := hb1.size; (try simp at hs1)) | (go_at_call 12; (with_reducible refine (hS _ hb1).mono ?_); rintro e w2 ⟨rfl, hb2⟩; obtain ⟨hc2, hf2⟩ := bcell hb2; have hs2 := hb2.size; (try simp at hs2)) | (go_at_call 13; (with_reducible refine (hS2 w2 (b_then hb1 hb2)).mono ?_); rintro e w3 ⟨rfl, hb3⟩; obtain ⟨hc3, hf3⟩ := bcell hb3; have hs3 := hb3.size; (try simp at hs3)) | (go_at_call 26; (with_reducible refine (hM w3 (b_then (b_then hb1 hb2) hb3)).mono ?_); rintro e w4 ⟨rfl, hb4⟩; obtain ⟨hc4, hf4⟩ := bcell hb4; have hs4 := hb4.size; (try simp at hs4)) | (go_at_call 14; (with_reducible refine (HFX.out w4 (hg.below (by repeat (first | exact Below.refl _ _ | assumption | refine b_then ?_ (by assumption) | refine b_alloc ?_ _ | refine b_drewN ?_ _ | refine Below.drew ?_ | refine b_set ?_ (by first | exact Nat.le_refl _ | (simp; done) | (simp; omega) | omega) _)))).mono ?_); rintro e w5 ⟨rfl, hb5⟩; obtain ⟨hc5, hf5⟩ := bcell hb5; have hs5 := hb5.size; (try simp at hs5)))
    go_ret
    exact ⟨rfl, (by repeat (first | exact Below.refl _ _ | assumption | refine b_then ?_ (by assumption) | refine b_alloc ?_ _ | refine b_drewN ?_ _ | refine Below.drew ?_ | refine b_set ?_ (by first | exact Nat.le_refl _ | (simp; done) | (simp; omega) | omega) _))⟩
  | true =>
  rw [d3] at hM
  cases d4 : imay ls with
  | false =>
    rw [d4] at hM2
    clear d1 d2 d3 d4 hxB hyB hxn hyn hxl hyl
    go_enter Tryz.func7, Tryz.ntmps7
    go_wp2_with (first | (go_at_call 14; (with_reducible refine (HFX.out w hg).mono ?_); rintro e w1 ⟨rfl, hb1⟩; obtain ⟨hc1, hf1⟩ := bcell hb1; have hs1 := hb1.size; (try simp at hs1)) | (go_at_call 12; (with_reducible refine (hS _ hb1).mono ?_); rintro e w2 ⟨rfl, hb2⟩; obtain ⟨hc2, hf2⟩ := bcell hb2; have hs2 := hb2.size; (try simp at hs2)) | (go_at_call 13; (with_reducible refine (hS2 w2 (b_then hb1 hb2)).mono ?_); rintro e w3 ⟨rfl, hb3⟩; obtain ⟨hc3, hf3⟩ := bcell hb3; have hs3 := hb3.size; (try simp at hs3)) | (go_at_call 26; (with_reducible refine (hM w3 (b_then (b_then hb1 hb2) hb3)).mono ?_); rintro e w4 ⟨rfl, hb4⟩; obtain ⟨hc4, hf4⟩ := bcell hb4; have hs4 := hb4.size; (try simp at hs4)) | (go_at_call 21; (with_reducible refine (hM2 w4 (b_then (b_then (b_then hb1 hb2) hb3) hb4)).mono ?_); rintro e w5 ⟨rfl, hb5⟩; obtain ⟨hc5, hf5⟩ := bcell hb5; have hs5 := hb5.size; (try simp at hs5)) | (go_at_call 14; (with_reducible refine (HFX.out w5 (hg.below (by repeat (first | exact Below.refl _ _ | assumption | refine b_then ?_ (by assumption) | refine b_alloc ?_ _ | refine b_drewN ?_ _ | refine Below.drew ?_ | refine b_set ?_ (by first | exact Nat.le_refl _ | (simp; done) | (simp; omega) | omega) _)))).mono ?_); rintro e w6 ⟨rfl, hb6⟩; obtain ⟨hc6, hf6⟩ := bcell hb6; have hs6 := hb6.size; (try simp at hs6)))
    go_ret
    exact ⟨rfl, (by repeat (first | exact Below.refl _ _ | assumption | refine b_then ?_ (by assumption) | refine b_alloc ?_ _ | refine b_drewN ?_ _ | refine Below.drew ?_ | refine b_set ?_ (by first | exact Nat.le_refl _ | (simp; done) | (simp; omega) | omega) _))⟩
  | true =>
  rw [d4] at hM2
  obtain ⟨ys, rs, ds, hr⟩ : ∃ ys rs ds, irun xs ls day = (ys, rs, ds) := ⟨_, _, _, rfl⟩
  obtain ⟨m, hm⟩ : ∃ m, ys.length = m := ⟨_, rfl⟩
  obtain ⟨r, hrl⟩ : ∃ m, rs.length = m := ⟨_, rfl⟩
  obtain ⟨d, hd⟩ : ∃ m, ds.length = m := ⟨_, rfl⟩
  have hR1 : iRun xs ls (-1) = ((xs, ls, []), 0) := by rw [iRun_yes d3 d4, irun_idle (imay_due d4)]
  have hR2 : iRun xs ls day = ((ys, rs, ds), 0) := by rw [iRun_yes d3 d4, hr]
  have HST : Hid (∀ x ∈ ls, ¬ x.due ≤ day → 0 ≤ ifind rs x.id) := fun x hx hnd => ifind_mem (by have := irun_stays (b := xs) hnd hx; rw [hr] at this; exact this)
  have kR := fun (dy : Int) W (h : Below w.heap.size w W) => p_run (c := c) (c2 := c2) dy W (hg.below h) (hx.below h) (by omega) (fun f hf => lnB_mono (hxB f hf) (by omega)) (hy.below h) (by omega) (fun x hx => inB_mono (hyB x hx) (by omega))
  have k1 := fun W h => (kR (-1) W h).mono fun e w' h => h.of hR1 hxl hyl (d := 0) rfl
  have k2 := fun W h => (kR day W h).mono fun e w' h => h.of hR2 hm hrl hd
  have hn2 : n2 ≤ 40 := by omega
  clear d1 d2 d3 d4 hxB hyB hxn hyn hxl hyl hr hm hrl hd hR1 hR2 kR
  go_enter Tryz.func7, Tryz.ntmps7
  go_wp2_with (first
    | (go_at_call 14; (with_reducible refine (HFX.out w hg).mono ?_); rintro e w1 ⟨rfl, hb1⟩; obtain ⟨hc1, hf1⟩ := bcell hb1; have hs1 := hb1.size; (try simp at hs1))
    | (go_at_call 12; (with_reducible refine (hS _ hb1).mono ?_); rintro e w2 ⟨rfl, hb2⟩; obtain ⟨hc2, hf2⟩ := bcell hb2; have hs2 := hb2.size; (try simp at hs2))
    | (go_at_call 13; (with_reducible refine (hS2 w2 (b_then hb1 hb2)).mono ?_); rintro e w3 ⟨rfl, hb3⟩; obtain ⟨hc3, hf3⟩ := bcell hb3; have hs3 := hb3.size; (try simp at hs3))
    | (go_at_call 26; (with_reducible refine (hM w3 (b_then (b_then hb1 hb2) hb3)).mono ?_); rintro e w4 ⟨rfl, hb4⟩; obtain ⟨hc4, hf4⟩ := bcell hb4; have hs4 := hb4.size; (try simp at hs4))
    | (go_at_call 21; (with_reducible refine (hM2 w4 (b_then (b_then (b_then hb1 hb2) hb3) hb4)).mono ?_); rintro e w5 ⟨rfl, hb5⟩; obtain ⟨hc5, hf5⟩ := bcell hb5; have hs5 := hb5.size; (try simp at hs5))
    | (go_at_call 15; (with_reducible refine (k2 w6 (b_then (b_then (b_then (b_then (b_then hb1 hb2) hb3) hb4) hb5) hb6)).mono ?_); rintro e w7 ⟨B7, c7, D7, d7, E7, e7, rfl, Q7, T7, U7, hb7⟩)
    | (go_at_call 15; (with_reducible refine (k1 w5 (b_then (b_then (b_then (b_then hb1 hb2) hb3) hb4) hb5)).mono ?_); rintro e w6 ⟨B6, c6, D6, d6, E6, e6, rfl, Q6, T6, U6, hb6⟩))
  have hB7 := b_then (b_then (b_then (b_then (b_then (b_then hb1 hb2) hb3) hb4) hb5) hb6) hb7
  have Q67 := Q6.below hb7
  have T67 := T6.below hb7
  clear hb1 hc1 hf1 hs1 hb2 hc2 hf2 hs2 hb3 hc3 hf3 hs3 hb4 hc4 hf4 hs4 hb5 hc5 hf5 hs5 hb6 hb7 hS hS2 hM hM2 k1 k2 Q6 T6
  go_loopw [15] (fun iv wr => ∃ k : Nat, k ≤ n2 ∧ iv = .int .i64 (k : Nat) ∧ Below w7.heap.size w7 wr) (fun i _ => n2 - (intOf i).toNat)
  case atStart => exact ⟨0, Nat.zero_le _, rfl, Below.refl _ _⟩
  case round =>
    obtain ⟨k, hk, rfl, hB⟩ := hrel
    by_cases hlt : k < n2
    · obtain ⟨ad, a0, a1, a2, a3, a4, a5, a6, a7, a8, a9, rfl, hxk, hl⟩ := in_in hy (b_then hB7 hB) hlt
      have hmem := List.mem_of_getElem? hxk
      obtain ⟨y0, y1, y2, y3, y4, y5, y6, y7, y8, y9, y10, y11⟩ := hl wr (Below.refl _ _)
      have hF := fun W (h : Below w7.heap.size w7 W) => p_ifind (c := d7) a0 W (T7.below h)
      by_cases hd : day < a2
      · have hst := HST.out _ hmem (by dsimp only; omega)
        dsimp only at hst
        obtain ⟨z, hz⟩ : ∃ z, ifind rs a0 = z := ⟨_, rfl⟩
        rw [hz] at hF hst
        have hz2 : ¬ z < 0 := by omega
        clear hl hmem hxk hz
        go_wp2_with (go_at_call 24; (with_reducible refine (hF _ hB).mono ?_); rintro e w8 ⟨rfl, hb8⟩; obtain ⟨hc8, hf8⟩ := bcell hb8; have hs8 := hb8.size; (try simp at hs8))
        go_roundw
        case rel => exact ⟨k + 1, by omega, by go_num, b_then hB hb8⟩
        case measure => simp [intOf]; omega
      · have hd2 : a2 ≤ day := by omega
        clear hl hmem hxk
        go_wp2
        go_roundw
        case rel => exact ⟨k + 1, by omega, by go_num, hB⟩
        case measure => simp [intOf]; omega
    · obtain rfl : k = n2 := by omega
      have hs1 := fun W (h : Below w7.heap.size w7 W) => ((r6_same (c := c6) (d := c) W (Q67.below h) (hx.below (b_then hB7 h))).mono fun e w' he => ⟨by rw [he.1, decide_eq_true rfl], he.2⟩ : Calls Tryz.prog 17 #[.slice B6 n c6, .slice A n c] W fun e w' => e = .returned (.bool true) ∧ Below W.heap.size W w')
      have hs2 := fun W (h : Below w7.heap.size w7 W) => ((r8_same (c := d6) (d := c2) W (T67.below h) (hy.below (b_then hB7 h))).mono fun e w' he => ⟨by rw [he.1, decide_eq_true rfl], he.2⟩ : Calls Tryz.prog 22 #[.slice D6 k d6, .slice A2 k c2] W fun e w' => e = .returned (.bool true) ∧ Below W.heap.size W w')
      go_wp2_with (first | (go_at_call 17; (with_reducible refine (hs1 wr hB).mono ?_); rintro e w8 ⟨rfl, hb8⟩; obtain ⟨hc8, hf8⟩ := bcell hb8; have hs8 := hb8.size; (try simp at hs8)) | (go_at_call 22; (with_reducible refine (hs2 w8 (b_then hB hb8)).mono ?_); rintro e w9 ⟨rfl, hb9⟩; obtain ⟨hc9, hf9⟩ := bcell hb9; have hs9 := hb9.size; (try simp at hs9)))
      go_ret
      exact ⟨ret_bool (by simp), b_then hB7 (b_then (b_then hB hb8) hb9)⟩
end Go.Proofs.YtjdkbmlkplbmoaaGreatDoor
