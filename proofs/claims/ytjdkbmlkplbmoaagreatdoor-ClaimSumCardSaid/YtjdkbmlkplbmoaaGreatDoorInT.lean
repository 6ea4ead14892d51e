/- InstructTells: the walk (given the fixed calls). -/
import Derived.Test.YtjdkbmlkplbmoaaGreatDoorInP
import Derived.Test.YtjdkbmlkplbmoaaGreatDoorGhost
namespace Go.Proofs.YtjdkbmlkplbmoaaGreatDoor
open Go.RowKit
set_option linter.unusedVariables false
set_option linter.unusedSimpArgs false

theorem LinesIs.is_ {ys : List Ln} {m : Nat} {w w' : World} {e : Ending} (h : LinesIs ys w e w') (hm : ys.length = m) : ∃ B k, e = .returned (.slice B m k) ∧ Rd Ln.cs 4 w' B m ys ∧ Below w.heap.size w w' := by
  obtain ⟨B, m', k, he, hr, hb⟩ := h
  have := hr.len
  obtain rfl : m' = m := by omega
  exact ⟨B, k, he, hr, hb⟩
set_option maxRecDepth 100000 in
set_option maxHeartbeats 4000000 in
theorem l_itells (HF : Fixed8Ok) {A A2 : Option Addr} {n c n2 c2 : Nat} {xs : List Ln} {ls : List In} (day : Int) (w : World) (hg : Glob w) (hx : Rd Ln.cs 4 w A n xs) (hy : Rd In.cs 10 w A2 n2 ls) (hz : ∀ f ∈ xs, lnok f) (hzl : ∀ f ∈ ls, inok f) :
    Calls Tryz.prog 3 #[.slice A n c, .slice A2 n2 c2, .int .i64 day] w fun e w' => e = .returned (.bool true) ∧ Below w.heap.size w w' := by
  have HFX := Lib.hid HF
  clear HF
  have hS := fun W (h : Below w.heap.size w W) => r6_small (c := c) W (hx.below h) hz
  have hS2 := fun W (h : Below w.heap.size w W) => r8_small (c := c2) W (hy.below h) hzl
  cases d1 : lsmall xs with
  | false =>
    rw [d1] at hS
    go_enter Tryz.func3, Tryz.ntmps3
    go_wp2_with (first | (go_at_call 12; (with_reducible refine (hS w (Below.refl _ _)).mono ?_); rintro e w2 ⟨rfl, hb2⟩; obtain ⟨hc2, hf2⟩ := bcell hb2; have hs2 := hb2.size; (try simp at hs2)) | (go_at_call 14; (with_reducible refine (HFX.out w2 (hg.below (by repeat (first | exact Below.refl _ _ | assumption | refine b_then ?_ (by assumption) | refine b_alloc ?_ _ | refine b_drewN ?_ _ | refine Below.drew ?_ | refine b_set ?_ (by first | exact Nat.le_refl _ | (simp; done) | (simp; omega) | omega) _)))).mono ?_); rintro e w3 ⟨rfl, hb3⟩; obtain ⟨hc3, hf3⟩ := bcell hb3; have hs3 := hb3.size; (try simp at hs3)))
    go_ret
    exact ⟨rfl, (by repeat (first | exact Below.refl _ _ | assumption | refine b_then ?_ (by assumption) | refine b_alloc ?_ _ | refine b_drewN ?_ _ | refine Below.drew ?_ | refine b_set ?_ (by first | exact Nat.le_refl _ | (simp; done) | (simp; omega) | omega) _))⟩
  | true =>
  rw [d1] at hS
  cases d2 : ismall ls with
  | false =>
    rw [d2] at hS2
    go_enter Tryz.func3, Tryz.ntmps3
    go_wp2_with (first | (go_at_call 12; (with_reducible refine (hS w (Below.refl _ _)).mono ?_); rintro e w2 ⟨rfl, hb2⟩; obtain ⟨hc2, hf2⟩ := bcell hb2; have hs2 := hb2.size; (try simp at hs2)) | (go_at_call 13; (with_reducible refine (hS2 w2 hb2).mono ?_); rintro e w3 ⟨rfl, hb3⟩; obtain ⟨hc3, hf3⟩ := bcell hb3; have hs3 := hb3.size; (try simp at hs3)) | (go_at_call 14; (with_reducible refine (HFX.out w3 (hg.below (by repeat (first | exact Below.refl _ _ | assumption | refine b_then ?_ (by assumption) | refine b_alloc ?_ _ | refine b_drewN ?_ _ | refine Below.drew ?_ | refine b_set ?_ (by first | exact Nat.le_refl _ | (simp; done) | (simp; omega) | omega) _)))).mono ?_); rintro e w4 ⟨rfl, hb4⟩; obtain ⟨hc4, hf4⟩ := bcell hb4; have hs4 := hb4.size; (try simp at hs4)))
    go_ret
    exact ⟨rfl, (by repeat (first | exact Below.refl _ _ | assumption | refine b_then ?_ (by assumption) | refine b_alloc ?_ _ | refine b_drewN ?_ _ | refine Below.drew ?_ | refine b_set ?_ (by first | exact Nat.le_refl _ | (simp; done) | (simp; omega) | omega) _))⟩
  | true =>
  rw [d2] at hS2
  obtain ⟨hxB, hxn⟩ := lsmall_B d1
  obtain ⟨hyB, hyn⟩ := ismall_B d2
  have hxl := hx.len
  have hyl := hy.len
  obtain ⟨ys, rs, ds, z, hr⟩ : ∃ ys rs ds z, iRun xs ls day = ((ys, rs, ds), z) := ⟨_, _, _, _, rfl⟩
  obtain ⟨m, hm⟩ : ∃ m, ys.length = m := ⟨_, rfl⟩
  obtain ⟨r, hrl⟩ : ∃ m, rs.length = m := ⟨_, rfl⟩
  obtain ⟨d, hd⟩ : ∃ m, ds.length = m := ⟨_, rfl⟩
  obtain ⟨bm, hbm⟩ : ∃ b, imay ls = b := ⟨_, rfl⟩
  obtain ⟨fz, hfz⟩ : ∃ b, ifind ls day = b := ⟨_, rfl⟩
  have k1 := fun W (h : Below w.heap.size w W) => (p_run (c := c) (c2 := c2) day W (hg.below h) (hx.below h) (by omega) (fun f hf => lnB_mono (hxB f hf) (by omega)) (hy.below h) (by omega) (fun x hx => inB_mono (hyB x hx) (by omega))).mono fun e w' h => h.of hr hm hrl hd
  have k2 := fun W (h : Below w.heap.size w W) => (r8_run (c := c) (c2 := c2) day W (hx.below h) (by omega) (fun f hf => lnB_mono (hxB f hf) (by omega)) (hy.below h) (by omega) (fun x hx => inB_mono (hyB x hx) (by omega))).mono fun e w' h => h.of hr hm hrl hd
  have m1 := fun W (h : Below w.heap.size w W) => p_imay (c := c2) W (hg.below h) (hy.below h) (by omega) (fun x hx => inB_mono (hyB x hx) (by omega))
  have m2 := fun W (h : Below w.heap.size w W) => r8_may (c := c2) W (hy.below h) (by omega) (fun x hx => inB_mono (hyB x hx) (by omega))
  have f1 := fun W (h : Below w.heap.size w W) => p_ifind (c := c2) day W (hy.below h)
  have f2 := fun W (h : Below w.heap.size w W) => r8_find (c := c2) day W (hy.below h)
  rw [hbm] at m1 m2
  rw [hfz] at f1 f2
  have HYB := Lib.hid hyB
  clear d1 d2 hxB hyB hxn hyn hxl hyl hr hm hrl hd hbm hfz
  go_enter Tryz.func3, Tryz.ntmps3
  go_wp2_with (first
    | (go_at_call 12; (with_reducible refine (hS w (Below.refl _ _)).mono ?_); rintro e w2 ⟨rfl, hb2⟩; obtain ⟨hc2, hf2⟩ := bcell hb2; have hs2 := hb2.size; (try simp at hs2))
    | (go_at_call 13; (with_reducible refine (hS2 w2 hb2).mono ?_); rintro e w3 ⟨rfl, hb3⟩; obtain ⟨hc3, hf3⟩ := bcell hb3; have hs3 := hb3.size; (try simp at hs3))
    | (go_at_call 15; (with_reducible refine (k1 w3 (b_then hb2 hb3)).mono ?_); rintro e w4 ⟨B4, c4, D4, d4, E4, e4, rfl, Q4, T4, U4, hb4⟩)
    | (go_at_call 16; (with_reducible refine (k2 w4 (b_then (b_then hb2 hb3) hb4)).mono ?_); rintro e w5 ⟨B5, c5, D5, d5, E5, e5, rfl, Q5, T5, U5, hb5⟩))
  have hB5 := b_then (b_then (b_then hb2 hb3) hb4) hb5
  have Q4 := Q4.below hb5
  have T4 := T4.below hb5
  have U4 := U4.below hb5
  clear hb2 hc2 hf2 hs2 hb3 hc3 hf3 hs3 hb4 hb5 hS hS2 k1 k2
  have hsa := fun W (h : Below w5.heap.size w5 W) => ((r6_same (c := c4) (d := c5) W (Q4.below h) (Q5.below h)).mono fun e w' he => ⟨by rw [he.1, decide_eq_true rfl], he.2⟩ : Calls Tryz.prog 17 #[.slice B4 m c4, .slice B5 m c5] W fun e w' => e = .returned (.bool true) ∧ Below W.heap.size W w')
  have hsb := fun W (h : Below w5.heap.size w5 W) => ((r8_same (c := d4) (d := d5) W (T4.below h) (T5.below h)).mono fun e w' he => ⟨by rw [he.1, decide_eq_true rfl], he.2⟩ : Calls Tryz.prog 22 #[.slice D4 r d4, .slice D5 r d5] W fun e w' => e = .returned (.bool true) ∧ Below W.heap.size W w')
  have hsc := fun W (h : Below w5.heap.size w5 W) => ((r8_ints (c := e4) (d := e5) W (U4.below h) (U5.below h)).mono fun e w' he => ⟨by rw [he.1, decide_eq_true rfl], he.2⟩ : Calls Tryz.prog 23 #[.slice E4 d e4, .slice E5 d e5] W fun e w' => e = .returned (.bool true) ∧ Below W.heap.size W w')
  by_cases hn : 0 < n2
  · obtain ⟨ad, a0, a1, a2, a3, a4, a5, a6, a7, a8, a9, rfl, hxk, hl⟩ := in_in hy hB5 hn
    obtain ⟨z0, z1, z2, z3, z4, z5, z6⟩ := HYB.out _ (List.mem_of_getElem? hxk)
    dsimp only at z0 z1 z2 z3 z4 z5 z6
    obtain ⟨us, hus⟩ : ∃ us, ilines ⟨a0, a1, a2, a3, a4, a5, ⟨a6, a7⟩, ⟨a8, a9⟩⟩ = us := ⟨_, rfl⟩
    obtain ⟨mu, hmu⟩ : ∃ mu, us.length = mu := ⟨_, rfl⟩
    have KL := Lib.hid (fun W (h : Below w5.heap.size w5 W) => (p_lines a0 a1 a2 a3 a4 a5 a6 a7 a8 a9 W (hg.below (b_then hB5 h)) (by omega) (by omega) (by omega) (by omega) (by omega) (by omega) (by omega)).mono fun e w' h => by rw [hus] at h; exact h.is_ hmu)
    have KR := Lib.hid (fun W (h : Below w5.heap.size w5 W) => (r8_lines a0 a1 a2 a3 a4 a5 a6 a7 a8 a9 W (by omega) (by omega) (by omega) (by omega) (by omega) (by omega) (by omega)).mono fun e w' h => by rw [hus] at h; exact h.is_ hmu)
    have he0 : ad.add (0 * 10) = ad := by first | rfl | simp
    rw [he0] at hl
    have y0 := fun (x : After w5) (y : After x.W) => (hl y.W (b_then x.h y.h)).c0
    have y1 := fun (x : After w5) (y : After x.W) => (hl y.W (b_then x.h y.h)).c1
    have y2 := fun (x : After w5) (y : After x.W) => (hl y.W (b_then x.h y.h)).c2
    have y3 := fun (x : After w5) (y : After x.W) => (hl y.W (b_then x.h y.h)).c3
    have y4 := fun (x : After w5) (y : After x.W) => (hl y.W (b_then x.h y.h)).c4
    have y5 := fun (x : After w5) (y : After x.W) => (hl y.W (b_then x.h y.h)).c5
    have y6 := fun (x : After w5) (y : After x.W) => (hl y.W (b_then x.h y.h)).c6
    have y7 := fun (x : After w5) (y : After x.W) => (hl y.W (b_then x.h y.h)).c7
    have y8 := fun (x : After w5) (y : After x.W) => (hl y.W (b_then x.h y.h)).c8
    have y9 := fun (x : After w5) (y : After x.W) => (hl y.W (b_then x.h y.h)).c9
    clear hxk hl hus hmu
    go_wp2
    refine wp_region_pair (m := mu) (f1 := 18) (f2 := 19) (f3 := 17) (a1 := #[.agg #[.int .i64 a0, .int .i64 a1, .int .i64 a2, .string a3, .string a4, .string a5, .string a6, .string a7, .string a8, .string a9]]) (a2 := #[.agg #[.int .i64 a0, .int .i64 a1, .int .i64 a2, .string a3, .string a4, .string a5, .string a6, .string a7, .string a8, .string a9]]) (R := fun B W => Rd Ln.cs 4 W B mu us) (A := ?bA) 7 11 12 49 53 54 (by kernel_rfl) (fun p => by kernel_rfl) (fun p x => ?bH)
      ⟨by kernel_rfl, by kernel_rfl, by decide, by decide, by decide, by kernel_rfl, by kernel_rfl, ?k1, ?k2, ?k3,
        fun W hW => KL.out W hW, fun W hW => KR.out W hW, fun B k B' k' W h h' => (r6_same W h h').mono fun e w' he => ⟨by rw [he.1]; simp, he.2⟩, fun B W W' h hb => h.below hb, ?bhA, ?bQ⟩ (by decide) (by decide)
    case bH =>
      simp only [pairl, List.append_eq, List.cons_append, List.nil_append, List.modify_succ_cons, List.modify_zero_cons, repV, repS]
      have hxs := x.h.size
      (try simp at hxs)
      (repeat (first | go_big_quiet_skip | (go_big_quiet_want; go_big_quiet_op; first | go_big_quiet_on)))
      refine wpQuiet_nil ?_
      rfl
    case k1 =>
      intro p
      refine ⟨⟨_, rfl, rfl, fun a W h => ?_⟩⟩
      have g0 : a.tmps[45]? = some (.bool true) := (h 3 _ 45 rfl rfl (by kernel_rfl)).trans rfl
      have g1 : a.tmps[48]? = some (.agg #[.int .i64 a0, .int .i64 a1, .int .i64 a2, .string a3, .string a4, .string a5, .string a6, .string a7, .string a8, .string a9]) := (h 6 _ 48 rfl rfl (by kernel_rfl)).trans rfl
      exact ⟨by simp [Region.wanted, yielded, g0], by simp [execOp, go_sem, g1]⟩
    case k2 =>
      intro p
      refine ⟨⟨_, rfl, rfl, fun a W h => ?_⟩⟩
      have g0 : a.tmps[45]? = some (.bool true) := (h 3 _ 45 rfl rfl (by kernel_rfl)).trans rfl
      have g1 : a.tmps[52]? = some (.agg #[.int .i64 a0, .int .i64 a1, .int .i64 a2, .string a3, .string a4, .string a5, .string a6, .string a7, .string a8, .string a9]) := (h 10 _ 52 rfl rfl (by kernel_rfl)).trans rfl
      exact ⟨by simp [Region.wanted, yielded, g0], by simp [execOp, go_sem, g1]⟩
    case k3 =>
      intro p
      refine ⟨⟨_, rfl, rfl, fun a W h => ?_⟩⟩
      have g0 : a.tmps[45]? = some (.bool true) := (h 3 _ 45 rfl rfl (by kernel_rfl)).trans rfl
      have g1 : a.tmps[49]? = some (.slice p.1.1 mu p.1.2) := (h 7 _ 49 rfl rfl (by kernel_rfl)).trans rfl
      have g2 : a.tmps[53]? = some (.slice p.2.1 mu p.2.2) := (h 11 _ 53 rfl rfl (by kernel_rfl)).trans rfl
      exact ⟨by simp [Region.wanted, yielded, g0], by simp [execOp, go_sem, g1, g2, Sl.v]⟩
    case bhA => exact fun p => rfl
    rintro p w8 hb8
    go_wp2_with (first
      | (go_at_call 14; (with_reducible refine (HFX.out w8 (hg.below (b_then hB5 hb8))).mono ?_); rintro e w9 ⟨rfl, hb9⟩; obtain ⟨hc9, hf9⟩ := bcell hb9; have hs9 := hb9.size; (try simp at hs9))
      | (go_at_call 20; (with_reducible refine (m1 w9 (b_then hB5 (b_then hb8 hb9))).mono ?_); rintro e w10 ⟨rfl, hb10⟩; obtain ⟨hc10, hf10⟩ := bcell hb10; have hs10 := hb10.size; (try simp at hs10))
      | (go_at_call 21; (with_reducible refine (m2 w10 (b_then hB5 (b_then (b_then hb8 hb9) hb10))).mono ?_); rintro e w11 ⟨rfl, hb11⟩; obtain ⟨hc11, hf11⟩ := bcell hb11; have hs11 := hb11.size; (try simp at hs11))
      | (go_at_call 17; (with_reducible refine (hsa w11 (b_then (b_then (b_then hb8 hb9) hb10) hb11)).mono ?_); rintro e w12 ⟨rfl, hb12⟩; obtain ⟨hc12, hf12⟩ := bcell hb12; have hs12 := hb12.size; (try simp at hs12))
      | (go_at_call 22; (with_reducible refine (hsb w12 (b_then (b_then (b_then (b_then hb8 hb9) hb10) hb11) hb12)).mono ?_); rintro e w13 ⟨rfl, hb13⟩; obtain ⟨hc13, hf13⟩ := bcell hb13; have hs13 := hb13.size; (try simp at hs13))
      | (go_at_call 23; (with_reducible refine (hsc w13 (b_then (b_then (b_then (b_then (b_then hb8 hb9) hb10) hb11) hb12) hb13)).mono ?_); rintro e w14 ⟨rfl, hb14⟩; obtain ⟨hc14, hf14⟩ := bcell hb14; have hs14 := hb14.size; (try simp at hs14))
      | (go_at_call 24; (with_reducible refine (f1 w14 (b_then hB5 (b_then (b_then (b_then (b_then (b_then (b_then hb8 hb9) hb10) hb11) hb12) hb13) hb14))).mono ?_); rintro e w15 ⟨rfl, hb15⟩; obtain ⟨hc15, hf15⟩ := bcell hb15; have hs15 := hb15.size; (try simp at hs15))
      | (go_at_call 25; (with_reducible refine (f2 w15 (b_then hB5 (b_then (b_then (b_then (b_then (b_then (b_then (b_then hb8 hb9) hb10) hb11) hb12) hb13) hb14) hb15))).mono ?_); rintro e w16 ⟨rfl, hb16⟩; obtain ⟨hc16, hf16⟩ := bcell hb16; have hs16 := hb16.size; (try simp at hs16)))
    go_ret
    exact ⟨ret_bool (by simp), b_then hB5 (b_then (b_then (b_then (b_then (b_then (b_then (b_then (b_then hb8 hb9) hb10) hb11) hb12) hb13) hb14) hb15) hb16)⟩
  · obtain rfl : n2 = 0 := by omega
    go_wp2
    (refine wp_region_after (by kernel_rfl) (by kernel_rfl) ?_; (repeat (first | go_big_quiet_skip | (go_big_quiet_want; go_big_quiet_op; first | go_big_quiet_on | (apply Exists.intro; refine ⟨fun _ => ?_, ?_⟩; (focus (fail)); go_big_quiet_on)))); refine wpQuiet_nil ?_; rintro w8 ⟨⟨_, hb8⟩, rfl⟩; (try dsimp only); obtain ⟨hc8, hf8⟩ := bcell hb8; have hs8 := hb8.size; (try simp at hs8))
    go_wp2_with (first
      | (go_at_call 14; (with_reducible refine (HFX.out w8 (hg.below (b_then hB5 hb8))).mono ?_); rintro e w9 ⟨rfl, hb9⟩; obtain ⟨hc9, hf9⟩ := bcell hb9; have hs9 := hb9.size; (try simp at hs9))
      | (go_at_call 20; (with_reducible refine (m1 w9 (b_then hB5 (b_then hb8 hb9))).mono ?_); rintro e w10 ⟨rfl, hb10⟩; obtain ⟨hc10, hf10⟩ := bcell hb10; have hs10 := hb10.size; (try simp at hs10))
      | (go_at_call 21; (with_reducible refine (m2 w10 (b_then hB5 (b_then (b_then hb8 hb9) hb10))).mono ?_); rintro e w11 ⟨rfl, hb11⟩; obtain ⟨hc11, hf11⟩ := bcell hb11; have hs11 := hb11.size; (try simp at hs11))
      | (go_at_call 17; (with_reducible refine (hsa w11 (b_then (b_then (b_then hb8 hb9) hb10) hb11)).mono ?_); rintro e w12 ⟨rfl, hb12⟩; obtain ⟨hc12, hf12⟩ := bcell hb12; have hs12 := hb12.size; (try simp at hs12))
      | (go_at_call 22; (with_reducible refine (hsb w12 (b_then (b_then (b_then (b_then hb8 hb9) hb10) hb11) hb12)).mono ?_); rintro e w13 ⟨rfl, hb13⟩; obtain ⟨hc13, hf13⟩ := bcell hb13; have hs13 := hb13.size; (try simp at hs13))
      | (go_at_call 23; (with_reducible refine (hsc w13 (b_then (b_then (b_then (b_then (b_then hb8 hb9) hb10) hb11) hb12) hb13)).mono ?_); rintro e w14 ⟨rfl, hb14⟩; obtain ⟨hc14, hf14⟩ := bcell hb14; have hs14 := hb14.size; (try simp at hs14))
      | (go_at_call 24; (with_reducible refine (f1 w14 (b_then hB5 (b_then (b_then (b_then (b_then (b_then (b_then hb8 hb9) hb10) hb11) hb12) hb13) hb14))).mono ?_); rintro e w15 ⟨rfl, hb15⟩; obtain ⟨hc15, hf15⟩ := bcell hb15; have hs15 := hb15.size; (try simp at hs15))
      | (go_at_call 25; (with_reducible refine (f2 w15 (b_then hB5 (b_then (b_then (b_then (b_then (b_then (b_then (b_then hb8 hb9) hb10) hb11) hb12) hb13) hb14) hb15))).mono ?_); rintro e w16 ⟨rfl, hb16⟩; obtain ⟨hc16, hf16⟩ := bcell hb16; have hs16 := hb16.size; (try simp at hs16)))
    go_ret
    exact ⟨ret_bool (by simp), b_then hB5 (b_then (b_then (b_then (b_then (b_then (b_then (b_then (b_then hb8 hb9) hb10) hb11) hb12) hb13) hb14) hb15) hb16)⟩
end Go.Proofs.YtjdkbmlkplbmoaaGreatDoor
