/- NeutralDays: the walk (given the fixed calls). -/
import Derived.Test.YtdkpbifpafaabaaGreatDoorNeL
import Derived.Test.YtdkpbifpafaabaaGreatDoorNeK
namespace Go.Proofs.YtdkpbifpafaabaaGreatDoor
open Go.RowKit
set_option linter.unusedVariables false
set_option linter.unusedSimpArgs false


set_option maxRecDepth 100000 in
set_option maxHeartbeats 8000000 in
theorem l_ndays (HF : Fixed17Ok) (a0 : ByteArray) (a1 : Int) (a2 a3 a4 a5 a6 a7 : ByteArray) (a8 a9 a10 : Int) {A : Option Addr} {n c : Nat} {xs : List Fx} (d : Int) (w : World) (hg : Glob w) (hx : Rd Fx.cs 4 w A n xs) (hz : ∀ f ∈ xs, f.asset.size ≤ 9223372036854775807 ∧ f.p.num.size ≤ 9223372036854775807 ∧ f.p.den.size ≤ 9223372036854775807)
    (h0 : a0.size ≤ 9223372036854775807) (h2 : a2.size ≤ 9223372036854775807) (h3 : a3.size ≤ 9223372036854775807) (h4 : a4.size ≤ 9223372036854775807) (h5 : a5.size ≤ 9223372036854775807) (h6 : a6.size ≤ 9223372036854775807) (h7 : a7.size ≤ 9223372036854775807) :
    Calls Tryz.prog 9 #[.slice A n c, .agg #[.string a0, .int .i64 a1, .string a2, .string a3, .string a4, .string a5, .string a6, .string a7, .int .i64 a8, .int .i64 a9, .int .i64 a10], .int .i64 d] w fun e w' => e = .returned (.bool true) ∧ Below w.heap.size w w' := by
  have hF := fun W (h : Below w.heap.size w W) => HF W (hg.below h)
  obtain ⟨p1, hp1⟩ : ∃ b, fsmall xs = b := ⟨_, rfl⟩
  obtain ⟨p2, hp2⟩ : ∃ b, fmay xs = b := ⟨_, rfl⟩
  obtain ⟨p3, hp3⟩ : ∃ b, amay ⟨a0, a1, a2, a3, ⟨a4, a5⟩, ⟨a6, a7⟩, a8, a9, a10⟩ = b := ⟨_, rfl⟩
  have hSm := fun W (h : Below w.heap.size w W) => r12_small (c := c) W (hx.below h) hz
  have hLt := fun W => r15_light a0 a1 a2 a3 a4 a5 a6 a7 a8 a9 a10 W h0 h2 h3 h4 h5 h6 h7
  have hMy := fun (hs : fsmall xs = true) W (h : Below w.heap.size w W) => r12_may (c := c) W (hx.below h) (fun f hf => fxq_sz (fxr_q ((fsmall_r hs).1 f hf) (by omega)))
  have hAm := fun (hs : a4.size ≤ 30 ∧ a5.size ≤ 30 ∧ a6.size ≤ 30 ∧ a7.size ≤ 30) W => r15_may a0 a1 a2 a3 a4 a5 a6 a7 a8 a9 a10 W h0 h2 h3 (by omega) (by omega) (by omega) (by omega)
  rw [hp1] at hSm
  rw [hp2] at hMy
  rw [hp3] at hAm
  have HP1 := Lib.hid hp1
  have HP2 := Lib.hid hp2
  have HP3 := Lib.hid hp3
  have hbig := hx.big
  have hxl := hx.len
  clear hp1 hp2 hp3
  by_cases hd0 : 0 ≤ d ∧ d ≤ 9999
  case neg =>
    have hd1 : d < 0 ∨ (¬ d < 0 ∧ 9999 < d) := by omega
    rcases hd1 with hd1 | ⟨hd1, hd2⟩
    all_goals
      go_enter Tryz.func9, Tryz.ntmps9
      go_wp2_with (first | (go_at_call 33; (with_reducible refine (hF _ (by repeat (first | exact Below.refl _ _ | assumption | refine b_then ?_ (by assumption) | refine b_alloc ?_ _ | refine b_drewN ?_ _ | refine Below.drew ?_ | refine b_set ?_ (by first | exact Nat.le_refl _ | (simp; done) | (simp; omega) | omega) _))).mono ?_); rintro e w1 ⟨rfl, hb1⟩; obtain ⟨hc1, hf1⟩ := bcell hb1; have hs1 := hb1.size; (try simp at hs1); have hq1 : w.heap.size < w1.heap.size := (by omega)) | (go_at_call 15; (with_reducible refine (hSm _ (by repeat (first | exact Below.refl _ _ | assumption | refine b_then ?_ (by assumption) | refine b_alloc ?_ _ | refine b_drewN ?_ _ | refine Below.drew ?_ | refine b_set ?_ (by first | exact Nat.le_refl _ | (simp; done) | (simp; omega) | omega) _))).mono ?_); rintro e w' ⟨rfl, rfl⟩; cases p1) | (go_at_call 13; (with_reducible refine (hLt _).mono ?_); rintro e w2 ⟨b, rfl, hbL, hb2⟩; obtain ⟨hc2, hf2⟩ := bcell hb2; have hs2 := hb2.size; (try simp at hs2); have hq2 : w.heap.size < w2.heap.size := (by omega); have HbL := Lib.hid hbL; clear hbL; cases b) | (go_at_call 32; (with_reducible refine (hMy HP1.out _ (by repeat (first | exact Below.refl _ _ | assumption | refine b_then ?_ (by assumption) | refine b_alloc ?_ _ | refine b_drewN ?_ _ | refine Below.drew ?_ | refine b_set ?_ (by first | exact Nat.le_refl _ | (simp; done) | (simp; omega) | omega) _))).mono ?_); rintro e w3 ⟨rfl, hb3⟩; obtain ⟨hc3, hf3⟩ := bcell hb3; have hs3 := hb3.size; (try simp at hs3); have hq3 : w.heap.size < w3.heap.size := (by omega); cases p2) | (go_at_call 29; (with_reducible refine (hAm (HbL.out (by first | rfl | trivial)) _).mono ?_); rintro e w4 ⟨rfl, hb4⟩; obtain ⟨hc4, hf4⟩ := bcell hb4; have hs4 := hb4.size; (try simp at hs4); have hq4 : w.heap.size < w4.heap.size := (by omega); cases p3))
      all_goals
        go_ret
        exact ⟨rfl, (by repeat (first | exact Below.refl _ _ | assumption | refine b_then ?_ (by assumption) | refine b_alloc ?_ _ | refine b_drewN ?_ _ | refine Below.drew ?_ | refine b_set ?_ (by first | exact Nat.le_refl _ | (simp; done) | (simp; omega) | omega) _))⟩
  have hd1 : ¬ d < 0 := by omega
  have hd2 : ¬ 9999 < d := by omega
  have hOne := fun (hs : fsmall xs = true) (h4 : a4.size ≤ 30 ∧ a5.size ≤ 30 ∧ a6.size ≤ 30 ∧ a7.size ≤ 30) W (h : Below w.heap.size w W) => p_nOne (c := c) a0 a1 a2 a3 a4 a5 a6 a7 a8 a9 a10 W (hg.below h) (hx.below h) (by have := (fsmall_r hs).2; omega) (fun f hf => fxr_mono ((fsmall_r hs).1 f hf) (by omega)) h0 h2 h3 (by omega) (by omega) (by omega) (by omega)
  obtain ⟨ys, hys⟩ : ∃ ys, nout ⟨a0, a1, a2, a3, ⟨a4, a5⟩, ⟨a6, a7⟩, a8, a9, a10⟩ xs = ys := ⟨_, rfl⟩
  obtain ⟨m9, hm9⟩ : ∃ m9, ys.length = m9 := ⟨_, rfl⟩
  rw [hys] at hOne
  have HOne := Lib.hid hOne
  have HYS := Lib.hid hys
  have HM9 := Lib.hid hm9
  have HMY := Lib.hid hMy
  clear hys hm9 hOne
  go_enter Tryz.func9, Tryz.ntmps9
  have ba0 : Blk (w.alloc (.cells #[.string a0, .int .i64 a1, .string a2, .string a3, .string a4, .string a5, .string a6, .string a7, .int .i64 a8, .int .i64 a9, .int .i64 a10] 25)) w.heap.size 25 #[.string a0, .int .i64 a1, .string a2, .string a3, .string a4, .string a5, .string a6, .string a7, .int .i64 a8, .int .i64 a9, .int .i64 a10] := Blk.new w _ _
  have BA := Lib.hid ba0
  clear ba0
  go_wp2_with (first | (go_at_call 33; (with_reducible refine (hF _ (by repeat (first | exact Below.refl _ _ | assumption | refine b_then ?_ (by assumption) | refine b_alloc ?_ _ | refine b_drewN ?_ _ | refine Below.drew ?_ | refine b_set ?_ (by first | exact Nat.le_refl _ | (simp; done) | (simp; omega) | omega) _))).mono ?_); rintro e w1 ⟨rfl, hb1⟩; obtain ⟨hc1, hf1⟩ := bcell hb1; have hs1 := hb1.size; (try simp at hs1); have hq1 : w.heap.size < w1.heap.size := (by omega)) | (go_at_call 15; (with_reducible refine (hSm _ (by repeat (first | exact Below.refl _ _ | assumption | refine b_then ?_ (by assumption) | refine b_alloc ?_ _ | refine b_drewN ?_ _ | refine Below.drew ?_ | refine b_set ?_ (by first | exact Nat.le_refl _ | (simp; done) | (simp; omega) | omega) _))).mono ?_); rintro e w' ⟨rfl, rfl⟩; cases p1) | (go_at_call 13; (with_reducible refine (hLt _).mono ?_); rintro e w2 ⟨b, rfl, hbL, hb2⟩; obtain ⟨hc2, hf2⟩ := bcell hb2; have hs2 := hb2.size; (try simp at hs2); have hq2 : w.heap.size < w2.heap.size := (by omega); have HbL := Lib.hid hbL; clear hbL; cases b) | (go_at_call 32; (with_reducible refine (hMy HP1.out _ (by repeat (first | exact Below.refl _ _ | assumption | refine b_then ?_ (by assumption) | refine b_alloc ?_ _ | refine b_drewN ?_ _ | refine Below.drew ?_ | refine b_set ?_ (by first | exact Nat.le_refl _ | (simp; done) | (simp; omega) | omega) _))).mono ?_); rintro e w3 ⟨rfl, hb3⟩; obtain ⟨hc3, hf3⟩ := bcell hb3; have hs3 := hb3.size; (try simp at hs3); have hq3 : w.heap.size < w3.heap.size := (by omega); cases p2) | (go_at_call 29; (with_reducible refine (hAm (HbL.out (by first | rfl | trivial)) _).mono ?_); rintro e w4 ⟨rfl, hb4⟩; obtain ⟨hc4, hf4⟩ := bcell hb4; have hs4 := hb4.size; (try simp at hs4); have hq4 : w.heap.size < w4.heap.size := (by omega); cases p3) | (go_at_call 35; (with_reducible refine (HOne.out HP1.out (HbL.out (by first | rfl | trivial)) _ (by repeat (first | exact Below.refl _ _ | assumption | refine b_then ?_ (by assumption) | refine b_alloc ?_ _ | refine b_drewN ?_ _ | refine Below.drew ?_ | refine b_set ?_ (by first | exact Nat.le_refl _ | (simp; done) | (simp; omega) | omega) _))).mono ?_); rintro e w5 hE; obtain ⟨B5, k5, rfl, R5, hb5⟩ := hE.is_ HM9.out; revert R5 hb5))
  any_goals
    go_ret
    exact ⟨rfl, (by repeat (first | exact Below.refl _ _ | assumption | refine b_then ?_ (by assumption) | refine b_alloc ?_ _ | refine b_drewN ?_ _ | refine Below.drew ?_ | refine b_set ?_ (by first | exact Nat.le_refl _ | (simp; done) | (simp; omega) | omega) _))⟩
  intro R5 hb5
  have hB5 : Below w.heap.size w w5 := b_then (b_then (b_then (b_then (b_then (b_alloc (Below.refl _ _) _) hb1) hb2) hb3) hb4) hb5
  have bA5 := ((((BA.out.below hb1).below hb2).below hb3).below hb4).below hb5
  have hsz := HbL.out (by first | rfl | trivial)
  obtain ⟨f1, f2⟩ := fsmall_r HP1.out
  rw [hxl] at f2
  have hfm : fmay xs = true := HP2.out
  have ham : amay ⟨a0, a1, a2, a3, ⟨a4, a5⟩, ⟨a6, a7⟩, a8, a9, a10⟩ = true := HP3.out
  have hyx : ys = nfix ⟨a0, a1, a2, a3, ⟨a4, a5⟩, ⟨a6, a7⟩, a8, a9, a10⟩ xs := by rw [← HYS.out]; exact nout_yes hfm ham
  have hyz : ∀ f ∈ ys, fxr 2180 f := by rw [hyx]; exact nfix_fxr ham hfm f1
  have hyget : ∀ s k, fget ys s k = if s = a2 ∧ a8 ≤ k then nworth ⟨a0, a1, a2, a3, ⟨a4, a5⟩, ⟨a6, a7⟩, a8, a9, a10⟩ xs k else fget xs s k := by rw [hyx]; exact nfix_get ham hfm
  have hym : fmay ys = true := by rw [hyx]; exact nfix_may ham hfm
  have hGm := fun (s : ByteArray) (k : Int) W (h : Below w5.heap.size w5 W) => r12_get (c := k5) s k W (R5.below h) (fun f hf => fxq_sz (fxr_q (hyz f hf) (by omega)))
  have hGl := fun (s : ByteArray) (k : Int) W (h : Below w5.heap.size w5 W) => r12_get (c := c) s k W ((hx.below hB5).below h) (fun f hf => fxq_sz (fxr_q (f1 f hf) (by omega)))
  have hMm := fun W (h : Below w5.heap.size w5 W) => r12_may (c := k5) W (R5.below h) (fun f hf => fxq_sz (fxr_q (hyz f hf) (by omega)))
  rw [hym] at hMm
  obtain ⟨v0, v1, ok, hval⟩ : ∃ v0 v1 ok, optR (fget ys a2 d) = .tuple #[.agg #[.string v0, .string v1], .bool ok] := ⟨_, _, _, rfl⟩
  have hG1 := hGm a2 d
  rw [hval] at hG1
  obtain ⟨L, hLp⟩ : ∃ L, pofL ⟨a0, a1, a2, a3, ⟨a4, a5⟩, ⟨a6, a7⟩, a8, a9, a10⟩ = L := ⟨_, rfl⟩
  obtain ⟨m8, hm8⟩ : ∃ m, L.length = m := ⟨_, rfl⟩
  obtain ⟨e0, e1, hec⟩ : ∃ e0 e1, pofC ⟨a0, a1, a2, a3, ⟨a4, a5⟩, ⟨a6, a7⟩, a8, a9, a10⟩ = ⟨e0, e1⟩ := ⟨_, _, rfl⟩
  have hOf := fun W (h : Below w5.heap.size w5 W) => (r16_of a0 a1 a2 a3 a4 a5 a6 a7 a8 a9 a10 W h0 h2 h3 (by omega) (by omega) (by omega) (by omega)).mono fun e w' he => PackIs.of he (hLp ▸ hm8) hec
  rw [hLp] at hOf
  have hLl : m8 ≤ 2 := by have := pof_len ham; rw [hLp, hm8] at this; split at this <;> omega
  have hLq : ∀ x ∈ L, ptq 1000 x := by rw [← hLp]; exact npof_ptq ham
  have hcs := (amay_of ham).cash20
  have hce : (⟨e0, e1⟩ : RT) = ⟨a6, a7⟩ := by rw [← hec]; exact pofC_yes ham
  have hc0 : e0.size ≤ 1000 := by injection hce with g1 g2; subst g1; have := hsz.2.2.1; omega
  have hc1' : e1.size ≤ 1000 := by injection hce with g1 g2; subst g2; have := hsz.2.2.2; omega
  have hVa := fun W (B : Option Addr) (k : Nat) (h : Below w5.heap.size w5 W) (hr : Rd Pt.cs 3 W B m8 L) => r16_value (c := k) (cf := c) e0 e1 d W hr (by omega) hLq hc0 hc1' ((hx.below hB5).below h) (by omega) (fun f hf => fxr_mono (f1 f hf) (by omega))
  have hwv : nworth ⟨a0, a1, a2, a3, ⟨a4, a5⟩, ⟨a6, a7⟩, a8, a9, a10⟩ xs d = pval L ⟨e0, e1⟩ xs d := by unfold nworth; rw [hLp, hec]
  have HGM := Lib.hid hGm
  have HYG := Lib.hid hyget
  have HHX := Lib.hid hfm
  have BA5 := Lib.hid bA5
  have HR5 := Lib.hid R5
  have heq := eqRat
  clear hb1 hc1 hf1 hs1 hq1 hb2 hc2 hf2 hs2 hq2 hb3 hc3 hf3 hs3 hq3 hb4 hc4 hf4 hs4 hq4 hb5 HbL BA hF hSm hLt hMy hAm HMY HOne hyx hym hGm hec hce hLp hm8 hcs hLl hfm ham
  have q2 := bA5.cell 2
  have q6 := bA5.cell 8
  have q2' := fun (x : After w5) (y : After x.W) => (bA5.below (b_then x.h y.h)).cell 2
  simp at q2 q6 q2'
  have hla := bA5.lt
  clear bA5 R5
  by_cases hde : a8 ≤ d
  · have hv2 : optR (pval L ⟨e0, e1⟩ xs d) = .tuple #[.agg #[.string v0, .string v1], .bool ok] := by rw [← hwv, ← hval, hyget, if_pos ⟨rfl, hde⟩]
    rw [hv2] at hVa
    obtain ⟨u0, u1, is, hv3⟩ : ∃ v0 v1 ok, optR (fget xs a2 d) = .tuple #[.agg #[.string v0, .string v1], .bool ok] := ⟨_, _, _, rfl⟩
    have hG2 := hGl a2 d
    rw [hv3] at hG2
    have hle : ¬ d < a8 := by omega
    clear hval hv2 hv3 hwv hyget hGl
    have hle6 : w.heap.size < w5.heap.size := hla
    go_wp2_with (first
      | (go_at_call 39; (with_reducible refine (hG1 w5 (Below.refl _ _)).mono ?_); rintro e w6 ⟨rfl, hb6⟩; obtain ⟨hc6, hf6⟩ := bcell hb6; have hs6 := hb6.size; have hq6 : w.heap.size < w6.heap.size := Nat.lt_of_lt_of_le hla hs6)
      | (go_at_call 39; (with_reducible refine (hG2 _ (b_alloc hb6 _)).mono ?_); rintro e w7 ⟨rfl, hb7⟩; revert hb7))
    intro hb7x
    have hb7 : Below (w6.alloc (.cells #[.string v0, .string v1] 23)).heap.size (w6.alloc (.cells #[.string v0, .string v1] 23)) w7 := by simpa using hb7x
    clear hb7x
    have hB7 : Below w5.heap.size w5 w7 := b_then (b_alloc hb6 _) hb7
    have bA7 := (BA5.out.below hB7)
    have bV7 := (Blk.new w6 23 #[.string v0, .string v1]).below hb7
    have hsz6 : w5.heap.size ≤ w6.heap.size := hb6.size
    have hsz7 : w6.heap.size < w7.heap.size := bV7.lt
    have hla7 : w.heap.size < w7.heap.size := bA7.lt
    have z0 := bA7.cell 0
    have z1 := bA7.cell 1
    have z2 := bA7.cell 2
    have z3 := bA7.cell 3
    have z4 := bA7.cell 4
    have z5 := bA7.cell 5
    have z6 := bA7.cell 6
    have z7 := bA7.cell 7
    have z8 := bA7.cell 8
    have z9 := bA7.cell 9
    have z10 := bA7.cell 10
    simp at z0 z1 z2 z3 z4 z5 z6 z7 z8 z9 z10
    have HbV := Lib.hid bV7
    clear hb6 hc6 hf6 hs6 hq6 hb7 bA7 bV7 q2 q6 q2' hG1 hG2 hle6
    go_wp2_with (first
      | (go_at_call 21; (with_reducible refine (hOf _ (b_alloc hB7 _)).mono ?_); rintro e w8 ⟨B8, k8, rfl, R8, hb8⟩; have hB8 := b_then (b_alloc hB7 _) hb8)
      | (go_at_call 18; (with_reducible refine (hVa _ B8 k8 hB8 R8).mono ?_); rintro e w9 ⟨rfl, hb9⟩; revert hb8 hb9))
    intro hb8x hb9
    have hb8 : Below (w7.alloc (.cells #[.string u0, .string u1] 23)).heap.size (w7.alloc (.cells #[.string u0, .string u1] 23)) w8 := by simpa using hb8x
    clear hb8x
    have hB9 := b_then hB8 hb9
    have bV9 := ((HbV.out.alloc _).below hb8).below hb9
    have bU9 := ((Blk.new w7 23 #[.string u0, .string u1]).below hb8).below hb9
    clear hb8 hb9 z0 z1 z2 z3 z4 z5 z6 z7 z8 z9 z10
    obtain ⟨t0, t1, t2, t3⟩ := bV9.two
    obtain ⟨r0, r1, r2, r3⟩ := bU9.two
    have hl1 := bV9.lt
    have hl2 := bU9.lt
    clear bV9 bU9 HbV
    have hne : w6.heap.size ≠ w7.heap.size := by omega
    have hne' : w7.heap.size ≠ w6.heap.size := by omega
    have hsz9 : w5.heap.size ≤ w7.heap.size := by omega
    go_wp2_with (go_at_call 32; (with_reducible refine (hMm _ (b_set (b_set hB9 hsz9 _) hsz9 _)).mono ?_); rintro e w10 ⟨rfl, hb10⟩; have hB10 := b_then (b_set (b_set hB9 hsz9 _) hsz9 _) hb10)
    clear hb10 t0 t1 t2 t3 r0 r1 r2 r3 hl1 hl2 hne hne'
    go_loopw [12] (fun i wr => ∃ k : Nat, k ≤ n ∧ i = .int .i64 k ∧ Hid (Below w5.heap.size w5 wr)) (fun i _ => n - (intOf i).toNat)
    case atStart => exact ⟨0, Nat.zero_le _, rfl, hB10⟩
    case round =>
      obtain ⟨k, hk, rfl, HB⟩ := hrel
      have hBw5 := HB.out
      have hBw := b_then hB5 hBw5
      by_cases hlt : k < n
      · obtain ⟨ad, b0, b1, b2, b3, rfl, hxk, hl⟩ := fx_in hx hBw hlt
        have y0 := fun (x : After wr) (y : After x.W) => (hl y.W (b_then x.h y.h)).c0
        have y1 := fun (x : After wr) (y : After x.W) => (hl y.W (b_then x.h y.h)).c1
        have HL := Lib.hid hl
        have HXm := Lib.hid (List.mem_of_getElem? hxk)
        clear hl hxk
        obtain ⟨eb, heb⟩ : ∃ eb, (b0.toList == a2.toList) = eb := ⟨_, rfl⟩
        have HEB := Lib.hid heb
        have bAr := BA5.out.below hBw5
        have BAr := Lib.hid bAr
        clear bAr heb
        cases eb
        · have hvt : optR (fget ys b0 b1) = .tuple #[.agg #[.string b2, .string b3], .bool true] := by
            rw [HYG.out, if_neg]
            · have := fget_mem HHX.out HXm.out
              dsimp only at this
              rw [this]; rfl
            · rintro ⟨e, _⟩
              have := HEB.out
              rw [e] at this
              simp at this
          have hGk := HGM.out b0 b1
          rw [hvt] at hGk
          clear hvt
          go_wp2
          (refine wp_region_boxed (T := 23) (A := ?boxA11) (u1 := .string ?boxU11) (u2 := .string ?boxV11) (z1 := .string ⟨#[]⟩) (z2 := .string ⟨#[]⟩) 15 16 13 13 109 (by kernel_rfl) (fun g => by kernel_rfl) (fun g x => ?boxH11) ⟨by kernel_rfl, by kernel_rfl, ⟨_, rfl, rfl, rfl, fun a W => run_alloc_rat rfl⟩, ⟨_, rfl, rfl, rfl, fun a W g h1 h2 hB => run_store_rat rfl h1 h2 hB⟩, ⟨_, rfl, rfl⟩, by kernel_rfl, by kernel_rfl, by decide, ?box111, ?box211, ?box311, ?box411⟩ (by decide) (by decide); (case boxH11 => (simp only [boxed, List.modify_succ_cons, List.modify_zero_cons, repA, repS]; (have hxs := x.h.size); (try simp at hxs); (repeat (first | go_big_quiet_skip | (go_big_quiet_want; go_big_quiet_op; first | go_big_quiet_on | (apply Exists.intro; refine ⟨fun _ => ?_, ?_⟩; (focus ((go_at_call 39; with_reducible exact Calls.after (hGk _ (b_then hBw5 (b_then x.h (After.h _))))))); go_big_quiet_on)))); refine wpQuiet_nil ?_; rfl)); (case box111 => exact fun g => rfl); (case box211 => first | decide | simp); (case box311 => intro g; first | rfl | (simp only [List.getElem?_toArray, List.getElem?_cons_succ, List.getElem?_cons_zero]; rfl) | (simp; exact ⟨rfl, rfl⟩)); rintro g11 w11 hg11 hb11 D11; (try dsimp only); obtain ⟨hc11, hf11⟩ := bcell hb11; have hs11 := hb11.size; (try simp at hs11))
          clear hc11 hf11 hs11 hGk
          have hB11 := b_then hBw5 hb11
          have bA11 := BAr.out.below hb11
          have q2 := bA11.cell 2
          simp at q2
          have s1 : w.heap.size < w11.heap.size := bA11.lt
          obtain ⟨x0, x1, x2, x3, x4⟩ := HL.out w11 hb11
          obtain ⟨t0, t1, t2, t3⟩ := D11.two
          have hE1 := HEB.out
          clear y0 y1 bA11
          go_wp2
          go_quiet (fail)
          go_wp2
          go_roundw
          case rel => exact ⟨k + 1, by omega, by go_num, b_drewN hB11 _⟩
          case measure => simp [intOf]; omega
        · obtain ⟨t0, t1, th, hvt⟩ : ∃ v0 v1 ok, optR (fget ys b0 b1) = .tuple #[.agg #[.string v0, .string v1], .bool ok] := ⟨_, _, _, rfl⟩
          have hGk := HGM.out b0 b1
          rw [hvt] at hGk
          clear hvt
          go_wp2
          (refine wp_region_boxed (T := 23) (A := ?boxA12) (u1 := .string ?boxU12) (u2 := .string ?boxV12) (z1 := .string ⟨#[]⟩) (z2 := .string ⟨#[]⟩) 15 16 13 13 109 (by kernel_rfl) (fun g => by kernel_rfl) (fun g x => ?boxH12) ⟨by kernel_rfl, by kernel_rfl, ⟨_, rfl, rfl, rfl, fun a W => run_alloc_rat rfl⟩, ⟨_, rfl, rfl, rfl, fun a W g h1 h2 hB => run_store_rat rfl h1 h2 hB⟩, ⟨_, rfl, rfl⟩, by kernel_rfl, by kernel_rfl, by decide, ?box112, ?box212, ?box312, ?box412⟩ (by decide) (by decide); (case boxH12 => (simp only [boxed, List.modify_succ_cons, List.modify_zero_cons, repA, repS]; (have hxs := x.h.size); (try simp at hxs); (repeat (first | go_big_quiet_skip | (go_big_quiet_want; go_big_quiet_op; first | go_big_quiet_on | (apply Exists.intro; refine ⟨fun _ => ?_, ?_⟩; (focus ((go_at_call 39; with_reducible exact Calls.after (hGk _ (b_then hBw5 (b_then x.h (After.h _))))))); go_big_quiet_on)))); refine wpQuiet_nil ?_; rfl)); (case box112 => exact fun g => rfl); (case box212 => first | decide | simp); (case box312 => intro g; first | rfl | (simp only [List.getElem?_toArray, List.getElem?_cons_succ, List.getElem?_cons_zero]; rfl) | (simp; exact ⟨rfl, rfl⟩)); rintro g12 w12 hg12 hb12 D12; (try dsimp only); obtain ⟨hc12, hf12⟩ := bcell hb12; have hs12 := hb12.size; (try simp at hs12))
          clear hc12 hf12 hs12 hGk
          have hB12 := b_then hBw5 hb12
          have bA12 := BAr.out.below hb12
          have q2 := bA12.cell 2
          simp at q2
          have s1 : w.heap.size < w12.heap.size := bA12.lt
          obtain ⟨x0, x1, x2, x3, x4⟩ := HL.out w12 hb12
          have hE1 := HEB.out
          clear y0 y1 bA12
          go_wp2
          go_quiet (fail)
          go_wp2
          go_roundw
          case rel => exact ⟨k + 1, by omega, by go_num, b_drewN hB12 _⟩
          case measure => simp [intOf]; omega
      · go_wp2
        go_ret
        exact ⟨rfl, hBw⟩
  · have hv3 : optR (fget xs a2 d) = .tuple #[.agg #[.string v0, .string v1], .bool ok] := by rw [← hval, hyget, if_neg (fun h => hde h.2)]
    have hG2 := hGl a2 d
    rw [hv3] at hG2
    have hle : d < a8 := by omega
    clear hval hv3 hwv hyget hGl hVa hOf
    have hle6 : w.heap.size < w5.heap.size := hla
    go_wp2_with (first
      | (go_at_call 39; (with_reducible refine (hG1 w5 (Below.refl _ _)).mono ?_); rintro e w6 ⟨rfl, hb6⟩; obtain ⟨hc6, hf6⟩ := bcell hb6; have hs6 := hb6.size; have hq6 : w.heap.size < w6.heap.size := Nat.lt_of_lt_of_le hla hs6)
      | (go_at_call 39; (with_reducible refine (hG2 _ (b_alloc hb6 _)).mono ?_); rintro e w7 ⟨rfl, hb7⟩; revert hb7))
    intro hb7x
    have hb7 : Below (w6.alloc (.cells #[.string v0, .string v1] 23)).heap.size (w6.alloc (.cells #[.string v0, .string v1] 23)) w7 := by simpa using hb7x
    clear hb7x
    have hB7 : Below w5.heap.size w5 w7 := b_then (b_alloc hb6 _) hb7
    have bA7 := (BA5.out.below hB7)
    have bV7 := (Blk.new w6 23 #[.string v0, .string v1]).below hb7
    have hsz6 : w5.heap.size ≤ w6.heap.size := hb6.size
    have hsz7 : w6.heap.size < w7.heap.size := bV7.lt
    have hla7 : w.heap.size < w7.heap.size := bA7.lt
    have z8 := bA7.cell 8
    simp at z8
    obtain ⟨t0, t1, t2, t3⟩ := bV7.two
    clear hb6 hc6 hf6 hs6 hq6 hb7 bA7 bV7 q2 q6 q2' hG1 hG2 hle6
    go_wp2_with (go_at_call 32; (with_reducible refine (hMm _ (b_alloc hB7 _)).mono ?_); rintro e w10 ⟨rfl, hb10⟩; have hB10 := b_then (b_alloc hB7 _) hb10)
    clear hb10 t0 t1 t2 t3 z8
    go_loopw [12] (fun i wr => ∃ k : Nat, k ≤ n ∧ i = .int .i64 k ∧ Hid (Below w5.heap.size w5 wr)) (fun i _ => n - (intOf i).toNat)
    case atStart => exact ⟨0, Nat.zero_le _, rfl, hB10⟩
    case round =>
      obtain ⟨k, hk, rfl, HB⟩ := hrel
      have hBw5 := HB.out
      have hBw := b_then hB5 hBw5
      by_cases hlt : k < n
      · obtain ⟨ad, b0, b1, b2, b3, rfl, hxk, hl⟩ := fx_in hx hBw hlt
        have y0 := fun (x : After wr) (y : After x.W) => (hl y.W (b_then x.h y.h)).c0
        have y1 := fun (x : After wr) (y : After x.W) => (hl y.W (b_then x.h y.h)).c1
        have HL := Lib.hid hl
        have HXm := Lib.hid (List.mem_of_getElem? hxk)
        clear hl hxk
        obtain ⟨eb, heb⟩ : ∃ eb, (b0.toList == a2.toList) = eb := ⟨_, rfl⟩
        have HEB := Lib.hid heb
        have bAr := BA5.out.below hBw5
        have BAr := Lib.hid bAr
        clear bAr heb
        cases eb
        · have hvt : optR (fget ys b0 b1) = .tuple #[.agg #[.string b2, .string b3], .bool true] := by
            rw [HYG.out, if_neg]
            · have := fget_mem HHX.out HXm.out
              dsimp only at this
              rw [this]; rfl
            · rintro ⟨e, _⟩
              have := HEB.out
              rw [e] at this
              simp at this
          have hGk := HGM.out b0 b1
          rw [hvt] at hGk
          clear hvt
          go_wp2
          (refine wp_region_boxed (T := 23) (A := ?boxA13) (u1 := .string ?boxU13) (u2 := .string ?boxV13) (z1 := .string ⟨#[]⟩) (z2 := .string ⟨#[]⟩) 15 16 13 13 109 (by kernel_rfl) (fun g => by kernel_rfl) (fun g x => ?boxH13) ⟨by kernel_rfl, by kernel_rfl, ⟨_, rfl, rfl, rfl, fun a W => run_alloc_rat rfl⟩, ⟨_, rfl, rfl, rfl, fun a W g h1 h2 hB => run_store_rat rfl h1 h2 hB⟩, ⟨_, rfl, rfl⟩, by kernel_rfl, by kernel_rfl, by decide, ?box113, ?box213, ?box313, ?box413⟩ (by decide) (by decide); (case boxH13 => (simp only [boxed, List.modify_succ_cons, List.modify_zero_cons, repA, repS]; (have hxs := x.h.size); (try simp at hxs); (repeat (first | go_big_quiet_skip | (go_big_quiet_want; go_big_quiet_op; first | go_big_quiet_on | (apply Exists.intro; refine ⟨fun _ => ?_, ?_⟩; (focus ((go_at_call 39; with_reducible exact Calls.after (hGk _ (b_then hBw5 (b_then x.h (After.h _))))))); go_big_quiet_on)))); refine wpQuiet_nil ?_; rfl)); (case box113 => exact fun g => rfl); (case box213 => first | decide | simp); (case box313 => intro g; first | rfl | (simp only [List.getElem?_toArray, List.getElem?_cons_succ, List.getElem?_cons_zero]; rfl) | (simp; exact ⟨rfl, rfl⟩)); rintro g13 w13 hg13 hb13 D13; (try dsimp only); obtain ⟨hc13, hf13⟩ := bcell hb13; have hs13 := hb13.size; (try simp at hs13))
          clear hc13 hf13 hs13 hGk
          have hB13 := b_then hBw5 hb13
          have bA13 := BAr.out.below hb13
          have q2 := bA13.cell 2
          simp at q2
          have s1 : w.heap.size < w13.heap.size := bA13.lt
          obtain ⟨x0, x1, x2, x3, x4⟩ := HL.out w13 hb13
          obtain ⟨t0, t1, t2, t3⟩ := D13.two
          have hE1 := HEB.out
          clear y0 y1 bA13
          go_wp2
          go_quiet (fail)
          go_wp2
          go_roundw
          case rel => exact ⟨k + 1, by omega, by go_num, b_drewN hB13 _⟩
          case measure => simp [intOf]; omega
        · obtain ⟨t0, t1, th, hvt⟩ : ∃ v0 v1 ok, optR (fget ys b0 b1) = .tuple #[.agg #[.string v0, .string v1], .bool ok] := ⟨_, _, _, rfl⟩
          have hGk := HGM.out b0 b1
          rw [hvt] at hGk
          clear hvt
          go_wp2
          (refine wp_region_boxed (T := 23) (A := ?boxA14) (u1 := .string ?boxU14) (u2 := .string ?boxV14) (z1 := .string ⟨#[]⟩) (z2 := .string ⟨#[]⟩) 15 16 13 13 109 (by kernel_rfl) (fun g => by kernel_rfl) (fun g x => ?boxH14) ⟨by kernel_rfl, by kernel_rfl, ⟨_, rfl, rfl, rfl, fun a W => run_alloc_rat rfl⟩, ⟨_, rfl, rfl, rfl, fun a W g h1 h2 hB => run_store_rat rfl h1 h2 hB⟩, ⟨_, rfl, rfl⟩, by kernel_rfl, by kernel_rfl, by decide, ?box114, ?box214, ?box314, ?box414⟩ (by decide) (by decide); (case boxH14 => (simp only [boxed, List.modify_succ_cons, List.modify_zero_cons, repA, repS]; (have hxs := x.h.size); (try simp at hxs); (repeat (first | go_big_quiet_skip | (go_big_quiet_want; go_big_quiet_op; first | go_big_quiet_on | (apply Exists.intro; refine ⟨fun _ => ?_, ?_⟩; (focus ((go_at_call 39; with_reducible exact Calls.after (hGk _ (b_then hBw5 (b_then x.h (After.h _))))))); go_big_quiet_on)))); refine wpQuiet_nil ?_; rfl)); (case box114 => exact fun g => rfl); (case box214 => first | decide | simp); (case box314 => intro g; first | rfl | (simp only [List.getElem?_toArray, List.getElem?_cons_succ, List.getElem?_cons_zero]; rfl) | (simp; exact ⟨rfl, rfl⟩)); rintro g14 w14 hg14 hb14 D14; (try dsimp only); obtain ⟨hc14, hf14⟩ := bcell hb14; have hs14 := hb14.size; (try simp at hs14))
          clear hc14 hf14 hs14 hGk
          have hB14 := b_then hBw5 hb14
          have bA14 := BAr.out.below hb14
          have q2 := bA14.cell 2
          simp at q2
          have s1 : w.heap.size < w14.heap.size := bA14.lt
          obtain ⟨x0, x1, x2, x3, x4⟩ := HL.out w14 hb14
          have hE1 := HEB.out
          clear y0 y1 bA14
          go_wp2
          go_quiet (fail)
          go_wp2
          go_roundw
          case rel => exact ⟨k + 1, by omega, by go_num, b_drewN hB14 _⟩
          case measure => simp [intOf]; omega
      · go_wp2
        go_ret
        exact ⟨rfl, hBw⟩
end Go.Proofs.YtdkpbifpafaabaaGreatDoor
