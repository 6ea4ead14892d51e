/- Walks of pack.Of. -/
import Derived.Test.YtdkpbifpafaabaaGreatDoorPkC
import Derived.Test.YtdkpbifpafaabaaGreatDoorPkD
import Derived.Test.YtdkpbifpafaabaaGreatDoorPkP
namespace Go.Proofs.YtdkpbifpafaabaaGreatDoor
open Go.RowKit
set_option linter.unusedVariables false
set_option linter.unusedSimpArgs false

theorem rd_blk {α : Type} {e : α → List Value} {z : Nat} {w : World} {g : Nat} {T : TypeId} {cs : Array Value} {l : List α} {n : Nat} (hz : 0 < z) (he : ∀ x, (e x).length = z) (h : Blk w g T cs) (hc : cs.toList = l.flatMap e) (hl : l.length = n) (hn : n ≤ 1000000) : Rd e z w (some ⟨g, 0, none⟩) n l :=
  ⟨hl, by omega, fun _ => ⟨_, rfl, h.lt, fun j x hj i u hu => by
    rw [add_lit4, h.cell, ← Array.getElem?_toList, hc]
    exact flat_get he l j x hj i u hu⟩⟩
theorem blk_new_at {W : World} {g : Nat} {T : TypeId} {cs : Array Value} (h : W.heap.size = g) : Blk (W.alloc (.cells cs T)) g T cs := by subst h; exact Blk.new _ _ _
theorem hide3 {K : World → Prop} {W : World} (P : World → Prop) (h : P W) (hh : ∀ W', P W' → K W') : K W := hh W h
theorem srt_pof {X Y : Pt} (hne : Y.asset ≠ X.asset) : srtV X Y = ((if slt X.asset Y.asset then [X, Y] else [Y, X]).flatMap Pt.cs).toArray := by
  unfold srtV cmpPt
  have h := (cmpB_spec Y.asset.data.toList X.asset.data.toList).1
  cases c : slt X.asset Y.asset with
  | true =>
    have c' := (slt_iff _ _).1 c
    rw [if_neg (fun e => List.lt_irrefl _ (List.lt_trans c' (h.1 e)))]
    simp [two6]
  | false =>
    have c' := (slt_iff _ _).1 (slt_tri (Ne.symm hne) c)
    rw [if_pos (h.2 c')]
    simp [two6]
/-- A pack that is answered. -/
def PackIs (l : List Pt) (c : RT) (w : World) (e : Ending) (w' : World) : Prop := ∃ B k, e = .returned (.agg #[.slice B l.length k, .string c.num, .string c.den]) ∧ Rd Pt.cs 3 w' B l.length l ∧ Below w.heap.size w w'
theorem enc_one_v : (enc ((1 : Int) : Rat)).v = .agg #[.string ⟨#[49]⟩, .string ⟨#[49]⟩] := rfl
theorem radd_one {x : RT} (h : rmay x = true) : ∃ q, x = enc q ∧ radd (enc 1) x = enc (1 + q) := by
  obtain ⟨q, rfl⟩ := rmay_of h
  exact ⟨q, rfl, radd_enc 1 q⟩

set_option maxHeartbeats 1000000 in
theorem p_of_no (a0 : ByteArray) (a1 : Int) (a2 a3 a4 a5 a6 a7 : ByteArray) (a8 a9 a10 : Int) (w : World) (hg : Glob w) (h0 : a0.size ≤ 9223372036854775807) (h2 : a2.size ≤ 9223372036854775807) (h3 : a3.size ≤ 9223372036854775807) (h4 : a4.size ≤ 400000000) (h5 : a5.size ≤ 400000000) (h6 : a6.size ≤ 400000000) (h7 : a7.size ≤ 400000000) (hm : amay ⟨a0, a1, a2, a3, ⟨a4, a5⟩, ⟨a6, a7⟩, a8, a9, a10⟩ = false) :
    Calls Tryz.prog 20 #[.agg #[.string a0, .int .i64 a1, .string a2, .string a3, .string a4, .string a5, .string a6, .string a7, .int .i64 a8, .int .i64 a9, .int .i64 a10]] w (PackIs [] rzero w) := by
  have hM := fun W (h : Below w.heap.size w W) => p_amay a0 a1 a2 a3 a4 a5 a6 a7 a8 a9 a10 W (hg.below h) h0 h2 h3 (by omega) (by omega) (by omega) (by omega)
  rw [hm] at hM
  go_enter Tryz.func20, Tryz.ntmps20
  go_wp2_with (go_at_call 47; (with_reducible refine (hM _ (by repeat (first | exact Below.refl _ _ | assumption | refine b_then ?_ (by assumption) | refine b_alloc ?_ _ | refine b_drewN ?_ _ | refine Below.drew ?_ | refine b_set ?_ (by first | exact Nat.le_refl _ | (simp; done) | (simp; omega) | omega) _))).mono ?_); rintro e w1 ⟨rfl, hb1⟩; obtain ⟨hc1, hf1⟩ := bcell hb1; have hs1 := hb1.size; (try simp at hs1); have hq1 : w.heap.size + 1 < w1.heap.size := (by omega))
  refine bodyPost_ret (v := .agg #[.slice none 0 0, .string ⟨#[]⟩, .string ⟨#[]⟩]) ?_ rfl ⟨none, 0, rfl, Rd.nil, (by repeat (first | exact Below.refl _ _ | assumption | refine b_then ?_ (by assumption) | refine b_alloc ?_ _ | refine b_drewN ?_ _ | refine Below.drew ?_ | refine b_set ?_ (by first | exact Nat.le_refl _ | (simp; done) | (simp; omega) | omega) _))⟩
  simp [results, Tryz.results20, go_sem, hc1, hf1, hq1]
set_option maxRecDepth 100000 in
set_option maxHeartbeats 4000000 in
theorem p_of_0 (a0 a2 a3 a4 a5 a6 a7 : ByteArray) (a8 a9 a10 : Int) (w : World) (hg : Glob w) (h0 : a0.size ≤ 9223372036854775807) (h2 : a2.size ≤ 9223372036854775807) (h3 : a3.size ≤ 9223372036854775807) (h4 : a4.size ≤ 400000000) (h5 : a5.size ≤ 400000000) (h6 : a6.size ≤ 400000000) (h7 : a7.size ≤ 400000000) (hm : amay ⟨a0, 0, a2, a3, ⟨a4, a5⟩, ⟨a6, a7⟩, a8, a9, a10⟩ = true) :
    Calls Tryz.prog 20 #[.agg #[.string a0, .int .i64 0, .string a2, .string a3, .string a4, .string a5, .string a6, .string a7, .int .i64 a8, .int .i64 a9, .int .i64 a10]] w (PackIs (pofL ⟨a0, 0, a2, a3, ⟨a4, a5⟩, ⟨a6, a7⟩, a8, a9, a10⟩) ⟨a6, a7⟩ w) := by
  have hM := fun W (h : Below w.heap.size w W) => p_amay a0 0 a2 a3 a4 a5 a6 a7 a8 a9 a10 W (hg.below h) h0 h2 h3 (by omega) (by omega) (by omega) (by omega)
  rw [hm] at hM
  have hO := fun W (h : Below w.heap.size w W) => p_rof 1 W (hg.below h) (by omega) (by omega)
  rw [enc_one_v] at hO
  have hL := pofL_0 hm rfl
  dsimp only at hL
  have HL := Lib.hid hL
  clear hL hm
  go_enter Tryz.func20, Tryz.ntmps20
  have bx0 : Blk ((w.alloc (.cells #[.string a0, .int .i64 0, .string a2, .string a3, .string a4, .string a5, .string a6, .string a7, .int .i64 a8, .int .i64 a9, .int .i64 a10] 25)).alloc (.cells #[.slice none 0 0, .string ⟨#[]⟩, .string ⟨#[]⟩] 28)) w.heap.size 25 #[.string a0, .int .i64 0, .string a2, .string a3, .string a4, .string a5, .string a6, .string a7, .int .i64 a8, .int .i64 a9, .int .i64 a10] := (Blk.new w _ _).alloc _
  have rb0 : Blk ((w.alloc (.cells #[.string a0, .int .i64 0, .string a2, .string a3, .string a4, .string a5, .string a6, .string a7, .int .i64 a8, .int .i64 a9, .int .i64 a10] 25)).alloc (.cells #[.slice none 0 0, .string ⟨#[]⟩, .string ⟨#[]⟩] 28)) (w.heap.size + 1) 28 #[.slice none 0 0, .string ⟨#[]⟩, .string ⟨#[]⟩] := Blk.new2 w _ _ _
  have BX := Lib.hid bx0
  have RB := Lib.hid rb0
  clear bx0 rb0
  go_wp2_with (go_at_call 47; (with_reducible refine (hM _ (by repeat (first | exact Below.refl _ _ | assumption | refine b_then ?_ (by assumption) | refine b_alloc ?_ _ | refine b_drewN ?_ _ | refine Below.drew ?_ | refine b_set ?_ (by first | exact Nat.le_refl _ | (simp; done) | (simp; omega) | omega) _))).mono ?_); rintro e w1 ⟨rfl, hb1⟩; obtain ⟨hc1, hf1⟩ := bcell hb1; have hs1 := hb1.size; (try simp at hs1))
  have hB1 : Below w.heap.size w w1 := (by repeat (first | exact Below.refl _ _ | assumption | refine b_then ?_ (by assumption) | refine b_alloc ?_ _ | refine b_drewN ?_ _ | refine Below.drew ?_ | refine b_set ?_ (by first | exact Nat.le_refl _ | (simp; done) | (simp; omega) | omega) _))
  have bx := BX.out.below hb1
  have rb := RB.out.below hb1
  have hl1 : w.heap.size + 1 < w1.heap.size := rb.lt
  clear hb1 hc1 hf1 hs1 BX RB
  have k2 : ∀ (x : After w1) (y : After x.W), y.W.cell? ⟨w.heap.size, 2, none⟩ = some (.string a2) := fun x y => (bx.below (b_then x.h y.h)).cell 2
  (refine wp_region_srcv 5 4 3 (fun p => .pointer p.1) (fun B k W => ∃ g, B = some ⟨g, 0, none⟩ ∧ Blk W g 45 #[.string ⟨#[]⟩, .string ⟨#[]⟩, .string ⟨#[]⟩] ∧ w1.heap.size ≤ g) ?srcA3 (by kernel_rfl) (fun pp => by kernel_rfl) (fun pp x => ?srcH3) ⟨by kernel_rfl, by kernel_rfl, by decide, by decide, ?srcK3, ?srcS3, ?srcG3, ?srcQ3⟩; (case srcH3 => (simp only [srcl, List.modify_succ_cons, List.modify_zero_cons, repV, List.take_succ_cons, List.take_zero]; (have hxs := x.h.size); (try simp at hxs); (repeat (first | go_big_quiet_skip | (go_big_quiet_want; go_big_quiet_op; first | go_big_quiet_on | (apply Exists.intro; refine ⟨fun _ => ?_, ?_⟩; (focus ((go_at_call 48; with_reducible exact Calls.after (hO _ (b_then hB1 (b_then x.h (After.h _))))))); go_big_quiet_on)))); refine wpQuiet_nil ?_; rfl)); (case srcK3 => (intro pp; refine ⟨_, rfl, rfl, fun a W hW hgv => ?_⟩; exact srcv_alloc rfl rfl rfl (by simp [execOp, go_sem]) hW.size)); (case srcS3 => (intro B k W W' h hb; first | exact h.below hb | (obtain ⟨g, e, h1, h2⟩ := h; exact ⟨g, e, h1.below hb, h2⟩))); (case srcG3 => (intro pp; first | rfl | (simp; exact ⟨rfl, rfl⟩))); rintro ⟨B3, k3⟩ w3 R3 hb3; (try dsimp only at R3); simp only [List.drop_succ_cons, List.drop_zero]; obtain ⟨hc3, hf3⟩ := bcell hb3; have hs3 := hb3.size; (try simp at hs3))
  obtain ⟨g, rfl, hgb, hgl⟩ := R3
  have hB3 : Below w.heap.size w w3 := b_then hB1 hb3
  have bx3 := bx.below hb3
  have rb3 := rb.below hb3
  have z0 := hgb.cell 0
  have z1 := hgb.cell 1
  have z2 := hgb.cell 2
  have y0 := hgb.frozen 0
  have y1 := hgb.frozen 1
  have y2 := hgb.frozen 2
  have c1 := bx3.cell 1
  have c2 := bx3.cell 2
  have c3 := bx3.cell 3
  have c4 := bx3.cell 4
  have c5 := bx3.cell 5
  have c6 := bx3.cell 6
  have c7 := bx3.cell 7
  have d0 := rb3.cell 0
  have d1 := rb3.cell 1
  have d2 := rb3.cell 2
  have f0 := rb3.frozen 0
  have f1 := rb3.frozen 1
  have f2 := rb3.frozen 2
  simp at z0 z1 z2 c1 c2 c3 c4 c5 c6 c7 d0 d1 d2
  have hne : g ≠ w.heap.size := by omega
  have hne' : w.heap.size ≠ g := by omega
  have hnr : g ≠ w.heap.size + 1 := by omega
  have hnr' : w.heap.size + 1 ≠ g := by omega
  have hgw : w.heap.size ≤ g := by omega
  have hgl3 := hgb.lt
  have hl3 : w.heap.size + 1 < w3.heap.size := by omega
  have hl3' : w.heap.size < w3.heap.size := by omega
  have RB3 := Lib.hid rb3
  have BX3 := Lib.hid bx3
  have GB := Lib.hid hgb
  clear hc3 hf3 hb3 hgl hgb bx bx3 rb rb3 k2 hl1 hs3
  go_wp2_with (go_at_call 49; (with_reducible refine (p_with1 a6 a7 _ _ _).mono ?_); rintro e w5 ⟨rfl, hb5⟩; obtain ⟨hc5, hf5⟩ := bcell hb5; have hs5 := hb5.size; (try simp at hs5); have hq5 : w.heap.size + 1 < w5.heap.size := (by omega); have hp5 : w3.heap.size < w5.heap.size := (by omega))
  have bp : Blk w5 w3.heap.size 45 #[.string a2, .string a4, .string a5] := Blk.below (blk_new_at (by simp)) hb5
  have rb5 := Blk.below (g := w.heap.size + 1) (t := 28) (cs := #[.slice none 0 0, .string ⟨#[]⟩, .string ⟨#[]⟩]) (by repeat (first | exact RB3.out | refine Blk.alloc ?_ _ | refine Blk.far ?_ hnr' _)) hb5
  have u0 := rb5.cell 0
  have u1 := rb5.cell 1
  have u2 := rb5.cell 2
  have v0 := rb5.frozen 0
  have v1 := rb5.frozen 1
  have v2 := rb5.frozen 2
  simp at u0 u1 u2
  have hB5 : Below w.heap.size w w5 := (by repeat (first | exact Below.refl _ _ | assumption | refine b_then ?_ (by assumption) | refine b_alloc ?_ _ | refine b_drewN ?_ _ | refine Below.drew ?_ | refine b_set ?_ (by first | exact Nat.le_refl _ | (simp; done) | (simp; omega) | omega) _))
  clear hb5 hc5 hf5 hs5 rb5 d0 d1 d2 f0 f1 f2
  refine bodyPost_ret (v := .agg #[.slice (some ⟨w3.heap.size, 0, none⟩) 1 1, .string a6, .string a7]) ?_ rfl ?_
  · simp [results, Tryz.results20, go_sem, u0, u1, u2, v0, v1, v2, hq5, hp5, hl3]
  · rw [HL.out]
    refine ⟨_, _, rfl, rd_blk (z := 3) (n := 1) (T := 45) (cs := #[.string a2, .string a4, .string a5]) (by omega) Pt.cs_length (by repeat (first | exact bp | refine Blk.far ?_ (by simp; omega) _)) rfl rfl (by omega), by repeat (first | exact hB5 | refine b_set ?_ (by simp) _)⟩

set_option maxRecDepth 100000 in
set_option maxHeartbeats 4000000 in
theorem p_of_1 (a0 a2 a3 a4 a5 a6 a7 : ByteArray) (a8 a9 a10 : Int) (w : World) (hg : Glob w) (h0 : a0.size ≤ 9223372036854775807) (h2 : a2.size ≤ 9223372036854775807) (h3 : a3.size ≤ 9223372036854775807) (h4 : a4.size ≤ 400000000) (h5 : a5.size ≤ 400000000) (h6 : a6.size ≤ 400000000) (h7 : a7.size ≤ 400000000) (hm : amay ⟨a0, 1, a2, a3, ⟨a4, a5⟩, ⟨a6, a7⟩, a8, a9, a10⟩ = true) :
    Calls Tryz.prog 20 #[.agg #[.string a0, .int .i64 1, .string a2, .string a3, .string a4, .string a5, .string a6, .string a7, .int .i64 a8, .int .i64 a9, .int .i64 a10]] w (PackIs (pofL ⟨a0, 1, a2, a3, ⟨a4, a5⟩, ⟨a6, a7⟩, a8, a9, a10⟩) ⟨a6, a7⟩ w) := by
  have hM := fun W (h : Below w.heap.size w W) => p_amay a0 1 a2 a3 a4 a5 a6 a7 a8 a9 a10 W (hg.below h) h0 h2 h3 (by omega) (by omega) (by omega) (by omega)
  rw [hm] at hM
  have hO := fun W (h : Below w.heap.size w W) => p_rof 1 W (hg.below h) (by omega) (by omega)
  rw [enc_one_v] at hO
  have hL := pofL_1 hm rfl
  dsimp only at hL
  obtain ⟨q, hq, hq2⟩ := radd_one (x := ⟨a4, a5⟩) ((amay_of hm).rat (by simp)).may
  have hs : rsmall 400000000 q := by
    injection hq with e1 e2
    subst e1; subst e2
    rw [iS_size] at h4
    rw [nS_size] at h5
    exact ⟨by omega, h5⟩
  rw [hq2] at hL
  have hA := fun W (h : Below w.heap.size w W) => p_radd 1 q W (hg.below h) ⟨by show ndg (1 : Int).natAbs ≤ _; rw [show (1 : Int).natAbs = 1 from rfl, ndg_small (by omega)]; omega, by show ndg 1 ≤ _; rw [ndg_small (by omega)]; omega⟩ hs
  injection hq with e1 e2
  rw [← e1, ← e2] at hA
  have hA' : ∀ W, Below w.heap.size w W → Calls Tryz.prog 45 #[.agg #[.string ⟨#[49]⟩, .string ⟨#[49]⟩], .agg #[.string a4, .string a5]] W fun e w' => e = .returned (.agg #[.string (enc (1 + q)).num, .string (enc (1 + q)).den]) ∧ Below W.heap.size W w' := hA
  generalize enc (1 + q) = ra at *
  obtain ⟨r0, r1⟩ := ra
  dsimp only at hA'
  clear hA hs hq2 e1 e2
  have HL := Lib.hid hL
  clear hL hm
  go_enter Tryz.func20, Tryz.ntmps20
  have bx0 : Blk ((w.alloc (.cells #[.string a0, .int .i64 1, .string a2, .string a3, .string a4, .string a5, .string a6, .string a7, .int .i64 a8, .int .i64 a9, .int .i64 a10] 25)).alloc (.cells #[.slice none 0 0, .string ⟨#[]⟩, .string ⟨#[]⟩] 28)) w.heap.size 25 #[.string a0, .int .i64 1, .string a2, .string a3, .string a4, .string a5, .string a6, .string a7, .int .i64 a8, .int .i64 a9, .int .i64 a10] := (Blk.new w _ _).alloc _
  have rb0 : Blk ((w.alloc (.cells #[.string a0, .int .i64 1, .string a2, .string a3, .string a4, .string a5, .string a6, .string a7, .int .i64 a8, .int .i64 a9, .int .i64 a10] 25)).alloc (.cells #[.slice none 0 0, .string ⟨#[]⟩, .string ⟨#[]⟩] 28)) (w.heap.size + 1) 28 #[.slice none 0 0, .string ⟨#[]⟩, .string ⟨#[]⟩] := Blk.new2 w _ _ _
  have BX := Lib.hid bx0
  have RB := Lib.hid rb0
  clear bx0 rb0
  go_wp2_with (go_at_call 47; (with_reducible refine (hM _ (by repeat (first | exact Below.refl _ _ | assumption | refine b_then ?_ (by assumption) | refine b_alloc ?_ _ | refine b_drewN ?_ _ | refine Below.drew ?_ | refine b_set ?_ (by first | exact Nat.le_refl _ | (simp; done) | (simp; omega) | omega) _))).mono ?_); rintro e w1 ⟨rfl, hb1⟩; obtain ⟨hc1, hf1⟩ := bcell hb1; have hs1 := hb1.size; (try simp at hs1))
  have hB1 : Below w.heap.size w w1 := (by repeat (first | exact Below.refl _ _ | assumption | refine b_then ?_ (by assumption) | refine b_alloc ?_ _ | refine b_drewN ?_ _ | refine Below.drew ?_ | refine b_set ?_ (by first | exact Nat.le_refl _ | (simp; done) | (simp; omega) | omega) _))
  have bx := BX.out.below hb1
  have rb := RB.out.below hb1
  have hl1 : w.heap.size + 1 < w1.heap.size := rb.lt
  clear hb1 hc1 hf1 hs1 BX RB
  have k2 : ∀ (x : After w1) (y : After x.W), y.W.cell? ⟨w.heap.size, 2, none⟩ = some (.string a2) := fun x y => (bx.below (b_then x.h y.h)).cell 2
  (refine wp_region_srcv 5 4 3 (fun p => .pointer p.1) (fun B k W => ∃ g, B = some ⟨g, 0, none⟩ ∧ Blk W g 45 #[.string ⟨#[]⟩, .string ⟨#[]⟩, .string ⟨#[]⟩] ∧ w1.heap.size ≤ g) ?srcA3 (by kernel_rfl) (fun pp => by kernel_rfl) (fun pp x => ?srcH3) ⟨by kernel_rfl, by kernel_rfl, by decide, by decide, ?srcK3, ?srcS3, ?srcG3, ?srcQ3⟩; (case srcH3 => (simp only [srcl, List.modify_succ_cons, List.modify_zero_cons, repV, List.take_succ_cons, List.take_zero]; (have hxs := x.h.size); (try simp at hxs); (repeat (first | go_big_quiet_skip | (go_big_quiet_want; go_big_quiet_op; first | go_big_quiet_on | (apply Exists.intro; refine ⟨fun _ => ?_, ?_⟩; (focus ((go_at_call 48; with_reducible exact Calls.after (hO _ (b_then hB1 (b_then x.h (After.h _))))))); go_big_quiet_on)))); refine wpQuiet_nil ?_; rfl)); (case srcK3 => (intro pp; refine ⟨_, rfl, rfl, fun a W hW hgv => ?_⟩; exact srcv_alloc rfl rfl rfl (by simp [execOp, go_sem]) hW.size)); (case srcS3 => (intro B k W W' h hb; first | exact h.below hb | (obtain ⟨g, e, h1, h2⟩ := h; exact ⟨g, e, h1.below hb, h2⟩))); (case srcG3 => (intro pp; first | rfl | (simp; exact ⟨rfl, rfl⟩))); rintro ⟨B3, k3⟩ w3 R3 hb3; (try dsimp only at R3); simp only [List.drop_succ_cons, List.drop_zero]; obtain ⟨hc3, hf3⟩ := bcell hb3; have hs3 := hb3.size; (try simp at hs3))
  obtain ⟨g, rfl, hgb, hgl⟩ := R3
  have hB3 : Below w.heap.size w w3 := b_then hB1 hb3
  have bx3 := bx.below hb3
  have rb3 := rb.below hb3
  have z0 := hgb.cell 0
  have z1 := hgb.cell 1
  have z2 := hgb.cell 2
  have y0 := hgb.frozen 0
  have y1 := hgb.frozen 1
  have y2 := hgb.frozen 2
  have c1 := bx3.cell 1
  have c2 := bx3.cell 2
  have c3 := bx3.cell 3
  have c4 := bx3.cell 4
  have c5 := bx3.cell 5
  have c6 := bx3.cell 6
  have c7 := bx3.cell 7
  have d0 := rb3.cell 0
  have d1 := rb3.cell 1
  have d2 := rb3.cell 2
  have f0 := rb3.frozen 0
  have f1 := rb3.frozen 1
  have f2 := rb3.frozen 2
  simp at z0 z1 z2 c1 c2 c3 c4 c5 c6 c7 d0 d1 d2
  have hne : g ≠ w.heap.size := by omega
  have hne' : w.heap.size ≠ g := by omega
  have hnr : g ≠ w.heap.size + 1 := by omega
  have hnr' : w.heap.size + 1 ≠ g := by omega
  have hgw : w.heap.size ≤ g := by omega
  have hgl3 := hgb.lt
  have hl3 : w.heap.size + 1 < w3.heap.size := by omega
  have hl3' : w.heap.size < w3.heap.size := by omega
  have RB3 := Lib.hid rb3
  have BX3 := Lib.hid bx3
  have GB := Lib.hid hgb
  clear hc3 hf3 hb3 hgl hgb bx bx3 rb rb3 k2 hl1 hs3
  go_wp2
  refine hide3 (K := fun W' => _) (fun W' => Blk W' w.heap.size 25 #[.string a0, .int .i64 1, .string a2, .string a3, .string a4, .string a5, .string a6, .string a7, .int .i64 a8, .int .i64 a9, .int .i64 a10] ∧ Blk W' (w.heap.size + 1) 28 #[.slice none 0 0, .string ⟨#[]⟩, .string ⟨#[]⟩] ∧ Below w.heap.size w W') ⟨by repeat (first | exact BX3.out | refine Blk.far ?_ hne' _), by repeat (first | exact RB3.out | refine Blk.far ?_ hnr' _), by repeat (first | exact hB3 | refine b_set ?_ hgw _)⟩ ?_
  rintro X ⟨bX, rX, hBX⟩
  clear d0 d1 d2 f0 f1 f2 c1 c2 c3 c4 c5 c6 c7 z0 z1 z2 y0 y1 y2
  have x2 := fun (x : After X) (y : After x.W) => (bX.below (b_then x.h y.h)).cell 2
  have x4 := fun (x : After X) (y : After x.W) => (bX.below (b_then x.h y.h)).cell 4
  have x5 := fun (x : After X) (y : After x.W) => (bX.below (b_then x.h y.h)).cell 5
  have x6 := fun (x : After X) (y : After x.W) => (bX.below (b_then x.h y.h)).cell 6
  have x7 := fun (x : After X) (y : After x.W) => (bX.below (b_then x.h y.h)).cell 7
  simp at x2 x4 x5 x6 x7
  (refine wp_region_srcv 10 9 36 (fun p => .slice p.1 1 p.2) (fun B k W => ∃ g, B = some ⟨g, 0, none⟩ ∧ Blk W g 45 #[.string a2, .string r0, .string r1] ∧ X.heap.size ≤ g) ?srcA4 (by kernel_rfl) (fun pp => by kernel_rfl) (fun pp x => ?srcH4) ⟨by kernel_rfl, by kernel_rfl, by decide, by decide, ?srcK4, ?srcS4, ?srcG4, ?srcQ4⟩; (case srcH4 => (simp only [srcl, List.modify_succ_cons, List.modify_zero_cons, repV, List.take_succ_cons, List.take_zero]; (have hxs := x.h.size); (try simp at hxs); (repeat (first | go_big_quiet_skip | (go_big_quiet_want; go_big_quiet_op; first | go_big_quiet_on | (apply Exists.intro; refine ⟨fun _ => ?_, ?_⟩; (focus (first | (go_at_call 48; with_reducible exact Calls.after (hO _ (b_then hBX (b_then x.h (After.h _))))) | (go_at_call 45; with_reducible exact Calls.after (hA' _ (b_then hBX (b_then x.h (After.h _))))))); go_big_quiet_on)))); refine wpQuiet_nil ?_; rfl)); (case srcK4 => (intro pp; refine ⟨_, rfl, rfl, fun a W hW hgv => ?_⟩; have g := (hgv 8 _ 35 rfl rfl (by kernel_rfl)).trans rfl; exact src_built (b := .cells #[.string a2, .string r0, .string r1] 45) (R := fun B k W => ∃ g, B = some ⟨g, 0, none⟩ ∧ Blk W g 45 #[.string a2, .string r0, .string r1] ∧ X.heap.size ≤ g) (k := 1) rfl rfl rfl (by simp [execOp, go_sem, g]) ⟨_, rfl, Blk.new _ _ _, hW.size⟩)); (case srcS4 => (intro B k W W' h hb; first | exact h.below hb | (obtain ⟨g, e, h1, h2⟩ := h; exact ⟨g, e, h1.below hb, h2⟩))); (case srcG4 => (intro pp; first | rfl | (simp; exact ⟨rfl, rfl⟩))); rintro ⟨B4, k4⟩ w4 R4 hb4; (try dsimp only at R4); simp only [List.drop_succ_cons, List.drop_zero]; obtain ⟨hc4, hf4⟩ := bcell hb4; have hs4 := hb4.size; (try simp at hs4))
  obtain ⟨g4, rfl, hb4', hl4⟩ := R4
  have hlX := rX.lt
  have hB4 : Below w.heap.size w w4 := b_then hBX hb4
  have rX4 := rX.below hb4
  have RX := Lib.hid rX4
  clear rX4 rX bX hBX hb4 hc4 hf4 hs4 x2 x4 x5 x6 x7
  go_wp2_with (go_at_call 49; (with_reducible refine (p_with1 a6 a7 _ _ _).mono ?_); rintro e w5 ⟨rfl, hb5⟩; revert hb5)
  intro hb5
  have rb5 := RX.out.below hb5
  have hR5 := hb4'.below hb5
  have hB5 : Below w.heap.size w w5 := b_then hB4 hb5
  have hq5 : w.heap.size + 1 < w5.heap.size := rb5.lt
  have u0 := rb5.cell 0
  have u1 := rb5.cell 1
  have u2 := rb5.cell 2
  have v0 := rb5.frozen 0
  have v1 := rb5.frozen 1
  have v2 := rb5.frozen 2
  simp at u0 u1 u2
  clear hb5
  go_wp2
  refine bodyPost_ret (v := .agg #[.slice (some ⟨g4, 0, none⟩) 1 k4, .string a6, .string a7]) ?_ rfl ?_
  · simp [results, Tryz.results20, go_sem, u0, u1, u2, v0, v1, v2, hq5]
  · rw [HL.out]
    refine ⟨_, _, rfl, rd_blk (z := 3) (n := 1) (T := 45) (cs := #[.string a2, .string r0, .string r1]) (by omega) Pt.cs_length (by repeat (first | exact hR5 | refine Blk.far ?_ (by simp; omega) _)) rfl rfl (by omega), by repeat (first | exact hB5 | refine b_set ?_ (by simp) _)⟩

set_option maxRecDepth 100000 in
set_option maxHeartbeats 4000000 in
theorem p_of_2 (a0 a2 a3 a4 a5 a6 a7 : ByteArray) (a8 a9 a10 : Int) (w : World) (hg : Glob w) (h0 : a0.size ≤ 9223372036854775807) (h2 : a2.size ≤ 9223372036854775807) (h3 : a3.size ≤ 9223372036854775807) (h4 : a4.size ≤ 400000000) (h5 : a5.size ≤ 400000000) (h6 : a6.size ≤ 400000000) (h7 : a7.size ≤ 400000000) (hm : amay ⟨a0, 2, a2, a3, ⟨a4, a5⟩, ⟨a6, a7⟩, a8, a9, a10⟩ = true) :
    Calls Tryz.prog 20 #[.agg #[.string a0, .int .i64 2, .string a2, .string a3, .string a4, .string a5, .string a6, .string a7, .int .i64 a8, .int .i64 a9, .int .i64 a10]] w (PackIs (pofL ⟨a0, 2, a2, a3, ⟨a4, a5⟩, ⟨a6, a7⟩, a8, a9, a10⟩) ⟨a6, a7⟩ w) := by
  have hM := fun W (h : Below w.heap.size w W) => p_amay a0 2 a2 a3 a4 a5 a6 a7 a8 a9 a10 W (hg.below h) h0 h2 h3 (by omega) (by omega) (by omega) (by omega)
  rw [hm] at hM
  have hO := fun W (h : Below w.heap.size w W) => p_rof 1 W (hg.below h) (by omega) (by omega)
  rw [enc_one_v] at hO
  have hL := pofL_2 hm rfl
  dsimp only at hL
  have HL := Lib.hid hL
  clear hL hm
  go_enter Tryz.func20, Tryz.ntmps20
  have bx0 : Blk ((w.alloc (.cells #[.string a0, .int .i64 2, .string a2, .string a3, .string a4, .string a5, .string a6, .string a7, .int .i64 a8, .int .i64 a9, .int .i64 a10] 25)).alloc (.cells #[.slice none 0 0, .string ⟨#[]⟩, .string ⟨#[]⟩] 28)) w.heap.size 25 #[.string a0, .int .i64 2, .string a2, .string a3, .string a4, .string a5, .string a6, .string a7, .int .i64 a8, .int .i64 a9, .int .i64 a10] := (Blk.new w _ _).alloc _
  have rb0 : Blk ((w.alloc (.cells #[.string a0, .int .i64 2, .string a2, .string a3, .string a4, .string a5, .string a6, .string a7, .int .i64 a8, .int .i64 a9, .int .i64 a10] 25)).alloc (.cells #[.slice none 0 0, .string ⟨#[]⟩, .string ⟨#[]⟩] 28)) (w.heap.size + 1) 28 #[.slice none 0 0, .string ⟨#[]⟩, .string ⟨#[]⟩] := Blk.new2 w _ _ _
  have BX := Lib.hid bx0
  have RB := Lib.hid rb0
  clear bx0 rb0
  go_wp2_with (go_at_call 47; (with_reducible refine (hM _ (by repeat (first | exact Below.refl _ _ | assumption | refine b_then ?_ (by assumption) | refine b_alloc ?_ _ | refine b_drewN ?_ _ | refine Below.drew ?_ | refine b_set ?_ (by first | exact Nat.le_refl _ | (simp; done) | (simp; omega) | omega) _))).mono ?_); rintro e w1 ⟨rfl, hb1⟩; obtain ⟨hc1, hf1⟩ := bcell hb1; have hs1 := hb1.size; (try simp at hs1))
  have hB1 : Below w.heap.size w w1 := (by repeat (first | exact Below.refl _ _ | assumption | refine b_then ?_ (by assumption) | refine b_alloc ?_ _ | refine b_drewN ?_ _ | refine Below.drew ?_ | refine b_set ?_ (by first | exact Nat.le_refl _ | (simp; done) | (simp; omega) | omega) _))
  have bx := BX.out.below hb1
  have rb := RB.out.below hb1
  have hl1 : w.heap.size + 1 < w1.heap.size := rb.lt
  clear hb1 hc1 hf1 hs1 BX RB
  have k2 : ∀ (x : After w1) (y : After x.W), y.W.cell? ⟨w.heap.size, 2, none⟩ = some (.string a2) := fun x y => (bx.below (b_then x.h y.h)).cell 2
  (refine wp_region_srcv 5 4 3 (fun p => .pointer p.1) (fun B k W => ∃ g, B = some ⟨g, 0, none⟩ ∧ Blk W g 45 #[.string ⟨#[]⟩, .string ⟨#[]⟩, .string ⟨#[]⟩] ∧ w1.heap.size ≤ g) ?srcA3 (by kernel_rfl) (fun pp => by kernel_rfl) (fun pp x => ?srcH3) ⟨by kernel_rfl, by kernel_rfl, by decide, by decide, ?srcK3, ?srcS3, ?srcG3, ?srcQ3⟩; (case srcH3 => (simp only [srcl, List.modify_succ_cons, List.modify_zero_cons, repV, List.take_succ_cons, List.take_zero]; (have hxs := x.h.size); (try simp at hxs); (repeat (first | go_big_quiet_skip | (go_big_quiet_want; go_big_quiet_op; first | go_big_quiet_on | (apply Exists.intro; refine ⟨fun _ => ?_, ?_⟩; (focus ((go_at_call 48; with_reducible exact Calls.after (hO _ (b_then hB1 (b_then x.h (After.h _))))))); go_big_quiet_on)))); refine wpQuiet_nil ?_; rfl)); (case srcK3 => (intro pp; refine ⟨_, rfl, rfl, fun a W hW hgv => ?_⟩; exact srcv_alloc rfl rfl rfl (by simp [execOp, go_sem]) hW.size)); (case srcS3 => (intro B k W W' h hb; first | exact h.below hb | (obtain ⟨g, e, h1, h2⟩ := h; exact ⟨g, e, h1.below hb, h2⟩))); (case srcG3 => (intro pp; first | rfl | (simp; exact ⟨rfl, rfl⟩))); rintro ⟨B3, k3⟩ w3 R3 hb3; (try dsimp only at R3); simp only [List.drop_succ_cons, List.drop_zero]; obtain ⟨hc3, hf3⟩ := bcell hb3; have hs3 := hb3.size; (try simp at hs3))
  obtain ⟨g, rfl, hgb, hgl⟩ := R3
  have hB3 : Below w.heap.size w w3 := b_then hB1 hb3
  have bx3 := bx.below hb3
  have rb3 := rb.below hb3
  have z0 := hgb.cell 0
  have z1 := hgb.cell 1
  have z2 := hgb.cell 2
  have y0 := hgb.frozen 0
  have y1 := hgb.frozen 1
  have y2 := hgb.frozen 2
  have c1 := bx3.cell 1
  have c2 := bx3.cell 2
  have c3 := bx3.cell 3
  have c4 := bx3.cell 4
  have c5 := bx3.cell 5
  have c6 := bx3.cell 6
  have c7 := bx3.cell 7
  have d0 := rb3.cell 0
  have d1 := rb3.cell 1
  have d2 := rb3.cell 2
  have f0 := rb3.frozen 0
  have f1 := rb3.frozen 1
  have f2 := rb3.frozen 2
  simp at z0 z1 z2 c1 c2 c3 c4 c5 c6 c7 d0 d1 d2
  have hne : g ≠ w.heap.size := by omega
  have hne' : w.heap.size ≠ g := by omega
  have hnr : g ≠ w.heap.size + 1 := by omega
  have hnr' : w.heap.size + 1 ≠ g := by omega
  have hgw : w.heap.size ≤ g := by omega
  have hgl3 := hgb.lt
  have hl3 : w.heap.size + 1 < w3.heap.size := by omega
  have hl3' : w.heap.size < w3.heap.size := by omega
  have RB3 := Lib.hid rb3
  have BX3 := Lib.hid bx3
  have GB := Lib.hid hgb
  clear hc3 hf3 hb3 hgl hgb bx bx3 rb rb3 k2 hl1 hs3
  go_wp2_with (go_at_call 49; (with_reducible refine (p_with1 a6 a7 _ _ _).mono ?_); rintro e w5 ⟨rfl, hb5⟩; obtain ⟨hc5, hf5⟩ := bcell hb5; have hs5 := hb5.size; (try simp at hs5); have hq5 : w.heap.size + 1 < w5.heap.size := (by omega); have hp5 : w3.heap.size < w5.heap.size := (by omega))
  have bp : Blk w5 w3.heap.size 45 #[.string a2, .string ⟨#[49]⟩, .string ⟨#[49]⟩] := Blk.below (blk_new_at (by simp)) hb5
  have rb5 := Blk.below (g := w.heap.size + 1) (t := 28) (cs := #[.slice none 0 0, .string ⟨#[]⟩, .string ⟨#[]⟩]) (by repeat (first | exact RB3.out | refine Blk.alloc ?_ _ | refine Blk.far ?_ hnr' _)) hb5
  have u0 := rb5.cell 0
  have u1 := rb5.cell 1
  have u2 := rb5.cell 2
  have v0 := rb5.frozen 0
  have v1 := rb5.frozen 1
  have v2 := rb5.frozen 2
  simp at u0 u1 u2
  have hB5 : Below w.heap.size w w5 := (by repeat (first | exact Below.refl _ _ | assumption | refine b_then ?_ (by assumption) | refine b_alloc ?_ _ | refine b_drewN ?_ _ | refine Below.drew ?_ | refine b_set ?_ (by first | exact Nat.le_refl _ | (simp; done) | (simp; omega) | omega) _))
  clear hb5 hc5 hf5 hs5 rb5 d0 d1 d2 f0 f1 f2
  refine bodyPost_ret (v := .agg #[.slice (some ⟨w3.heap.size, 0, none⟩) 1 1, .string a6, .string a7]) ?_ rfl ?_
  · simp [results, Tryz.results20, go_sem, u0, u1, u2, v0, v1, v2, hq5, hp5, hl3]
  · rw [HL.out]
    refine ⟨_, _, rfl, rd_blk (z := 3) (n := 1) (T := 45) (cs := #[.string a2, .string ⟨#[49]⟩, .string ⟨#[49]⟩]) (by omega) Pt.cs_length (by repeat (first | exact bp | refine Blk.far ?_ (by simp; omega) _)) rfl rfl (by omega), by repeat (first | exact hB5 | refine b_set ?_ (by simp) _)⟩

set_option maxRecDepth 100000 in
set_option maxHeartbeats 4000000 in
theorem p_of_3 (a0 a2 a3 a4 a5 a6 a7 : ByteArray) (a8 a9 a10 : Int) (w : World) (hg : Glob w) (h0 : a0.size ≤ 9223372036854775807) (h2 : a2.size ≤ 9223372036854775807) (h3 : a3.size ≤ 9223372036854775807) (h4 : a4.size ≤ 400000000) (h5 : a5.size ≤ 400000000) (h6 : a6.size ≤ 400000000) (h7 : a7.size ≤ 400000000) (hm : amay ⟨a0, 3, a2, a3, ⟨a4, a5⟩, ⟨a6, a7⟩, a8, a9, a10⟩ = true) :
    Calls Tryz.prog 20 #[.agg #[.string a0, .int .i64 3, .string a2, .string a3, .string a4, .string a5, .string a6, .string a7, .int .i64 a8, .int .i64 a9, .int .i64 a10]] w (PackIs (pofL ⟨a0, 3, a2, a3, ⟨a4, a5⟩, ⟨a6, a7⟩, a8, a9, a10⟩) ⟨a6, a7⟩ w) := by
  have hM := fun W (h : Below w.heap.size w W) => p_amay a0 3 a2 a3 a4 a5 a6 a7 a8 a9 a10 W (hg.below h) h0 h2 h3 (by omega) (by omega) (by omega) (by omega)
  rw [hm] at hM
  have hO := fun W (h : Below w.heap.size w W) => p_rof 1 W (hg.below h) (by omega) (by omega)
  rw [enc_one_v] at hO
  have hL := pofL_3 hm rfl
  dsimp only at hL
  have hne := ((amay_of hm).oth (by simp)).2
  dsimp only at hne
  have hsr := srt_pof (X := ⟨a2, ⟨⟨#[49]⟩, ⟨#[49]⟩⟩⟩) (Y := ⟨a3, ⟨a4, a5⟩⟩) hne
  dsimp only at hsr
  obtain ⟨L, hLL⟩ : ∃ L, (if slt a2 a3 = true then [(⟨a2, enc 1⟩ : Pt), ⟨a3, ⟨a4, a5⟩⟩] else [⟨a3, ⟨a4, a5⟩⟩, ⟨a2, enc 1⟩]) = L := ⟨_, rfl⟩
  have HLn : Hid (L.length = 2) := by subst hLL; unfold Hid; split <;> rfl
  rw [hLL] at hL
  have HS : Hid ((srtV ⟨a2, ⟨⟨#[49]⟩, ⟨#[49]⟩⟩⟩ ⟨a3, ⟨a4, a5⟩⟩).toList = L.flatMap Pt.cs) := by
    unfold Hid
    rw [hsr, ← hLL]
    rfl
  clear hsr hLL hne
  have HL := Lib.hid hL
  clear hL hm
  go_enter Tryz.func20, Tryz.ntmps20
  have bx0 : Blk ((w.alloc (.cells #[.string a0, .int .i64 3, .string a2, .string a3, .string a4, .string a5, .string a6, .string a7, .int .i64 a8, .int .i64 a9, .int .i64 a10] 25)).alloc (.cells #[.slice none 0 0, .string ⟨#[]⟩, .string ⟨#[]⟩] 28)) w.heap.size 25 #[.string a0, .int .i64 3, .string a2, .string a3, .string a4, .string a5, .string a6, .string a7, .int .i64 a8, .int .i64 a9, .int .i64 a10] := (Blk.new w _ _).alloc _
  have rb0 : Blk ((w.alloc (.cells #[.string a0, .int .i64 3, .string a2, .string a3, .string a4, .string a5, .string a6, .string a7, .int .i64 a8, .int .i64 a9, .int .i64 a10] 25)).alloc (.cells #[.slice none 0 0, .string ⟨#[]⟩, .string ⟨#[]⟩] 28)) (w.heap.size + 1) 28 #[.slice none 0 0, .string ⟨#[]⟩, .string ⟨#[]⟩] := Blk.new2 w _ _ _
  have BX := Lib.hid bx0
  have RB := Lib.hid rb0
  clear bx0 rb0
  go_wp2_with (go_at_call 47; (with_reducible refine (hM _ (by repeat (first | exact Below.refl _ _ | assumption | refine b_then ?_ (by assumption) | refine b_alloc ?_ _ | refine b_drewN ?_ _ | refine Below.drew ?_ | refine b_set ?_ (by first | exact Nat.le_refl _ | (simp; done) | (simp; omega) | omega) _))).mono ?_); rintro e w1 ⟨rfl, hb1⟩; obtain ⟨hc1, hf1⟩ := bcell hb1; have hs1 := hb1.size; (try simp at hs1))
  have hB1 : Below w.heap.size w w1 := (by repeat (first | exact Below.refl _ _ | assumption | refine b_then ?_ (by assumption) | refine b_alloc ?_ _ | refine b_drewN ?_ _ | refine Below.drew ?_ | refine b_set ?_ (by first | exact Nat.le_refl _ | (simp; done) | (simp; omega) | omega) _))
  have bx := BX.out.below hb1
  have rb := RB.out.below hb1
  have hl1 : w.heap.size + 1 < w1.heap.size := rb.lt
  clear hb1 hc1 hf1 hs1 BX RB
  have k2 : ∀ (x : After w1) (y : After x.W), y.W.cell? ⟨w.heap.size, 2, none⟩ = some (.string a2) := fun x y => (bx.below (b_then x.h y.h)).cell 2
  (refine wp_region_srcv 5 4 3 (fun p => .pointer p.1) (fun B k W => ∃ g, B = some ⟨g, 0, none⟩ ∧ Blk W g 45 #[.string ⟨#[]⟩, .string ⟨#[]⟩, .string ⟨#[]⟩] ∧ w1.heap.size ≤ g) ?srcA3 (by kernel_rfl) (fun pp => by kernel_rfl) (fun pp x => ?srcH3) ⟨by kernel_rfl, by kernel_rfl, by decide, by decide, ?srcK3, ?srcS3, ?srcG3, ?srcQ3⟩; (case srcH3 => (simp only [srcl, List.modify_succ_cons, List.modify_zero_cons, repV, List.take_succ_cons, List.take_zero]; (have hxs := x.h.size); (try simp at hxs); (repeat (first | go_big_quiet_skip | (go_big_quiet_want; go_big_quiet_op; first | go_big_quiet_on | (apply Exists.intro; refine ⟨fun _ => ?_, ?_⟩; (focus ((go_at_call 48; with_reducible exact Calls.after (hO _ (b_then hB1 (b_then x.h (After.h _))))))); go_big_quiet_on)))); refine wpQuiet_nil ?_; rfl)); (case srcK3 => (intro pp; refine ⟨_, rfl, rfl, fun a W hW hgv => ?_⟩; exact srcv_alloc rfl rfl rfl (by simp [execOp, go_sem]) hW.size)); (case srcS3 => (intro B k W W' h hb; first | exact h.below hb | (obtain ⟨g, e, h1, h2⟩ := h; exact ⟨g, e, h1.below hb, h2⟩))); (case srcG3 => (intro pp; first | rfl | (simp; exact ⟨rfl, rfl⟩))); rintro ⟨B3, k3⟩ w3 R3 hb3; (try dsimp only at R3); simp only [List.drop_succ_cons, List.drop_zero]; obtain ⟨hc3, hf3⟩ := bcell hb3; have hs3 := hb3.size; (try simp at hs3))
  obtain ⟨g, rfl, hgb, hgl⟩ := R3
  have hB3 : Below w.heap.size w w3 := b_then hB1 hb3
  have bx3 := bx.below hb3
  have rb3 := rb.below hb3
  have z0 := hgb.cell 0
  have z1 := hgb.cell 1
  have z2 := hgb.cell 2
  have y0 := hgb.frozen 0
  have y1 := hgb.frozen 1
  have y2 := hgb.frozen 2
  have c1 := bx3.cell 1
  have c2 := bx3.cell 2
  have c3 := bx3.cell 3
  have c4 := bx3.cell 4
  have c5 := bx3.cell 5
  have c6 := bx3.cell 6
  have c7 := bx3.cell 7
  have d0 := rb3.cell 0
  have d1 := rb3.cell 1
  have d2 := rb3.cell 2
  have f0 := rb3.frozen 0
  have f1 := rb3.frozen 1
  have f2 := rb3.frozen 2
  simp at z0 z1 z2 c1 c2 c3 c4 c5 c6 c7 d0 d1 d2
  have hne : g ≠ w.heap.size := by omega
  have hne' : w.heap.size ≠ g := by omega
  have hnr : g ≠ w.heap.size + 1 := by omega
  have hnr' : w.heap.size + 1 ≠ g := by omega
  have hgw : w.heap.size ≤ g := by omega
  have hgl3 := hgb.lt
  have hl3 : w.heap.size + 1 < w3.heap.size := by omega
  have hl3' : w.heap.size < w3.heap.size := by omega
  have RB3 := Lib.hid rb3
  have BX3 := Lib.hid bx3
  have GB := Lib.hid hgb
  clear hc3 hf3 hb3 hgl hgb bx bx3 rb rb3 k2 hl1 hs3
  have hW := fun W (h : Blk W w3.heap.size 45 (two6 ⟨a2, ⟨⟨#[49]⟩, ⟨#[49]⟩⟩⟩ ⟨a3, ⟨a4, a5⟩⟩)) => p_with2 a6 a7 ⟨a2, ⟨⟨#[49]⟩, ⟨#[49]⟩⟩⟩ ⟨a3, ⟨a4, a5⟩⟩ w3.heap.size 2 W h
  go_wp2_with (go_at_call 49; refine (hW _ (show Blk _ _ _ (two6 ⟨a2, ⟨⟨#[49]⟩, ⟨#[49]⟩⟩⟩ ⟨a3, ⟨a4, a5⟩⟩) from blk_new_at (by simp))).mono ?_; rintro e w5 ⟨rfl, hb5, hg5⟩; revert hb5 hg5)
  intro hb5 hg5
  have rb5 := Blk.grown (g := w.heap.size + 1) (t := 28) (cs := #[.slice none 0 0, .string ⟨#[]⟩, .string ⟨#[]⟩]) (by repeat (first | exact RB3.out | refine Blk.alloc ?_ _ | refine Blk.far ?_ hnr' _)) hg5 (by intro e; injection e with e; omega)
  have u0 := rb5.cell 0
  have u1 := rb5.cell 1
  have u2 := rb5.cell 2
  have v0 := rb5.frozen 0
  have v1 := rb5.frozen 1
  have v2 := rb5.frozen 2
  simp at u0 u1 u2
  have hq5 : w.heap.size + 1 < w5.heap.size := rb5.lt
  have hB5 : Below w.heap.size w w5 := Below.trans (by repeat (first | exact hB3 | refine b_alloc ?_ _ | refine b_set ?_ hgw _)) (gr_base hg5 (by omega) (by simp))
  clear hg5 rb5 d0 d1 d2 f0 f1 f2
  go_wp2
  refine bodyPost_ret (v := .agg #[.slice (some ⟨w3.heap.size, 0, none⟩) 2 2, .string a6, .string a7]) ?_ rfl ?_
  · simp [results, Tryz.results20, go_sem, u0, u1, u2, v0, v1, v2, hq5]
  · unfold PackIs
    rw [HL.out, HLn.out]
    refine ⟨_, _, rfl, rd_blk (z := 3) (n := 2) (T := 45) (cs := srtV ⟨a2, ⟨⟨#[49]⟩, ⟨#[49]⟩⟩⟩ ⟨a3, ⟨a4, a5⟩⟩) (by omega) Pt.cs_length (by repeat (first | exact hb5 | refine Blk.far ?_ (by simp; omega) _)) HS.out HLn.out (by omega), by repeat (first | exact hB5 | refine b_set ?_ (by simp) _)⟩

set_option maxRecDepth 100000 in
set_option maxHeartbeats 4000000 in
theorem p_of_4 (a0 a2 a3 a4 a5 a6 a7 : ByteArray) (a8 a9 a10 : Int) (w : World) (hg : Glob w) (h0 : a0.size ≤ 9223372036854775807) (h2 : a2.size ≤ 9223372036854775807) (h3 : a3.size ≤ 9223372036854775807) (h4 : a4.size ≤ 400000000) (h5 : a5.size ≤ 400000000) (h6 : a6.size ≤ 400000000) (h7 : a7.size ≤ 400000000) (hm : amay ⟨a0, 4, a2, a3, ⟨a4, a5⟩, ⟨a6, a7⟩, a8, a9, a10⟩ = true) :
    Calls Tryz.prog 20 #[.agg #[.string a0, .int .i64 4, .string a2, .string a3, .string a4, .string a5, .string a6, .string a7, .int .i64 a8, .int .i64 a9, .int .i64 a10]] w (PackIs (pofL ⟨a0, 4, a2, a3, ⟨a4, a5⟩, ⟨a6, a7⟩, a8, a9, a10⟩) ⟨a6, a7⟩ w) := by
  have hM := fun W (h : Below w.heap.size w W) => p_amay a0 4 a2 a3 a4 a5 a6 a7 a8 a9 a10 W (hg.below h) h0 h2 h3 (by omega) (by omega) (by omega) (by omega)
  rw [hm] at hM
  have hO := fun W (h : Below w.heap.size w W) => p_rof 1 W (hg.below h) (by omega) (by omega)
  rw [enc_one_v] at hO
  have hL := pofL_4 hm rfl
  dsimp only at hL
  have HL := Lib.hid hL
  clear hL hm
  go_enter Tryz.func20, Tryz.ntmps20
  have bx0 : Blk ((w.alloc (.cells #[.string a0, .int .i64 4, .string a2, .string a3, .string a4, .string a5, .string a6, .string a7, .int .i64 a8, .int .i64 a9, .int .i64 a10] 25)).alloc (.cells #[.slice none 0 0, .string ⟨#[]⟩, .string ⟨#[]⟩] 28)) w.heap.size 25 #[.string a0, .int .i64 4, .string a2, .string a3, .string a4, .string a5, .string a6, .string a7, .int .i64 a8, .int .i64 a9, .int .i64 a10] := (Blk.new w _ _).alloc _
  have rb0 : Blk ((w.alloc (.cells #[.string a0, .int .i64 4, .string a2, .string a3, .string a4, .string a5, .string a6, .string a7, .int .i64 a8, .int .i64 a9, .int .i64 a10] 25)).alloc (.cells #[.slice none 0 0, .string ⟨#[]⟩, .string ⟨#[]⟩] 28)) (w.heap.size + 1) 28 #[.slice none 0 0, .string ⟨#[]⟩, .string ⟨#[]⟩] := Blk.new2 w _ _ _
  have BX := Lib.hid bx0
  have RB := Lib.hid rb0
  clear bx0 rb0
  go_wp2_with (go_at_call 47; (with_reducible refine (hM _ (by repeat (first | exact Below.refl _ _ | assumption | refine b_then ?_ (by assumption) | refine b_alloc ?_ _ | refine b_drewN ?_ _ | refine Below.drew ?_ | refine b_set ?_ (by first | exact Nat.le_refl _ | (simp; done) | (simp; omega) | omega) _))).mono ?_); rintro e w1 ⟨rfl, hb1⟩; obtain ⟨hc1, hf1⟩ := bcell hb1; have hs1 := hb1.size; (try simp at hs1))
  have hB1 : Below w.heap.size w w1 := (by repeat (first | exact Below.refl _ _ | assumption | refine b_then ?_ (by assumption) | refine b_alloc ?_ _ | refine b_drewN ?_ _ | refine Below.drew ?_ | refine b_set ?_ (by first | exact Nat.le_refl _ | (simp; done) | (simp; omega) | omega) _))
  have bx := BX.out.below hb1
  have rb := RB.out.below hb1
  have hl1 : w.heap.size + 1 < w1.heap.size := rb.lt
  clear hb1 hc1 hf1 hs1 BX RB
  have k2 : ∀ (x : After w1) (y : After x.W), y.W.cell? ⟨w.heap.size, 2, none⟩ = some (.string a2) := fun x y => (bx.below (b_then x.h y.h)).cell 2
  (refine wp_region_srcv 5 4 3 (fun p => .pointer p.1) (fun B k W => ∃ g, B = some ⟨g, 0, none⟩ ∧ Blk W g 45 #[.string ⟨#[]⟩, .string ⟨#[]⟩, .string ⟨#[]⟩] ∧ w1.heap.size ≤ g) ?srcA3 (by kernel_rfl) (fun pp => by kernel_rfl) (fun pp x => ?srcH3) ⟨by kernel_rfl, by kernel_rfl, by decide, by decide, ?srcK3, ?srcS3, ?srcG3, ?srcQ3⟩; (case srcH3 => (simp only [srcl, List.modify_succ_cons, List.modify_zero_cons, repV, List.take_succ_cons, List.take_zero]; (have hxs := x.h.size); (try simp at hxs); (repeat (first | go_big_quiet_skip | (go_big_quiet_want; go_big_quiet_op; first | go_big_quiet_on | (apply Exists.intro; refine ⟨fun _ => ?_, ?_⟩; (focus ((go_at_call 48; with_reducible exact Calls.after (hO _ (b_then hB1 (b_then x.h (After.h _))))))); go_big_quiet_on)))); refine wpQuiet_nil ?_; rfl)); (case srcK3 => (intro pp; refine ⟨_, rfl, rfl, fun a W hW hgv => ?_⟩; exact srcv_alloc rfl rfl rfl (by simp [execOp, go_sem]) hW.size)); (case srcS3 => (intro B k W W' h hb; first | exact h.below hb | (obtain ⟨g, e, h1, h2⟩ := h; exact ⟨g, e, h1.below hb, h2⟩))); (case srcG3 => (intro pp; first | rfl | (simp; exact ⟨rfl, rfl⟩))); rintro ⟨B3, k3⟩ w3 R3 hb3; (try dsimp only at R3); simp only [List.drop_succ_cons, List.drop_zero]; obtain ⟨hc3, hf3⟩ := bcell hb3; have hs3 := hb3.size; (try simp at hs3))
  obtain ⟨g, rfl, hgb, hgl⟩ := R3
  have hB3 : Below w.heap.size w w3 := b_then hB1 hb3
  have bx3 := bx.below hb3
  have rb3 := rb.below hb3
  have z0 := hgb.cell 0
  have z1 := hgb.cell 1
  have z2 := hgb.cell 2
  have y0 := hgb.frozen 0
  have y1 := hgb.frozen 1
  have y2 := hgb.frozen 2
  have c1 := bx3.cell 1
  have c2 := bx3.cell 2
  have c3 := bx3.cell 3
  have c4 := bx3.cell 4
  have c5 := bx3.cell 5
  have c6 := bx3.cell 6
  have c7 := bx3.cell 7
  have d0 := rb3.cell 0
  have d1 := rb3.cell 1
  have d2 := rb3.cell 2
  have f0 := rb3.frozen 0
  have f1 := rb3.frozen 1
  have f2 := rb3.frozen 2
  simp at z0 z1 z2 c1 c2 c3 c4 c5 c6 c7 d0 d1 d2
  have hne : g ≠ w.heap.size := by omega
  have hne' : w.heap.size ≠ g := by omega
  have hnr : g ≠ w.heap.size + 1 := by omega
  have hnr' : w.heap.size + 1 ≠ g := by omega
  have hgw : w.heap.size ≤ g := by omega
  have hgl3 := hgb.lt
  have hl3 : w.heap.size + 1 < w3.heap.size := by omega
  have hl3' : w.heap.size < w3.heap.size := by omega
  have RB3 := Lib.hid rb3
  have BX3 := Lib.hid bx3
  have GB := Lib.hid hgb
  clear hc3 hf3 hb3 hgl hgb bx bx3 rb rb3 k2 hl1 hs3
  go_wp2_with (go_at_call 49; (with_reducible refine (p_with1 a6 a7 _ _ _).mono ?_); rintro e w5 ⟨rfl, hb5⟩; obtain ⟨hc5, hf5⟩ := bcell hb5; have hs5 := hb5.size; (try simp at hs5); have hq5 : w.heap.size + 1 < w5.heap.size := (by omega); have hp5 : w3.heap.size < w5.heap.size := (by omega))
  have bp : Blk w5 w3.heap.size 45 #[.string a3, .string a4, .string a5] := Blk.below (blk_new_at (by simp)) hb5
  have rb5 := Blk.below (g := w.heap.size + 1) (t := 28) (cs := #[.slice none 0 0, .string ⟨#[]⟩, .string ⟨#[]⟩]) (by repeat (first | exact RB3.out | refine Blk.alloc ?_ _ | refine Blk.far ?_ hnr' _)) hb5
  have u0 := rb5.cell 0
  have u1 := rb5.cell 1
  have u2 := rb5.cell 2
  have v0 := rb5.frozen 0
  have v1 := rb5.frozen 1
  have v2 := rb5.frozen 2
  simp at u0 u1 u2
  have hB5 : Below w.heap.size w w5 := (by repeat (first | exact Below.refl _ _ | assumption | refine b_then ?_ (by assumption) | refine b_alloc ?_ _ | refine b_drewN ?_ _ | refine Below.drew ?_ | refine b_set ?_ (by first | exact Nat.le_refl _ | (simp; done) | (simp; omega) | omega) _))
  clear hb5 hc5 hf5 hs5 rb5 d0 d1 d2 f0 f1 f2
  refine bodyPost_ret (v := .agg #[.slice (some ⟨w3.heap.size, 0, none⟩) 1 1, .string a6, .string a7]) ?_ rfl ?_
  · simp [results, Tryz.results20, go_sem, u0, u1, u2, v0, v1, v2, hq5, hp5, hl3]
  · rw [HL.out]
    refine ⟨_, _, rfl, rd_blk (z := 3) (n := 1) (T := 45) (cs := #[.string a3, .string a4, .string a5]) (by omega) Pt.cs_length (by repeat (first | exact bp | refine Blk.far ?_ (by simp; omega) _)) rfl rfl (by omega), by repeat (first | exact hB5 | refine b_set ?_ (by simp) _)⟩

theorem p_of (a0 : ByteArray) (a1 : Int) (a2 a3 a4 a5 a6 a7 : ByteArray) (a8 a9 a10 : Int) (w : World) (hg : Glob w) (h0 : a0.size ≤ 9223372036854775807) (h2 : a2.size ≤ 9223372036854775807) (h3 : a3.size ≤ 9223372036854775807) (h4 : a4.size ≤ 400000000) (h5 : a5.size ≤ 400000000) (h6 : a6.size ≤ 400000000) (h7 : a7.size ≤ 400000000) :
    Calls Tryz.prog 20 #[.agg #[.string a0, .int .i64 a1, .string a2, .string a3, .string a4, .string a5, .string a6, .string a7, .int .i64 a8, .int .i64 a9, .int .i64 a10]] w (PackIs (pofL ⟨a0, a1, a2, a3, ⟨a4, a5⟩, ⟨a6, a7⟩, a8, a9, a10⟩) (pofC ⟨a0, a1, a2, a3, ⟨a4, a5⟩, ⟨a6, a7⟩, a8, a9, a10⟩) w) := by
  cases hm : amay ⟨a0, a1, a2, a3, ⟨a4, a5⟩, ⟨a6, a7⟩, a8, a9, a10⟩ with
  | false => rw [pofL_no hm, pofC_no hm]; exact p_of_no a0 a1 a2 a3 a4 a5 a6 a7 a8 a9 a10 w hg h0 h2 h3 h4 h5 h6 h7 hm
  | true =>
    rw [pofC_yes hm]
    have hk := kinds (amay_of hm)
    dsimp only at hk
    rcases hk with rfl | rfl | rfl | rfl | rfl
    · exact p_of_0 a0 a2 a3 a4 a5 a6 a7 a8 a9 a10 w hg h0 h2 h3 h4 h5 h6 h7 hm
    · exact p_of_1 a0 a2 a3 a4 a5 a6 a7 a8 a9 a10 w hg h0 h2 h3 h4 h5 h6 h7 hm
    · exact p_of_2 a0 a2 a3 a4 a5 a6 a7 a8 a9 a10 w hg h0 h2 h3 h4 h5 h6 h7 hm
    · exact p_of_3 a0 a2 a3 a4 a5 a6 a7 a8 a9 a10 w hg h0 h2 h3 h4 h5 h6 h7 hm
    · exact p_of_4 a0 a2 a3 a4 a5 a6 a7 a8 a9 a10 w hg h0 h2 h3 h4 h5 h6 h7 hm
end Go.Proofs.YtdkpbifpafaabaaGreatDoor
