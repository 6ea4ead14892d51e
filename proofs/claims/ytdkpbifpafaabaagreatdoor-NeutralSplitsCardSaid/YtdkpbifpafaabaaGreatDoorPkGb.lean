/- Walks of the references' packs of actions: cash, a merger. -/
import Derived.Test.YtdkpbifpafaabaaGreatDoorPkE
namespace Go.Proofs.YtdkpbifpafaabaaGreatDoor
open Go.RowKit
set_option linter.unusedVariables false
set_option linter.unusedSimpArgs false

set_option maxRecDepth 100000 in
set_option maxHeartbeats 4000000 in
theorem r16_of_2 (a0 a2 a3 a4 a5 a6 a7 : ByteArray) (a8 a9 a10 : Int) (w : World) (h0 : a0.size ≤ 9223372036854775807) (h2 : a2.size ≤ 9223372036854775807) (h3 : a3.size ≤ 9223372036854775807) (h4 : a4.size ≤ 400000000) (h5 : a5.size ≤ 400000000) (h6 : a6.size ≤ 400000000) (h7 : a7.size ≤ 400000000) (hm : amay ⟨a0, 2, a2, a3, ⟨a4, a5⟩, ⟨a6, a7⟩, a8, a9, a10⟩ = true) :
    Calls Tryz.prog 21 #[.agg #[.string a0, .int .i64 2, .string a2, .string a3, .string a4, .string a5, .string a6, .string a7, .int .i64 a8, .int .i64 a9, .int .i64 a10]] w (PackIs (pofL ⟨a0, 2, a2, a3, ⟨a4, a5⟩, ⟨a6, a7⟩, a8, a9, a10⟩) ⟨a6, a7⟩ w) := by
  have hM := fun W (h : Below w.heap.size w W) => r15_may a0 2 a2 a3 a4 a5 a6 a7 a8 a9 a10 W h0 h2 h3 (by omega) (by omega) (by omega) (by omega)
  rw [hm] at hM
  have hO := fun W => r3_of 1 W (by omega) (by omega)
  rw [enc_one_v] at hO
  have hL := pofL_2 hm rfl
  dsimp only at hL
  have HL := Lib.hid hL
  clear hL hm
  go_enter Tryz.func21, Tryz.ntmps21
  have bx0 : Blk ((w.alloc (.cells #[.string a0, .int .i64 2, .string a2, .string a3, .string a4, .string a5, .string a6, .string a7, .int .i64 a8, .int .i64 a9, .int .i64 a10] 25)).alloc (.cells #[.slice none 0 0, .string ⟨#[]⟩, .string ⟨#[]⟩] 28)) w.heap.size 25 #[.string a0, .int .i64 2, .string a2, .string a3, .string a4, .string a5, .string a6, .string a7, .int .i64 a8, .int .i64 a9, .int .i64 a10] := (Blk.new w _ _).alloc _
  have rb0 : Blk ((w.alloc (.cells #[.string a0, .int .i64 2, .string a2, .string a3, .string a4, .string a5, .string a6, .string a7, .int .i64 a8, .int .i64 a9, .int .i64 a10] 25)).alloc (.cells #[.slice none 0 0, .string ⟨#[]⟩, .string ⟨#[]⟩] 28)) (w.heap.size + 1) 28 #[.slice none 0 0, .string ⟨#[]⟩, .string ⟨#[]⟩] := Blk.new2 w _ _ _
  have BX := Lib.hid bx0
  have RB := Lib.hid rb0
  clear bx0 rb0
  go_wp2_with (first | (go_at_call 29; (with_reducible refine (hM _ (by repeat (first | exact Below.refl _ _ | assumption | refine b_then ?_ (by assumption) | refine b_alloc ?_ _ | refine b_drewN ?_ _ | refine Below.drew ?_ | refine b_set ?_ (by first | exact Nat.le_refl _ | (simp; done) | (simp; omega) | omega) _))).mono ?_); rintro e w1 ⟨rfl, hb1⟩) | (go_at_call 28; (with_reducible refine (hO _).mono ?_); rintro e w2 ⟨rfl, hb2⟩; revert hb2))
  intro hb2
  have bx := (BX.out.below hb1).below hb2
  have rb := (RB.out.below hb1).below hb2
  have hB2 : Below w.heap.size w w2 := b_then (b_then (b_alloc (b_alloc (Below.refl _ _) _) _) hb1) hb2
  have hl2 : w.heap.size + 1 < w2.heap.size := rb.lt
  have c1 := bx.cell 1
  have c4 := bx.cell 4
  have c5 := bx.cell 5
  simp at c1 c4 c5
  have hl2' : w.heap.size < w2.heap.size := by omega
  have RB2 := Lib.hid rb
  have BX2 := Lib.hid bx
  clear hb1 hb2 bx rb BX RB
  go_wp2
  have hl2'' : w.heap.size ≤ w2.heap.size := by omega
  refine hide3 (K := fun W' => _) (fun W' => Below w.heap.size w W' ∧ Blk W' w.heap.size 25 #[.string a0, .int .i64 2, .string a2, .string a3, .string a4, .string a5, .string a6, .string a7, .int .i64 a8, .int .i64 a9, .int .i64 a10] ∧ Blk W' (w.heap.size + 1) 28 #[.slice none 0 0, .string ⟨#[]⟩, .string ⟨#[]⟩] ∧ Blk W' w2.heap.size 23 #[.string ⟨#[49]⟩, .string ⟨#[49]⟩]) ⟨b_alloc hB2 _, by repeat (first | exact BX2.out | refine Blk.alloc ?_ _ | refine Blk.far ?_ (by simp; omega) _), by repeat (first | exact RB2.out | refine Blk.alloc ?_ _ | refine Blk.far ?_ (by simp; omega) _), by first | exact Blk.new _ _ _ | exact xb3.put2 _ _ | exact (Blk.new _ _ _).put2 _ _⟩ ?_
  rintro X ⟨hBX, bX, rX, xX⟩
  clear hB2
  have c1 := bX.cell 1
  have c2 := bX.cell 2
  have c3 := bX.cell 3
  have c4 := bX.cell 4
  have c5 := bX.cell 5
  have c6 := bX.cell 6
  have c7 := bX.cell 7
  have d0 := rX.cell 0
  have d1 := rX.cell 1
  have d2 := rX.cell 2
  have f0 := rX.frozen 0
  have f1 := rX.frozen 1
  have f2 := rX.frozen 2
  simp at c1 c2 c3 c4 c5 c6 c7 d0 d1 d2
  obtain ⟨i0, i1, i2, i3⟩ := xX.two
  have hlX := rX.lt
  have hlX' : w.heap.size < X.heap.size := by omega
  have hlx := xX.lt
  clear hM hO
  go_big_region
  · refine hide3 (K := fun W' => _) (fun W' => Below w.heap.size w W' ∧ Blk W' w.heap.size 25 #[.string a0, .int .i64 2, .string a2, .string a3, .string a4, .string a5, .string a6, .string a7, .int .i64 a8, .int .i64 a9, .int .i64 a10] ∧ Blk W' (w.heap.size + 1) 28 #[.slice none 0 0, .string ⟨#[]⟩, .string ⟨#[]⟩] ∧ Blk W' X.heap.size 45 #[.string a2, .string ⟨#[49]⟩, .string ⟨#[49]⟩] ∧ Blk W' (X.heap.size + 1) 45 #[.string a3, .string a4, .string a5]) ⟨(b_alloc (b_alloc hBX _) _).drew, Blk.drewN ((bX.alloc _).alloc _) 1, Blk.drewN ((rX.alloc _).alloc _) 1, Blk.drewN ((Blk.new X _ _).alloc _) 1, Blk.drewN (Blk.new2 X _ _ _) 1⟩ ?_
    rintro Y ⟨hBY, bY, rY, xY, yY⟩
    clear hBX bX rX xX c1 c2 c3 c4 c5 c6 c7 d0 d1 d2 f0 f1 f2 i0 i1 i2 i3
    have c1 := bY.cell 1
    have c6 := bY.cell 6
    have c7 := bY.cell 7
    have d0 := rY.cell 0
    have d1 := rY.cell 1
    have d2 := rY.cell 2
    have f0 := rY.frozen 0
    have f1 := rY.frozen 1
    have f2 := rY.frozen 2
    have p0 := xY.cell 0
    have p1 := xY.cell 1
    have p2 := xY.cell 2
    have p3 := yY.cell 0
    have p4 := yY.cell 1
    have p5 := yY.cell 2
    simp at c1 c6 c7 d0 d1 d2 p0 p1 p2 p3 p4 p5
    have hlY := rY.lt
    have hlY' : w.heap.size < Y.heap.size := by omega
    have hlx := xY.lt
    have hly := yY.lt
    clear bY rY xY yY
    go_wp2
    refine bodyPost_ret (v := .agg #[.slice (some ⟨Y.heap.size, 0, none⟩) 1 1, .string a6, .string a7]) ?_ rfl ?_
    · simp [results, Tryz.results21, go_sem, d0, d1, d2, f0, f1, f2, hlY]
    · unfold PackIs
      rw [HL.out]
      refine ⟨_, _, rfl, rd_blk (z := 3) (n := 1) (T := 45) (cs := #[.string a2, .string ⟨#[49]⟩, .string ⟨#[49]⟩]) (by omega) Pt.cs_length (by repeat (first | exact Blk.new _ _ _ | exact blk_new_at (by simp) | refine Blk.far ?_ (by simp; omega) _)) rfl rfl (by omega), by repeat (first | exact hBY | refine b_set ?_ (by simp) _ | refine b_alloc ?_ _)⟩
  · refine hide3 (K := fun W' => _) (fun W' => Below w.heap.size w W' ∧ Blk W' w.heap.size 25 #[.string a0, .int .i64 2, .string a2, .string a3, .string a4, .string a5, .string a6, .string a7, .int .i64 a8, .int .i64 a9, .int .i64 a10] ∧ Blk W' (w.heap.size + 1) 28 #[.slice none 0 0, .string ⟨#[]⟩, .string ⟨#[]⟩] ∧ Blk W' (X.heap.size + 1) 45 #[.string a2, .string ⟨#[49]⟩, .string ⟨#[49]⟩] ∧ Blk W' X.heap.size 45 #[.string a3, .string a4, .string a5]) ⟨(b_alloc (b_alloc hBX _) _).drew, Blk.drewN ((bX.alloc _).alloc _) 1, Blk.drewN ((rX.alloc _).alloc _) 1, Blk.drewN (Blk.new2 X _ _ _) 1, Blk.drewN ((Blk.new X _ _).alloc _) 1⟩ ?_
    rintro Y ⟨hBY, bY, rY, xY, yY⟩
    clear hBX bX rX xX c1 c2 c3 c4 c5 c6 c7 d0 d1 d2 f0 f1 f2 i0 i1 i2 i3
    have c1 := bY.cell 1
    have c6 := bY.cell 6
    have c7 := bY.cell 7
    have d0 := rY.cell 0
    have d1 := rY.cell 1
    have d2 := rY.cell 2
    have f0 := rY.frozen 0
    have f1 := rY.frozen 1
    have f2 := rY.frozen 2
    have p0 := xY.cell 0
    have p1 := xY.cell 1
    have p2 := xY.cell 2
    have p3 := yY.cell 0
    have p4 := yY.cell 1
    have p5 := yY.cell 2
    simp at c1 c6 c7 d0 d1 d2 p0 p1 p2 p3 p4 p5
    have hlY := rY.lt
    have hlY' : w.heap.size < Y.heap.size := by omega
    have hlx := xY.lt
    have hly := yY.lt
    clear bY rY xY yY
    go_wp2
    refine bodyPost_ret (v := .agg #[.slice (some ⟨Y.heap.size, 0, none⟩) 1 1, .string a6, .string a7]) ?_ rfl ?_
    · simp [results, Tryz.results21, go_sem, d0, d1, d2, f0, f1, f2, hlY]
    · unfold PackIs
      rw [HL.out]
      refine ⟨_, _, rfl, rd_blk (z := 3) (n := 1) (T := 45) (cs := #[.string a2, .string ⟨#[49]⟩, .string ⟨#[49]⟩]) (by omega) Pt.cs_length (by repeat (first | exact Blk.new _ _ _ | exact blk_new_at (by simp) | refine Blk.far ?_ (by simp; omega) _)) rfl rfl (by omega), by repeat (first | exact hBY | refine b_set ?_ (by simp) _ | refine b_alloc ?_ _)⟩

set_option maxRecDepth 100000 in
set_option maxHeartbeats 4000000 in
theorem r16_of_4 (a0 a2 a3 a4 a5 a6 a7 : ByteArray) (a8 a9 a10 : Int) (w : World) (h0 : a0.size ≤ 9223372036854775807) (h2 : a2.size ≤ 9223372036854775807) (h3 : a3.size ≤ 9223372036854775807) (h4 : a4.size ≤ 400000000) (h5 : a5.size ≤ 400000000) (h6 : a6.size ≤ 400000000) (h7 : a7.size ≤ 400000000) (hm : amay ⟨a0, 4, a2, a3, ⟨a4, a5⟩, ⟨a6, a7⟩, a8, a9, a10⟩ = true) :
    Calls Tryz.prog 21 #[.agg #[.string a0, .int .i64 4, .string a2, .string a3, .string a4, .string a5, .string a6, .string a7, .int .i64 a8, .int .i64 a9, .int .i64 a10]] w (PackIs (pofL ⟨a0, 4, a2, a3, ⟨a4, a5⟩, ⟨a6, a7⟩, a8, a9, a10⟩) ⟨a6, a7⟩ w) := by
  have hM := fun W (h : Below w.heap.size w W) => r15_may a0 4 a2 a3 a4 a5 a6 a7 a8 a9 a10 W h0 h2 h3 (by omega) (by omega) (by omega) (by omega)
  rw [hm] at hM
  have hO := fun W => r3_of 1 W (by omega) (by omega)
  rw [enc_one_v] at hO
  have hL := pofL_4 hm rfl
  dsimp only at hL
  have HL := Lib.hid hL
  clear hL hm
  go_enter Tryz.func21, Tryz.ntmps21
  have bx0 : Blk ((w.alloc (.cells #[.string a0, .int .i64 4, .string a2, .string a3, .string a4, .string a5, .string a6, .string a7, .int .i64 a8, .int .i64 a9, .int .i64 a10] 25)).alloc (.cells #[.slice none 0 0, .string ⟨#[]⟩, .string ⟨#[]⟩] 28)) w.heap.size 25 #[.string a0, .int .i64 4, .string a2, .string a3, .string a4, .string a5, .string a6, .string a7, .int .i64 a8, .int .i64 a9, .int .i64 a10] := (Blk.new w _ _).alloc _
  have rb0 : Blk ((w.alloc (.cells #[.string a0, .int .i64 4, .string a2, .string a3, .string a4, .string a5, .string a6, .string a7, .int .i64 a8, .int .i64 a9, .int .i64 a10] 25)).alloc (.cells #[.slice none 0 0, .string ⟨#[]⟩, .string ⟨#[]⟩] 28)) (w.heap.size + 1) 28 #[.slice none 0 0, .string ⟨#[]⟩, .string ⟨#[]⟩] := Blk.new2 w _ _ _
  have BX := Lib.hid bx0
  have RB := Lib.hid rb0
  clear bx0 rb0
  go_wp2_with (first | (go_at_call 29; (with_reducible refine (hM _ (by repeat (first | exact Below.refl _ _ | assumption | refine b_then ?_ (by assumption) | refine b_alloc ?_ _ | refine b_drewN ?_ _ | refine Below.drew ?_ | refine b_set ?_ (by first | exact Nat.le_refl _ | (simp; done) | (simp; omega) | omega) _))).mono ?_); rintro e w1 ⟨rfl, hb1⟩) | (go_at_call 28; (with_reducible refine (hO _).mono ?_); rintro e w2 ⟨rfl, hb2⟩; revert hb2))
  intro hb2
  have bx := (BX.out.below hb1).below hb2
  have rb := (RB.out.below hb1).below hb2
  have hB2 : Below w.heap.size w w2 := b_then (b_then (b_alloc (b_alloc (Below.refl _ _) _) _) hb1) hb2
  have hl2 : w.heap.size + 1 < w2.heap.size := rb.lt
  have c1 := bx.cell 1
  have c4 := bx.cell 4
  have c5 := bx.cell 5
  simp at c1 c4 c5
  have hl2' : w.heap.size < w2.heap.size := by omega
  have RB2 := Lib.hid rb
  have BX2 := Lib.hid bx
  clear hb1 hb2 bx rb BX RB
  go_wp2
  have hl2'' : w.heap.size ≤ w2.heap.size := by omega
  refine hide3 (K := fun W' => _) (fun W' => Below w.heap.size w W' ∧ Blk W' w.heap.size 25 #[.string a0, .int .i64 4, .string a2, .string a3, .string a4, .string a5, .string a6, .string a7, .int .i64 a8, .int .i64 a9, .int .i64 a10] ∧ Blk W' (w.heap.size + 1) 28 #[.slice none 0 0, .string ⟨#[]⟩, .string ⟨#[]⟩] ∧ Blk W' w2.heap.size 23 #[.string ⟨#[49]⟩, .string ⟨#[49]⟩]) ⟨b_alloc hB2 _, by repeat (first | exact BX2.out | refine Blk.alloc ?_ _ | refine Blk.far ?_ (by simp; omega) _), by repeat (first | exact RB2.out | refine Blk.alloc ?_ _ | refine Blk.far ?_ (by simp; omega) _), by first | exact Blk.new _ _ _ | exact xb3.put2 _ _ | exact (Blk.new _ _ _).put2 _ _⟩ ?_
  rintro X ⟨hBX, bX, rX, xX⟩
  clear hB2
  have c1 := bX.cell 1
  have c2 := bX.cell 2
  have c3 := bX.cell 3
  have c4 := bX.cell 4
  have c5 := bX.cell 5
  have c6 := bX.cell 6
  have c7 := bX.cell 7
  have d0 := rX.cell 0
  have d1 := rX.cell 1
  have d2 := rX.cell 2
  have f0 := rX.frozen 0
  have f1 := rX.frozen 1
  have f2 := rX.frozen 2
  simp at c1 c2 c3 c4 c5 c6 c7 d0 d1 d2
  obtain ⟨i0, i1, i2, i3⟩ := xX.two
  have hlX := rX.lt
  have hlX' : w.heap.size < X.heap.size := by omega
  have hlx := xX.lt
  clear hM hO
  go_big_region
  · refine hide3 (K := fun W' => _) (fun W' => Below w.heap.size w W' ∧ Blk W' w.heap.size 25 #[.string a0, .int .i64 4, .string a2, .string a3, .string a4, .string a5, .string a6, .string a7, .int .i64 a8, .int .i64 a9, .int .i64 a10] ∧ Blk W' (w.heap.size + 1) 28 #[.slice none 0 0, .string ⟨#[]⟩, .string ⟨#[]⟩] ∧ Blk W' X.heap.size 45 #[.string a2, .string ⟨#[49]⟩, .string ⟨#[49]⟩] ∧ Blk W' (X.heap.size + 1) 45 #[.string a3, .string a4, .string a5]) ⟨(b_alloc (b_alloc hBX _) _).drew, Blk.drewN ((bX.alloc _).alloc _) 1, Blk.drewN ((rX.alloc _).alloc _) 1, Blk.drewN ((Blk.new X _ _).alloc _) 1, Blk.drewN (Blk.new2 X _ _ _) 1⟩ ?_
    rintro Y ⟨hBY, bY, rY, xY, yY⟩
    clear hBX bX rX xX c1 c2 c3 c4 c5 c6 c7 d0 d1 d2 f0 f1 f2 i0 i1 i2 i3
    have c1 := bY.cell 1
    have c6 := bY.cell 6
    have c7 := bY.cell 7
    have d0 := rY.cell 0
    have d1 := rY.cell 1
    have d2 := rY.cell 2
    have f0 := rY.frozen 0
    have f1 := rY.frozen 1
    have f2 := rY.frozen 2
    have p0 := xY.cell 0
    have p1 := xY.cell 1
    have p2 := xY.cell 2
    have p3 := yY.cell 0
    have p4 := yY.cell 1
    have p5 := yY.cell 2
    simp at c1 c6 c7 d0 d1 d2 p0 p1 p2 p3 p4 p5
    have hlY := rY.lt
    have hlY' : w.heap.size < Y.heap.size := by omega
    have hlx := xY.lt
    have hly := yY.lt
    clear bY rY xY yY
    go_wp2
    refine bodyPost_ret (v := .agg #[.slice (some ⟨Y.heap.size, 0, none⟩) 1 1, .string a6, .string a7]) ?_ rfl ?_
    · simp [results, Tryz.results21, go_sem, d0, d1, d2, f0, f1, f2, hlY]
    · unfold PackIs
      rw [HL.out]
      refine ⟨_, _, rfl, rd_blk (z := 3) (n := 1) (T := 45) (cs := #[.string a3, .string a4, .string a5]) (by omega) Pt.cs_length (by repeat (first | exact Blk.new _ _ _ | exact blk_new_at (by simp) | refine Blk.far ?_ (by simp; omega) _)) rfl rfl (by omega), by repeat (first | exact hBY | refine b_set ?_ (by simp) _ | refine b_alloc ?_ _)⟩
  · refine hide3 (K := fun W' => _) (fun W' => Below w.heap.size w W' ∧ Blk W' w.heap.size 25 #[.string a0, .int .i64 4, .string a2, .string a3, .string a4, .string a5, .string a6, .string a7, .int .i64 a8, .int .i64 a9, .int .i64 a10] ∧ Blk W' (w.heap.size + 1) 28 #[.slice none 0 0, .string ⟨#[]⟩, .string ⟨#[]⟩] ∧ Blk W' (X.heap.size + 1) 45 #[.string a2, .string ⟨#[49]⟩, .string ⟨#[49]⟩] ∧ Blk W' X.heap.size 45 #[.string a3, .string a4, .string a5]) ⟨(b_alloc (b_alloc hBX _) _).drew, Blk.drewN ((bX.alloc _).alloc _) 1, Blk.drewN ((rX.alloc _).alloc _) 1, Blk.drewN (Blk.new2 X _ _ _) 1, Blk.drewN ((Blk.new X _ _).alloc _) 1⟩ ?_
    rintro Y ⟨hBY, bY, rY, xY, yY⟩
    clear hBX bX rX xX c1 c2 c3 c4 c5 c6 c7 d0 d1 d2 f0 f1 f2 i0 i1 i2 i3
    have c1 := bY.cell 1
    have c6 := bY.cell 6
    have c7 := bY.cell 7
    have d0 := rY.cell 0
    have d1 := rY.cell 1
    have d2 := rY.cell 2
    have f0 := rY.frozen 0
    have f1 := rY.frozen 1
    have f2 := rY.frozen 2
    have p0 := xY.cell 0
    have p1 := xY.cell 1
    have p2 := xY.cell 2
    have p3 := yY.cell 0
    have p4 := yY.cell 1
    have p5 := yY.cell 2
    simp at c1 c6 c7 d0 d1 d2 p0 p1 p2 p3 p4 p5
    have hlY := rY.lt
    have hlY' : w.heap.size < Y.heap.size := by omega
    have hlx := xY.lt
    have hly := yY.lt
    clear bY rY xY yY
    go_wp2
    refine bodyPost_ret (v := .agg #[.slice (some ⟨Y.heap.size, 0, none⟩) 1 1, .string a6, .string a7]) ?_ rfl ?_
    · simp [results, Tryz.results21, go_sem, d0, d1, d2, f0, f1, f2, hlY]
    · unfold PackIs
      rw [HL.out]
      refine ⟨_, _, rfl, rd_blk (z := 3) (n := 1) (T := 45) (cs := #[.string a3, .string a4, .string a5]) (by omega) Pt.cs_length (by repeat (first | exact Blk.new _ _ _ | exact blk_new_at (by simp) | refine Blk.far ?_ (by simp; omega) _)) rfl rfl (by omega), by repeat (first | exact hBY | refine b_set ?_ (by simp) _ | refine b_alloc ?_ _)⟩

end Go.Proofs.YtdkpbifpafaabaaGreatDoor
