/- NeutralSplits: the walk (given the fixed calls). -/
import Derived.Test.YtdkpbifpafaabaaGreatDoorNeL
import Derived.Test.YtdkpbifpafaabaaGreatDoorNeK
namespace Go.Proofs.YtdkpbifpafaabaaGreatDoor
open Go.RowKit
set_option linter.unusedVariables false
set_option linter.unusedSimpArgs false

theorem acq_two {x y : Ac} (h : acq x) (h' : acq y) : ∀ z ∈ [x, y], acq z := by
  intro z hz
  simp at hz
  rcases hz with rfl | rfl
  · exact h
  · exact h'
theorem nall_two {xs : List Fx} {a b : Ac} (h : fmay xs = true) (ha : amay a = true) (hb : amay b = true) : nall xs [a, b] = nfix a (nfix b xs) := by
  rw [nall_yes h (by simp [ha, hb])]; rfl
theorem r12_sameT {A B : Option Addr} {n c d : Nat} {xs : List Fx} (w : World) (hx : Rd Fx.cs 4 w A n xs) (hy : Rd Fx.cs 4 w B n xs) :
    Calls Tryz.prog 34 #[.slice A n c, .slice B n d] w fun e w' => e = .returned (.bool true) ∧ Below w.heap.size w w' :=
  (r12_same (c := c) (d := d) w hx hy).mono fun e w' he => ⟨by rw [he.1]; simp, he.2⟩
theorem spl_one : ∀ n d : Fin 9, mkRat ((n.1 + 1 : Nat) : Int) (d.1 + 1) * mkRat ((d.1 + 1 : Nat) : Int) (n.1 + 1) = 1 := by decide +kernel
theorem spl_small : ∀ n d : Fin 9, (iS (mkRat ((n.1 + 1 : Nat) : Int) (d.1 + 1)).num).size ≤ 20 ∧ (nS (mkRat ((n.1 + 1 : Nat) : Int) (d.1 + 1)).den).size ≤ 20 := by decide +kernel
set_option maxRecDepth 100000 in
set_option maxHeartbeats 8000000 in
theorem l_nsplits (HF : Fixed17Ok) (p q : Int) {A : Option Addr} {n c : Nat} {xs : List Fx} (w : World) (hg : Glob w) (hx : Rd Fx.cs 4 w A n xs) (hz : ∀ f ∈ xs, f.asset.size ≤ 9223372036854775807 ∧ f.p.num.size ≤ 9223372036854775807 ∧ f.p.den.size ≤ 9223372036854775807) :
    Calls Tryz.prog 11 #[.slice A n c, .int .i64 p, .int .i64 q] w fun e w' => e = .returned (.bool true) ∧ Below w.heap.size w w' := by
  have hF := fun W (h : Below w.heap.size w W) => HF W (hg.below h)
  obtain ⟨p1, hp1⟩ : ∃ b, fsmall xs = b := ⟨_, rfl⟩
  obtain ⟨p2, hp2⟩ : ∃ b, fmay xs = b := ⟨_, rfl⟩
  have hSm := fun W (h : Below w.heap.size w W) => r12_small (c := c) W (hx.below h) hz
  have hMy := fun (hs : fsmall xs = true) W (h : Below w.heap.size w W) => r12_may (c := c) W (hx.below h) (fun f hf => fxq_sz (fxr_q ((fsmall_r hs).1 f hf) (by omega)))
  rw [hp1] at hSm
  rw [hp2] at hMy
  have HP1 := Lib.hid hp1
  have HP2 := Lib.hid hp2
  have hxl := hx.len
  clear hp1 hp2
  by_cases hr : 1 ≤ p ∧ 1 ≤ q ∧ p ≤ 9 ∧ q ≤ 9
  case neg =>
    have hno : p < 1 ∨ (¬ p < 1 ∧ q < 1) ∨ (¬ p < 1 ∧ ¬ q < 1 ∧ 9 < p) ∨ (¬ p < 1 ∧ ¬ q < 1 ∧ ¬ 9 < p ∧ 9 < q) := by omega
    clear hr
    rcases hno with n1 | ⟨n1, n2⟩ | ⟨n1, n2, n3⟩ | ⟨n1, n2, n3, n4⟩
    all_goals
      go_enter Tryz.func11, Tryz.ntmps11
      go_wp2_with (first | (go_at_call 33; (with_reducible refine (hF _ (by repeat (first | exact Below.refl _ _ | assumption | refine b_then ?_ (by assumption) | refine b_alloc ?_ _ | refine b_drewN ?_ _ | refine Below.drew ?_ | refine b_set ?_ (by first | exact Nat.le_refl _ | (simp; done) | (simp; omega) | omega) _))).mono ?_); rintro e w1 ⟨rfl, hb1⟩) | (go_at_call 15; (with_reducible refine (hSm _ (by repeat (first | exact Below.refl _ _ | assumption | refine b_then ?_ (by assumption) | refine b_alloc ?_ _ | refine b_drewN ?_ _ | refine Below.drew ?_ | refine b_set ?_ (by first | exact Nat.le_refl _ | (simp; done) | (simp; omega) | omega) _))).mono ?_); rintro e w' ⟨rfl, rfl⟩; cases p1) | (go_at_call 32; (with_reducible refine (hMy HP1.out _ (by repeat (first | exact Below.refl _ _ | assumption | refine b_then ?_ (by assumption) | refine b_alloc ?_ _ | refine b_drewN ?_ _ | refine Below.drew ?_ | refine b_set ?_ (by first | exact Nat.le_refl _ | (simp; done) | (simp; omega) | omega) _))).mono ?_); rintro e w3 ⟨rfl, hb3⟩; cases p2))
      all_goals
        go_ret
        exact ⟨rfl, (by repeat (first | exact Below.refl _ _ | assumption | refine b_then ?_ (by assumption) | refine b_alloc ?_ _ | refine b_drewN ?_ _ | refine Below.drew ?_ | refine b_set ?_ (by first | exact Nat.le_refl _ | (simp; done) | (simp; omega) | omega) _))⟩
  have n1 : ¬ p < 1 := by omega
  have n2 : ¬ q < 1 := by omega
  have n3 : ¬ 9 < p := by omega
  have n4 : ¬ 9 < q := by omega
  obtain ⟨i, rfl⟩ : ∃ i : Fin 9, p = ((i.1 + 1 : Nat) : Int) := ⟨⟨(p - 1).toNat, by omega⟩, by show p = (((p - 1).toNat + 1 : Nat) : Int); omega⟩
  obtain ⟨j, rfl⟩ : ∃ j : Fin 9, q = ((j.1 + 1 : Nat) : Int) := ⟨⟨(q - 1).toNat, by omega⟩, by show q = (((q - 1).toNat + 1 : Nat) : Int); omega⟩
  have hm1 := splR_may i j
  have hm2 := splR_may j i
  have hone := spl_one i j
  have hs1 := spl_small i j
  have hs2 := spl_small j i
  have hO1 := fun W => r3_one ((i.1 + 1 : Nat) : Int) (j.1 + 1) W (by omega) (by omega) (by omega) (by omega)
  have hO2 := fun W => r3_one ((j.1 + 1 : Nat) : Int) (i.1 + 1) W (by omega) (by omega) (by omega) (by omega)
  obtain ⟨u, hu⟩ : ∃ u, ((i.1 + 1 : Nat) : Int) = u := ⟨_, rfl⟩
  obtain ⟨v, hv⟩ : ∃ v, ((j.1 + 1 : Nat) : Int) = v := ⟨_, rfl⟩
  generalize mkRat ((i.1 + 1 : Nat) : Int) (j.1 + 1) = r at *
  generalize mkRat ((j.1 + 1 : Nat) : Int) (i.1 + 1) = s at *
  simp only [enc_v] at hO1 hO2
  rw [hu] at *
  rw [hv] at *
  have hSp := fun W => c_split W
  go_enter Tryz.func11, Tryz.ntmps11
  go_wp2_with (first | (go_at_call 33; (with_reducible refine (hF _ (by repeat (first | exact Below.refl _ _ | assumption | refine b_then ?_ (by assumption) | refine b_alloc ?_ _ | refine b_drewN ?_ _ | refine Below.drew ?_ | refine b_set ?_ (by first | exact Nat.le_refl _ | (simp; done) | (simp; omega) | omega) _))).mono ?_); rintro e w1 ⟨rfl, hb1⟩) | (go_at_call 15; (with_reducible refine (hSm _ (by repeat (first | exact Below.refl _ _ | assumption | refine b_then ?_ (by assumption) | refine b_alloc ?_ _ | refine b_drewN ?_ _ | refine Below.drew ?_ | refine b_set ?_ (by first | exact Nat.le_refl _ | (simp; done) | (simp; omega) | omega) _))).mono ?_); rintro e w' ⟨rfl, rfl⟩; cases p1) | (go_at_call 32; (with_reducible refine (hMy HP1.out _ (by repeat (first | exact Below.refl _ _ | assumption | refine b_then ?_ (by assumption) | refine b_alloc ?_ _ | refine b_drewN ?_ _ | refine Below.drew ?_ | refine b_set ?_ (by first | exact Nat.le_refl _ | (simp; done) | (simp; omega) | omega) _))).mono ?_); rintro e w3 ⟨rfl, hb3⟩; cases p2) | (go_at_call 40; (with_reducible refine (hSp w4).mono ?_); rintro e w5 ⟨rfl, hb5⟩) | (go_at_call 40; (with_reducible refine (hSp w3).mono ?_); rintro e w4 ⟨rfl, hb4⟩))
  any_goals
    go_ret
    exact ⟨rfl, (by repeat (first | exact Below.refl _ _ | assumption | refine b_then ?_ (by assumption) | refine b_alloc ?_ _ | refine b_drewN ?_ _ | refine Below.drew ?_ | refine b_set ?_ (by first | exact Nat.le_refl _ | (simp; done) | (simp; omega) | omega) _))⟩
  have hB5 : Below w.heap.size w w5 := b_then (b_then (b_then hb1 hb3) hb4) hb5
  have hfm : fmay xs = true := HP2.out
  obtain ⟨f1, f2⟩ := fsmall_r HP1.out
  rw [hxl] at f2
  have hq1 : acq (splR (enc r)) := ⟨by show (ByteArray.mk #[115, 49]).size ≤ 9223372036854775807; decide, by show (ByteArray.mk #[120]).size ≤ 9223372036854775807; decide, by show (ByteArray.mk #[]).size ≤ 9223372036854775807; decide, ⟨by show (iS r.num).size ≤ _; omega, by show (nS r.den).size ≤ _; omega⟩, by show (ByteArray.mk #[48]).size ≤ 400000000; decide, by show (ByteArray.mk #[49]).size ≤ 400000000; decide⟩
  have hq2 : acq (splR (enc s)) := ⟨by show (ByteArray.mk #[115, 49]).size ≤ 9223372036854775807; decide, by show (ByteArray.mk #[120]).size ≤ 9223372036854775807; decide, by show (ByteArray.mk #[]).size ≤ 9223372036854775807; decide, ⟨by show (iS s.num).size ≤ _; omega, by show (nS s.den).size ≤ _; omega⟩, by show (ByteArray.mk #[48]).size ≤ 400000000; decide, by show (ByteArray.mk #[49]).size ≤ 400000000; decide⟩
  obtain ⟨ys, hys⟩ : ∃ ys, nfix (splR (enc r)) (nfix (splR (enc r)) xs) = ys := ⟨_, rfl⟩
  obtain ⟨m9, hm9⟩ : ∃ m9, ys.length = m9 := ⟨_, rfl⟩
  have hA1 := fun W (g : Nat) (h : Below w.heap.size w W) (hl : Rd Ac.cs 11 W (some ⟨g, 0, none⟩) 2 [splR (enc r), splR (enc s)]) => p_nall (c := c) (d := 2) W (hg.below h) (hx.below h) f2 f1 hl (by omega) (acq_two hq1 hq2)
  rw [nall_two hfm hm1 hm2, splR_back hm1 hm2 hone hfm, hxl] at hA1
  have hA2 := fun W (g : Nat) (h : Below w.heap.size w W) (hl : Rd Ac.cs 11 W (some ⟨g, 0, none⟩) 2 [splR (enc r), splR (enc r)]) => p_nall (c := c) (d := 2) W (hg.below h) (hx.below h) f2 f1 hl (by omega) (acq_two hq1 hq1)
  rw [nall_two hfm hm1 hm1, hys, hm9] at hA2
  unfold FixIs at hA1 hA2
  have hyz : ∀ f ∈ ys, fxr 6600 f := by
    rw [← hys]
    exact fun f hf => fxr_mono (nfix_fxr hm1 (nfix_may hm1 hfm) (nfix_fxr hm1 hfm f1) f hf) (by omega)
  have hyg : fget ys ⟨#[120]⟩ 5 = (fget xs ⟨#[120]⟩ 5).map (fun q => enc (r * (r * dec q))) := by
    rw [← hys, splR_two hm1 hm1 hfm, if_pos ⟨rfl, by omega⟩]
  have hGl := fun W (h : Below w.heap.size w W) => r12_get (c := c) ⟨#[120]⟩ 5 W (hx.below h) (fun f hf => fxq_sz (fxr_q (f1 f hf) (by omega)))
  have hGy := fun W (B : Option Addr) (k : Nat) (hr : Rd Fx.cs 4 W B m9 ys) => r12_get (c := k) ⟨#[120]⟩ 5 W hr (fun f hf => fxq_sz (fxr_q (hyz f hf) (by omega)))
  rw [hyg] at hGy
  have hrs : rsmall 20 r := rsmall_of hs1.1 hs1.2
  have heq := eqRat
  have bA0 : Blk ((w5.alloc (.cells #[.string ⟨#[115, 49]⟩, .int .i64 0, .string ⟨#[120]⟩, .string ⟨#[]⟩, .string ⟨#[50]⟩, .string ⟨#[49]⟩, .string ⟨#[48]⟩, .string ⟨#[49]⟩, .int .i64 5, .int .i64 5, .int .i64 5] 25)).alloc (.cells #[.string ⟨#[115, 49]⟩, .int .i64 0, .string ⟨#[120]⟩, .string ⟨#[]⟩, .string ⟨#[50]⟩, .string ⟨#[49]⟩, .string ⟨#[48]⟩, .string ⟨#[49]⟩, .int .i64 5, .int .i64 5, .int .i64 5] 25)) w5.heap.size 25 #[.string ⟨#[115, 49]⟩, .int .i64 0, .string ⟨#[120]⟩, .string ⟨#[]⟩, .string ⟨#[50]⟩, .string ⟨#[49]⟩, .string ⟨#[48]⟩, .string ⟨#[49]⟩, .int .i64 5, .int .i64 5, .int .i64 5] := (Blk.new w5 _ _).alloc _
  have bB0 : Blk ((w5.alloc (.cells #[.string ⟨#[115, 49]⟩, .int .i64 0, .string ⟨#[120]⟩, .string ⟨#[]⟩, .string ⟨#[50]⟩, .string ⟨#[49]⟩, .string ⟨#[48]⟩, .string ⟨#[49]⟩, .int .i64 5, .int .i64 5, .int .i64 5] 25)).alloc (.cells #[.string ⟨#[115, 49]⟩, .int .i64 0, .string ⟨#[120]⟩, .string ⟨#[]⟩, .string ⟨#[50]⟩, .string ⟨#[49]⟩, .string ⟨#[48]⟩, .string ⟨#[49]⟩, .int .i64 5, .int .i64 5, .int .i64 5] 25)) (w5.heap.size + 1) 25 #[.string ⟨#[115, 49]⟩, .int .i64 0, .string ⟨#[120]⟩, .string ⟨#[]⟩, .string ⟨#[50]⟩, .string ⟨#[49]⟩, .string ⟨#[48]⟩, .string ⟨#[49]⟩, .int .i64 5, .int .i64 5, .int .i64 5] := Blk.new2 w5 _ _ _
  have hBW : Below w.heap.size w ((w5.alloc (.cells #[.string ⟨#[115, 49]⟩, .int .i64 0, .string ⟨#[120]⟩, .string ⟨#[]⟩, .string ⟨#[50]⟩, .string ⟨#[49]⟩, .string ⟨#[48]⟩, .string ⟨#[49]⟩, .int .i64 5, .int .i64 5, .int .i64 5] 25)).alloc (.cells #[.string ⟨#[115, 49]⟩, .int .i64 0, .string ⟨#[120]⟩, .string ⟨#[]⟩, .string ⟨#[50]⟩, .string ⟨#[49]⟩, .string ⟨#[48]⟩, .string ⟨#[49]⟩, .int .i64 5, .int .i64 5, .int .i64 5] 25)) := b_alloc (b_alloc hB5 _) _
  have hw5 : w.heap.size ≤ w5.heap.size := hB5.size
  have hw5' : w.heap.size ≤ w5.heap.size + 1 := by omega
  have BA := Lib.hid bA0
  have BB := Lib.hid bB0
  have HF1 := Lib.hid f1
  clear hb1 hb3 hb4 hb5 bA0 bB0 hq1 hq2 hys hm9 hyz hyg hone hm1 hm2 hs1 hs2 hfm hF hSm hMy hSp f1
  go_wp2_with (go_at_call 41; (with_reducible refine (hO1 _).mono ?_); rintro e w6 ⟨rfl, hb6⟩; revert hb6)
  intro hb6x
  have hb6 : Below ((w5.alloc (.cells #[.string ⟨#[115, 49]⟩, .int .i64 0, .string ⟨#[120]⟩, .string ⟨#[]⟩, .string ⟨#[50]⟩, .string ⟨#[49]⟩, .string ⟨#[48]⟩, .string ⟨#[49]⟩, .int .i64 5, .int .i64 5, .int .i64 5] 25)).alloc (.cells #[.string ⟨#[115, 49]⟩, .int .i64 0, .string ⟨#[120]⟩, .string ⟨#[]⟩, .string ⟨#[50]⟩, .string ⟨#[49]⟩, .string ⟨#[48]⟩, .string ⟨#[49]⟩, .int .i64 5, .int .i64 5, .int .i64 5] 25)).heap.size ((w5.alloc (.cells #[.string ⟨#[115, 49]⟩, .int .i64 0, .string ⟨#[120]⟩, .string ⟨#[]⟩, .string ⟨#[50]⟩, .string ⟨#[49]⟩, .string ⟨#[48]⟩, .string ⟨#[49]⟩, .int .i64 5, .int .i64 5, .int .i64 5] 25)).alloc (.cells #[.string ⟨#[115, 49]⟩, .int .i64 0, .string ⟨#[120]⟩, .string ⟨#[]⟩, .string ⟨#[50]⟩, .string ⟨#[49]⟩, .string ⟨#[48]⟩, .string ⟨#[49]⟩, .int .i64 5, .int .i64 5, .int .i64 5] 25)) w6 := by simpa using hb6x
  clear hb6x
  have hB6 := b_then hBW hb6
  have bA6 := BA.out.below hb6
  have bB6 := BB.out.below hb6
  have z4 := bA6.frozen 4
  have z5 := bA6.frozen 5
  have x4 := bA6.cell 4
  have x5 := bA6.cell 5
  simp at x4 x5
  have hl6 := bA6.lt
  have hm6 := bB6.lt
  clear hb6 hBW BA BB
  go_wp2_with (fail)
  refine hide3 (K := fun W' => Calls Tryz.prog 41 #[.int .i64 v, .int .i64 u] W' _) (fun W' => Below w.heap.size w W' ∧ Blk W' w5.heap.size 25 #[.string ⟨#[115, 49]⟩, .int .i64 0, .string ⟨#[120]⟩, .string ⟨#[]⟩, .string (iS r.num), .string (nS r.den), .string ⟨#[48]⟩, .string ⟨#[49]⟩, .int .i64 5, .int .i64 5, .int .i64 5] ∧ Blk W' (w5.heap.size + 1) 25 #[.string ⟨#[115, 49]⟩, .int .i64 0, .string ⟨#[120]⟩, .string ⟨#[]⟩, .string ⟨#[50]⟩, .string ⟨#[49]⟩, .string ⟨#[48]⟩, .string ⟨#[49]⟩, .int .i64 5, .int .i64 5, .int .i64 5]) ⟨b_set (b_set hB6 hw5 _) hw5 _, (bA6.set_ 4 (.string (iS r.num))).set_ 5 (.string (nS r.den)), (bB6.far (by simp) _).far (by simp) _⟩ ?_
  rintro T ⟨hBT, bAT, bBT⟩
  have BA := Lib.hid bAT
  have BB := Lib.hid bBT
  clear hB6 bA6 bB6 z4 z5 x4 x5 hl6 hm6 bAT bBT
  refine (hO2 T).mono ?_
  rintro e w7 ⟨rfl, hb7⟩
  have hB7 := b_then hBT hb7
  have bA7 := BA.out.below hb7
  have bB7 := BB.out.below hb7
  have z4 := bB7.frozen 4
  have z5 := bB7.frozen 5
  have hl7 := bA7.lt
  have hm7 := bB7.lt
  have ca0 := bA7.cell 0
  have ca1 := bA7.cell 1
  have ca2 := bA7.cell 2
  have ca3 := bA7.cell 3
  have ca4 := bA7.cell 4
  have ca5 := bA7.cell 5
  have ca6 := bA7.cell 6
  have ca7 := bA7.cell 7
  have ca8 := bA7.cell 8
  have ca9 := bA7.cell 9
  have ca10 := bA7.cell 10
  have cb0 := bB7.cell 0
  have cb1 := bB7.cell 1
  have cb2 := bB7.cell 2
  have cb3 := bB7.cell 3
  have cb4 := bB7.cell 4
  have cb5 := bB7.cell 5
  have cb6 := bB7.cell 6
  have cb7 := bB7.cell 7
  have cb8 := bB7.cell 8
  have cb9 := bB7.cell 9
  have cb10 := bB7.cell 10
  simp at ca0 cb0 ca1 cb1 ca2 cb2 ca3 cb3 ca4 cb4 ca5 cb5 ca6 cb6 ca7 cb7 ca8 cb8 ca9 cb9 ca10 cb10
  have hne : ¬ w5.heap.size = w5.heap.size + 1 := by omega
  clear hb7 hBT BA BB
  go_wp2_with (go_at_call 37; (with_reducible refine (hA1 _ w7.heap.size ?_ ?_).mono ?_); (· exact b_alloc (b_set (b_set hB7 hw5' _) hw5' _) _); (· exact rd_blk (z := 11) (n := 2) (l := [splR (enc r), splR (enc s)]) (by omega) Ac.cs_length (blk_new_at (by simp)) rfl rfl (by omega)); rintro e w8 ⟨B8, k8, rfl, R8, hb8⟩; revert R8 hb8)
  intro R8 hb8x
  have hBX : Below w.heap.size w (((w7.setCell ⟨w5.heap.size + 1, 4, none⟩ (.string (iS s.num))).setCell ⟨w5.heap.size + 1, 5, none⟩ (.string (nS s.den))).alloc (.cells (#[.string ⟨#[115, 49]⟩, .int .i64 0, .string ⟨#[120]⟩, .string ⟨#[]⟩, .string (iS r.num), .string (nS r.den), .string ⟨#[48]⟩, .string ⟨#[49]⟩, .int .i64 5, .int .i64 5, .int .i64 5] ++ #[.string ⟨#[115, 49]⟩, .int .i64 0, .string ⟨#[120]⟩, .string ⟨#[]⟩, .string (iS s.num), .string (nS s.den), .string ⟨#[48]⟩, .string ⟨#[49]⟩, .int .i64 5, .int .i64 5, .int .i64 5]) 25)) := b_alloc (b_set (b_set hB7 hw5' _) hw5' _) _
  have hB8 : Below w.heap.size w w8 := by
    refine b_then hBX ?_
    simpa using hb8x
  have bA8 : Blk w8 w5.heap.size 25 #[.string ⟨#[115, 49]⟩, .int .i64 0, .string ⟨#[120]⟩, .string ⟨#[]⟩, .string (iS r.num), .string (nS r.den), .string ⟨#[48]⟩, .string ⟨#[49]⟩, .int .i64 5, .int .i64 5, .int .i64 5] := by
    refine ((((bA7.far (by simp) (.string (iS s.num))).far (by simp) (.string (nS s.den))).alloc (.cells (#[.string ⟨#[115, 49]⟩, .int .i64 0, .string ⟨#[120]⟩, .string ⟨#[]⟩, .string (iS r.num), .string (nS r.den), .string ⟨#[48]⟩, .string ⟨#[49]⟩, .int .i64 5, .int .i64 5, .int .i64 5] ++ #[.string ⟨#[115, 49]⟩, .int .i64 0, .string ⟨#[120]⟩, .string ⟨#[]⟩, .string (iS s.num), .string (nS s.den), .string ⟨#[48]⟩, .string ⟨#[49]⟩, .int .i64 5, .int .i64 5, .int .i64 5]) 25)) : Blk (((w7.setCell ⟨w5.heap.size + 1, 4, none⟩ (.string (iS s.num))).setCell ⟨w5.heap.size + 1, 5, none⟩ (.string (nS s.den))).alloc (.cells (#[.string ⟨#[115, 49]⟩, .int .i64 0, .string ⟨#[120]⟩, .string ⟨#[]⟩, .string (iS r.num), .string (nS r.den), .string ⟨#[48]⟩, .string ⟨#[49]⟩, .int .i64 5, .int .i64 5, .int .i64 5] ++ #[.string ⟨#[115, 49]⟩, .int .i64 0, .string ⟨#[120]⟩, .string ⟨#[]⟩, .string (iS s.num), .string (nS s.den), .string ⟨#[48]⟩, .string ⟨#[49]⟩, .int .i64 5, .int .i64 5, .int .i64 5]) 25)) w5.heap.size 25 #[.string ⟨#[115, 49]⟩, .int .i64 0, .string ⟨#[120]⟩, .string ⟨#[]⟩, .string (iS r.num), .string (nS r.den), .string ⟨#[48]⟩, .string ⟨#[49]⟩, .int .i64 5, .int .i64 5, .int .i64 5]).below ?_
    simpa using hb8x
  have hX8 := R8
  have da0 := bA8.cell 0
  have da1 := bA8.cell 1
  have da2 := bA8.cell 2
  have da3 := bA8.cell 3
  have da4 := bA8.cell 4
  have da5 := bA8.cell 5
  have da6 := bA8.cell 6
  have da7 := bA8.cell 7
  have da8 := bA8.cell 8
  have da9 := bA8.cell 9
  have da10 := bA8.cell 10
  simp at da0 da1 da2 da3 da4 da5 da6 da7 da8 da9 da10
  have hl8 := bA8.lt
  clear hb8x hBX bA7 bB7 z4 z5 hl7 hm7 hne hB7 ca0 cb0 ca1 cb1 ca2 cb2 ca3 cb3 ca4 cb4 ca5 cb5 ca6 cb6 ca7 cb7 ca8 cb8 ca9 cb9 ca10 cb10 hA1 hO1 hO2 hX8
  go_wp2_with (go_at_call 37; (with_reducible refine (hA2 _ w8.heap.size ?_ ?_).mono ?_); (· exact b_alloc hB8 _); (· exact rd_blk (z := 11) (n := 2) (l := [splR (enc r), splR (enc r)]) (by omega) Ac.cs_length (blk_new_at (by simp)) rfl rfl (by omega)); rintro e w9 ⟨B9, k9, rfl, R9, hb9⟩; revert R9 hb9)
  intro R9 hb9x
  have hY9 : Below w8.heap.size w8 w9 := by
    have h1 : Below w8.heap.size w8 (w8.alloc (.cells (#[.string ⟨#[115, 49]⟩, .int .i64 0, .string ⟨#[120]⟩, .string ⟨#[]⟩, .string (iS r.num), .string (nS r.den), .string ⟨#[48]⟩, .string ⟨#[49]⟩, .int .i64 5, .int .i64 5, .int .i64 5] ++ #[.string ⟨#[115, 49]⟩, .int .i64 0, .string ⟨#[120]⟩, .string ⟨#[]⟩, .string (iS r.num), .string (nS r.den), .string ⟨#[48]⟩, .string ⟨#[49]⟩, .int .i64 5, .int .i64 5, .int .i64 5]) 25)) := b_alloc (Below.refl _ _) _
    refine b_then h1 ?_
    simpa using hb9x
  have hB9 := b_then hB8 hY9
  have BA9 := Lib.hid (bA8.below hY9)
  have hS := fun W (h : Below w9.heap.size w9 W) => r12_sameT (c := k8) (d := c) W ((R8.below hY9).below h) (hx.below (b_then hB9 h))
  clear hb9x hY9 bA8 hl8 da0 da1 da2 da3 da4 da5 da6 da7 da8 da9 da10 hA2 R8 hB8
  cases hg' : fget xs ⟨#[120]⟩ 5 with
  | none =>
    rw [hg'] at hGl hGy
    simp only [Option.map_none, optR_none] at hGl hGy
    clear hg'
    go_wp2_with (first
      | (go_at_call 39; (with_reducible refine (hGl w9 hB9).mono ?_); rintro e w10 ⟨rfl, hb10⟩; obtain ⟨hc10, hf10⟩ := bcell hb10; have hs10 := hb10.size)
      | (go_at_call 39; (with_reducible refine (hGy _ B9 k9 (R9.below (b_alloc hb10 _))).mono ?_); rintro e w11 ⟨rfl, hb11⟩; revert hb11))
    intro hb11x
    have hb11 : Below (w10.alloc (.cells #[.string ⟨#[]⟩, .string ⟨#[]⟩] 23)).heap.size (w10.alloc (.cells #[.string ⟨#[]⟩, .string ⟨#[]⟩] 23)) w11 := by simpa using hb11x
    have hX : Below w9.heap.size w9 (w11.alloc (.cells #[.string ⟨#[]⟩, .string ⟨#[]⟩] 23)) := b_alloc (b_then (b_alloc hb10 _) hb11) _
    clear hb10 hc10 hf10 hs10 hb11x hb11 hGl hGy
    go_wp2
    refine hide3 (K := fun W' => _) (fun W' => Below w9.heap.size w9 W') hX ?_
    rintro X hBX
    clear hX
    (refine wp_region_after (by kernel_rfl) (by kernel_rfl) ?_; (repeat (first | go_big_quiet_skip | (go_big_quiet_want; go_big_quiet_op; first | go_big_quiet_on | (apply Exists.intro; refine ⟨fun _ => ?_, ?_⟩; (focus ((go_at_call 34; with_reducible exact Calls.after (hS _ (b_then hBX (After.h _)))))); go_big_quiet_on)))); refine wpQuiet_nil ?_; rintro w13 ⟨⟨_, hb13⟩, rfl⟩; (try dsimp only); obtain ⟨hc13, hf13⟩ := bcell hb13; have hs13 := hb13.size; (try simp at hs13))
    go_wp2
    go_ret
    exact ⟨rfl, b_then (b_then hB9 hBX) hb13⟩
  | some qq =>
    obtain ⟨pp, rfl, hpp⟩ := fget_enc (fun f hf => fxr_mono (HF1.out f hf) (show 40 ≤ 1000 by omega)) hg'
    rw [hg'] at hGl hGy
    simp only [Option.map_some, dec_enc, optR_enc] at hGl hGy
    have hM1 := fun W => r3_mul r r W (rsmall_mono hrs (by omega)) (rsmall_mono hrs (by omega))
    have hM2 := fun W => r3_mul (r * r) pp W (rsmall_mono (rsmall_mul hrs hrs) (by omega)) (rsmall_mono hpp (by omega))
    rw [Rat.mul_assoc r r pp] at hM2
    simp only [enc_v] at hM1 hM2
    clear hg' hpp hrs
    generalize r * (r * pp) = tt at *
    generalize r * r = rr at *
    go_wp2_with (first
      | (go_at_call 39; (with_reducible refine (hGl w9 hB9).mono ?_); rintro e w10 ⟨rfl, hb10⟩; obtain ⟨hc10, hf10⟩ := bcell hb10; have hs10 := hb10.size)
      | (go_at_call 39; (with_reducible refine (hGy _ B9 k9 (R9.below (b_alloc hb10 _))).mono ?_); rintro e w11 ⟨rfl, hb11⟩; revert hb11))
    intro hb11x
    have hb11 : Below (w10.alloc (.cells #[.string (iS pp.num), .string (nS pp.den)] 23)).heap.size (w10.alloc (.cells #[.string (iS pp.num), .string (nS pp.den)] 23)) w11 := by simpa using hb11x
    have hX : Below w9.heap.size w9 (w11.alloc (.cells #[.string (iS tt.num), .string (nS tt.den)] 23)) := b_alloc (b_then (b_alloc hb10 _) hb11) _
    have bP := ((Blk.new w10 23 #[.string (iS pp.num), .string (nS pp.den)]).below hb11).alloc (.cells #[.string (iS tt.num), .string (nS tt.den)] 23)
    have bT := Blk.new w11 23 #[.string (iS tt.num), .string (nS tt.den)]
    clear hb10 hc10 hf10 hs10 hb11x hb11 hGl hGy
    go_wp2
    refine hide3 (K := fun W' => _) (fun W' => Below w9.heap.size w9 W' ∧ Blk W' w10.heap.size 23 #[.string (iS pp.num), .string (nS pp.den)] ∧ Blk W' w11.heap.size 23 #[.string (iS tt.num), .string (nS tt.den)]) ⟨hX, bP, bT⟩ ?_
    rintro X ⟨hBX, bPX, bTX⟩
    have bAX := BA9.out.below hBX
    have y1 := fun (y : After X) => (bPX.below y.h).cell 0
    have y2 := fun (y : After X) => (bPX.below y.h).cell 1
    have y3 := fun (y : After X) => (bTX.below y.h).cell 0
    have y4 := fun (y : After X) => (bTX.below y.h).cell 1
    have y5 := fun (y : After X) => (bAX.below y.h).cell 4
    have y6 := fun (y : After X) => (bAX.below y.h).cell 5
    simp at y1 y2 y3 y4 y5 y6
    clear hX bP bT bPX bTX bAX
    (refine wp_region_after (by kernel_rfl) (by kernel_rfl) ?_; (repeat (first | go_big_quiet_skip | (go_big_quiet_want; go_big_quiet_op; first | go_big_quiet_on | (apply Exists.intro; refine ⟨fun _ => ?_, ?_⟩; (focus (first | (go_at_call 34; with_reducible exact Calls.after (hS _ (b_then hBX (After.h _)))) | (go_at_call 31; with_reducible exact Calls.after (hM1 _)) | (go_at_call 31; with_reducible exact Calls.after (hM2 _)))); go_big_quiet_on)))); refine wpQuiet_nil ?_; rintro w13 ⟨⟨_, hb13⟩, rfl⟩; (try dsimp only); obtain ⟨hc13, hf13⟩ := bcell hb13; have hs13 := hb13.size; (try simp at hs13))
    go_wp2
    go_ret
    exact ⟨ret_bool (by simp), b_then (b_then hB9 hBX) hb13⟩
end Go.Proofs.YtdkpbifpafaabaaGreatDoor
