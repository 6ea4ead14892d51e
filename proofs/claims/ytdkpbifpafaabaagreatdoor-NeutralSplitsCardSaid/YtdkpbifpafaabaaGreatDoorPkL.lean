/- The law's fixed calls of packs: a fraction, the spin-off. -/
import Derived.Test.YtdkpbifpafaabaaGreatDoorPkE
import Derived.Test.YtdkpbifpafaabaaGreatDoorPkK
import Derived.Test.YtdkpbifpafaabaaGreatDoorPkV
namespace Go.Proofs.YtdkpbifpafaabaaGreatDoor
open Go.RowKit
set_option linter.unusedVariables false
set_option linter.unusedSimpArgs false

set_option maxHeartbeats 800000 in
theorem r3_one (a : Int) (d : Nat) (w : World) (ha : -9223372036854775808 ≤ a) (ha' : a ≤ 9223372036854775807) (h0 : 0 < d) (hd : d ≤ 9223372036854775807) :
    Calls Tryz.prog 41 #[.int .i64 a, .int .i64 (d : Int)] w fun e w' => e = .returned (enc (mkRat a d)).v ∧ Below w.heap.size w w' := by
  have h1 := fun W => r2_of a W ha ha'
  have h2 := fun W => r2_of (d : Int) W (by omega) (by omega)
  rw [iS_nat] at h2
  have hM := fun W => r3_make a d W (by have := ndg_i64 (n := a.natAbs) (by omega); omega) (by have := ndg_i64 (n := d) (by omega); omega) h0
  simp only [enc_v] at hM ⊢
  generalize mkRat a d = z at *
  go_enter Tryz.func41, Tryz.ntmps41
  go_wp2_with (first | (go_at_call 59; (with_reducible refine (hM _).mono ?_); rintro e w3 ⟨rfl, hb3⟩; obtain ⟨hc3, hf3⟩ := bcell hb3; have hs3 := hb3.size; (try simp at hs3); have hv3 : w.heap.size < w3.heap.size := (by omega)) | (go_at_call 63; (with_reducible refine (h2 _).mono ?_); rintro e w2 ⟨rfl, hb2⟩; obtain ⟨hc2, hf2⟩ := bcell hb2; have hs2 := hb2.size; (try simp at hs2); have hv2 : w.heap.size < w2.heap.size := (by omega)) | (go_at_call 63; (with_reducible refine (h1 _).mono ?_); rintro e w1 ⟨rfl, hb1⟩; obtain ⟨hc1, hf1⟩ := bcell hb1; have hs1 := hb1.size; (try simp at hs1); have hv1 : w.heap.size < w1.heap.size := (by omega)))
  refine bodyPost_ret (v := .agg #[.string (iS z.num), .string (nS z.den)]) ?_ rfl ⟨rfl, (by repeat (first | exact Below.refl _ _ | assumption | refine b_then ?_ (by assumption) | refine b_alloc ?_ _ | refine b_drewN ?_ _ | refine Below.drew ?_ | refine b_set ?_ (by first | exact Nat.le_refl _ | (simp; done) | (simp; omega) | omega) _))⟩
  simp [results, Tryz.results41, go_sem, hc1, hf1, hc2, hf2, hc3, hf3, hv1, hv2, hv3]
def yS : ByteArray := ⟨#[121]⟩
def p1S : ByteArray := ⟨#[112, 49]⟩
def spinA : Ac := ⟨p1S, 3, xS, yS, ⟨⟨#[49]⟩, ⟨#[50]⟩⟩, ⟨⟨#[48]⟩, ⟨#[49]⟩⟩, 0, 0, 0⟩
def mergA : Ac := ⟨p1S, 4, xS, yS, ⟨⟨#[49]⟩, ⟨#[50]⟩⟩, ⟨⟨#[50]⟩, ⟨#[49]⟩⟩, 0, 0, 0⟩
def spinL : List Pt := [⟨xS, ⟨⟨#[49]⟩, ⟨#[49]⟩⟩⟩, ⟨yS, ⟨⟨#[49]⟩, ⟨#[50]⟩⟩⟩]
def mergL : List Pt := [⟨yS, ⟨⟨#[49]⟩, ⟨#[50]⟩⟩⟩]
def spinF : List Fx := [⟨xS, 3, ⟨⟨#[56]⟩, ⟨#[49]⟩⟩⟩, ⟨yS, 3, ⟨⟨#[52]⟩, ⟨#[49]⟩⟩⟩]
theorem spin_half : enc (mkRat 1 2) = ⟨⟨#[49]⟩, ⟨#[50]⟩⟩ := by decide +kernel
theorem spin_L : pofL spinA = spinL := by decide +kernel
theorem merg_L : pofL mergA = mergL := by decide +kernel
theorem merg_C : pofC mergA = ⟨⟨#[50]⟩, ⟨#[49]⟩⟩ := by decide +kernel
theorem spin_C : pofC spinA = ⟨⟨#[48]⟩, ⟨#[49]⟩⟩ := by decide +kernel
theorem spin_V : pval spinL ⟨⟨#[48]⟩, ⟨#[49]⟩⟩ spinF 3 = some ⟨⟨#[49, 48]⟩, ⟨#[49]⟩⟩ := by decide +kernel
theorem spin_N : pval spinL ⟨⟨#[48]⟩, ⟨#[49]⟩⟩ (spinF.take 1) 3 = none := by decide +kernel
theorem spin_kx : pkeeps spinL xS = true := by decide +kernel
theorem spin_ky : pkeeps spinL yS = false := by decide +kernel
theorem merg_kx : pkeeps mergL xS = false := by decide +kernel
theorem spin_m : pkmay spinL ⟨⟨#[48]⟩, ⟨#[49]⟩⟩ = true := by decide +kernel
theorem none_m : pkmay [] rzero = false := by decide +kernel
theorem ptq_all {k : Nat} {l : List Pt} (h : (l.all fun x => decide (x.asset.size ≤ 9223372036854775807) && (decide (x.ratio.num.size ≤ k) && decide (x.ratio.den.size ≤ k))) = true) : ∀ x ∈ l, ptq k x := fun x hx => by
  have := List.all_eq_true.1 h x hx
  simp only [Bool.and_eq_true, decide_eq_true_eq] at this
  exact ⟨this.1, this.2.1, this.2.2⟩
theorem fxr_all {k : Nat} {l : List Fx} (h : (l.all fun x => decide (x.asset.size ≤ 9000000000) && (decide (x.p.num.size ≤ k) && decide (x.p.den.size ≤ k))) = true) : ∀ x ∈ l, fxr k x := fun x hx => by
  have := List.all_eq_true.1 h x hx
  simp only [Bool.and_eq_true, decide_eq_true_eq] at this
  exact ⟨this.1, this.2.1, this.2.2⟩
abbrev spinV : Array Value := #[.string ⟨#[112, 49]⟩, .int .i64 3, .string ⟨#[120]⟩, .string ⟨#[121]⟩, .string ⟨#[49]⟩, .string ⟨#[50]⟩, .string ⟨#[48]⟩, .string ⟨#[49]⟩, .int .i64 0, .int .i64 0, .int .i64 0]
abbrev mergV : Array Value := #[.string ⟨#[112, 49]⟩, .int .i64 4, .string ⟨#[120]⟩, .string ⟨#[121]⟩, .string ⟨#[49]⟩, .string ⟨#[50]⟩, .string ⟨#[50]⟩, .string ⟨#[49]⟩, .int .i64 0, .int .i64 0, .int .i64 0]
set_option maxHeartbeats 800000 in
theorem c_spin (w : World) : Calls Tryz.prog 42 #[] w fun e w' => e = .returned (.agg #[.string ⟨#[112, 49]⟩, .int .i64 3, .string ⟨#[120]⟩, .string ⟨#[121]⟩, .string ⟨#[49]⟩, .string ⟨#[50]⟩, .string ⟨#[48]⟩, .string ⟨#[49]⟩, .int .i64 0, .int .i64 0, .int .i64 0]) ∧ Below w.heap.size w w' := by
  have h1 : ∀ W, Calls Tryz.prog 41 #[.int .i64 1, .int .i64 2] W fun e w' => e = .returned (.agg #[.string ⟨#[49]⟩, .string ⟨#[50]⟩]) ∧ Below W.heap.size W w' := fun W => r3_one 1 2 W (by omega) (by omega) (by omega) (by omega)
  have h2 : ∀ W, Calls Tryz.prog 28 #[.int .i64 0] W fun e w' => e = .returned (.agg #[.string ⟨#[48]⟩, .string ⟨#[49]⟩]) ∧ Below W.heap.size W w' := fun W => r3_of 0 W (by omega) (by omega)
  go_enter Tryz.func42, Tryz.ntmps42
  go_wp2_with (first | (go_at_call 41; (with_reducible refine (h1 _).mono ?_); rintro e w1 ⟨rfl, hb1⟩; obtain ⟨hc1, hf1⟩ := bcell hb1; have hs1 := hb1.size; (try simp at hs1); have hv1 : w.heap.size < w1.heap.size := (by omega)) | (go_at_call 28; (with_reducible refine (h2 _).mono ?_); rintro e w2 ⟨rfl, hb2⟩; obtain ⟨hc2, hf2⟩ := bcell hb2; have hs2 := hb2.size; (try simp at hs2); have hv2 : w.heap.size < w2.heap.size := (by omega)))
  have hB2 : Below w.heap.size w w2 := b_then (b_then (b_alloc (Below.refl _ _) _) hb1) hb2
  refine bodyPost_ret (v := .agg #[.string ⟨#[112, 49]⟩, .int .i64 3, .string ⟨#[120]⟩, .string ⟨#[121]⟩, .string ⟨#[49]⟩, .string ⟨#[50]⟩, .string ⟨#[48]⟩, .string ⟨#[49]⟩, .int .i64 0, .int .i64 0, .int .i64 0]) ?_ rfl ?_
  · simp [results, Tryz.results42, go_sem, hc1, hf1, hc2, hf2, hv1, hv2]
  · refine ⟨rfl, ?_⟩
    repeat (with_reducible refine b_set ?_ (Nat.le_refl _) _)
    exact hB2
/-- A pack of so many parts. -/
def PackOf (l : List Pt) (m : Nat) (c0 c1 : ByteArray) (w : World) (e : Ending) (w' : World) : Prop := ∃ B k, e = .returned (.agg #[.slice B m k, .string c0, .string c1]) ∧ Rd Pt.cs 3 w' B m l ∧ Below w.heap.size w w'
theorem PackIs.of {l : List Pt} {m : Nat} {c : RT} {c0 c1 : ByteArray} {w w' : World} {e : Ending} (h : PackIs l c w e w') (hm : l.length = m) (hc : c = ⟨c0, c1⟩) : PackOf l m c0 c1 w e w' := by
  subst hm; subst hc; exact h
theorem of_spin (W : World) (hg : Glob W) : Calls Tryz.prog 20 #[.agg #[.string ⟨#[112, 49]⟩, .int .i64 3, .string ⟨#[120]⟩, .string ⟨#[121]⟩, .string ⟨#[49]⟩, .string ⟨#[50]⟩, .string ⟨#[48]⟩, .string ⟨#[49]⟩, .int .i64 0, .int .i64 0, .int .i64 0]] W (PackOf spinL 2 ⟨#[48]⟩ ⟨#[49]⟩ W) :=
  (p_of p1S 3 xS yS ⟨#[49]⟩ ⟨#[50]⟩ ⟨#[48]⟩ ⟨#[49]⟩ 0 0 0 W hg (by decide) (by decide) (by decide) (by decide) (by decide) (by decide) (by decide)).mono fun e w' h => by
    have h' : PackIs (pofL spinA) (pofC spinA) W e w' := h
    rw [spin_L] at h'
    exact h'.of rfl spin_C
theorem of_merg (W : World) (hg : Glob W) : Calls Tryz.prog 20 #[.agg #[.string ⟨#[112, 49]⟩, .int .i64 4, .string ⟨#[120]⟩, .string ⟨#[121]⟩, .string ⟨#[49]⟩, .string ⟨#[50]⟩, .string ⟨#[50]⟩, .string ⟨#[49]⟩, .int .i64 0, .int .i64 0, .int .i64 0]] W (PackOf mergL 1 ⟨#[50]⟩ ⟨#[49]⟩ W) :=
  (p_of p1S 4 xS yS ⟨#[49]⟩ ⟨#[50]⟩ ⟨#[50]⟩ ⟨#[49]⟩ 0 0 0 W hg (by decide) (by decide) (by decide) (by decide) (by decide) (by decide) (by decide)).mono fun e w' h => by
    have h' : PackIs (pofL mergA) (pofC mergA) W e w' := h
    rw [merg_L] at h'
    exact h'.of rfl merg_C
theorem Rd.take1 {α : Type} {e : α → List Value} {z : Nat} {w : World} {A : Option Addr} {n : Nat} {l : List α} (h : Rd e z w A (n + 1) l) : Rd e z w A 1 (l.take 1) := by
  obtain ⟨h1, h2, h3⟩ := h
  refine ⟨by rw [List.length_take]; omega, by omega, fun _ => ?_⟩
  obtain ⟨ad, e1, e2, e3⟩ := h3 (by omega)
  refine ⟨ad, e1, e2, fun j x hj => e3 j x ?_⟩
  rw [List.getElem?_take] at hj
  split at hj
  · exact hj
  · cases hj
def Fixed16Ok : Prop := ∀ w : World, Glob w → Calls Tryz.prog 16 #[] w fun e w' => e = .returned (.bool true) ∧ Below w.heap.size w w'
set_option maxRecDepth 100000 in
set_option maxHeartbeats 4000000 in
theorem p_fixed16 : Fixed16Ok := by
  intro w hg
  have hS := fun W => c_spin W
  have hO1 := fun W (h : Below w.heap.size w W) => of_spin W (hg.below h)
  have h8 : ∀ W, Calls Tryz.prog 28 #[.int .i64 8] W fun e w' => e = .returned (.agg #[.string ⟨#[56]⟩, .string ⟨#[49]⟩]) ∧ Below W.heap.size W w' := fun W => r3_of 8 W (by omega) (by omega)
  have h4 : ∀ W, Calls Tryz.prog 28 #[.int .i64 4] W fun e w' => e = .returned (.agg #[.string ⟨#[52]⟩, .string ⟨#[49]⟩]) ∧ Below W.heap.size W w' := fun W => r3_of 4 W (by omega) (by omega)
  have hV1 : ∀ B k g W, Below w.heap.size w W → Rd Pt.cs 3 W B 2 spinL → Rd Fx.cs 4 W (some ⟨g, 0, none⟩) 2 spinF → Calls Tryz.prog 17 #[.agg #[.slice B 2 k, .string ⟨#[48]⟩, .string ⟨#[49]⟩], .slice (some ⟨g, 0, none⟩) 2 2, .int .i64 3] W fun e w' => e = .returned (.tuple #[.agg #[.string ⟨#[49, 48]⟩, .string ⟨#[49]⟩], .bool true]) ∧ Below W.heap.size W w' := fun B k g W h hr hf =>
    (p_value (cf := 2) ⟨#[48]⟩ ⟨#[49]⟩ 3 W (hg.below h) hr (by omega) (ptq_all (by decide)) (by decide) (by decide) hf (by omega) (fxr_all (by decide))).mono fun e w' he => by rw [spin_V] at he; exact he
  have hV2 : ∀ B k g W, Below w.heap.size w W → Rd Pt.cs 3 W B 2 spinL → Rd Fx.cs 4 W (some ⟨g, 0, none⟩) 1 (spinF.take 1) → Calls Tryz.prog 17 #[.agg #[.slice B 2 k, .string ⟨#[48]⟩, .string ⟨#[49]⟩], .slice (some ⟨g, 0, none⟩) 1 2, .int .i64 3] W fun e w' => e = .returned (.tuple #[.agg #[.string ⟨#[]⟩, .string ⟨#[]⟩], .bool false]) ∧ Below W.heap.size W w' := fun B k g W h hr hf =>
    (p_value (cf := 2) ⟨#[48]⟩ ⟨#[49]⟩ 3 W (hg.below h) hr (by omega) (ptq_all (by decide)) (by decide) (by decide) hf (by omega) (fxr_all (by decide))).mono fun e w' he => by rw [spin_N] at he; exact he
  go_enter Tryz.func16, Tryz.ntmps16
  go_wp2_with (first
    | (go_at_call 42; (with_reducible refine (hS _).mono ?_); rintro e w1 ⟨rfl, hb1⟩; obtain ⟨hc1, hf1⟩ := bcell hb1; have hs1 := hb1.size; (try simp at hs1))
    | (go_at_call 20; (with_reducible refine (hO1 _ (by repeat (first | exact Below.refl _ _ | assumption | refine b_then ?_ (by assumption) | refine b_alloc ?_ _ | refine b_drewN ?_ _ | refine Below.drew ?_ | refine b_set ?_ (by first | exact Nat.le_refl _ | (simp; done) | (simp; omega) | omega) _))).mono ?_); rintro e w2 ⟨B, k, rfl, hR, hb2⟩; obtain ⟨hc2, hf2⟩ := bcell hb2; have hs2 := hb2.size; (try simp at hs2); have HR := Lib.hid hR; clear hR)
    | (go_at_call 28; (with_reducible refine (h8 _).mono ?_); rintro e w3 ⟨rfl, hb3⟩; obtain ⟨hc3, hf3⟩ := bcell hb3; have hs3 := hb3.size; (try simp at hs3); have hv3 : w2.heap.size < w3.heap.size := (by omega))
    | (go_at_call 28; (with_reducible refine (h4 _).mono ?_); rintro e w4 ⟨rfl, hb4⟩; obtain ⟨hc4, hf4⟩ := bcell hb4; have hs4 := hb4.size; (try simp at hs4); have hv4 : w2.heap.size < w4.heap.size := (by omega))
    | (go_at_call 17; (with_reducible refine (hV1 B k w4.heap.size _ ?_ ?_ ?_).mono ?_); (· exact (by repeat (first | exact Below.refl _ _ | assumption | refine b_then ?_ (by assumption) | refine b_alloc ?_ _ | refine b_drewN ?_ _ | refine Below.drew ?_ | refine b_set ?_ (by first | exact Nat.le_refl _ | (simp; done) | (simp; omega) | omega) _))); (· exact HR.out.below (by repeat (first | exact Below.refl _ _ | assumption | refine b_then ?_ (by assumption) | refine b_alloc ?_ _ | refine b_drewN ?_ _ | refine Below.drew ?_ | refine b_set ?_ (by first | exact Nat.le_refl _ | (simp; done) | (simp; omega) | omega) _))); (· exact rd_blk (z := 4) (n := 2) (l := spinF) (by omega) Fx.cs_length (blk_new_at rfl) rfl rfl (by omega)); rintro e w5 ⟨rfl, hb5⟩; revert hb5))
  intro hb5x
  have hb5 : Below (w4.alloc (.cells #[.string ⟨#[120]⟩, .int .i64 3, .string ⟨#[56]⟩, .string ⟨#[49]⟩, .string ⟨#[121]⟩, .int .i64 3, .string ⟨#[52]⟩, .string ⟨#[49]⟩] 47)).heap.size (w4.alloc (.cells #[.string ⟨#[120]⟩, .int .i64 3, .string ⟨#[56]⟩, .string ⟨#[49]⟩, .string ⟨#[121]⟩, .int .i64 3, .string ⟨#[52]⟩, .string ⟨#[49]⟩] 47)) w5 := by simpa using hb5x
  clear hb5x
  have hs5 := hb5.size
  simp at hs5
  have hB5 : Below w.heap.size w w5 := (by repeat (first | exact Below.refl _ _ | assumption | refine b_then ?_ (by assumption) | refine b_alloc ?_ _ | refine b_drewN ?_ _ | refine Below.drew ?_ | refine b_set ?_ (by first | exact Nat.le_refl _ | (simp; done) | (simp; omega) | omega) _))
  have R5 := HR.out.below (show Below w2.heap.size w2 w5 from b_then (b_alloc (b_then (b_then (b_alloc (Below.refl _ _) _) hb3) hb4) _) hb5)
  have F5 := (rd_blk (z := 4) (n := 2) (l := spinF) (by omega) Fx.cs_length (blk_new_at (W := w4) (T := 47) (cs := #[.string ⟨#[120]⟩, .int .i64 3, .string ⟨#[56]⟩, .string ⟨#[49]⟩, .string ⟨#[121]⟩, .int .i64 3, .string ⟨#[52]⟩, .string ⟨#[49]⟩]) rfl) rfl rfl (by omega)).below hb5
  have P5 : Blk w5 w2.heap.size 28 #[.slice B 2 k, .string ⟨#[48]⟩, .string ⟨#[49]⟩] := Blk.below (Blk.alloc (Blk.below (Blk.below (Blk.new w2 _ _) hb3) hb4) _) hb5
  clear hb1 hc1 hf1 hs1 hb2 hc2 hf2 hs2 hb3 hc3 hf3 hs3 hb4 hc4 hf4 hs4 hb5 HR hv3 hv4
  go_wp2
  refine hide3 (K := fun W' => _) (fun W' => Below w.heap.size w W' ∧ Rd Pt.cs 3 W' B 2 spinL ∧ Rd Fx.cs 4 W' (some ⟨w4.heap.size, 0, none⟩) 2 spinF ∧ Blk W' w2.heap.size 28 #[.slice B 2 k, .string ⟨#[48]⟩, .string ⟨#[49]⟩] ∧ Blk W' w5.heap.size 23 #[.string ⟨#[49, 48]⟩, .string ⟨#[49]⟩]) ⟨b_alloc hB5 _, R5.below (b_alloc (Below.refl _ _) _), F5.below (b_alloc (Below.refl _ _) _), P5.alloc _, Blk.new _ _ _⟩ ?_
  rintro X ⟨hBX, RX, FX, PX, VX⟩
  clear hB5 R5 F5 P5 hs5
  have x0 := fun (x : After X) (y : After x.W) => (PX.below (b_then x.h y.h)).cell 0
  have x1 := fun (x : After X) (y : After x.W) => (PX.below (b_then x.h y.h)).cell 1
  have x2 := fun (x : After X) (y : After x.W) => (PX.below (b_then x.h y.h)).cell 2
  simp at x0 x1 x2
  have F1 : Rd Fx.cs 4 X (some ⟨w4.heap.size, 0, none⟩) 1 (spinF.take 1) := Rd.take1 FX
  have HFX := Lib.hid F1
  have HRX := Lib.hid RX
  clear F1 RX FX
  (refine wp_region_boxed (T := 23) (A := ?boxA6) (u1 := .string ?boxU6) (u2 := .string ?boxV6) (z1 := .string ⟨#[]⟩) (z2 := .string ⟨#[]⟩) 7 8 5 5 27 (by kernel_rfl) (fun g => by kernel_rfl) (fun g x => ?boxH6) ⟨by kernel_rfl, by kernel_rfl, ⟨_, rfl, rfl, rfl, fun a W => run_alloc_rat rfl⟩, ⟨_, rfl, rfl, rfl, fun a W g h1 h2 hB => run_store_rat rfl h1 h2 hB⟩, ⟨_, rfl, rfl⟩, by kernel_rfl, by kernel_rfl, by decide, ?box16, ?box26, ?box36, ?box46⟩ (by decide) (by decide); (case boxH6 => (simp only [boxed, List.modify_succ_cons, List.modify_zero_cons, repA, repS]; (have hxs := x.h.size); (try simp at hxs); (repeat (first | go_big_quiet_skip | (go_big_quiet_want; go_big_quiet_op; first | go_big_quiet_on | (apply Exists.intro; refine ⟨fun _ => ?_, ?_⟩; (focus ((go_at_call 17; with_reducible exact Calls.after (hV2 B k w4.heap.size _ (b_then hBX (b_then x.h (After.h _))) (HRX.out.below (b_then x.h (After.h _))) (HFX.out.below (b_then x.h (After.h _))))))); go_big_quiet_on)))); refine wpQuiet_nil ?_; rfl)); (case box16 => exact fun g => rfl); (case box26 => first | decide | simp); (case box36 => intro g; first | rfl | (simp only [List.getElem?_toArray, List.getElem?_cons_succ, List.getElem?_cons_zero]; rfl) | (simp; exact ⟨rfl, rfl⟩)); rintro g6 w6 hg6 hb6 D6; (try dsimp only); obtain ⟨hc6, hf6⟩ := bcell hb6; have hs6 := hb6.size; (try simp at hs6))
  have hB6 : Below w.heap.size w w6 := b_then hBX hb6
  have hz6 := hB6.size
  have P6 := PX.below hb6
  have V6 := VX.below hb6
  have R6 := HRX.out.below hb6
  have hO2 := fun W (h : Below w.heap.size w W) => of_merg W (hg.below h)
  have h2 : ∀ W, Calls Tryz.prog 28 #[.int .i64 2] W fun e w' => e = .returned (.agg #[.string ⟨#[50]⟩, .string ⟨#[49]⟩]) ∧ Below W.heap.size W w' := fun W => r3_of 2 W (by omega) (by omega)
  have HP6 := Lib.hid P6
  have HV6 := Lib.hid V6
  have HR6 := Lib.hid R6
  clear P6 V6 R6 x0 x1 x2 D6 PX VX hb6 hc6 hf6 hs6 hBX HRX HFX hO1 hV1 hV2
  go_wp2_with (first
    | (go_at_call 42; (with_reducible refine (hS _).mono ?_); rintro e w7 ⟨rfl, hb7⟩; obtain ⟨hc7, hf7⟩ := bcell hb7; have hs7 := hb7.size; (try simp at hs7))
    | (go_at_call 28; (with_reducible refine (h2 _).mono ?_); rintro e w8 ⟨rfl, hb8⟩; obtain ⟨hc8, hf8⟩ := bcell hb8; have hs8 := hb8.size; (try simp at hs8); have hv8 : w7.heap.size < w8.heap.size := (by omega))
    | (go_at_call 20; (with_reducible refine (hO2 _ ?_).mono ?_); (· exact (by repeat (first | exact Below.refl _ _ | assumption | refine b_then ?_ (by assumption) | refine b_alloc ?_ _ | refine b_drewN ?_ _ | refine Below.drew ?_ | refine b_set ?_ (by first | exact Nat.le_refl _ | (simp; done) | (simp; omega) | omega) _))); rintro e w9 ⟨B9, k9, rfl, R9, hb9⟩; revert R9 hb9))
  intro R9 hb9x
  have hb9 : Below ((w8.setCell ⟨w7.heap.size, 6, none⟩ (.string ⟨#[50]⟩)).setCell ⟨w7.heap.size, 7, none⟩ (.string ⟨#[49]⟩)).heap.size ((w8.setCell ⟨w7.heap.size, 6, none⟩ (.string ⟨#[50]⟩)).setCell ⟨w7.heap.size, 7, none⟩ (.string ⟨#[49]⟩)) w9 := by simpa using hb9x
  clear hb9x
  have hX9 : Below w6.heap.size w6 w9 := b_then (b_set (b_set (b_then (b_alloc hb7 _) hb8) hs7 _) hs7 _) hb9
  have hB9 : Below w.heap.size w w9 := b_then hB6 hX9
  have P9 := HP6.out.below hX9
  have V9 := HV6.out.below hX9
  have RR9 := HR6.out.below hX9
  clear hb7 hb8 hb9 hX9 hc7 hf7 hs7 hc8 hf8 hs8 hv8 HP6 HV6 HR6 hz6 hB6
  go_wp2
  refine hide3 (K := fun W' => _) (fun W' => Below w.heap.size w W' ∧ Rd Pt.cs 3 W' B 2 spinL ∧ Rd Pt.cs 3 W' B9 1 mergL ∧ Blk W' w2.heap.size 28 #[.slice B 2 k, .string ⟨#[48]⟩, .string ⟨#[49]⟩] ∧ Blk W' w5.heap.size 23 #[.string ⟨#[49, 48]⟩, .string ⟨#[49]⟩] ∧ Blk W' w9.heap.size 28 #[.slice B9 1 k9, .string ⟨#[50]⟩, .string ⟨#[49]⟩]) ⟨b_alloc hB9 _, RR9.below (b_alloc (Below.refl _ _) _), R9.below (b_alloc (Below.refl _ _) _), P9.alloc _, V9.alloc _, Blk.new _ _ _⟩ ?_
  rintro Y ⟨hBY, RY, R9Y, PY, VY, QY⟩
  clear hB9 RR9 R9 P9 V9
  have h10 : ∀ W, Calls Tryz.prog 28 #[.int .i64 10] W fun e w' => e = .returned (.agg #[.string ⟨#[49, 48]⟩, .string ⟨#[49]⟩]) ∧ Below W.heap.size W w' := fun W => r3_of 10 W (by omega) (by omega)
  have kx : ∀ W, Below Y.heap.size Y W → Calls Tryz.prog 24 #[.agg #[.slice B 2 k, .string ⟨#[48]⟩, .string ⟨#[49]⟩], .string ⟨#[120]⟩] W fun e w' => e = .returned (.bool true) ∧ Below W.heap.size W w' := fun W h => (p_keeps _ _ xS W (hg.below (b_then hBY h)) (RY.below h)).mono fun e w' he => by rw [spin_kx] at he; exact he
  have ky : ∀ W, Below Y.heap.size Y W → Calls Tryz.prog 24 #[.agg #[.slice B 2 k, .string ⟨#[48]⟩, .string ⟨#[49]⟩], .string ⟨#[121]⟩] W fun e w' => e = .returned (.bool false) ∧ Below W.heap.size W w' := fun W h => (p_keeps _ _ yS W (hg.below (b_then hBY h)) (RY.below h)).mono fun e w' he => by rw [spin_ky] at he; exact he
  have km : ∀ W, Below Y.heap.size Y W → Calls Tryz.prog 24 #[.agg #[.slice B9 1 k9, .string ⟨#[50]⟩, .string ⟨#[49]⟩], .string ⟨#[120]⟩] W fun e w' => e = .returned (.bool false) ∧ Below W.heap.size W w' := fun W h => (p_keeps _ _ xS W (hg.below (b_then hBY h)) (R9Y.below h)).mono fun e w' he => by rw [merg_kx] at he; exact he
  have mm : ∀ W, Below Y.heap.size Y W → Calls Tryz.prog 22 #[.agg #[.slice B 2 k, .string ⟨#[48]⟩, .string ⟨#[49]⟩]] W fun e w' => e = .returned (.bool true) ∧ Below W.heap.size W w' := fun W h => (p_pkmay ⟨#[48]⟩ ⟨#[49]⟩ W (hg.below (b_then hBY h)) (RY.below h) (ptq_all (by decide)) (by decide) (by decide)).mono fun e w' he => by rw [spin_m] at he; exact he
  have mn : ∀ W, Below Y.heap.size Y W → Calls Tryz.prog 22 #[.agg #[.slice none 0 0, .string ⟨#[]⟩, .string ⟨#[]⟩]] W fun e w' => e = .returned (.bool false) ∧ Below W.heap.size W w' := fun W h => (p_pkmay (xs := []) ⟨#[]⟩ ⟨#[]⟩ W (hg.below (b_then hBY h)) Rd.nil (fun x hx => by cases hx) (by decide) (by decide)).mono fun e w' he => by
    have := none_m
    unfold rzero at this
    rw [this] at he; exact he
  obtain ⟨ad, a0, a1, a2, rfl, ha, hl⟩ := pt_in RY (Below.refl _ _) (show 0 < 2 by omega)
  have ha' : (⟨xS, ⟨⟨#[49]⟩, ⟨#[49]⟩⟩⟩ : Pt) = ⟨a0, ⟨a1, a2⟩⟩ := Option.some.inj ha
  injection ha' with e1 _
  subst e1
  have e0 : ∀ y : After Y, y.W.cell? ad = some (.string ⟨#[120]⟩) := fun y => (hl y.W y.h).c0
  have p0 := fun (y : After Y) => (PY.below y.h).cell 0
  have p1 := fun (y : After Y) => (PY.below y.h).cell 1
  have p2 := fun (y : After Y) => (PY.below y.h).cell 2
  have v0 := fun (y : After Y) => (VY.below y.h).cell 0
  have v1 := fun (y : After Y) => (VY.below y.h).cell 1
  have q0 := fun (y : After Y) => (QY.below y.h).cell 0
  have q1 := fun (y : After Y) => (QY.below y.h).cell 1
  have q2 := fun (y : After Y) => (QY.below y.h).cell 2
  simp at p0 p1 p2 v0 v1 q0 q1 q2
  have heq := eqRat
  clear ha hl RY R9Y PY VY QY
  (refine wp_region_after (by kernel_rfl) (by kernel_rfl) ?_; (repeat (first | go_big_quiet_skip | (go_big_quiet_want; go_big_quiet_op; first | go_big_quiet_on | (apply Exists.intro; refine ⟨fun _ => ?_, ?_⟩; (focus (first | (go_at_call 28; with_reducible exact Calls.after (h10 _)) | (go_at_call 28; with_reducible exact Calls.after (h2 _)) | (go_at_call 24; with_reducible exact Calls.after (kx _ (After.h _))) | (go_at_call 24; with_reducible exact Calls.after (ky _ (After.h _))) | (go_at_call 24; with_reducible exact Calls.after (km _ (After.h _))) | (go_at_call 22; with_reducible exact Calls.after (mm _ (After.h _))) | (go_at_call 22; with_reducible exact Calls.after (mn _ (After.h _))))); go_big_quiet_on)))); refine wpQuiet_nil ?_; rintro w10 ⟨⟨_, hb10⟩, rfl⟩; (try dsimp only); obtain ⟨hc10, hf10⟩ := bcell hb10; have hs10 := hb10.size; (try simp at hs10))
  go_wp2
  go_ret
  exact ⟨rfl, b_then hBY hb10⟩
end Go.Proofs.YtdkpbifpafaabaaGreatDoor
