/- PackTells: the walk (given the fixed calls). -/
import Derived.Test.YtdkpbifpafaabaaGreatDoorPkH
import Derived.Test.YtdkpbifpafaabaaGreatDoorPkT
import Derived.Test.YtdkpbifpafaabaaGreatDoorPkN
namespace Go.Proofs.YtdkpbifpafaabaaGreatDoor
open Go.RowKit
set_option linter.unusedVariables false
set_option linter.unusedSimpArgs false

theorem Blk.three' {w : World} {g : Nat} {t : TypeId} {a b c : Value} (h : Blk w g t #[a, b, c]) : w.cell? ⟨g, 0, none⟩ = some a ∧ w.cell? ⟨g, 1, none⟩ = some b ∧ w.cell? ⟨g, 2, none⟩ = some c := ⟨h.cell 0, h.cell 1, h.cell 2⟩
def R16OfOk : Prop := ∀ (a0 : ByteArray) (a1 : Int) (a2 a3 a4 a5 a6 a7 : ByteArray) (a8 a9 a10 : Int) (w : World), a0.size ≤ 9223372036854775807 → a2.size ≤ 9223372036854775807 → a3.size ≤ 9223372036854775807 → a4.size ≤ 400000000 → a5.size ≤ 400000000 → a6.size ≤ 400000000 → a7.size ≤ 400000000 →
    Calls Tryz.prog 21 #[.agg #[.string a0, .int .i64 a1, .string a2, .string a3, .string a4, .string a5, .string a6, .string a7, .int .i64 a8, .int .i64 a9, .int .i64 a10]] w (PackIs (pofL ⟨a0, a1, a2, a3, ⟨a4, a5⟩, ⟨a6, a7⟩, a8, a9, a10⟩) (pofC ⟨a0, a1, a2, a3, ⟨a4, a5⟩, ⟨a6, a7⟩, a8, a9, a10⟩) w)
set_option maxRecDepth 100000 in
set_option maxHeartbeats 8000000 in
theorem l_pktells (HF : Fixed16Ok) (HR : R16OfOk) (a0 : ByteArray) (a1 : Int) (a2 a3 a4 a5 a6 a7 : ByteArray) (a8 a9 a10 : Int) {A Af : Option Addr} {n c nf cf : Nat} {xs : List Pt} {fs : List Fx} (c0 c1 : ByteArray) (d : Int) (s : ByteArray) (w : World) (hg : Glob w)
    (h0 : a0.size ≤ 9223372036854775807) (h2 : a2.size ≤ 9223372036854775807) (h3 : a3.size ≤ 9223372036854775807) (h4 : a4.size ≤ 9223372036854775807) (h5 : a5.size ≤ 9223372036854775807) (h6 : a6.size ≤ 9223372036854775807) (h7 : a7.size ≤ 9223372036854775807)
    (hx : Rd Pt.cs 3 w A n xs) (hz : ∀ x ∈ xs, x.asset.size ≤ 9223372036854775807 ∧ x.ratio.num.size ≤ 9223372036854775807 ∧ x.ratio.den.size ≤ 9223372036854775807) (hc0 : c0.size ≤ 9223372036854775807) (hc1 : c1.size ≤ 9223372036854775807)
    (hf : Rd Fx.cs 4 w Af nf fs) (hzf : ∀ f ∈ fs, f.asset.size ≤ 9223372036854775807 ∧ f.p.num.size ≤ 9223372036854775807 ∧ f.p.den.size ≤ 9223372036854775807) :
    Calls Tryz.prog 3 #[.agg #[.string a0, .int .i64 a1, .string a2, .string a3, .string a4, .string a5, .string a6, .string a7, .int .i64 a8, .int .i64 a9, .int .i64 a10], .agg #[.slice A n c, .string c0, .string c1], .agg #[.slice Af nf cf, .int .i64 d, .string s]] w fun e w' => e = .returned (.bool true) ∧ Below w.heap.size w w' := by
  have hF := fun W (h : Below w.heap.size w W) => HF W (hg.below h)
  have hxl := hx.len
  have hfl := hf.len
  have hLt := fun W => r15_light a0 a1 a2 a3 a4 a5 a6 a7 a8 a9 a10 W h0 h2 h3 h4 h5 h6 h7
  have hLi := fun W (h : Below w.heap.size w W) => r16_light (c := c) c0 c1 W (hx.below h) hz hc0 hc1
  have hSm := fun W (h : Below w.heap.size w W) => r12_small (c := cf) W (hf.below h) hzf
  cases d1 : pksm xs ⟨c0, c1⟩ with
  | false =>
    rw [d1] at hLi
    clear d1
    go_enter Tryz.func3, Tryz.ntmps3
    go_wp2_with (first | (go_at_call 16; (with_reducible refine (hF _ (by repeat (first | exact Below.refl _ _ | assumption | refine b_then ?_ (by assumption) | refine b_alloc ?_ _ | refine b_drewN ?_ _ | refine Below.drew ?_ | refine b_set ?_ (by first | exact Nat.le_refl _ | (simp; done) | (simp; omega) | omega) _))).mono ?_); rintro e w9 ⟨rfl, hb9⟩) | (go_at_call 13; (with_reducible refine (hLt _).mono ?_); rintro e w2 ⟨b, rfl, hbL, hb2⟩; obtain ⟨hc2, hf2⟩ := bcell hb2; have hs2 := hb2.size; (try simp at hs2); have hq2 : w.heap.size + 1 < w2.heap.size := (by omega); have hr2 : w.heap.size + 2 < w2.heap.size := (by omega); have HbL := Lib.hid hbL; clear hbL; cases b) | (go_at_call 14; (with_reducible refine (hLi _ (by repeat (first | exact Below.refl _ _ | assumption | refine b_then ?_ (by assumption) | refine b_alloc ?_ _ | refine b_drewN ?_ _ | refine Below.drew ?_ | refine b_set ?_ (by first | exact Nat.le_refl _ | (simp; done) | (simp; omega) | omega) _))).mono ?_); rintro e w3 ⟨rfl, hb3⟩; obtain ⟨hc3, hf3⟩ := bcell hb3; have hs3 := hb3.size; (try simp at hs3); have hq3 : w.heap.size + 1 < w3.heap.size := (by omega); have hr3 : w.heap.size + 2 < w3.heap.size := (by omega)))
    all_goals
      go_ret
      exact ⟨rfl, (by repeat (first | exact Below.refl _ _ | assumption | refine b_then ?_ (by assumption) | refine b_alloc ?_ _ | refine b_drewN ?_ _ | refine Below.drew ?_ | refine b_set ?_ (by first | exact Nat.le_refl _ | (simp; done) | (simp; omega) | omega) _))⟩
  | true =>
  rw [d1] at hLi
  obtain ⟨b1, b2, b3, b4⟩ := pksm_of d1
  dsimp only at b3 b4
  clear d1
  cases d4 : fsmall fs with
  | false =>
    rw [d4] at hSm
    clear d4
    go_enter Tryz.func3, Tryz.ntmps3
    go_wp2_with (first | (go_at_call 16; (with_reducible refine (hF _ (by repeat (first | exact Below.refl _ _ | assumption | refine b_then ?_ (by assumption) | refine b_alloc ?_ _ | refine b_drewN ?_ _ | refine Below.drew ?_ | refine b_set ?_ (by first | exact Nat.le_refl _ | (simp; done) | (simp; omega) | omega) _))).mono ?_); rintro e w9 ⟨rfl, hb9⟩) | (go_at_call 13; (with_reducible refine (hLt _).mono ?_); rintro e w2 ⟨b, rfl, hbL, hb2⟩; obtain ⟨hc2, hf2⟩ := bcell hb2; have hs2 := hb2.size; (try simp at hs2); have hq2 : w.heap.size + 1 < w2.heap.size := (by omega); have hr2 : w.heap.size + 2 < w2.heap.size := (by omega); have HbL := Lib.hid hbL; clear hbL; cases b) | (go_at_call 14; (with_reducible refine (hLi _ (by repeat (first | exact Below.refl _ _ | assumption | refine b_then ?_ (by assumption) | refine b_alloc ?_ _ | refine b_drewN ?_ _ | refine Below.drew ?_ | refine b_set ?_ (by first | exact Nat.le_refl _ | (simp; done) | (simp; omega) | omega) _))).mono ?_); rintro e w3 ⟨rfl, hb3⟩; obtain ⟨hc3, hf3⟩ := bcell hb3; have hs3 := hb3.size; (try simp at hs3); have hq3 : w.heap.size + 1 < w3.heap.size := (by omega); have hr3 : w.heap.size + 2 < w3.heap.size := (by omega)) | (go_at_call 15; (with_reducible refine (hSm _ (by repeat (first | exact Below.refl _ _ | assumption | refine b_then ?_ (by assumption) | refine b_alloc ?_ _ | refine b_drewN ?_ _ | refine Below.drew ?_ | refine b_set ?_ (by first | exact Nat.le_refl _ | (simp; done) | (simp; omega) | omega) _))).mono ?_); rintro e w' ⟨rfl, rfl⟩))
    all_goals
      go_ret
      exact ⟨rfl, (by repeat (first | exact Below.refl _ _ | assumption | refine b_then ?_ (by assumption) | refine b_alloc ?_ _ | refine b_drewN ?_ _ | refine Below.drew ?_ | refine b_set ?_ (by first | exact Nat.le_refl _ | (simp; done) | (simp; omega) | omega) _))⟩
  | true =>
  rw [d4] at hSm
  obtain ⟨f1, f2⟩ := fsmall_r d4
  clear d4
  have hV := fun W (h : Below w.heap.size w W) => p_value (c := c) (cf := cf) c0 c1 d W (hg.below h) (hx.below h) (by omega) (fun x hx => ptq_up (b1 x hx) (by omega)) (by omega) (by omega) (hf.below h) (by omega) (fun f hf => fxr_mono (f1 f hf) (by omega))
  have hVr := fun W (h : Below w.heap.size w W) => r16_value (c := c) (cf := cf) c0 c1 d W (hx.below h) (by omega) (fun x hx => ptq_up (b1 x hx) (by omega)) (by omega) (by omega) (hf.below h) (by omega) (fun f hf => fxr_mono (f1 f hf) (by omega))
  obtain ⟨v0, v1, ok, hval⟩ : ∃ v0 v1 ok, optR (pval xs ⟨c0, c1⟩ fs d) = .tuple #[.agg #[.string v0, .string v1], .bool ok] := ⟨_, _, _, rfl⟩
  rw [hval] at hV hVr
  obtain ⟨pm, hpm⟩ : ∃ pm, pkmay xs ⟨c0, c1⟩ = pm := ⟨_, rfl⟩
  obtain ⟨kp, hkp⟩ : ∃ kp, pkeeps xs s = kp := ⟨_, rfl⟩
  have hPM := fun W (h : Below w.heap.size w W) => p_pkmay (c := c) c0 c1 W (hg.below h) (hx.below h) (fun x hx => ptq_up (b1 x hx) (by omega)) (by omega) (by omega)
  have hRM := fun W (h : Below w.heap.size w W) => r16_may (c := c) c0 c1 W (hx.below h) (fun x hx => ptq_up (b1 x hx) (by omega)) (by omega) (by omega)
  have hPK := fun W (h : Below w.heap.size w W) => p_keeps (c := c) c0 c1 s W (hg.below h) (hx.below h)
  have hRK := fun W (h : Below w.heap.size w W) => r16_keeps (c := c) c0 c1 s W (hx.below h)
  rw [hpm] at hPM hRM
  rw [hkp] at hPK hRK
  obtain ⟨L, hLp⟩ : ∃ L, pofL ⟨a0, a1, a2, a3, ⟨a4, a5⟩, ⟨a6, a7⟩, a8, a9, a10⟩ = L := ⟨_, rfl⟩
  obtain ⟨m, hm⟩ : ∃ m, L.length = m := ⟨_, rfl⟩
  obtain ⟨e0, e1, hec⟩ : ∃ e0 e1, pofC ⟨a0, a1, a2, a3, ⟨a4, a5⟩, ⟨a6, a7⟩, a8, a9, a10⟩ = ⟨e0, e1⟩ := ⟨_, _, rfl⟩
  have kE := fun W (h : Below w.heap.size w W) (hs : a4.size ≤ 30 ∧ a5.size ≤ 30 ∧ a6.size ≤ 30 ∧ a7.size ≤ 30) => (p_of a0 a1 a2 a3 a4 a5 a6 a7 a8 a9 a10 W (hg.below h) h0 h2 h3 (by omega) (by omega) (by omega) (by omega)).mono fun e w' he => PackIs.of he (hLp ▸ hm) hec
  have kR := fun W (hs : a4.size ≤ 30 ∧ a5.size ≤ 30 ∧ a6.size ≤ 30 ∧ a7.size ≤ 30) => (HR a0 a1 a2 a3 a4 a5 a6 a7 a8 a9 a10 W h0 h2 h3 (by omega) (by omega) (by omega) (by omega)).mono fun e w' he => PackIs.of he (hLp ▸ hm) hec
  rw [hLp] at kE kR
  have KE := Lib.hid kE
  have KR := Lib.hid kR
  have HFX := Lib.hid hF
  have heq := eqRat
  clear hval hpm hkp hLp hm hec kE kR b1 b2 b3 b4 f1 f2 hxl hfl
  go_enter Tryz.func3, Tryz.ntmps3
  have ba0 : Blk (((w.alloc (.cells #[.string a0, .int .i64 a1, .string a2, .string a3, .string a4, .string a5, .string a6, .string a7, .int .i64 a8, .int .i64 a9, .int .i64 a10] 25)).alloc (.cells #[.slice A n c, .string c0, .string c1] 28)).alloc (.cells #[.slice Af nf cf, .int .i64 d, .string s] 31)) w.heap.size 25 #[.string a0, .int .i64 a1, .string a2, .string a3, .string a4, .string a5, .string a6, .string a7, .int .i64 a8, .int .i64 a9, .int .i64 a10] := ((Blk.new w _ _).alloc _).alloc _
  have bp0 : Blk (((w.alloc (.cells #[.string a0, .int .i64 a1, .string a2, .string a3, .string a4, .string a5, .string a6, .string a7, .int .i64 a8, .int .i64 a9, .int .i64 a10] 25)).alloc (.cells #[.slice A n c, .string c0, .string c1] 28)).alloc (.cells #[.slice Af nf cf, .int .i64 d, .string s] 31)) (w.heap.size + 1) 28 #[.slice A n c, .string c0, .string c1] := (Blk.new2 w _ _ _).alloc _
  have bk0 : Blk (((w.alloc (.cells #[.string a0, .int .i64 a1, .string a2, .string a3, .string a4, .string a5, .string a6, .string a7, .int .i64 a8, .int .i64 a9, .int .i64 a10] 25)).alloc (.cells #[.slice A n c, .string c0, .string c1] 28)).alloc (.cells #[.slice Af nf cf, .int .i64 d, .string s] 31)) (w.heap.size + 2) 31 #[.slice Af nf cf, .int .i64 d, .string s] := blk_new_at (by simp)
  have BA := Lib.hid ba0
  have BP := Lib.hid bp0
  have BK := Lib.hid bk0
  clear ba0 bp0 bk0 hF
  have hF := HFX.out
  go_wp2_with (first | (go_at_call 16; (with_reducible refine (hF _ (by repeat (first | exact Below.refl _ _ | assumption | refine b_then ?_ (by assumption) | refine b_alloc ?_ _ | refine b_drewN ?_ _ | refine Below.drew ?_ | refine b_set ?_ (by first | exact Nat.le_refl _ | (simp; done) | (simp; omega) | omega) _))).mono ?_); rintro e w9 ⟨rfl, hb9⟩) | (go_at_call 13; (with_reducible refine (hLt _).mono ?_); rintro e w2 ⟨b, rfl, hbL, hb2⟩; obtain ⟨hc2, hf2⟩ := bcell hb2; have hs2 := hb2.size; (try simp at hs2); have hq2 : w.heap.size + 1 < w2.heap.size := (by omega); have hr2 : w.heap.size + 2 < w2.heap.size := (by omega); have HbL := Lib.hid hbL; clear hbL; cases b) | (go_at_call 14; (with_reducible refine (hLi _ (by repeat (first | exact Below.refl _ _ | assumption | refine b_then ?_ (by assumption) | refine b_alloc ?_ _ | refine b_drewN ?_ _ | refine Below.drew ?_ | refine b_set ?_ (by first | exact Nat.le_refl _ | (simp; done) | (simp; omega) | omega) _))).mono ?_); rintro e w3 ⟨rfl, hb3⟩; obtain ⟨hc3, hf3⟩ := bcell hb3; have hs3 := hb3.size; (try simp at hs3); have hq3 : w.heap.size + 1 < w3.heap.size := (by omega); have hr3 : w.heap.size + 2 < w3.heap.size := (by omega)) | (go_at_call 15; (with_reducible refine (hSm _ (by repeat (first | exact Below.refl _ _ | assumption | refine b_then ?_ (by assumption) | refine b_alloc ?_ _ | refine b_drewN ?_ _ | refine Below.drew ?_ | refine b_set ?_ (by first | exact Nat.le_refl _ | (simp; done) | (simp; omega) | omega) _))).mono ?_); rintro e w' ⟨rfl, rfl⟩) | (go_at_call 17; (with_reducible refine (hV _ ?_).mono ?_); (· exact (by repeat (first | exact Below.refl _ _ | assumption | refine b_then ?_ (by assumption) | refine b_alloc ?_ _ | refine b_drewN ?_ _ | refine Below.drew ?_ | refine b_set ?_ (by first | exact Nat.le_refl _ | (simp; done) | (simp; omega) | omega) _))); rintro e w4 ⟨rfl, hb4⟩; revert hb4))
  · go_ret
    exact ⟨rfl, (by repeat (first | exact Below.refl _ _ | assumption | refine b_then ?_ (by assumption) | refine b_alloc ?_ _ | refine b_drewN ?_ _ | refine Below.drew ?_ | refine b_set ?_ (by first | exact Nat.le_refl _ | (simp; done) | (simp; omega) | omega) _))⟩
  · intro hb4
    have hsz := HbL.out (by first | rfl | trivial)
    have hB4 : Below w.heap.size w w4 := b_then (b_then (b_then (b_alloc (b_alloc (b_alloc (Below.refl _ _) _) _) _) hb2) hb3) hb4
    have ba := ((BA.out.below hb2).below hb3).below hb4
    have bp := ((BP.out.below hb2).below hb3).below hb4
    have bk := ((BK.out.below hb2).below hb3).below hb4
    clear hb2 hb3 hb4 hc2 hf2 hs2 hq2 hr2 hc3 hf3 hs3 hq3 hr3 HbL BA BP BK hLt hLi hSm hF
    obtain ⟨p0, p1, p2⟩ := bp.three'
    obtain ⟨k0, k1, k2⟩ := bk.three'
    have hla := ba.lt
    have hlp := bp.lt
    have hlk := bk.lt
    have KA := Lib.hid ba
    have KP := Lib.hid bp
    have KK := Lib.hid bk
    clear ba bp bk
    go_wp2_with (go_at_call 18; (with_reducible refine (hVr _ (b_alloc hB4 _)).mono ?_); rintro e w5 ⟨rfl, hb5⟩; revert hb5)
    intro hb5x
    have hb5 : Below (w4.alloc (.cells #[.string v0, .string v1] 23)).heap.size (w4.alloc (.cells #[.string v0, .string v1] 23)) w5 := by simpa using hb5x
    clear hb5x p0 p1 p2 k0 k1 k2
    have hB5 : Below w.heap.size w w5 := b_then (b_alloc hB4 _) hb5
    have ba := (KA.out.alloc _).below hb5
    have bp := (KP.out.alloc _).below hb5
    have bk := (KK.out.alloc _).below hb5
    have bv := (Blk.new w4 23 #[.string v0, .string v1]).below hb5
    clear hb5 KA KP KK hV hVr
    go_wp2
    refine hide3 (K := fun W' => _) (fun W' => Below w.heap.size w W' ∧ Blk W' w.heap.size 25 #[.string a0, .int .i64 a1, .string a2, .string a3, .string a4, .string a5, .string a6, .string a7, .int .i64 a8, .int .i64 a9, .int .i64 a10] ∧ Blk W' (w.heap.size + 1) 28 #[.slice A n c, .string c0, .string c1] ∧ Blk W' (w.heap.size + 2) 31 #[.slice Af nf cf, .int .i64 d, .string s] ∧ Blk W' w4.heap.size 23 #[.string v0, .string v1] ∧ Blk W' w5.heap.size 23 #[.string v0, .string v1]) ⟨b_alloc hB5 _, ba.alloc _, bp.alloc _, bk.alloc _, bv.alloc _, Blk.new _ _ _⟩ ?_
    rintro T ⟨hBT, bA, bP, bK, bV, bU⟩
    clear hB5 ba bp bk bv hB4 hla hlp hlk
    have xa0 := fun (x : After T) (y : After x.W) => (bA.below (b_then x.h y.h)).cell 0
    have xa1 := fun (x : After T) (y : After x.W) => (bA.below (b_then x.h y.h)).cell 1
    have xa2 := fun (x : After T) (y : After x.W) => (bA.below (b_then x.h y.h)).cell 2
    have xa3 := fun (x : After T) (y : After x.W) => (bA.below (b_then x.h y.h)).cell 3
    have xa4 := fun (x : After T) (y : After x.W) => (bA.below (b_then x.h y.h)).cell 4
    have xa5 := fun (x : After T) (y : After x.W) => (bA.below (b_then x.h y.h)).cell 5
    have xa6 := fun (x : After T) (y : After x.W) => (bA.below (b_then x.h y.h)).cell 6
    have xa7 := fun (x : After T) (y : After x.W) => (bA.below (b_then x.h y.h)).cell 7
    have xa8 := fun (x : After T) (y : After x.W) => (bA.below (b_then x.h y.h)).cell 8
    have xa9 := fun (x : After T) (y : After x.W) => (bA.below (b_then x.h y.h)).cell 9
    have xa10 := fun (x : After T) (y : After x.W) => (bA.below (b_then x.h y.h)).cell 10
    have xp0 := fun (x : After T) (y : After x.W) => (bP.below (b_then x.h y.h)).cell 0
    have xp1 := fun (x : After T) (y : After x.W) => (bP.below (b_then x.h y.h)).cell 1
    have xp2 := fun (x : After T) (y : After x.W) => (bP.below (b_then x.h y.h)).cell 2
    have xk2 := fun (x : After T) (y : After x.W) => (bK.below (b_then x.h y.h)).cell 2
    have xv0 := fun (x : After T) (y : After x.W) => (bV.below (b_then x.h y.h)).cell 0
    have xv1 := fun (x : After T) (y : After x.W) => (bV.below (b_then x.h y.h)).cell 1
    have xu0 := fun (x : After T) (y : After x.W) => (bU.below (b_then x.h y.h)).cell 0
    have xu1 := fun (x : After T) (y : After x.W) => (bU.below (b_then x.h y.h)).cell 1
    simp at xa0 xa1 xa2 xa3 xa4 xa5 xa6 xa7 xa8 xa9 xa10 xp0 xp1 xp2 xk2 xv0 xv1 xu0 xu1
    clear bA bP bK bV bU
    refine wp_region_multiv [(3, 47, fun p => .agg #[.slice p.1 m p.2, .string e0, .string e1]), (5, 49, fun p => .agg #[.slice p.1 m p.2, .string e0, .string e1])] [(6, 50, .bool true)] (fun _ B k W => Rd Pt.cs 3 W B m L) ?mA (by kernel_rfl) (fun p => by kernel_rfl) (fun p x => ?mH)
      ⟨by kernel_rfl, by kernel_rfl, by simp, by simp, ?mk, ?mt, fun i B k W W' h hb => h.below hb, ?mhA, ?mQ⟩
    case mH =>
      simp only [mods, mkS_V, List.map_cons, List.map_nil, List.append_eq, List.cons_append, List.nil_append, List.modify_succ_cons, List.modify_zero_cons, repV]
      have hxs := x.h.size
      (try simp at hxs)
      (repeat (first | go_big_quiet_skip | (go_big_quiet_want; go_big_quiet_op; first | go_big_quiet_on | (apply Exists.intro; refine ⟨fun _ => ?_, ?_⟩; (focus (first | (go_at_call 16; with_reducible exact Calls.after (HFX.out _ (b_then hBT (b_then x.h (After.h _))))) | (go_at_call 22; with_reducible exact Calls.after (hPM _ (b_then hBT (b_then x.h (After.h _))))) | (go_at_call 23; with_reducible exact Calls.after (hRM _ (b_then hBT (b_then x.h (After.h _))))) | (go_at_call 24; with_reducible exact Calls.after (hPK _ (b_then hBT (b_then x.h (After.h _))))) | (go_at_call 25; with_reducible exact Calls.after (hRK _ (b_then hBT (b_then x.h (After.h _))))))); go_big_quiet_on))))
      refine wpQuiet_nil ?_
      rfl
    case mk =>
      intro y hy p
      simp only [List.mem_cons, List.not_mem_nil, or_false] at hy
      rcases hy with rfl | rfl
      · refine ⟨_, rfl, rfl, fun a W hW hgv => ?_⟩
        have g0 : a.tmps[45]? = some (.bool true) := (hgv 1 _ 45 rfl rfl (by kernel_rfl)).trans rfl
        have g1 := (hgv 2 _ 46 rfl rfl (by kernel_rfl)).trans rfl
        exact mk_callV rfl rfl (by simp [Region.wanted, yielded, g0]) (by simp [execOp, go_sem, g1]) (KE.out W (b_then hBT hW) hsz)
      · refine ⟨_, rfl, rfl, fun a W hW hgv => ?_⟩
        have g0 : a.tmps[45]? = some (.bool true) := (hgv 1 _ 45 rfl rfl (by kernel_rfl)).trans rfl
        have g1 := (hgv 4 _ 48 rfl rfl (by kernel_rfl)).trans rfl
        exact mk_callV rfl rfl (by simp [Region.wanted, yielded, g0]) (by simp [execOp, go_sem, g1]) (KR.out W hsz)
    case mt =>
      intro y hy p
      simp only [List.mem_cons, List.not_mem_nil, or_false] at hy
      subst hy
      refine ⟨_, rfl, rfl, fun a W hW hR hgv => ?_⟩
      have g0 : a.tmps[45]? = some (.bool true) := (hgv 1 _ 45 rfl rfl (by kernel_rfl)).trans rfl
      have g1 := (hgv 3 _ 47 rfl rfl (by kernel_rfl)).trans rfl
      have g2 := (hgv 5 _ 49 rfl rfl (by kernel_rfl)).trans rfl
      exact tk_call rfl rfl (by simp [Region.wanted, yielded, g0]) (by simp [execOp, go_sem, g1, g2]) (r16_same (c := (p 3).2) (d := (p 5).2) e0 e1 W (hR _ (.head _) (by kernel_rfl)) (hR _ (.tail _ (.head _)) (by kernel_rfl)))
    case mhA => exact fun p => rfl
    case mQ =>
      intro p w8 hb8 hR
      go_wp2
      go_ret
      exact ⟨ret_bool (by simp), b_then hBT hb8⟩
end Go.Proofs.YtdkpbifpafaabaaGreatDoor
