/- Walks of packs of one or two parts, sorted: slices.SortFunc, pack.with. -/
import Derived.Test.YtdkpbifpafaabaaGreatDoorPkA
import Derived.Test.YtdkpbifpafaabaaGreatDoorGhD
namespace Go.Proofs.YtdkpbifpafaabaaGreatDoor
open Go.RowKit
set_option linter.unusedVariables false
set_option linter.unusedSimpArgs false

theorem c_bits1 (w : World) : Calls Tryz.prog 128 #[.int .u64 1] w fun e w' => (∃ l : Int, e = .returned (.int .i64 l)) ∧ w = w' := by
  go_enter Tryz.func128, Tryz.ntmps128
  go_wp2
  go_ret
  exact ⟨⟨_, rfl⟩, rfl⟩
theorem c_bits2 (w : World) : Calls Tryz.prog 128 #[.int .u64 2] w fun e w' => (∃ l : Int, e = .returned (.int .i64 l)) ∧ w = w' := by
  go_enter Tryz.func128, Tryz.ntmps128
  go_wp2
  go_ret
  exact ⟨⟨_, rfl⟩, rfl⟩
theorem p_with_cmp (a0 a1 a2 b0 b1 b2 : ByteArray) (w : World) : Calls Tryz.prog 89 #[.agg #[.string a0, .string a1, .string a2], .agg #[.string b0, .string b1, .string b2]] w fun e w' => e = .returned (.int .i64 (Lib.compareBytes a0.data.toList b0.data.toList)) ∧ Below w.heap.size w w' := by
  have hc := fun w => c_compare a0 b0 w
  go_enter Tryz.func89, Tryz.ntmps89
  go_wp2_with (go_at_call 90; (with_reducible refine (hc _).mono ?_); rintro e w' ⟨rfl, rfl⟩)
  go_ret
  exact ⟨rfl, (by repeat (first | exact Below.refl _ _ | assumption | refine b_then ?_ (by assumption) | refine b_alloc ?_ _ | refine b_drewN ?_ _ | refine Below.drew ?_ | refine b_set ?_ (by first | exact Nat.le_refl _ | (simp; done) | (simp; omega) | omega) _))⟩
set_option maxHeartbeats 800000 in
theorem ins1 (A : Option Addr) (k : Nat) (w : World) : Calls Tryz.prog 155 #[.slice A 1 k, .int .i64 0, .int .i64 1, .func (.func 89) #[] #[]] w fun e w' => e = .returned (.tuple #[]) ∧ w = w' := by
  go_enter Tryz.func155, Tryz.ntmps155
  go_wp2
  refine wp_loop_rounds 1 ?_
  rw [rounds_succ]
  go_wp2
  go_end0
  exact ⟨rfl, rfl⟩
set_option maxHeartbeats 800000 in
theorem pdq1 (A : Option Addr) (k : Nat) (l : Int) (w : World) : Calls Tryz.prog 127 #[.slice A 1 k, .int .i64 0, .int .i64 1, .int .i64 l, .func (.func 89) #[] #[]] w fun e w' => e = .returned (.tuple #[]) ∧ w = w' := by
  have hi := ins1 A k
  go_enter Tryz.func127, Tryz.ntmps127
  go_wp2
  refine wp_loop_rounds 1 ?_
  rw [rounds_succ]
  go_wp2_with (go_at_call 155; (with_reducible refine (hi _).mono ?_); rintro e w' ⟨rfl, rfl⟩)
  (try simp only [Exit.inBlock, Exit.then])
  refine bodyPost_ret (results_none rfl _ _ _) rfl ?_
  exact ⟨rfl, rfl⟩
set_option maxHeartbeats 800000 in
theorem sort1 (A : Option Addr) (k : Nat) (w : World) : Calls Tryz.prog 88 #[.slice A 1 k, .func (.func 89) #[] #[]] w fun e w' => e = .returned (.tuple #[]) ∧ w = w' := by
  have hp := pdq1 A k
  go_enter Tryz.func88, Tryz.ntmps88
  go_wp2_with (first | (go_at_call 128; (with_reducible refine (c_bits1 _).mono ?_); rintro e w' ⟨⟨l, rfl⟩, rfl⟩) | (go_at_call 127; (with_reducible refine (hp _ _).mono ?_); rintro e w' ⟨rfl, rfl⟩))
  go_end0
  exact ⟨rfl, rfl⟩
set_option maxHeartbeats 800000 in
theorem p_with1 (c0 c1 : ByteArray) (A : Option Addr) (k : Nat) (w : World) : Calls Tryz.prog 49 #[.agg #[.string c0, .string c1], .slice A 1 k] w fun e w' => e = .returned (.agg #[.slice A 1 k, .string c0, .string c1]) ∧ Below w.heap.size w w' := by
  have hp := sort1 A k
  go_enter Tryz.func49, Tryz.ntmps49
  go_wp2_with (go_at_call 88; (with_reducible refine (hp _).mono ?_); rintro e w' ⟨rfl, rfl⟩)
  refine bodyPost_ret (v := .agg #[.slice A 1 k, .string c0, .string c1]) ?_ rfl ⟨rfl, (by repeat (first | exact Below.refl _ _ | assumption | refine b_then ?_ (by assumption) | refine b_alloc ?_ _ | refine b_drewN ?_ _ | refine Below.drew ?_ | refine b_set ?_ (by first | exact Nat.le_refl _ | (simp; done) | (simp; omega) | omega) _))⟩
  simp [results, Tryz.results49, go_sem]
theorem hide_blk {K : World → Prop} {w W : World} {g : Nat} {T : TypeId} {cs : Array Value} (h : Blk W g T cs) (hb : w.grownBy W (some g)) (hh : ∀ W', Blk W' g T cs → w.grownBy W' (some g) → K W') : K W := hh W h hb
theorem gr_set {w W : World} {g : Nat} (h : w.grownBy W (some g)) (o : Nat) (u : Value) : w.grownBy (W.setCell ⟨g, o, none⟩ u) (some g) :=
  have k := (Below.refl 0 W).setCell (p := ⟨g, o, none⟩) (Nat.zero_le _) u
  ⟨k.os.trans h.os, k.tape.trans h.tape, k.output.trans h.output, Nat.le_trans h.size k.size, fun i hi hne => (Below.heap_setCell W ⟨g, o, none⟩ u i (fun e => hne (by rw [e]))).trans (h.block i hi hne)⟩
theorem gr_below {w W W' : World} {g : Nat} (h : w.grownBy W (some g)) (k : Below W.heap.size W W') : w.grownBy W' (some g) :=
  ⟨k.os.trans h.os, k.tape.trans h.tape, k.output.trans h.output, Nat.le_trans h.size k.size, fun i hi hne => (k.block i (Nat.lt_of_lt_of_le hi h.size)).trans (h.block i hi hne)⟩
theorem gr_from {w W W' : World} {g : Nat} (h : Below w.heap.size w W) (k : W.grownBy W' (some g)) : w.grownBy W' (some g) :=
  ⟨k.os.trans h.os, k.tape.trans h.tape, k.output.trans h.output, Nat.le_trans h.size k.size, fun i hi hne => (k.block i (Nat.lt_of_lt_of_le hi h.size) hne).trans (h.block i hi)⟩
theorem gr_base {w W : World} {g base : Nat} (h : w.grownBy W (some g)) (hg : base ≤ g) (hw : g < w.heap.size) : Below base w W :=
  ⟨h.os, h.tape, h.output, h.size, fun i hi => h.block i (by omega) (fun e => by injection e with e; omega)⟩
theorem gr_above {w W : World} {g : Nat} (h : w.grownBy W (some g)) {p : Addr} (hp : w.heap.size ≤ p.block) (u : Value) : w.grownBy (W.setCell p u) (some g) :=
  have k := (Below.refl 0 W).setCell (p := p) (Nat.zero_le _) u
  ⟨k.os.trans h.os, k.tape.trans h.tape, k.output.trans h.output, Nat.le_trans h.size k.size, fun i hi hne => (Below.heap_setCell W p u i (by omega)).trans (h.block i hi hne)⟩
theorem gr_cell {w W : World} {g : Nat} (h : w.grownBy W (some g)) {b o : Nat} (hb : b < w.heap.size) (hne : b ≠ g) : W.cell? ⟨b, o, none⟩ = w.cell? ⟨b, o, none⟩ := by
  have e := h.block b hb (fun e => hne (Option.some.inj e))
  simp only [World.cell?, e]
theorem gr_frozen {w W : World} {g : Nat} (h : w.grownBy W (some g)) {b o : Nat} (hb : b < w.heap.size) (hne : b ≠ g) : W.frozen? ⟨b, o, none⟩ = w.frozen? ⟨b, o, none⟩ := by
  have e := h.block b hb (fun e => hne (Option.some.inj e))
  simp only [World.frozen?, e]
/-! ### Two -/
/-- Two parts in a row. -/
def two6 (x y : Pt) : Array Value := (Pt.cs x ++ Pt.cs y).toArray
theorem Blk.six {w : World} {g : Nat} {t : TypeId} {x y : Pt} (h : Blk w g t (two6 x y)) : w.cell? ⟨g, 0, none⟩ = some (.string x.asset) ∧ w.cell? ⟨g, 1, none⟩ = some (.string x.ratio.num) ∧ w.cell? ⟨g, 2, none⟩ = some (.string x.ratio.den) ∧
    w.cell? ⟨g, 3, none⟩ = some (.string y.asset) ∧ w.cell? ⟨g, 4, none⟩ = some (.string y.ratio.num) ∧ w.cell? ⟨g, 5, none⟩ = some (.string y.ratio.den) := ⟨h.cell 0, h.cell 1, h.cell 2, h.cell 3, h.cell 4, h.cell 5⟩
set_option maxHeartbeats 2000000 in
theorem ins2_keep (x y : Pt) (g k : Nat) (w : World) (hb : Blk w g 45 (two6 x y)) (h : ¬ Lib.compareBytes y.asset.data.toList x.asset.data.toList < 0) : Calls Tryz.prog 155 #[.slice (some ⟨g, 0, none⟩) 2 k, .int .i64 0, .int .i64 2, .func (.func 89) #[] #[]] w fun e w' => e = .returned (.tuple #[]) ∧ Below w.heap.size w w' := by
  obtain ⟨a0, ⟨a1, a2⟩⟩ := x
  obtain ⟨b0, ⟨b1, b2⟩⟩ := y
  dsimp only at h
  have hc := fun W => p_with_cmp b0 b1 b2 a0 a1 a2 W
  have z0 : ∀ y : After w, y.W.cell? ⟨g, 0, none⟩ = _ := fun y => (hb.below y.h).six.1
  have z1 : ∀ y : After w, y.W.cell? ⟨g, 1, none⟩ = _ := fun y => (hb.below y.h).six.2.1
  have z2 : ∀ y : After w, y.W.cell? ⟨g, 2, none⟩ = _ := fun y => (hb.below y.h).six.2.2.1
  have z3 : ∀ y : After w, y.W.cell? ⟨g, 3, none⟩ = _ := fun y => (hb.below y.h).six.2.2.2.1
  have z4 : ∀ y : After w, y.W.cell? ⟨g, 4, none⟩ = _ := fun y => (hb.below y.h).six.2.2.2.2.1
  have z5 : ∀ y : After w, y.W.cell? ⟨g, 5, none⟩ = _ := fun y => (hb.below y.h).six.2.2.2.2.2
  clear hb
  go_enter Tryz.func155, Tryz.ntmps155
  go_wp2
  refine wp_loop_rounds 2 ?_
  rw [rounds_succ]
  go_wp2
  refine wp_loop_rounds 1 ?_
  rw [rounds_succ]
  go_wp2
  (refine wp_region_after (by kernel_rfl) (by kernel_rfl) ?_; (repeat (first | go_big_quiet_skip | (go_big_quiet_want; go_big_quiet_op; first | go_big_quiet_on | (apply Exists.intro; refine ⟨fun _ => ?_, ?_⟩; (focus ((go_at_call 89; with_reducible exact Calls.after (hc _)))); go_big_quiet_on)))); refine wpQuiet_nil ?_; rintro w1 ⟨⟨_, hb1⟩, rfl⟩; (try dsimp only); obtain ⟨hc1, hf1⟩ := bcell hb1; have hs1 := hb1.size; (try simp at hs1))
  go_wp2
  rw [rounds_succ]
  go_wp2
  go_end0
  exact ⟨rfl, hb1⟩
set_option maxHeartbeats 2000000 in
theorem ins2_swap (x y : Pt) (g k : Nat) (w : World) (hb : Blk w g 45 (two6 x y)) (h : Lib.compareBytes y.asset.data.toList x.asset.data.toList < 0) : Calls Tryz.prog 155 #[.slice (some ⟨g, 0, none⟩) 2 k, .int .i64 0, .int .i64 2, .func (.func 89) #[] #[]] w fun e w' => e = .returned (.tuple #[]) ∧ Blk w' g 45 (two6 y x) ∧ w.grownBy w' (some g) := by
  obtain ⟨a0, ⟨a1, a2⟩⟩ := x
  obtain ⟨b0, ⟨b1, b2⟩⟩ := y
  dsimp only at h
  have hc := fun W => p_with_cmp b0 b1 b2 a0 a1 a2 W
  have z0 : ∀ y : After w, y.W.cell? ⟨g, 0, none⟩ = _ := fun y => (hb.below y.h).six.1
  have z1 : ∀ y : After w, y.W.cell? ⟨g, 1, none⟩ = _ := fun y => (hb.below y.h).six.2.1
  have z2 : ∀ y : After w, y.W.cell? ⟨g, 2, none⟩ = _ := fun y => (hb.below y.h).six.2.2.1
  have z3 : ∀ y : After w, y.W.cell? ⟨g, 3, none⟩ = _ := fun y => (hb.below y.h).six.2.2.2.1
  have z4 : ∀ y : After w, y.W.cell? ⟨g, 4, none⟩ = _ := fun y => (hb.below y.h).six.2.2.2.2.1
  have z5 : ∀ y : After w, y.W.cell? ⟨g, 5, none⟩ = _ := fun y => (hb.below y.h).six.2.2.2.2.2
  have HB := Lib.hid hb
  clear hb
  go_enter Tryz.func155, Tryz.ntmps155
  go_wp2
  refine wp_loop_rounds 2 ?_
  rw [rounds_succ]
  go_wp2
  refine wp_loop_rounds 2 ?_
  rw [rounds_succ]
  go_wp2
  (refine wp_region_after (by kernel_rfl) (by kernel_rfl) ?_; (repeat (first | go_big_quiet_skip | (go_big_quiet_want; go_big_quiet_op; first | go_big_quiet_on | (apply Exists.intro; refine ⟨fun _ => ?_, ?_⟩; (focus ((go_at_call 89; with_reducible exact Calls.after (hc _)))); go_big_quiet_on)))); refine wpQuiet_nil ?_; rintro w1 ⟨⟨_, hb1⟩, rfl⟩; (try dsimp only); obtain ⟨hc1, hf1⟩ := bcell hb1; have hs1 := hb1.size; (try simp at hs1))
  have hb1' := HB.out.below hb1
  have hgl := hb1'.lt
  obtain ⟨u0, u1, u2, u3, u4, u5⟩ := hb1'.six
  have v0 := hb1'.frozen 0
  have v1 := hb1'.frozen 1
  have v2 := hb1'.frozen 2
  have v3 := hb1'.frozen 3
  have v4 := hb1'.frozen 4
  have v5 := hb1'.frozen 5
  go_wp2
  clear z0 z1 z2 z3 z4 z5 hc1 hf1 hs1
  go_big_region
  have hB2 : w.grownBy w1 (some g) := grown_of_below hb1 (some g)
  refine hide_blk (w := w) (K := fun W' => _) (cs := two6 ⟨b0, ⟨b1, b2⟩⟩ ⟨a0, ⟨a1, a2⟩⟩) (((((((hb1'.set_ 3 (.string a0)).set_ 4 (.string a1)).set_ 5 (.string a2)).set_ 0 (.string b0)).set_ 1 (.string b1)).set_ 2 (.string b2)).drewN 1) (gr_below (gr_set (gr_set (gr_set (gr_set (gr_set (gr_set hB2 _ _) _ _) _ _) _ _) _ _) _ _) (Below.refl _ _).drew) ?_
  intro w4 hb4 hB4
  clear u0 u1 u2 u3 u4 u5 v0 v1 v2 v3 v4 v5 hb1' hB2 hb1 HB
  go_wp2
  rw [rounds_succ]
  go_wp2
  (refine wp_region_after (by kernel_rfl) (by kernel_rfl) ?_; (repeat (first | go_big_quiet_skip | (go_big_quiet_want; go_big_quiet_op; first | go_big_quiet_on | (apply Exists.intro; refine ⟨fun _ => ?_, ?_⟩; (focus (fail)); go_big_quiet_on)))); refine wpQuiet_nil ?_; rintro w5 ⟨⟨_, hb5⟩, rfl⟩; (try dsimp only); obtain ⟨hc5, hf5⟩ := bcell hb5; have hs5 := hb5.size; (try simp at hs5))
  go_wp2
  rw [rounds_succ]
  go_wp2
  go_end0
  exact ⟨rfl, hb4.below hb5, gr_below hB4 hb5⟩
def cmpPt (x y : Pt) : Int := Lib.compareBytes y.asset.data.toList x.asset.data.toList
def srt (x y : Pt) : List Pt := if cmpPt x y < 0 then [y, x] else [x, y]
def srtV (x y : Pt) : Array Value := if cmpPt x y < 0 then two6 y x else two6 x y
theorem ins2 (x y : Pt) (g k : Nat) (w : World) (hb : Blk w g 45 (two6 x y)) : Calls Tryz.prog 155 #[.slice (some ⟨g, 0, none⟩) 2 k, .int .i64 0, .int .i64 2, .func (.func 89) #[] #[]] w fun e w' => e = .returned (.tuple #[]) ∧ Blk w' g 45 (srtV x y) ∧ w.grownBy w' (some g) := by
  unfold srtV
  by_cases h : cmpPt x y < 0
  · rw [if_pos h]; exact ins2_swap x y g k w hb h
  · rw [if_neg h]
    exact (ins2_keep x y g k w hb h).mono fun e w' he => ⟨he.1, hb.below he.2, grown_of_below he.2 _⟩
set_option maxHeartbeats 800000 in
theorem pdq2 (x y : Pt) (g k : Nat) (l : Int) (w : World) (hb : Blk w g 45 (two6 x y)) : Calls Tryz.prog 127 #[.slice (some ⟨g, 0, none⟩) 2 k, .int .i64 0, .int .i64 2, .int .i64 l, .func (.func 89) #[] #[]] w fun e w' => e = .returned (.tuple #[]) ∧ Blk w' g 45 (srtV x y) ∧ w.grownBy w' (some g) := by
  have hi := ins2 x y g k w hb
  go_enter Tryz.func127, Tryz.ntmps127
  go_wp2
  refine wp_loop_rounds 1 ?_
  rw [rounds_succ]
  go_wp2_with (go_at_call 155; (with_reducible refine hi.mono ?_); rintro e w' ⟨rfl, h1, h2⟩)
  (try simp only [Exit.inBlock, Exit.then])
  refine bodyPost_ret (results_none rfl _ _ _) rfl ?_
  exact ⟨rfl, h1, h2⟩
set_option maxHeartbeats 800000 in
theorem sort2 (x y : Pt) (g k : Nat) (w : World) (hb : Blk w g 45 (two6 x y)) : Calls Tryz.prog 88 #[.slice (some ⟨g, 0, none⟩) 2 k, .func (.func 89) #[] #[]] w fun e w' => e = .returned (.tuple #[]) ∧ Blk w' g 45 (srtV x y) ∧ w.grownBy w' (some g) := by
  have hp := fun l => pdq2 x y g k l w hb
  go_enter Tryz.func88, Tryz.ntmps88
  go_wp2_with (first | (go_at_call 128; (with_reducible refine (c_bits2 _).mono ?_); rintro e w' ⟨⟨l, rfl⟩, rfl⟩) | (go_at_call 127; (with_reducible refine (hp _).mono ?_); rintro e w' ⟨rfl, h1, h2⟩))
  go_end0
  exact ⟨rfl, h1, h2⟩
set_option maxHeartbeats 800000 in
theorem p_with2 (c0 c1 : ByteArray) (x y : Pt) (g k : Nat) (w : World) (hb : Blk w g 45 (two6 x y)) : Calls Tryz.prog 49 #[.agg #[.string c0, .string c1], .slice (some ⟨g, 0, none⟩) 2 k] w fun e w' => e = .returned (.agg #[.slice (some ⟨g, 0, none⟩) 2 k, .string c0, .string c1]) ∧ Blk w' g 45 (srtV x y) ∧ w.grownBy w' (some g) := by
  have hgl := hb.lt
  have hp := fun W h => sort2 x y g k W h
  have HB := Lib.hid hb
  clear hb
  go_enter Tryz.func49, Tryz.ntmps49
  go_wp2_with (go_at_call 88; (with_reducible refine (hp _ ((HB.out.alloc _).alloc _)).mono ?_); rintro e w1 ⟨rfl, h1, h2⟩; revert h1 h2)
  intro h1 h2
  have hs0 := h2.size
  simp at hs0
  have d0 := gr_cell h2 (b := w.heap.size) (o := 0) (by simp; try omega) (by omega)
  have d1 := gr_cell h2 (b := w.heap.size) (o := 1) (by simp; try omega) (by omega)
  have e0 := gr_cell h2 (b := w.heap.size + 1) (o := 0) (by simp; try omega) (by omega)
  have e1 := gr_cell h2 (b := w.heap.size + 1) (o := 1) (by simp; try omega) (by omega)
  have e2 := gr_cell h2 (b := w.heap.size + 1) (o := 2) (by simp; try omega) (by omega)
  have f0 := gr_frozen h2 (b := w.heap.size + 1) (o := 0) (by simp; try omega) (by omega)
  have f1 := gr_frozen h2 (b := w.heap.size + 1) (o := 1) (by simp; try omega) (by omega)
  have f2 := gr_frozen h2 (b := w.heap.size + 1) (o := 2) (by simp; try omega) (by omega)
  simp [go_sem] at d0 d1 e0 e1 e2 f0 f1 f2
  have hgr := gr_from (b_alloc (b_alloc (Below.refl _ _) _) _) h2
  have hl0 : w.heap.size < w1.heap.size := by omega
  have hl1 : w.heap.size + 1 < w1.heap.size := by omega
  clear h2
  go_wp2
  refine bodyPost_ret (v := .agg #[.slice (some ⟨g, 0, none⟩) 2 k, .string c0, .string c1]) ?_ rfl ⟨rfl, ((h1.far (by simp; omega) _).far (by simp; omega) _).far (by simp; omega) _, gr_above (gr_above (gr_above hgr (by simp) _) (by simp) _) (by simp) _⟩
  simp [results, Tryz.results49, go_sem, d0, d1, e0, e1, e2, f0, f1, f2, hl0, hl1]
end Go.Proofs.YtdkpbifpafaabaaGreatDoor
