/- Walks of actions: action.May; the references' May, Light. -/
import Derived.Test.YtdkpbifpafaabaaGreatDoorPkB
namespace Go.Proofs.YtdkpbifpafaabaaGreatDoor
open Go.RowKit
set_option linter.unusedVariables false
set_option linter.unusedSimpArgs false

def aearly (a : Ac) : Bool := (decide (0 ≤ a.kind) && decide (a.kind ≤ 4)) && ((isName a.name && aasset a.asset) && adays a)
theorem amay_early (a : Ac) : amay a = (aearly a && (aother a && (anum a.ratio (arat a.kind) 1 && anum a.cash (acas a.kind) (aleast a.kind)))) := by
  unfold amay aearly
  simp only [Bool.and_assoc]
theorem amay_not {a : Ac} (h : aearly a = false) : amay a = false := by rw [amay_early, h]; rfl
theorem aearly_of {a : Ac} (h : aearly a = true) : (a.kind = 0 ∨ a.kind = 1 ∨ a.kind = 2 ∨ a.kind = 3 ∨ a.kind = 4) ∧ isName a.name = true ∧ aasset a.asset = true ∧ 0 ≤ a.ex ∧ a.ex ≤ a.rcd ∧ a.rcd ≤ a.pay ∧ a.pay ≤ 9999 := by
  unfold aearly adays at h
  simp only [Bool.and_eq_true, decide_eq_true_eq] at h
  obtain ⟨⟨h1, h2⟩, ⟨h3, h4⟩, h5, h6, h7, h8⟩ := h
  exact ⟨by omega, h3, h4, h5, h6, h7, h8⟩

theorem amay_k0 {a0 a2 a3 a4 a5 a6 a7 : ByteArray} {a8 a9 a10 : Int} (h : aearly ⟨a0, 0, a2, a3, ⟨a4, a5⟩, ⟨a6, a7⟩, a8, a9, a10⟩ = true) : amay ⟨a0, 0, a2, a3, ⟨a4, a5⟩, ⟨a6, a7⟩, a8, a9, a10⟩ = ((a3.toList == []) && (anum ⟨a4, a5⟩ true 1 && anum ⟨a6, a7⟩ false 1)) := by
  rw [amay_early, h]; rfl
theorem amay_k1 {a0 a2 a3 a4 a5 a6 a7 : ByteArray} {a8 a9 a10 : Int} (h : aearly ⟨a0, 1, a2, a3, ⟨a4, a5⟩, ⟨a6, a7⟩, a8, a9, a10⟩ = true) : amay ⟨a0, 1, a2, a3, ⟨a4, a5⟩, ⟨a6, a7⟩, a8, a9, a10⟩ = ((a3.toList == []) && (anum ⟨a4, a5⟩ true 1 && anum ⟨a6, a7⟩ false 1)) := by
  rw [amay_early, h]; rfl
theorem amay_k2 {a0 a2 a3 a4 a5 a6 a7 : ByteArray} {a8 a9 a10 : Int} (h : aearly ⟨a0, 2, a2, a3, ⟨a4, a5⟩, ⟨a6, a7⟩, a8, a9, a10⟩ = true) : amay ⟨a0, 2, a2, a3, ⟨a4, a5⟩, ⟨a6, a7⟩, a8, a9, a10⟩ = ((a3.toList == []) && (anum ⟨a4, a5⟩ false 1 && anum ⟨a6, a7⟩ true 1)) := by
  rw [amay_early, h]; rfl
theorem amay_k3 {a0 a2 a3 a4 a5 a6 a7 : ByteArray} {a8 a9 a10 : Int} (h : aearly ⟨a0, 3, a2, a3, ⟨a4, a5⟩, ⟨a6, a7⟩, a8, a9, a10⟩ = true) : amay ⟨a0, 3, a2, a3, ⟨a4, a5⟩, ⟨a6, a7⟩, a8, a9, a10⟩ = ((aasset a3 && !(a3.toList == a2.toList)) && (anum ⟨a4, a5⟩ true 1 && anum ⟨a6, a7⟩ false 1)) := by
  rw [amay_early, h]; rfl
theorem amay_k4 {a0 a2 a3 a4 a5 a6 a7 : ByteArray} {a8 a9 a10 : Int} (h : aearly ⟨a0, 4, a2, a3, ⟨a4, a5⟩, ⟨a6, a7⟩, a8, a9, a10⟩ = true) : amay ⟨a0, 4, a2, a3, ⟨a4, a5⟩, ⟨a6, a7⟩, a8, a9, a10⟩ = ((aasset a3 && !(a3.toList == a2.toList)) && (anum ⟨a4, a5⟩ true 1 && anum ⟨a6, a7⟩ true 0)) := by
  rw [amay_early, h]; rfl
theorem ix_shapes_0 (W : World) : (Instr.index 92 (.agg shapesV) (.int .i64 0)).run Tryz.prog W = .ok (.agg #[.string ⟨#[115, 112, 108, 105, 116]⟩, .bool false, .bool true, .bool false]) W := by
  kernel_rfl
theorem ix_shapes_1 (W : World) : (Instr.index 92 (.agg shapesV) (.int .i64 1)).run Tryz.prog W = .ok (.agg #[.string ⟨#[115, 116, 111, 99, 107]⟩, .bool false, .bool true, .bool false]) W := by
  kernel_rfl
theorem ix_shapes_2 (W : World) : (Instr.index 92 (.agg shapesV) (.int .i64 2)).run Tryz.prog W = .ok (.agg #[.string ⟨#[99, 97, 115, 104]⟩, .bool false, .bool false, .bool true]) W := by
  kernel_rfl
theorem ix_shapes_3 (W : World) : (Instr.index 92 (.agg shapesV) (.int .i64 3)).run Tryz.prog W = .ok (.agg #[.string ⟨#[115, 112, 105, 110]⟩, .bool true, .bool true, .bool false]) W := by
  kernel_rfl
theorem ix_shapes_4 (W : World) : (Instr.index 92 (.agg shapesV) (.int .i64 4)).run Tryz.prog W = .ok (.agg #[.string ⟨#[109, 101, 114, 103, 101, 114]⟩, .bool true, .bool true, .bool true]) W := by
  kernel_rfl
set_option maxHeartbeats 2000000 in
theorem p_amay_no (a0 : ByteArray) (a1 : Int) (a2 a3 a4 a5 a6 a7 : ByteArray) (a8 a9 a10 : Int) (w : World) (h0 : a0.size ≤ 9223372036854775807) (h2 : a2.size ≤ 9223372036854775807) (h3 : a3.size ≤ 9223372036854775807) (h4 : a4.size ≤ 880000000) (h5 : a5.size ≤ 880000000) (h6 : a6.size ≤ 880000000) (h7 : a7.size ≤ 880000000) (hE : aearly ⟨a0, a1, a2, a3, ⟨a4, a5⟩, ⟨a6, a7⟩, a8, a9, a10⟩ = false) :
    Calls Tryz.prog 47 #[.agg #[.string a0, .int .i64 a1, .string a2, .string a3, .string a4, .string a5, .string a6, .string a7, .int .i64 a8, .int .i64 a9, .int .i64 a10]] w fun e w' => e = .returned (.bool false) ∧ Below w.heap.size w w' := by
  have hN := fun W => p_name a0 W (by omega)
  have hA := fun W => p_asset a2 W (by omega)
  have HE := Lib.hid hE
  clear hE
  go_enter Tryz.func47, Tryz.ntmps47
  go_wp2_with (first | (go_at_call 50; (with_reducible refine (hN _).mono ?_); rintro e w1 ⟨rfl, hb1⟩; obtain ⟨hc1, hf1⟩ := bcell hb1; have hs1 := hb1.size; (try simp at hs1); have hq1 : w.heap.size < w1.heap.size := (by omega)) | (go_at_call 84; (with_reducible refine (hA _).mono ?_); rintro e w2 ⟨rfl, hb2⟩; obtain ⟨hc2, hf2⟩ := bcell hb2; have hs2 := hb2.size; (try simp at hs2); have hq2 : w.heap.size < w2.heap.size := (by omega)))
  all_goals first
    | (go_ret; exact ⟨rfl, (by repeat (first | exact Below.refl _ _ | assumption | refine b_then ?_ (by assumption) | refine b_alloc ?_ _ | refine b_drewN ?_ _ | refine Below.drew ?_ | refine b_set ?_ (by first | exact Nat.le_refl _ | (simp; done) | (simp; omega) | omega) _))⟩)
    | (exfalso; have hE := HE.out; simp [aearly, adays, *] at hE <;> omega)
set_option maxRecDepth 100000 in
set_option maxHeartbeats 4000000 in
theorem p_amay_0 (a0 a2 a3 a4 a5 a6 a7 : ByteArray) (a8 a9 a10 : Int) (w : World) (hg : Glob w) (h0 : a0.size ≤ 9223372036854775807) (h2 : a2.size ≤ 9223372036854775807) (h3 : a3.size ≤ 9223372036854775807) (h4 : a4.size ≤ 880000000) (h5 : a5.size ≤ 880000000) (h6 : a6.size ≤ 880000000) (h7 : a7.size ≤ 880000000) (hE : aearly ⟨a0, 0, a2, a3, ⟨a4, a5⟩, ⟨a6, a7⟩, a8, a9, a10⟩ = true) :
    Calls Tryz.prog 47 #[.agg #[.string a0, .int .i64 0, .string a2, .string a3, .string a4, .string a5, .string a6, .string a7, .int .i64 a8, .int .i64 a9, .int .i64 a10]] w fun e w' => e = .returned (.bool (amay ⟨a0, 0, a2, a3, ⟨a4, a5⟩, ⟨a6, a7⟩, a8, a9, a10⟩)) ∧ Below w.heap.size w w' := by
  rw [amay_k0 hE]
  obtain ⟨_, e1, e2, e3, e4, e5, e6⟩ := aearly_of hE
  dsimp only at e1 e2 e3 e4 e5 e6
  clear hE
  have hN := fun W => p_name a0 W (by omega)
  have hA := fun W => p_asset a2 W (by omega)
  rw [e1] at hN
  rw [e2] at hA
  have hO := fun W => p_asset a3 W (by omega)
  have hH := fun W => p_shapes W
  have hix := ix_shapes_0
  have hR := fun W (h : Below w.heap.size w W) => p_number a4 a5 true 1 W (hg.below h) h4 h5
  have hC := fun W (h : Below w.heap.size w W) => p_number a6 a7 false 1 W (hg.below h) h6 h7
  generalize anum ⟨a4, a5⟩ true 1 = n1 at *
  generalize anum ⟨a6, a7⟩ false 1 = n2 at *
  go_enter Tryz.func47, Tryz.ntmps47
  go_wp2_with (first | (go_at_call 50; (with_reducible refine (hN _).mono ?_); rintro e w1 ⟨rfl, hb1⟩; obtain ⟨hc1, hf1⟩ := bcell hb1; have hs1 := hb1.size; (try simp at hs1); have hq1 : w.heap.size < w1.heap.size := (by omega)) | (go_at_call 84; (with_reducible refine (hA _).mono ?_); rintro e w2 ⟨rfl, hb2⟩; obtain ⟨hc2, hf2⟩ := bcell hb2; have hs2 := hb2.size; (try simp at hs2); have hq2 : w.heap.size < w2.heap.size := (by omega)))
  have hB2 : Below w.heap.size w w2 := (by repeat (first | exact Below.refl _ _ | assumption | refine b_then ?_ (by assumption) | refine b_alloc ?_ _ | refine b_drewN ?_ _ | refine Below.drew ?_ | refine b_set ?_ (by first | exact Nat.le_refl _ | (simp; done) | (simp; omega) | omega) _))
  have bx : Blk w2 w.heap.size 25 #[.string a0, .int .i64 0, .string a2, .string a3, .string a4, .string a5, .string a6, .string a7, .int .i64 a8, .int .i64 a9, .int .i64 a10] := ((Blk.new w _ _).below hb1).below hb2
  have hlt2 : w.heap.size < w2.heap.size := hq2
  clear hb1 hb2 hc1 hf1 hs1 hc2 hf2 hs2 hq1 hq2
  have k1 : ∀ (x : After w2) (y : After x.W), y.W.cell? ⟨w.heap.size, 1, none⟩ = some (.int .i64 0) := fun x y => (bx.below (b_then x.h y.h)).cell 1
  (refine wp_region_srcv 5 4 3 (fun p => .pointer p.1) (fun B k W => ∃ g, B = some ⟨g, 0, none⟩ ∧ Blk W g 91 #[.string ⟨#[]⟩, .bool false, .bool false, .bool false] ∧ w2.heap.size ≤ g) ?srcA3 (by kernel_rfl) (fun pp => by kernel_rfl) (fun pp x => ?srcH3) ⟨by kernel_rfl, by kernel_rfl, by decide, by decide, ?srcK3, ?srcS3, ?srcG3, ?srcQ3⟩; (case srcH3 => (simp only [srcl, List.modify_succ_cons, List.modify_zero_cons, repV, List.take_succ_cons, List.take_zero]; (have hxs := x.h.size); (try simp at hxs); (repeat (first | go_big_quiet_skip | (go_big_quiet_want; go_big_quiet_op; first | go_big_quiet_on | (apply Exists.intro; refine ⟨fun _ => ?_, ?_⟩; (focus ((go_at_call 85; with_reducible exact Calls.after (hH _)))); go_big_quiet_on)))); refine wpQuiet_nil ?_; rfl)); (case srcK3 => (intro pp; refine ⟨_, rfl, rfl, fun a W hW hgv => ?_⟩; exact srcv_alloc rfl rfl rfl (by simp [execOp, go_sem]) hW.size)); (case srcS3 => (intro B k W W' h hb; first | exact h.below hb | (obtain ⟨g, e, h1, h2⟩ := h; exact ⟨g, e, h1.below hb, h2⟩))); (case srcG3 => (intro pp; first | rfl | (simp; exact ⟨rfl, rfl⟩))); rintro ⟨B3, k3⟩ w3 R3 hb3; (try dsimp only at R3); simp only [List.drop_succ_cons, List.drop_zero]; obtain ⟨hc3, hf3⟩ := bcell hb3; have hs3 := hb3.size; (try simp at hs3))
  obtain ⟨g, rfl, hgb, hgl⟩ := R3
  have hB3 : Below w.heap.size w w3 := b_then hB2 hb3
  have bx3 := bx.below hb3
  have c3 := bx3.cell 3
  have c2 := bx3.cell 2
  have c4 := bx3.cell 4
  have c5 := bx3.cell 5
  have c6 := bx3.cell 6
  have c7 := bx3.cell 7
  have c1 := bx3.cell 1
  have z0 := hgb.cell 0
  have z1 := hgb.cell 1
  have z2 := hgb.cell 2
  have z3 := hgb.cell 3
  have y0 := hgb.frozen 0
  have y1 := hgb.frozen 1
  have y2 := hgb.frozen 2
  have y3 := hgb.frozen 3
  simp at z0 z1 z2 z3 c1 c2 c3 c4 c5 c6 c7
  have hne : g ≠ w.heap.size := by omega
  have hne' : w.heap.size ≠ g := by omega
  have hgw : w.heap.size ≤ g := by omega
  have hgl3 := hgb.lt
  have hl3 : w.heap.size < w3.heap.size := by omega
  clear hc3 hf3 hb3 hgl hlt2 hgb bx bx3
  go_wp2_with (first | (go_at_call 84; (with_reducible refine (hO _).mono ?_); rintro e w5 ⟨rfl, hb5⟩; obtain ⟨hc5, hf5⟩ := bcell hb5; have hs5 := hb5.size; (try simp at hs5); have hq5 : w.heap.size < w5.heap.size := (by omega); have hp5 : g < w5.heap.size := (by omega)) | (go_at_call 86; (with_reducible refine (hC _ (by repeat (first | exact Below.refl _ _ | assumption | refine b_then ?_ (by assumption) | refine b_alloc ?_ _ | refine b_drewN ?_ _ | refine Below.drew ?_ | refine b_set ?_ (by first | exact Nat.le_refl _ | (simp; done) | (simp; omega) | omega) _))).mono ?_); rintro e w7 ⟨rfl, hb7⟩; obtain ⟨hc7, hf7⟩ := bcell hb7; have hs7 := hb7.size; (try simp at hs7); have hq7 : w.heap.size < w7.heap.size := (by omega); have hp7 : g < w7.heap.size := (by omega)) | (go_at_call 86; (with_reducible refine (hR _ (by repeat (first | exact Below.refl _ _ | assumption | refine b_then ?_ (by assumption) | refine b_alloc ?_ _ | refine b_drewN ?_ _ | refine Below.drew ?_ | refine b_set ?_ (by first | exact Nat.le_refl _ | (simp; done) | (simp; omega) | omega) _))).mono ?_); rintro e w6 ⟨rfl, hb6⟩; obtain ⟨hc6, hf6⟩ := bcell hb6; have hs6 := hb6.size; (try simp at hs6); have hq6 : w.heap.size < w6.heap.size := (by omega); have hp6 : g < w6.heap.size := (by omega)))
  all_goals
    go_ret
    exact ⟨ret_bool (by grind), (by repeat (first | exact Below.refl _ _ | assumption | refine b_then ?_ (by assumption) | refine b_alloc ?_ _ | refine b_drewN ?_ _ | refine Below.drew ?_ | refine b_set ?_ (by first | exact Nat.le_refl _ | (simp; done) | (simp; omega) | omega) _))⟩
set_option maxRecDepth 100000 in
set_option maxHeartbeats 4000000 in
theorem p_amay_1 (a0 a2 a3 a4 a5 a6 a7 : ByteArray) (a8 a9 a10 : Int) (w : World) (hg : Glob w) (h0 : a0.size ≤ 9223372036854775807) (h2 : a2.size ≤ 9223372036854775807) (h3 : a3.size ≤ 9223372036854775807) (h4 : a4.size ≤ 880000000) (h5 : a5.size ≤ 880000000) (h6 : a6.size ≤ 880000000) (h7 : a7.size ≤ 880000000) (hE : aearly ⟨a0, 1, a2, a3, ⟨a4, a5⟩, ⟨a6, a7⟩, a8, a9, a10⟩ = true) :
    Calls Tryz.prog 47 #[.agg #[.string a0, .int .i64 1, .string a2, .string a3, .string a4, .string a5, .string a6, .string a7, .int .i64 a8, .int .i64 a9, .int .i64 a10]] w fun e w' => e = .returned (.bool (amay ⟨a0, 1, a2, a3, ⟨a4, a5⟩, ⟨a6, a7⟩, a8, a9, a10⟩)) ∧ Below w.heap.size w w' := by
  rw [amay_k1 hE]
  obtain ⟨_, e1, e2, e3, e4, e5, e6⟩ := aearly_of hE
  dsimp only at e1 e2 e3 e4 e5 e6
  clear hE
  have hN := fun W => p_name a0 W (by omega)
  have hA := fun W => p_asset a2 W (by omega)
  rw [e1] at hN
  rw [e2] at hA
  have hO := fun W => p_asset a3 W (by omega)
  have hH := fun W => p_shapes W
  have hix := ix_shapes_1
  have hR := fun W (h : Below w.heap.size w W) => p_number a4 a5 true 1 W (hg.below h) h4 h5
  have hC := fun W (h : Below w.heap.size w W) => p_number a6 a7 false 1 W (hg.below h) h6 h7
  generalize anum ⟨a4, a5⟩ true 1 = n1 at *
  generalize anum ⟨a6, a7⟩ false 1 = n2 at *
  go_enter Tryz.func47, Tryz.ntmps47
  go_wp2_with (first | (go_at_call 50; (with_reducible refine (hN _).mono ?_); rintro e w1 ⟨rfl, hb1⟩; obtain ⟨hc1, hf1⟩ := bcell hb1; have hs1 := hb1.size; (try simp at hs1); have hq1 : w.heap.size < w1.heap.size := (by omega)) | (go_at_call 84; (with_reducible refine (hA _).mono ?_); rintro e w2 ⟨rfl, hb2⟩; obtain ⟨hc2, hf2⟩ := bcell hb2; have hs2 := hb2.size; (try simp at hs2); have hq2 : w.heap.size < w2.heap.size := (by omega)))
  have hB2 : Below w.heap.size w w2 := (by repeat (first | exact Below.refl _ _ | assumption | refine b_then ?_ (by assumption) | refine b_alloc ?_ _ | refine b_drewN ?_ _ | refine Below.drew ?_ | refine b_set ?_ (by first | exact Nat.le_refl _ | (simp; done) | (simp; omega) | omega) _))
  have bx : Blk w2 w.heap.size 25 #[.string a0, .int .i64 1, .string a2, .string a3, .string a4, .string a5, .string a6, .string a7, .int .i64 a8, .int .i64 a9, .int .i64 a10] := ((Blk.new w _ _).below hb1).below hb2
  have hlt2 : w.heap.size < w2.heap.size := hq2
  clear hb1 hb2 hc1 hf1 hs1 hc2 hf2 hs2 hq1 hq2
  have k1 : ∀ (x : After w2) (y : After x.W), y.W.cell? ⟨w.heap.size, 1, none⟩ = some (.int .i64 1) := fun x y => (bx.below (b_then x.h y.h)).cell 1
  (refine wp_region_srcv 5 4 3 (fun p => .pointer p.1) (fun B k W => ∃ g, B = some ⟨g, 0, none⟩ ∧ Blk W g 91 #[.string ⟨#[]⟩, .bool false, .bool false, .bool false] ∧ w2.heap.size ≤ g) ?srcA3 (by kernel_rfl) (fun pp => by kernel_rfl) (fun pp x => ?srcH3) ⟨by kernel_rfl, by kernel_rfl, by decide, by decide, ?srcK3, ?srcS3, ?srcG3, ?srcQ3⟩; (case srcH3 => (simp only [srcl, List.modify_succ_cons, List.modify_zero_cons, repV, List.take_succ_cons, List.take_zero]; (have hxs := x.h.size); (try simp at hxs); (repeat (first | go_big_quiet_skip | (go_big_quiet_want; go_big_quiet_op; first | go_big_quiet_on | (apply Exists.intro; refine ⟨fun _ => ?_, ?_⟩; (focus ((go_at_call 85; with_reducible exact Calls.after (hH _)))); go_big_quiet_on)))); refine wpQuiet_nil ?_; rfl)); (case srcK3 => (intro pp; refine ⟨_, rfl, rfl, fun a W hW hgv => ?_⟩; exact srcv_alloc rfl rfl rfl (by simp [execOp, go_sem]) hW.size)); (case srcS3 => (intro B k W W' h hb; first | exact h.below hb | (obtain ⟨g, e, h1, h2⟩ := h; exact ⟨g, e, h1.below hb, h2⟩))); (case srcG3 => (intro pp; first | rfl | (simp; exact ⟨rfl, rfl⟩))); rintro ⟨B3, k3⟩ w3 R3 hb3; (try dsimp only at R3); simp only [List.drop_succ_cons, List.drop_zero]; obtain ⟨hc3, hf3⟩ := bcell hb3; have hs3 := hb3.size; (try simp at hs3))
  obtain ⟨g, rfl, hgb, hgl⟩ := R3
  have hB3 : Below w.heap.size w w3 := b_then hB2 hb3
  have bx3 := bx.below hb3
  have c3 := bx3.cell 3
  have c2 := bx3.cell 2
  have c4 := bx3.cell 4
  have c5 := bx3.cell 5
  have c6 := bx3.cell 6
  have c7 := bx3.cell 7
  have c1 := bx3.cell 1
  have z0 := hgb.cell 0
  have z1 := hgb.cell 1
  have z2 := hgb.cell 2
  have z3 := hgb.cell 3
  have y0 := hgb.frozen 0
  have y1 := hgb.frozen 1
  have y2 := hgb.frozen 2
  have y3 := hgb.frozen 3
  simp at z0 z1 z2 z3 c1 c2 c3 c4 c5 c6 c7
  have hne : g ≠ w.heap.size := by omega
  have hne' : w.heap.size ≠ g := by omega
  have hgw : w.heap.size ≤ g := by omega
  have hgl3 := hgb.lt
  have hl3 : w.heap.size < w3.heap.size := by omega
  clear hc3 hf3 hb3 hgl hlt2 hgb bx bx3
  go_wp2_with (first | (go_at_call 84; (with_reducible refine (hO _).mono ?_); rintro e w5 ⟨rfl, hb5⟩; obtain ⟨hc5, hf5⟩ := bcell hb5; have hs5 := hb5.size; (try simp at hs5); have hq5 : w.heap.size < w5.heap.size := (by omega); have hp5 : g < w5.heap.size := (by omega)) | (go_at_call 86; (with_reducible refine (hC _ (by repeat (first | exact Below.refl _ _ | assumption | refine b_then ?_ (by assumption) | refine b_alloc ?_ _ | refine b_drewN ?_ _ | refine Below.drew ?_ | refine b_set ?_ (by first | exact Nat.le_refl _ | (simp; done) | (simp; omega) | omega) _))).mono ?_); rintro e w7 ⟨rfl, hb7⟩; obtain ⟨hc7, hf7⟩ := bcell hb7; have hs7 := hb7.size; (try simp at hs7); have hq7 : w.heap.size < w7.heap.size := (by omega); have hp7 : g < w7.heap.size := (by omega)) | (go_at_call 86; (with_reducible refine (hR _ (by repeat (first | exact Below.refl _ _ | assumption | refine b_then ?_ (by assumption) | refine b_alloc ?_ _ | refine b_drewN ?_ _ | refine Below.drew ?_ | refine b_set ?_ (by first | exact Nat.le_refl _ | (simp; done) | (simp; omega) | omega) _))).mono ?_); rintro e w6 ⟨rfl, hb6⟩; obtain ⟨hc6, hf6⟩ := bcell hb6; have hs6 := hb6.size; (try simp at hs6); have hq6 : w.heap.size < w6.heap.size := (by omega); have hp6 : g < w6.heap.size := (by omega)))
  all_goals
    go_ret
    exact ⟨ret_bool (by grind), (by repeat (first | exact Below.refl _ _ | assumption | refine b_then ?_ (by assumption) | refine b_alloc ?_ _ | refine b_drewN ?_ _ | refine Below.drew ?_ | refine b_set ?_ (by first | exact Nat.le_refl _ | (simp; done) | (simp; omega) | omega) _))⟩
set_option maxRecDepth 100000 in
set_option maxHeartbeats 4000000 in
theorem p_amay_2 (a0 a2 a3 a4 a5 a6 a7 : ByteArray) (a8 a9 a10 : Int) (w : World) (hg : Glob w) (h0 : a0.size ≤ 9223372036854775807) (h2 : a2.size ≤ 9223372036854775807) (h3 : a3.size ≤ 9223372036854775807) (h4 : a4.size ≤ 880000000) (h5 : a5.size ≤ 880000000) (h6 : a6.size ≤ 880000000) (h7 : a7.size ≤ 880000000) (hE : aearly ⟨a0, 2, a2, a3, ⟨a4, a5⟩, ⟨a6, a7⟩, a8, a9, a10⟩ = true) :
    Calls Tryz.prog 47 #[.agg #[.string a0, .int .i64 2, .string a2, .string a3, .string a4, .string a5, .string a6, .string a7, .int .i64 a8, .int .i64 a9, .int .i64 a10]] w fun e w' => e = .returned (.bool (amay ⟨a0, 2, a2, a3, ⟨a4, a5⟩, ⟨a6, a7⟩, a8, a9, a10⟩)) ∧ Below w.heap.size w w' := by
  rw [amay_k2 hE]
  obtain ⟨_, e1, e2, e3, e4, e5, e6⟩ := aearly_of hE
  dsimp only at e1 e2 e3 e4 e5 e6
  clear hE
  have hN := fun W => p_name a0 W (by omega)
  have hA := fun W => p_asset a2 W (by omega)
  rw [e1] at hN
  rw [e2] at hA
  have hO := fun W => p_asset a3 W (by omega)
  have hH := fun W => p_shapes W
  have hix := ix_shapes_2
  have hR := fun W (h : Below w.heap.size w W) => p_number a4 a5 false 1 W (hg.below h) h4 h5
  have hC := fun W (h : Below w.heap.size w W) => p_number a6 a7 true 1 W (hg.below h) h6 h7
  generalize anum ⟨a4, a5⟩ false 1 = n1 at *
  generalize anum ⟨a6, a7⟩ true 1 = n2 at *
  go_enter Tryz.func47, Tryz.ntmps47
  go_wp2_with (first | (go_at_call 50; (with_reducible refine (hN _).mono ?_); rintro e w1 ⟨rfl, hb1⟩; obtain ⟨hc1, hf1⟩ := bcell hb1; have hs1 := hb1.size; (try simp at hs1); have hq1 : w.heap.size < w1.heap.size := (by omega)) | (go_at_call 84; (with_reducible refine (hA _).mono ?_); rintro e w2 ⟨rfl, hb2⟩; obtain ⟨hc2, hf2⟩ := bcell hb2; have hs2 := hb2.size; (try simp at hs2); have hq2 : w.heap.size < w2.heap.size := (by omega)))
  have hB2 : Below w.heap.size w w2 := (by repeat (first | exact Below.refl _ _ | assumption | refine b_then ?_ (by assumption) | refine b_alloc ?_ _ | refine b_drewN ?_ _ | refine Below.drew ?_ | refine b_set ?_ (by first | exact Nat.le_refl _ | (simp; done) | (simp; omega) | omega) _))
  have bx : Blk w2 w.heap.size 25 #[.string a0, .int .i64 2, .string a2, .string a3, .string a4, .string a5, .string a6, .string a7, .int .i64 a8, .int .i64 a9, .int .i64 a10] := ((Blk.new w _ _).below hb1).below hb2
  have hlt2 : w.heap.size < w2.heap.size := hq2
  clear hb1 hb2 hc1 hf1 hs1 hc2 hf2 hs2 hq1 hq2
  have k1 : ∀ (x : After w2) (y : After x.W), y.W.cell? ⟨w.heap.size, 1, none⟩ = some (.int .i64 2) := fun x y => (bx.below (b_then x.h y.h)).cell 1
  (refine wp_region_srcv 5 4 3 (fun p => .pointer p.1) (fun B k W => ∃ g, B = some ⟨g, 0, none⟩ ∧ Blk W g 91 #[.string ⟨#[]⟩, .bool false, .bool false, .bool false] ∧ w2.heap.size ≤ g) ?srcA3 (by kernel_rfl) (fun pp => by kernel_rfl) (fun pp x => ?srcH3) ⟨by kernel_rfl, by kernel_rfl, by decide, by decide, ?srcK3, ?srcS3, ?srcG3, ?srcQ3⟩; (case srcH3 => (simp only [srcl, List.modify_succ_cons, List.modify_zero_cons, repV, List.take_succ_cons, List.take_zero]; (have hxs := x.h.size); (try simp at hxs); (repeat (first | go_big_quiet_skip | (go_big_quiet_want; go_big_quiet_op; first | go_big_quiet_on | (apply Exists.intro; refine ⟨fun _ => ?_, ?_⟩; (focus ((go_at_call 85; with_reducible exact Calls.after (hH _)))); go_big_quiet_on)))); refine wpQuiet_nil ?_; rfl)); (case srcK3 => (intro pp; refine ⟨_, rfl, rfl, fun a W hW hgv => ?_⟩; exact srcv_alloc rfl rfl rfl (by simp [execOp, go_sem]) hW.size)); (case srcS3 => (intro B k W W' h hb; first | exact h.below hb | (obtain ⟨g, e, h1, h2⟩ := h; exact ⟨g, e, h1.below hb, h2⟩))); (case srcG3 => (intro pp; first | rfl | (simp; exact ⟨rfl, rfl⟩))); rintro ⟨B3, k3⟩ w3 R3 hb3; (try dsimp only at R3); simp only [List.drop_succ_cons, List.drop_zero]; obtain ⟨hc3, hf3⟩ := bcell hb3; have hs3 := hb3.size; (try simp at hs3))
  obtain ⟨g, rfl, hgb, hgl⟩ := R3
  have hB3 : Below w.heap.size w w3 := b_then hB2 hb3
  have bx3 := bx.below hb3
  have c3 := bx3.cell 3
  have c2 := bx3.cell 2
  have c4 := bx3.cell 4
  have c5 := bx3.cell 5
  have c6 := bx3.cell 6
  have c7 := bx3.cell 7
  have c1 := bx3.cell 1
  have z0 := hgb.cell 0
  have z1 := hgb.cell 1
  have z2 := hgb.cell 2
  have z3 := hgb.cell 3
  have y0 := hgb.frozen 0
  have y1 := hgb.frozen 1
  have y2 := hgb.frozen 2
  have y3 := hgb.frozen 3
  simp at z0 z1 z2 z3 c1 c2 c3 c4 c5 c6 c7
  have hne : g ≠ w.heap.size := by omega
  have hne' : w.heap.size ≠ g := by omega
  have hgw : w.heap.size ≤ g := by omega
  have hgl3 := hgb.lt
  have hl3 : w.heap.size < w3.heap.size := by omega
  clear hc3 hf3 hb3 hgl hlt2 hgb bx bx3
  go_wp2_with (first | (go_at_call 84; (with_reducible refine (hO _).mono ?_); rintro e w5 ⟨rfl, hb5⟩; obtain ⟨hc5, hf5⟩ := bcell hb5; have hs5 := hb5.size; (try simp at hs5); have hq5 : w.heap.size < w5.heap.size := (by omega); have hp5 : g < w5.heap.size := (by omega)) | (go_at_call 86; (with_reducible refine (hC _ (by repeat (first | exact Below.refl _ _ | assumption | refine b_then ?_ (by assumption) | refine b_alloc ?_ _ | refine b_drewN ?_ _ | refine Below.drew ?_ | refine b_set ?_ (by first | exact Nat.le_refl _ | (simp; done) | (simp; omega) | omega) _))).mono ?_); rintro e w7 ⟨rfl, hb7⟩; obtain ⟨hc7, hf7⟩ := bcell hb7; have hs7 := hb7.size; (try simp at hs7); have hq7 : w.heap.size < w7.heap.size := (by omega); have hp7 : g < w7.heap.size := (by omega)) | (go_at_call 86; (with_reducible refine (hR _ (by repeat (first | exact Below.refl _ _ | assumption | refine b_then ?_ (by assumption) | refine b_alloc ?_ _ | refine b_drewN ?_ _ | refine Below.drew ?_ | refine b_set ?_ (by first | exact Nat.le_refl _ | (simp; done) | (simp; omega) | omega) _))).mono ?_); rintro e w6 ⟨rfl, hb6⟩; obtain ⟨hc6, hf6⟩ := bcell hb6; have hs6 := hb6.size; (try simp at hs6); have hq6 : w.heap.size < w6.heap.size := (by omega); have hp6 : g < w6.heap.size := (by omega)))
  all_goals
    go_ret
    exact ⟨ret_bool (by grind), (by repeat (first | exact Below.refl _ _ | assumption | refine b_then ?_ (by assumption) | refine b_alloc ?_ _ | refine b_drewN ?_ _ | refine Below.drew ?_ | refine b_set ?_ (by first | exact Nat.le_refl _ | (simp; done) | (simp; omega) | omega) _))⟩
set_option maxRecDepth 100000 in
set_option maxHeartbeats 4000000 in
theorem p_amay_3 (a0 a2 a3 a4 a5 a6 a7 : ByteArray) (a8 a9 a10 : Int) (w : World) (hg : Glob w) (h0 : a0.size ≤ 9223372036854775807) (h2 : a2.size ≤ 9223372036854775807) (h3 : a3.size ≤ 9223372036854775807) (h4 : a4.size ≤ 880000000) (h5 : a5.size ≤ 880000000) (h6 : a6.size ≤ 880000000) (h7 : a7.size ≤ 880000000) (hE : aearly ⟨a0, 3, a2, a3, ⟨a4, a5⟩, ⟨a6, a7⟩, a8, a9, a10⟩ = true) :
    Calls Tryz.prog 47 #[.agg #[.string a0, .int .i64 3, .string a2, .string a3, .string a4, .string a5, .string a6, .string a7, .int .i64 a8, .int .i64 a9, .int .i64 a10]] w fun e w' => e = .returned (.bool (amay ⟨a0, 3, a2, a3, ⟨a4, a5⟩, ⟨a6, a7⟩, a8, a9, a10⟩)) ∧ Below w.heap.size w w' := by
  rw [amay_k3 hE]
  obtain ⟨_, e1, e2, e3, e4, e5, e6⟩ := aearly_of hE
  dsimp only at e1 e2 e3 e4 e5 e6
  clear hE
  have hN := fun W => p_name a0 W (by omega)
  have hA := fun W => p_asset a2 W (by omega)
  rw [e1] at hN
  rw [e2] at hA
  have hO := fun W => p_asset a3 W (by omega)
  have hH := fun W => p_shapes W
  have hix := ix_shapes_3
  have hR := fun W (h : Below w.heap.size w W) => p_number a4 a5 true 1 W (hg.below h) h4 h5
  have hC := fun W (h : Below w.heap.size w W) => p_number a6 a7 false 1 W (hg.below h) h6 h7
  generalize anum ⟨a4, a5⟩ true 1 = n1 at *
  generalize anum ⟨a6, a7⟩ false 1 = n2 at *
  go_enter Tryz.func47, Tryz.ntmps47
  go_wp2_with (first | (go_at_call 50; (with_reducible refine (hN _).mono ?_); rintro e w1 ⟨rfl, hb1⟩; obtain ⟨hc1, hf1⟩ := bcell hb1; have hs1 := hb1.size; (try simp at hs1); have hq1 : w.heap.size < w1.heap.size := (by omega)) | (go_at_call 84; (with_reducible refine (hA _).mono ?_); rintro e w2 ⟨rfl, hb2⟩; obtain ⟨hc2, hf2⟩ := bcell hb2; have hs2 := hb2.size; (try simp at hs2); have hq2 : w.heap.size < w2.heap.size := (by omega)))
  have hB2 : Below w.heap.size w w2 := (by repeat (first | exact Below.refl _ _ | assumption | refine b_then ?_ (by assumption) | refine b_alloc ?_ _ | refine b_drewN ?_ _ | refine Below.drew ?_ | refine b_set ?_ (by first | exact Nat.le_refl _ | (simp; done) | (simp; omega) | omega) _))
  have bx : Blk w2 w.heap.size 25 #[.string a0, .int .i64 3, .string a2, .string a3, .string a4, .string a5, .string a6, .string a7, .int .i64 a8, .int .i64 a9, .int .i64 a10] := ((Blk.new w _ _).below hb1).below hb2
  have hlt2 : w.heap.size < w2.heap.size := hq2
  clear hb1 hb2 hc1 hf1 hs1 hc2 hf2 hs2 hq1 hq2
  have k1 : ∀ (x : After w2) (y : After x.W), y.W.cell? ⟨w.heap.size, 1, none⟩ = some (.int .i64 3) := fun x y => (bx.below (b_then x.h y.h)).cell 1
  (refine wp_region_srcv 5 4 3 (fun p => .pointer p.1) (fun B k W => ∃ g, B = some ⟨g, 0, none⟩ ∧ Blk W g 91 #[.string ⟨#[]⟩, .bool false, .bool false, .bool false] ∧ w2.heap.size ≤ g) ?srcA3 (by kernel_rfl) (fun pp => by kernel_rfl) (fun pp x => ?srcH3) ⟨by kernel_rfl, by kernel_rfl, by decide, by decide, ?srcK3, ?srcS3, ?srcG3, ?srcQ3⟩; (case srcH3 => (simp only [srcl, List.modify_succ_cons, List.modify_zero_cons, repV, List.take_succ_cons, List.take_zero]; (have hxs := x.h.size); (try simp at hxs); (repeat (first | go_big_quiet_skip | (go_big_quiet_want; go_big_quiet_op; first | go_big_quiet_on | (apply Exists.intro; refine ⟨fun _ => ?_, ?_⟩; (focus ((go_at_call 85; with_reducible exact Calls.after (hH _)))); go_big_quiet_on)))); refine wpQuiet_nil ?_; rfl)); (case srcK3 => (intro pp; refine ⟨_, rfl, rfl, fun a W hW hgv => ?_⟩; exact srcv_alloc rfl rfl rfl (by simp [execOp, go_sem]) hW.size)); (case srcS3 => (intro B k W W' h hb; first | exact h.below hb | (obtain ⟨g, e, h1, h2⟩ := h; exact ⟨g, e, h1.below hb, h2⟩))); (case srcG3 => (intro pp; first | rfl | (simp; exact ⟨rfl, rfl⟩))); rintro ⟨B3, k3⟩ w3 R3 hb3; (try dsimp only at R3); simp only [List.drop_succ_cons, List.drop_zero]; obtain ⟨hc3, hf3⟩ := bcell hb3; have hs3 := hb3.size; (try simp at hs3))
  obtain ⟨g, rfl, hgb, hgl⟩ := R3
  have hB3 : Below w.heap.size w w3 := b_then hB2 hb3
  have bx3 := bx.below hb3
  have c3 := bx3.cell 3
  have c2 := bx3.cell 2
  have c4 := bx3.cell 4
  have c5 := bx3.cell 5
  have c6 := bx3.cell 6
  have c7 := bx3.cell 7
  have c1 := bx3.cell 1
  have z0 := hgb.cell 0
  have z1 := hgb.cell 1
  have z2 := hgb.cell 2
  have z3 := hgb.cell 3
  have y0 := hgb.frozen 0
  have y1 := hgb.frozen 1
  have y2 := hgb.frozen 2
  have y3 := hgb.frozen 3
  simp at z0 z1 z2 z3 c1 c2 c3 c4 c5 c6 c7
  have hne : g ≠ w.heap.size := by omega
  have hne' : w.heap.size ≠ g := by omega
  have hgw : w.heap.size ≤ g := by omega
  have hgl3 := hgb.lt
  have hl3 : w.heap.size < w3.heap.size := by omega
  clear hc3 hf3 hb3 hgl hlt2 hgb bx bx3
  go_wp2_with (first | (go_at_call 84; (with_reducible refine (hO _).mono ?_); rintro e w5 ⟨rfl, hb5⟩; obtain ⟨hc5, hf5⟩ := bcell hb5; have hs5 := hb5.size; (try simp at hs5); have hq5 : w.heap.size < w5.heap.size := (by omega); have hp5 : g < w5.heap.size := (by omega)) | (go_at_call 86; (with_reducible refine (hC _ (by repeat (first | exact Below.refl _ _ | assumption | refine b_then ?_ (by assumption) | refine b_alloc ?_ _ | refine b_drewN ?_ _ | refine Below.drew ?_ | refine b_set ?_ (by first | exact Nat.le_refl _ | (simp; done) | (simp; omega) | omega) _))).mono ?_); rintro e w7 ⟨rfl, hb7⟩; obtain ⟨hc7, hf7⟩ := bcell hb7; have hs7 := hb7.size; (try simp at hs7); have hq7 : w.heap.size < w7.heap.size := (by omega); have hp7 : g < w7.heap.size := (by omega)) | (go_at_call 86; (with_reducible refine (hR _ (by repeat (first | exact Below.refl _ _ | assumption | refine b_then ?_ (by assumption) | refine b_alloc ?_ _ | refine b_drewN ?_ _ | refine Below.drew ?_ | refine b_set ?_ (by first | exact Nat.le_refl _ | (simp; done) | (simp; omega) | omega) _))).mono ?_); rintro e w6 ⟨rfl, hb6⟩; obtain ⟨hc6, hf6⟩ := bcell hb6; have hs6 := hb6.size; (try simp at hs6); have hq6 : w.heap.size < w6.heap.size := (by omega); have hp6 : g < w6.heap.size := (by omega)))
  all_goals
    go_ret
    exact ⟨ret_bool (by grind), (by repeat (first | exact Below.refl _ _ | assumption | refine b_then ?_ (by assumption) | refine b_alloc ?_ _ | refine b_drewN ?_ _ | refine Below.drew ?_ | refine b_set ?_ (by first | exact Nat.le_refl _ | (simp; done) | (simp; omega) | omega) _))⟩
set_option maxRecDepth 100000 in
set_option maxHeartbeats 4000000 in
theorem p_amay_4 (a0 a2 a3 a4 a5 a6 a7 : ByteArray) (a8 a9 a10 : Int) (w : World) (hg : Glob w) (h0 : a0.size ≤ 9223372036854775807) (h2 : a2.size ≤ 9223372036854775807) (h3 : a3.size ≤ 9223372036854775807) (h4 : a4.size ≤ 880000000) (h5 : a5.size ≤ 880000000) (h6 : a6.size ≤ 880000000) (h7 : a7.size ≤ 880000000) (hE : aearly ⟨a0, 4, a2, a3, ⟨a4, a5⟩, ⟨a6, a7⟩, a8, a9, a10⟩ = true) :
    Calls Tryz.prog 47 #[.agg #[.string a0, .int .i64 4, .string a2, .string a3, .string a4, .string a5, .string a6, .string a7, .int .i64 a8, .int .i64 a9, .int .i64 a10]] w fun e w' => e = .returned (.bool (amay ⟨a0, 4, a2, a3, ⟨a4, a5⟩, ⟨a6, a7⟩, a8, a9, a10⟩)) ∧ Below w.heap.size w w' := by
  rw [amay_k4 hE]
  obtain ⟨_, e1, e2, e3, e4, e5, e6⟩ := aearly_of hE
  dsimp only at e1 e2 e3 e4 e5 e6
  clear hE
  have hN := fun W => p_name a0 W (by omega)
  have hA := fun W => p_asset a2 W (by omega)
  rw [e1] at hN
  rw [e2] at hA
  have hO := fun W => p_asset a3 W (by omega)
  have hH := fun W => p_shapes W
  have hix := ix_shapes_4
  have hR := fun W (h : Below w.heap.size w W) => p_number a4 a5 true 1 W (hg.below h) h4 h5
  have hC := fun W (h : Below w.heap.size w W) => p_number a6 a7 true 0 W (hg.below h) h6 h7
  generalize anum ⟨a4, a5⟩ true 1 = n1 at *
  generalize anum ⟨a6, a7⟩ true 0 = n2 at *
  go_enter Tryz.func47, Tryz.ntmps47
  go_wp2_with (first | (go_at_call 50; (with_reducible refine (hN _).mono ?_); rintro e w1 ⟨rfl, hb1⟩; obtain ⟨hc1, hf1⟩ := bcell hb1; have hs1 := hb1.size; (try simp at hs1); have hq1 : w.heap.size < w1.heap.size := (by omega)) | (go_at_call 84; (with_reducible refine (hA _).mono ?_); rintro e w2 ⟨rfl, hb2⟩; obtain ⟨hc2, hf2⟩ := bcell hb2; have hs2 := hb2.size; (try simp at hs2); have hq2 : w.heap.size < w2.heap.size := (by omega)))
  have hB2 : Below w.heap.size w w2 := (by repeat (first | exact Below.refl _ _ | assumption | refine b_then ?_ (by assumption) | refine b_alloc ?_ _ | refine b_drewN ?_ _ | refine Below.drew ?_ | refine b_set ?_ (by first | exact Nat.le_refl _ | (simp; done) | (simp; omega) | omega) _))
  have bx : Blk w2 w.heap.size 25 #[.string a0, .int .i64 4, .string a2, .string a3, .string a4, .string a5, .string a6, .string a7, .int .i64 a8, .int .i64 a9, .int .i64 a10] := ((Blk.new w _ _).below hb1).below hb2
  have hlt2 : w.heap.size < w2.heap.size := hq2
  clear hb1 hb2 hc1 hf1 hs1 hc2 hf2 hs2 hq1 hq2
  have k1 : ∀ (x : After w2) (y : After x.W), y.W.cell? ⟨w.heap.size, 1, none⟩ = some (.int .i64 4) := fun x y => (bx.below (b_then x.h y.h)).cell 1
  (refine wp_region_srcv 5 4 3 (fun p => .pointer p.1) (fun B k W => ∃ g, B = some ⟨g, 0, none⟩ ∧ Blk W g 91 #[.string ⟨#[]⟩, .bool false, .bool false, .bool false] ∧ w2.heap.size ≤ g) ?srcA3 (by kernel_rfl) (fun pp => by kernel_rfl) (fun pp x => ?srcH3) ⟨by kernel_rfl, by kernel_rfl, by decide, by decide, ?srcK3, ?srcS3, ?srcG3, ?srcQ3⟩; (case srcH3 => (simp only [srcl, List.modify_succ_cons, List.modify_zero_cons, repV, List.take_succ_cons, List.take_zero]; (have hxs := x.h.size); (try simp at hxs); (repeat (first | go_big_quiet_skip | (go_big_quiet_want; go_big_quiet_op; first | go_big_quiet_on | (apply Exists.intro; refine ⟨fun _ => ?_, ?_⟩; (focus ((go_at_call 85; with_reducible exact Calls.after (hH _)))); go_big_quiet_on)))); refine wpQuiet_nil ?_; rfl)); (case srcK3 => (intro pp; refine ⟨_, rfl, rfl, fun a W hW hgv => ?_⟩; exact srcv_alloc rfl rfl rfl (by simp [execOp, go_sem]) hW.size)); (case srcS3 => (intro B k W W' h hb; first | exact h.below hb | (obtain ⟨g, e, h1, h2⟩ := h; exact ⟨g, e, h1.below hb, h2⟩))); (case srcG3 => (intro pp; first | rfl | (simp; exact ⟨rfl, rfl⟩))); rintro ⟨B3, k3⟩ w3 R3 hb3; (try dsimp only at R3); simp only [List.drop_succ_cons, List.drop_zero]; obtain ⟨hc3, hf3⟩ := bcell hb3; have hs3 := hb3.size; (try simp at hs3))
  obtain ⟨g, rfl, hgb, hgl⟩ := R3
  have hB3 : Below w.heap.size w w3 := b_then hB2 hb3
  have bx3 := bx.below hb3
  have c3 := bx3.cell 3
  have c2 := bx3.cell 2
  have c4 := bx3.cell 4
  have c5 := bx3.cell 5
  have c6 := bx3.cell 6
  have c7 := bx3.cell 7
  have c1 := bx3.cell 1
  have z0 := hgb.cell 0
  have z1 := hgb.cell 1
  have z2 := hgb.cell 2
  have z3 := hgb.cell 3
  have y0 := hgb.frozen 0
  have y1 := hgb.frozen 1
  have y2 := hgb.frozen 2
  have y3 := hgb.frozen 3
  simp at z0 z1 z2 z3 c1 c2 c3 c4 c5 c6 c7
  have hne : g ≠ w.heap.size := by omega
  have hne' : w.heap.size ≠ g := by omega
  have hgw : w.heap.size ≤ g := by omega
  have hgl3 := hgb.lt
  have hl3 : w.heap.size < w3.heap.size := by omega
  clear hc3 hf3 hb3 hgl hlt2 hgb bx bx3
  go_wp2_with (first | (go_at_call 84; (with_reducible refine (hO _).mono ?_); rintro e w5 ⟨rfl, hb5⟩; obtain ⟨hc5, hf5⟩ := bcell hb5; have hs5 := hb5.size; (try simp at hs5); have hq5 : w.heap.size < w5.heap.size := (by omega); have hp5 : g < w5.heap.size := (by omega)) | (go_at_call 86; (with_reducible refine (hC _ (by repeat (first | exact Below.refl _ _ | assumption | refine b_then ?_ (by assumption) | refine b_alloc ?_ _ | refine b_drewN ?_ _ | refine Below.drew ?_ | refine b_set ?_ (by first | exact Nat.le_refl _ | (simp; done) | (simp; omega) | omega) _))).mono ?_); rintro e w7 ⟨rfl, hb7⟩; obtain ⟨hc7, hf7⟩ := bcell hb7; have hs7 := hb7.size; (try simp at hs7); have hq7 : w.heap.size < w7.heap.size := (by omega); have hp7 : g < w7.heap.size := (by omega)) | (go_at_call 86; (with_reducible refine (hR _ (by repeat (first | exact Below.refl _ _ | assumption | refine b_then ?_ (by assumption) | refine b_alloc ?_ _ | refine b_drewN ?_ _ | refine Below.drew ?_ | refine b_set ?_ (by first | exact Nat.le_refl _ | (simp; done) | (simp; omega) | omega) _))).mono ?_); rintro e w6 ⟨rfl, hb6⟩; obtain ⟨hc6, hf6⟩ := bcell hb6; have hs6 := hb6.size; (try simp at hs6); have hq6 : w.heap.size < w6.heap.size := (by omega); have hp6 : g < w6.heap.size := (by omega)))
  all_goals
    go_ret
    exact ⟨ret_bool (by grind), (by repeat (first | exact Below.refl _ _ | assumption | refine b_then ?_ (by assumption) | refine b_alloc ?_ _ | refine b_drewN ?_ _ | refine Below.drew ?_ | refine b_set ?_ (by first | exact Nat.le_refl _ | (simp; done) | (simp; omega) | omega) _))⟩
theorem p_amay (a0 : ByteArray) (a1 : Int) (a2 a3 a4 a5 a6 a7 : ByteArray) (a8 a9 a10 : Int) (w : World) (hg : Glob w) (h0 : a0.size ≤ 9223372036854775807) (h2 : a2.size ≤ 9223372036854775807) (h3 : a3.size ≤ 9223372036854775807) (h4 : a4.size ≤ 880000000) (h5 : a5.size ≤ 880000000) (h6 : a6.size ≤ 880000000) (h7 : a7.size ≤ 880000000) :
    Calls Tryz.prog 47 #[.agg #[.string a0, .int .i64 a1, .string a2, .string a3, .string a4, .string a5, .string a6, .string a7, .int .i64 a8, .int .i64 a9, .int .i64 a10]] w fun e w' => e = .returned (.bool (amay ⟨a0, a1, a2, a3, ⟨a4, a5⟩, ⟨a6, a7⟩, a8, a9, a10⟩)) ∧ Below w.heap.size w w' := by
  cases hE : aearly ⟨a0, a1, a2, a3, ⟨a4, a5⟩, ⟨a6, a7⟩, a8, a9, a10⟩ with
  | false => rw [amay_not hE]; exact p_amay_no a0 a1 a2 a3 a4 a5 a6 a7 a8 a9 a10 w h0 h2 h3 h4 h5 h6 h7 hE
  | true =>
    have hk := (aearly_of hE).1
    dsimp only at hk
    rcases hk with rfl | rfl | rfl | rfl | rfl
    · exact p_amay_0 a0 a2 a3 a4 a5 a6 a7 a8 a9 a10 w hg h0 h2 h3 h4 h5 h6 h7 hE
    · exact p_amay_1 a0 a2 a3 a4 a5 a6 a7 a8 a9 a10 w hg h0 h2 h3 h4 h5 h6 h7 hE
    · exact p_amay_2 a0 a2 a3 a4 a5 a6 a7 a8 a9 a10 w hg h0 h2 h3 h4 h5 h6 h7 hE
    · exact p_amay_3 a0 a2 a3 a4 a5 a6 a7 a8 a9 a10 w hg h0 h2 h3 h4 h5 h6 h7 hE
    · exact p_amay_4 a0 a2 a3 a4 a5 a6 a7 a8 a9 a10 w hg h0 h2 h3 h4 h5 h6 h7 hE
set_option maxHeartbeats 2000000 in
theorem r15_may_no (a0 : ByteArray) (a1 : Int) (a2 a3 a4 a5 a6 a7 : ByteArray) (a8 a9 a10 : Int) (w : World) (h0 : a0.size ≤ 9223372036854775807) (h2 : a2.size ≤ 9223372036854775807) (h3 : a3.size ≤ 9223372036854775807) (h4 : a4.size ≤ 880000000) (h5 : a5.size ≤ 880000000) (h6 : a6.size ≤ 880000000) (h7 : a7.size ≤ 880000000) (hE : aearly ⟨a0, a1, a2, a3, ⟨a4, a5⟩, ⟨a6, a7⟩, a8, a9, a10⟩ = false) :
    Calls Tryz.prog 29 #[.agg #[.string a0, .int .i64 a1, .string a2, .string a3, .string a4, .string a5, .string a6, .string a7, .int .i64 a8, .int .i64 a9, .int .i64 a10]] w fun e w' => e = .returned (.bool false) ∧ Below w.heap.size w w' := by
  have hN := fun W => r6_name a0 W (by omega)
  have hA := fun W => r15_asset a2 W (by omega)
  have HE := Lib.hid hE
  clear hE
  go_enter Tryz.func29, Tryz.ntmps29
  go_wp2_with (first | (go_at_call 53; (with_reducible refine (hN _).mono ?_); rintro e w' ⟨rfl, rfl⟩) | (go_at_call 64; (with_reducible refine (hA _).mono ?_); rintro e w2 ⟨rfl, hb2⟩; obtain ⟨hc2, hf2⟩ := bcell hb2; have hs2 := hb2.size; (try simp at hs2); have hq2 : w.heap.size < w2.heap.size := (by omega)))
  all_goals first
    | (go_ret; exact ⟨rfl, (by repeat (first | exact Below.refl _ _ | assumption | refine b_then ?_ (by assumption) | refine b_alloc ?_ _ | refine b_drewN ?_ _ | refine Below.drew ?_ | refine b_set ?_ (by first | exact Nat.le_refl _ | (simp; done) | (simp; omega) | omega) _))⟩)
    | (exfalso; have hE := HE.out; simp [aearly, adays, *] at hE <;> omega)
set_option maxRecDepth 100000 in
set_option maxHeartbeats 4000000 in
theorem r15_may_0 (a0 a2 a3 a4 a5 a6 a7 : ByteArray) (a8 a9 a10 : Int) (w : World) (h0 : a0.size ≤ 9223372036854775807) (h2 : a2.size ≤ 9223372036854775807) (h3 : a3.size ≤ 9223372036854775807) (h4 : a4.size ≤ 880000000) (h5 : a5.size ≤ 880000000) (h6 : a6.size ≤ 880000000) (h7 : a7.size ≤ 880000000) (hE : aearly ⟨a0, 0, a2, a3, ⟨a4, a5⟩, ⟨a6, a7⟩, a8, a9, a10⟩ = true) :
    Calls Tryz.prog 29 #[.agg #[.string a0, .int .i64 0, .string a2, .string a3, .string a4, .string a5, .string a6, .string a7, .int .i64 a8, .int .i64 a9, .int .i64 a10]] w fun e w' => e = .returned (.bool (amay ⟨a0, 0, a2, a3, ⟨a4, a5⟩, ⟨a6, a7⟩, a8, a9, a10⟩)) ∧ Below w.heap.size w w' := by
  rw [amay_k0 hE]
  obtain ⟨_, e1, e2, e3, e4, e5, e6⟩ := aearly_of hE
  dsimp only at e1 e2 e3 e4 e5 e6
  clear hE
  have hN := fun W => r6_name a0 W (by omega)
  have hA := fun W => r15_asset a2 W (by omega)
  rw [e1] at hN
  rw [e2] at hA
  have hO := fun W => r15_asset a3 W (by omega)
  have hH : ∀ W, Calls Tryz.prog 65 #[.int .i64 0] W fun e w' => e = .returned (.tuple #[.bool false, .bool true, .bool false]) ∧ W = w' := fun W => r15_names 0 W
  have hR := fun W => r15_number a4 a5 true 1 W h4 h5
  have hC := fun W => r15_number a6 a7 false 1 W h6 h7
  generalize anum ⟨a4, a5⟩ true 1 = n1 at *
  generalize anum ⟨a6, a7⟩ false 1 = n2 at *
  go_enter Tryz.func29, Tryz.ntmps29
  go_wp2_with (first | (go_at_call 53; (with_reducible refine (hN _).mono ?_); rintro e w' ⟨rfl, rfl⟩) | (go_at_call 65; (with_reducible refine (hH _).mono ?_); rintro e w' ⟨rfl, rfl⟩) | (go_at_call 64; (with_reducible refine (hA _).mono ?_); rintro e w2 ⟨rfl, hb2⟩; obtain ⟨hc2, hf2⟩ := bcell hb2; have hs2 := hb2.size; (try simp at hs2); have hq2 : w.heap.size < w2.heap.size := (by omega)) | (go_at_call 64; (with_reducible refine (hO _).mono ?_); rintro e w5 ⟨rfl, hb5⟩; obtain ⟨hc5, hf5⟩ := bcell hb5; have hs5 := hb5.size; (try simp at hs5); have hq5 : w.heap.size < w5.heap.size := (by omega)) | (go_at_call 66; (with_reducible refine (hC _).mono ?_); rintro e w7 ⟨rfl, hb7⟩; obtain ⟨hc7, hf7⟩ := bcell hb7; have hs7 := hb7.size; (try simp at hs7); have hq7 : w.heap.size < w7.heap.size := (by omega)) | (go_at_call 66; (with_reducible refine (hR _).mono ?_); rintro e w6 ⟨rfl, hb6⟩; obtain ⟨hc6, hf6⟩ := bcell hb6; have hs6 := hb6.size; (try simp at hs6); have hq6 : w.heap.size < w6.heap.size := (by omega)))
  all_goals
    go_ret
    exact ⟨ret_bool (by grind), (by repeat (first | exact Below.refl _ _ | assumption | refine b_then ?_ (by assumption) | refine b_alloc ?_ _ | refine b_drewN ?_ _ | refine Below.drew ?_ | refine b_set ?_ (by first | exact Nat.le_refl _ | (simp; done) | (simp; omega) | omega) _))⟩
set_option maxRecDepth 100000 in
set_option maxHeartbeats 4000000 in
theorem r15_may_1 (a0 a2 a3 a4 a5 a6 a7 : ByteArray) (a8 a9 a10 : Int) (w : World) (h0 : a0.size ≤ 9223372036854775807) (h2 : a2.size ≤ 9223372036854775807) (h3 : a3.size ≤ 9223372036854775807) (h4 : a4.size ≤ 880000000) (h5 : a5.size ≤ 880000000) (h6 : a6.size ≤ 880000000) (h7 : a7.size ≤ 880000000) (hE : aearly ⟨a0, 1, a2, a3, ⟨a4, a5⟩, ⟨a6, a7⟩, a8, a9, a10⟩ = true) :
    Calls Tryz.prog 29 #[.agg #[.string a0, .int .i64 1, .string a2, .string a3, .string a4, .string a5, .string a6, .string a7, .int .i64 a8, .int .i64 a9, .int .i64 a10]] w fun e w' => e = .returned (.bool (amay ⟨a0, 1, a2, a3, ⟨a4, a5⟩, ⟨a6, a7⟩, a8, a9, a10⟩)) ∧ Below w.heap.size w w' := by
  rw [amay_k1 hE]
  obtain ⟨_, e1, e2, e3, e4, e5, e6⟩ := aearly_of hE
  dsimp only at e1 e2 e3 e4 e5 e6
  clear hE
  have hN := fun W => r6_name a0 W (by omega)
  have hA := fun W => r15_asset a2 W (by omega)
  rw [e1] at hN
  rw [e2] at hA
  have hO := fun W => r15_asset a3 W (by omega)
  have hH : ∀ W, Calls Tryz.prog 65 #[.int .i64 1] W fun e w' => e = .returned (.tuple #[.bool false, .bool true, .bool false]) ∧ W = w' := fun W => r15_names 1 W
  have hR := fun W => r15_number a4 a5 true 1 W h4 h5
  have hC := fun W => r15_number a6 a7 false 1 W h6 h7
  generalize anum ⟨a4, a5⟩ true 1 = n1 at *
  generalize anum ⟨a6, a7⟩ false 1 = n2 at *
  go_enter Tryz.func29, Tryz.ntmps29
  go_wp2_with (first | (go_at_call 53; (with_reducible refine (hN _).mono ?_); rintro e w' ⟨rfl, rfl⟩) | (go_at_call 65; (with_reducible refine (hH _).mono ?_); rintro e w' ⟨rfl, rfl⟩) | (go_at_call 64; (with_reducible refine (hA _).mono ?_); rintro e w2 ⟨rfl, hb2⟩; obtain ⟨hc2, hf2⟩ := bcell hb2; have hs2 := hb2.size; (try simp at hs2); have hq2 : w.heap.size < w2.heap.size := (by omega)) | (go_at_call 64; (with_reducible refine (hO _).mono ?_); rintro e w5 ⟨rfl, hb5⟩; obtain ⟨hc5, hf5⟩ := bcell hb5; have hs5 := hb5.size; (try simp at hs5); have hq5 : w.heap.size < w5.heap.size := (by omega)) | (go_at_call 66; (with_reducible refine (hC _).mono ?_); rintro e w7 ⟨rfl, hb7⟩; obtain ⟨hc7, hf7⟩ := bcell hb7; have hs7 := hb7.size; (try simp at hs7); have hq7 : w.heap.size < w7.heap.size := (by omega)) | (go_at_call 66; (with_reducible refine (hR _).mono ?_); rintro e w6 ⟨rfl, hb6⟩; obtain ⟨hc6, hf6⟩ := bcell hb6; have hs6 := hb6.size; (try simp at hs6); have hq6 : w.heap.size < w6.heap.size := (by omega)))
  all_goals
    go_ret
    exact ⟨ret_bool (by grind), (by repeat (first | exact Below.refl _ _ | assumption | refine b_then ?_ (by assumption) | refine b_alloc ?_ _ | refine b_drewN ?_ _ | refine Below.drew ?_ | refine b_set ?_ (by first | exact Nat.le_refl _ | (simp; done) | (simp; omega) | omega) _))⟩
set_option maxRecDepth 100000 in
set_option maxHeartbeats 4000000 in
theorem r15_may_2 (a0 a2 a3 a4 a5 a6 a7 : ByteArray) (a8 a9 a10 : Int) (w : World) (h0 : a0.size ≤ 9223372036854775807) (h2 : a2.size ≤ 9223372036854775807) (h3 : a3.size ≤ 9223372036854775807) (h4 : a4.size ≤ 880000000) (h5 : a5.size ≤ 880000000) (h6 : a6.size ≤ 880000000) (h7 : a7.size ≤ 880000000) (hE : aearly ⟨a0, 2, a2, a3, ⟨a4, a5⟩, ⟨a6, a7⟩, a8, a9, a10⟩ = true) :
    Calls Tryz.prog 29 #[.agg #[.string a0, .int .i64 2, .string a2, .string a3, .string a4, .string a5, .string a6, .string a7, .int .i64 a8, .int .i64 a9, .int .i64 a10]] w fun e w' => e = .returned (.bool (amay ⟨a0, 2, a2, a3, ⟨a4, a5⟩, ⟨a6, a7⟩, a8, a9, a10⟩)) ∧ Below w.heap.size w w' := by
  rw [amay_k2 hE]
  obtain ⟨_, e1, e2, e3, e4, e5, e6⟩ := aearly_of hE
  dsimp only at e1 e2 e3 e4 e5 e6
  clear hE
  have hN := fun W => r6_name a0 W (by omega)
  have hA := fun W => r15_asset a2 W (by omega)
  rw [e1] at hN
  rw [e2] at hA
  have hO := fun W => r15_asset a3 W (by omega)
  have hH : ∀ W, Calls Tryz.prog 65 #[.int .i64 2] W fun e w' => e = .returned (.tuple #[.bool false, .bool false, .bool true]) ∧ W = w' := fun W => r15_names 2 W
  have hR := fun W => r15_number a4 a5 false 1 W h4 h5
  have hC := fun W => r15_number a6 a7 true 1 W h6 h7
  generalize anum ⟨a4, a5⟩ false 1 = n1 at *
  generalize anum ⟨a6, a7⟩ true 1 = n2 at *
  go_enter Tryz.func29, Tryz.ntmps29
  go_wp2_with (first | (go_at_call 53; (with_reducible refine (hN _).mono ?_); rintro e w' ⟨rfl, rfl⟩) | (go_at_call 65; (with_reducible refine (hH _).mono ?_); rintro e w' ⟨rfl, rfl⟩) | (go_at_call 64; (with_reducible refine (hA _).mono ?_); rintro e w2 ⟨rfl, hb2⟩; obtain ⟨hc2, hf2⟩ := bcell hb2; have hs2 := hb2.size; (try simp at hs2); have hq2 : w.heap.size < w2.heap.size := (by omega)) | (go_at_call 64; (with_reducible refine (hO _).mono ?_); rintro e w5 ⟨rfl, hb5⟩; obtain ⟨hc5, hf5⟩ := bcell hb5; have hs5 := hb5.size; (try simp at hs5); have hq5 : w.heap.size < w5.heap.size := (by omega)) | (go_at_call 66; (with_reducible refine (hC _).mono ?_); rintro e w7 ⟨rfl, hb7⟩; obtain ⟨hc7, hf7⟩ := bcell hb7; have hs7 := hb7.size; (try simp at hs7); have hq7 : w.heap.size < w7.heap.size := (by omega)) | (go_at_call 66; (with_reducible refine (hR _).mono ?_); rintro e w6 ⟨rfl, hb6⟩; obtain ⟨hc6, hf6⟩ := bcell hb6; have hs6 := hb6.size; (try simp at hs6); have hq6 : w.heap.size < w6.heap.size := (by omega)))
  all_goals
    go_ret
    exact ⟨ret_bool (by grind), (by repeat (first | exact Below.refl _ _ | assumption | refine b_then ?_ (by assumption) | refine b_alloc ?_ _ | refine b_drewN ?_ _ | refine Below.drew ?_ | refine b_set ?_ (by first | exact Nat.le_refl _ | (simp; done) | (simp; omega) | omega) _))⟩
set_option maxRecDepth 100000 in
set_option maxHeartbeats 4000000 in
theorem r15_may_3 (a0 a2 a3 a4 a5 a6 a7 : ByteArray) (a8 a9 a10 : Int) (w : World) (h0 : a0.size ≤ 9223372036854775807) (h2 : a2.size ≤ 9223372036854775807) (h3 : a3.size ≤ 9223372036854775807) (h4 : a4.size ≤ 880000000) (h5 : a5.size ≤ 880000000) (h6 : a6.size ≤ 880000000) (h7 : a7.size ≤ 880000000) (hE : aearly ⟨a0, 3, a2, a3, ⟨a4, a5⟩, ⟨a6, a7⟩, a8, a9, a10⟩ = true) :
    Calls Tryz.prog 29 #[.agg #[.string a0, .int .i64 3, .string a2, .string a3, .string a4, .string a5, .string a6, .string a7, .int .i64 a8, .int .i64 a9, .int .i64 a10]] w fun e w' => e = .returned (.bool (amay ⟨a0, 3, a2, a3, ⟨a4, a5⟩, ⟨a6, a7⟩, a8, a9, a10⟩)) ∧ Below w.heap.size w w' := by
  rw [amay_k3 hE]
  obtain ⟨_, e1, e2, e3, e4, e5, e6⟩ := aearly_of hE
  dsimp only at e1 e2 e3 e4 e5 e6
  clear hE
  have hN := fun W => r6_name a0 W (by omega)
  have hA := fun W => r15_asset a2 W (by omega)
  rw [e1] at hN
  rw [e2] at hA
  have hO := fun W => r15_asset a3 W (by omega)
  have hH : ∀ W, Calls Tryz.prog 65 #[.int .i64 3] W fun e w' => e = .returned (.tuple #[.bool true, .bool true, .bool false]) ∧ W = w' := fun W => r15_names 3 W
  have hR := fun W => r15_number a4 a5 true 1 W h4 h5
  have hC := fun W => r15_number a6 a7 false 1 W h6 h7
  generalize anum ⟨a4, a5⟩ true 1 = n1 at *
  generalize anum ⟨a6, a7⟩ false 1 = n2 at *
  go_enter Tryz.func29, Tryz.ntmps29
  go_wp2_with (first | (go_at_call 53; (with_reducible refine (hN _).mono ?_); rintro e w' ⟨rfl, rfl⟩) | (go_at_call 65; (with_reducible refine (hH _).mono ?_); rintro e w' ⟨rfl, rfl⟩) | (go_at_call 64; (with_reducible refine (hA _).mono ?_); rintro e w2 ⟨rfl, hb2⟩; obtain ⟨hc2, hf2⟩ := bcell hb2; have hs2 := hb2.size; (try simp at hs2); have hq2 : w.heap.size < w2.heap.size := (by omega)) | (go_at_call 64; (with_reducible refine (hO _).mono ?_); rintro e w5 ⟨rfl, hb5⟩; obtain ⟨hc5, hf5⟩ := bcell hb5; have hs5 := hb5.size; (try simp at hs5); have hq5 : w.heap.size < w5.heap.size := (by omega)) | (go_at_call 66; (with_reducible refine (hC _).mono ?_); rintro e w7 ⟨rfl, hb7⟩; obtain ⟨hc7, hf7⟩ := bcell hb7; have hs7 := hb7.size; (try simp at hs7); have hq7 : w.heap.size < w7.heap.size := (by omega)) | (go_at_call 66; (with_reducible refine (hR _).mono ?_); rintro e w6 ⟨rfl, hb6⟩; obtain ⟨hc6, hf6⟩ := bcell hb6; have hs6 := hb6.size; (try simp at hs6); have hq6 : w.heap.size < w6.heap.size := (by omega)))
  all_goals
    go_ret
    exact ⟨ret_bool (by grind), (by repeat (first | exact Below.refl _ _ | assumption | refine b_then ?_ (by assumption) | refine b_alloc ?_ _ | refine b_drewN ?_ _ | refine Below.drew ?_ | refine b_set ?_ (by first | exact Nat.le_refl _ | (simp; done) | (simp; omega) | omega) _))⟩
set_option maxRecDepth 100000 in
set_option maxHeartbeats 4000000 in
theorem r15_may_4 (a0 a2 a3 a4 a5 a6 a7 : ByteArray) (a8 a9 a10 : Int) (w : World) (h0 : a0.size ≤ 9223372036854775807) (h2 : a2.size ≤ 9223372036854775807) (h3 : a3.size ≤ 9223372036854775807) (h4 : a4.size ≤ 880000000) (h5 : a5.size ≤ 880000000) (h6 : a6.size ≤ 880000000) (h7 : a7.size ≤ 880000000) (hE : aearly ⟨a0, 4, a2, a3, ⟨a4, a5⟩, ⟨a6, a7⟩, a8, a9, a10⟩ = true) :
    Calls Tryz.prog 29 #[.agg #[.string a0, .int .i64 4, .string a2, .string a3, .string a4, .string a5, .string a6, .string a7, .int .i64 a8, .int .i64 a9, .int .i64 a10]] w fun e w' => e = .returned (.bool (amay ⟨a0, 4, a2, a3, ⟨a4, a5⟩, ⟨a6, a7⟩, a8, a9, a10⟩)) ∧ Below w.heap.size w w' := by
  rw [amay_k4 hE]
  obtain ⟨_, e1, e2, e3, e4, e5, e6⟩ := aearly_of hE
  dsimp only at e1 e2 e3 e4 e5 e6
  clear hE
  have hN := fun W => r6_name a0 W (by omega)
  have hA := fun W => r15_asset a2 W (by omega)
  rw [e1] at hN
  rw [e2] at hA
  have hO := fun W => r15_asset a3 W (by omega)
  have hH : ∀ W, Calls Tryz.prog 65 #[.int .i64 4] W fun e w' => e = .returned (.tuple #[.bool true, .bool true, .bool true]) ∧ W = w' := fun W => r15_names 4 W
  have hR := fun W => r15_number a4 a5 true 1 W h4 h5
  have hC := fun W => r15_number a6 a7 true 0 W h6 h7
  generalize anum ⟨a4, a5⟩ true 1 = n1 at *
  generalize anum ⟨a6, a7⟩ true 0 = n2 at *
  go_enter Tryz.func29, Tryz.ntmps29
  go_wp2_with (first | (go_at_call 53; (with_reducible refine (hN _).mono ?_); rintro e w' ⟨rfl, rfl⟩) | (go_at_call 65; (with_reducible refine (hH _).mono ?_); rintro e w' ⟨rfl, rfl⟩) | (go_at_call 64; (with_reducible refine (hA _).mono ?_); rintro e w2 ⟨rfl, hb2⟩; obtain ⟨hc2, hf2⟩ := bcell hb2; have hs2 := hb2.size; (try simp at hs2); have hq2 : w.heap.size < w2.heap.size := (by omega)) | (go_at_call 64; (with_reducible refine (hO _).mono ?_); rintro e w5 ⟨rfl, hb5⟩; obtain ⟨hc5, hf5⟩ := bcell hb5; have hs5 := hb5.size; (try simp at hs5); have hq5 : w.heap.size < w5.heap.size := (by omega)) | (go_at_call 66; (with_reducible refine (hC _).mono ?_); rintro e w7 ⟨rfl, hb7⟩; obtain ⟨hc7, hf7⟩ := bcell hb7; have hs7 := hb7.size; (try simp at hs7); have hq7 : w.heap.size < w7.heap.size := (by omega)) | (go_at_call 66; (with_reducible refine (hR _).mono ?_); rintro e w6 ⟨rfl, hb6⟩; obtain ⟨hc6, hf6⟩ := bcell hb6; have hs6 := hb6.size; (try simp at hs6); have hq6 : w.heap.size < w6.heap.size := (by omega)))
  all_goals
    go_ret
    exact ⟨ret_bool (by grind), (by repeat (first | exact Below.refl _ _ | assumption | refine b_then ?_ (by assumption) | refine b_alloc ?_ _ | refine b_drewN ?_ _ | refine Below.drew ?_ | refine b_set ?_ (by first | exact Nat.le_refl _ | (simp; done) | (simp; omega) | omega) _))⟩
theorem r15_may (a0 : ByteArray) (a1 : Int) (a2 a3 a4 a5 a6 a7 : ByteArray) (a8 a9 a10 : Int) (w : World) (h0 : a0.size ≤ 9223372036854775807) (h2 : a2.size ≤ 9223372036854775807) (h3 : a3.size ≤ 9223372036854775807) (h4 : a4.size ≤ 880000000) (h5 : a5.size ≤ 880000000) (h6 : a6.size ≤ 880000000) (h7 : a7.size ≤ 880000000) :
    Calls Tryz.prog 29 #[.agg #[.string a0, .int .i64 a1, .string a2, .string a3, .string a4, .string a5, .string a6, .string a7, .int .i64 a8, .int .i64 a9, .int .i64 a10]] w fun e w' => e = .returned (.bool (amay ⟨a0, a1, a2, a3, ⟨a4, a5⟩, ⟨a6, a7⟩, a8, a9, a10⟩)) ∧ Below w.heap.size w w' := by
  cases hE : aearly ⟨a0, a1, a2, a3, ⟨a4, a5⟩, ⟨a6, a7⟩, a8, a9, a10⟩ with
  | false => rw [amay_not hE]; exact r15_may_no a0 a1 a2 a3 a4 a5 a6 a7 a8 a9 a10 w h0 h2 h3 h4 h5 h6 h7 hE
  | true =>
    have hk := (aearly_of hE).1
    dsimp only at hk
    rcases hk with rfl | rfl | rfl | rfl | rfl
    · exact r15_may_0 a0 a2 a3 a4 a5 a6 a7 a8 a9 a10 w h0 h2 h3 h4 h5 h6 h7 hE
    · exact r15_may_1 a0 a2 a3 a4 a5 a6 a7 a8 a9 a10 w h0 h2 h3 h4 h5 h6 h7 hE
    · exact r15_may_2 a0 a2 a3 a4 a5 a6 a7 a8 a9 a10 w h0 h2 h3 h4 h5 h6 h7 hE
    · exact r15_may_3 a0 a2 a3 a4 a5 a6 a7 a8 a9 a10 w h0 h2 h3 h4 h5 h6 h7 hE
    · exact r15_may_4 a0 a2 a3 a4 a5 a6 a7 a8 a9 a10 w h0 h2 h3 h4 h5 h6 h7 hE
def LightIs (w : World) (K : Prop) (e : Ending) (w' : World) : Prop := ∃ b : Bool, e = .returned (.bool b) ∧ (b = true → K) ∧ Below w.heap.size w w'
set_option maxHeartbeats 2000000 in
theorem r15_light (a0 : ByteArray) (a1 : Int) (a2 a3 a4 a5 a6 a7 : ByteArray) (a8 a9 a10 : Int) (w : World) (h0 : a0.size ≤ 9223372036854775807) (h2 : a2.size ≤ 9223372036854775807) (h3 : a3.size ≤ 9223372036854775807) (h4 : a4.size ≤ 9223372036854775807) (h5 : a5.size ≤ 9223372036854775807) (h6 : a6.size ≤ 9223372036854775807) (h7 : a7.size ≤ 9223372036854775807) :
    Calls Tryz.prog 13 #[.agg #[.string a0, .int .i64 a1, .string a2, .string a3, .string a4, .string a5, .string a6, .string a7, .int .i64 a8, .int .i64 a9, .int .i64 a10]] w (LightIs w (a4.size ≤ 30 ∧ a5.size ≤ 30 ∧ a6.size ≤ 30 ∧ a7.size ≤ 30)) := by
  go_enter Tryz.func13, Tryz.ntmps13
  go_wp2
  all_goals
    go_ret
    refine ⟨_, rfl, ?_, (by repeat (first | exact Below.refl _ _ | assumption | refine b_then ?_ (by assumption) | refine b_alloc ?_ _ | refine b_drewN ?_ _ | refine Below.drew ?_ | refine b_set ?_ (by first | exact Nat.le_refl _ | (simp; done) | (simp; omega) | omega) _))⟩
    intro hh
    first
      | (cases hh; done)
      | (clear hh; refine ⟨?_, ?_, ?_, ?_⟩ <;> omega)
end Go.Proofs.YtdkpbifpafaabaaGreatDoor
