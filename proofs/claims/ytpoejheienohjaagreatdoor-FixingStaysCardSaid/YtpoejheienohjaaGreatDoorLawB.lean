/- Walk of the law's fixed calls. -/
import Derived.Test.YtpoejheienohjaaGreatDoorLawA
import Derived.Test.YtpoejheienohjaaGreatDoorTail
namespace Go.Proofs.YtpoejheienohjaaGreatDoor
open Go.RowKit
set_option linter.unusedVariables false
set_option linter.unusedSimpArgs false

theorem rd_new (w : World) (f : Fx) : Rd Fx.cs 4 (w.alloc (.cells (Fx.cs f).toArray 26)) (some ⟨w.heap.size, 0, none⟩) 1 [f] :=
  ⟨rfl, by omega, fun _ => ⟨_, rfl, by simp, fun j x hj i u hu => by
    obtain ⟨rfl, rfl⟩ := one_at hj
    rw [Nat.zero_mul, Nat.zero_add, add_lit4]
    exact (Blk.cell (Blk.new w _ _) _).trans (by simpa using hu)⟩⟩
theorem below_cells {w w' : World} (h : Below w.heap.size w w') {B : Nat} {t : TypeId} {cs : Array Value} (hb : Blk w B t cs) : Blk w' B t cs := hb.below h
theorem fxM_q : ∀ f ∈ fxM, fxq f := by
  intro f hf
  rcases List.mem_cons.1 hf with rfl | hf
  · exact fxq_I (by decide) (by decide)
  · rw [List.mem_singleton.1 hf]; exact fxq_I (by decide) (by decide)
theorem c_mayM {A : Option Addr} {c : Nat} (w : World) (hg : Glob w) (hx : Rd Fx.cs 4 w A 2 fxM) : Calls Tryz.prog 24 #[.slice A 2 c] w fun e w' => e = .returned (.bool true) ∧ Below w.heap.size w w' := by
  have := p_may (c := c) w hg hx fxM_q
  rw [fx_mayM] at this
  exact this
theorem c_may0 {c : Nat} (v : World) (hg : Glob v) : Calls Tryz.prog 24 #[.slice (some ⟨v.heap.size, 0, none⟩) 1 c] (v.alloc (.cells #[.string ⟨#[]⟩, .int .i64 0, .string ⟨#[]⟩, .string ⟨#[]⟩] 26)) fun e w' => e = .returned (.bool false) ∧ Below (v.alloc (.cells #[.string ⟨#[]⟩, .int .i64 0, .string ⟨#[]⟩, .string ⟨#[]⟩] 26)).heap.size (v.alloc (.cells #[.string ⟨#[]⟩, .int .i64 0, .string ⟨#[]⟩, .string ⟨#[]⟩] 26)) w' := by
  have := p_may (A := some ⟨v.heap.size, 0, none⟩) (n := 1) (c := c) (xs := [⟨⟨#[]⟩, 0, rzero⟩]) (v.alloc (.cells #[.string ⟨#[]⟩, .int .i64 0, .string ⟨#[]⟩, .string ⟨#[]⟩] 26)) (hg.below (b_alloc (Below.refl _ _) _)) (rd_new v ⟨⟨#[]⟩, 0, rzero⟩) (fun f hf => by rw [List.mem_singleton.1 hf]; exact ⟨by decide, by decide, by decide⟩)
  rw [fx_empty] at this
  exact this
def theRegion (n : Nat) : Code → Option Code
  | .region i ops d => if i = n then some (.region i ops d) else none
  | .seq a b => match theRegion n a with | some c => some c | none => theRegion n b
  | _ => none
set_option maxRecDepth 100000 in
set_option maxHeartbeats 2000000 in
theorem fixed_last {Q : Exit → Act → World → Prop} {A6 : Option Addr} {k6 g7 g8 : Nat} {w W : World} {s1 s3 s11 s13 s15 s16 s17 s18 s19 s20 s21 s22 s23 s24 s25 s26 s27 s28 s29 s30 s31 s32 s33 s34 s35 s36 s37 s38 s39 s40 s41 s42 s43 s44 s45 s46 s47 s48 s49 s50 s51 s52 s53 s54 : Value} (hg : Glob w) (HB11 : Below w.heap.size w W) (HR11 : Rd Fx.cs 4 W A6 2 fxM)
    (b7 : Blk W g7 24 #[.string (iS 7), .string (nS 1)]) (b8 : Blk W g8 24 #[.string (iS (-5)), .string (nS 1)])
    (hQ : ∀ a' W', a'.tmps.getD 0 undef = .bool true → a'.defers = [] → Below w.heap.size w W' → Q .normal a' W')
    (C : Code) (hC : theRegion 8 (Tryz.f16.body.getD .skip) = some C) : C.wp Tryz.prog Q { tmps := #[Value.bool false, s1, Value.bool true, s3, Value.bool false, Value.slice A6 2 k6, Value.bool true, Value.pointer (some ⟨g7, 0, none⟩), Value.bool true, Value.pointer (some ⟨g8, 0, none⟩), Value.bool true, s11, Value.bool false, s13, Value.bool false, s15, s16, s17, s18, s19, s20, s21, s22, s23, s24, s25, s26, s27, s28, s29, s30, s31, s32, s33, s34, s35, s36, s37, s38, s39, s40, s41, s42, s43, s44, s45, s46, s47, s48, s49, s50, s51, s52, s53, s54, undef, undef, undef, undef, undef, undef, undef, undef, undef, undef, undef, undef, undef, undef, undef, undef, undef, undef, undef, undef, undef, undef, undef, undef, undef, undef, undef, undef, undef, undef, undef, undef, undef, undef, undef, undef, undef, undef, undef, undef, undef, undef, undef, undef, undef, undef, undef], defers := [] } W := by
  simp only [Tryz.f16, theRegion, Option.getD_some, Option.some.injEq, Nat.reduceEqDiff, reduceIte, if_false, if_true, Nat.succ_ne_self, reduceCtorEq] at hC
  subst hC
  have heq := eqRat
  have ZM : ∀ f ∈ fxM, fxq f := by
    intro f hf
    rcases List.mem_cons.1 hf with rfl | hf
    · exact fxq_I (by decide) (by decide)
    · rw [List.mem_singleton.1 hf]; exact fxq_I (by decide) (by decide)
  have HBd : Below w.heap.size w W.drew := HB11.drew
  have HR12 : Rd Fx.cs 4 W.drew A6 2 fxM := HR11.below (Below.refl W.heap.size W).drew
  obtain ⟨c70, c71, _, _⟩ := b7.two
  obtain ⟨c80, c81, _, _⟩ := b8.two
  have hl7 := b7.lt
  have hl8 := b8.lt
  obtain ⟨_, _, f70, f71⟩ := b7.two
  obtain ⟨_, _, f80, f81⟩ := b8.two
  (refine wp_region_ahead 42 (by kernel_rfl) (by kernel_rfl) ?_; simp only [List.take_succ_cons, List.take_zero, List.drop_succ_cons, List.drop_zero]; (repeat (first | go_big_quiet_skip | (go_big_quiet_want; go_big_quiet_op; first | go_big_quiet_on | (apply Exists.intro; refine ⟨fun _ => ?_, ?_⟩; (focus (first | (go_at_call 27; exact Calls.after (c_ofI 7 _ (by omega) (by omega))) | (go_at_call 27; exact Calls.after (c_ofI (-5) _ (by omega) (by omega))) | (go_at_call 24; exact Calls.after (c_mayM _ (hg.below (b_then HB11 (After.h _))) (HR11.below (After.h _)))))); go_big_quiet_on)))); refine wpQuiet_nil ?_; rintro ⟨w1, hb1⟩; (try dsimp only); obtain ⟨hc1, hf1⟩ := bcell hb1; have hs1 := hb1.size; (try simp at hs1))
  go_wp2_with ((go_at_call 24; (with_reducible refine (c_may0 _ (hg.below (b_then HB11 hb1))).mono ?_); rintro e w2 ⟨rfl, hb2⟩; obtain ⟨hc2, hf2⟩ := bcell hb2; have hs2 := hb2.size; (try simp at hs2)))
  exact hQ _ _ rfl rfl (by repeat (first | exact Below.refl _ _ | assumption | refine b_then ?_ (by assumption) | refine b_alloc ?_ _ | refine b_drewN ?_ _ | refine b_set ?_ (by first | exact Nat.le_refl _ | (simp; done) | omega) _))
end Go.Proofs.YtpoejheienohjaaGreatDoor

/- Walk of the law's fixed calls. -/
namespace Go.Proofs.YtpoejheienohjaaGreatDoor
open Go.RowKit
set_option linter.unusedVariables false
set_option linter.unusedSimpArgs false

set_option maxRecDepth 100000 in
set_option maxHeartbeats 2000000 in
theorem p_fixed (w : World) (hg : Glob w) : Calls Tryz.prog 16 #[] w fun e w' => e = .returned (.bool true) ∧ Below w.heap.size w w' := by
  have heq := eqRat
  have q7 : fxq ⟨⟨#[120]⟩, 3, ⟨iS 7, nS 1⟩⟩ := fxq_I (by decide) (by decide)
  have q8 : fxq ⟨⟨#[120]⟩, 3, ⟨iS 8, nS 1⟩⟩ := fxq_I (by decide) (by decide)
  have q5 : fxq ⟨⟨#[120]⟩, 1, ⟨iS (-5), nS 1⟩⟩ := fxq_I (by decide) (by decide)
  have Z1 : ∀ f ∈ [fxI 3 7], fxq f := by intro f hf; rw [List.mem_singleton.1 hf]; exact q7
  have ZM : ∀ f ∈ fxM, fxq f := by
    intro f hf
    rcases List.mem_cons.1 hf with rfl | hf
    · exact q5
    · rw [List.mem_singleton.1 hf]; exact q7
  have Z0 : ∀ f ∈ ([] : List Fx), fxq f := fun f hf => by cases hf
  have s1 : fset [] ⟨⟨#[120]⟩, 3, ⟨iS 7, nS 1⟩⟩ = some [fxI 3 7] := fx_set1
  have s2 : fset [fxI 3 7] ⟨⟨#[120]⟩, 3, ⟨iS 8, nS 1⟩⟩ = none := fx_set2
  have s3 : fset [fxI 3 7] ⟨⟨#[120]⟩, 1, ⟨iS (-5), nS 1⟩⟩ = some fxM := fx_set3
  have S1 := Lib.hid s1
  have S2 := Lib.hid s2
  have S3 := Lib.hid s3
  have g3 : fget fxM ⟨#[120]⟩ 3 = some ⟨iS 7, nS 1⟩ := fx_get3
  have g2 : fget fxM ⟨#[120]⟩ 2 = none := fx_get2
  have l2 : flast fxM ⟨#[120]⟩ 2 = some ⟨iS (-5), nS 1⟩ := fx_last2
  have l0 : flast fxM ⟨#[120]⟩ 0 = none := fx_last0
  have G3 : ∀ {A : Option Addr} {c : Nat} (w : World) (hg : Glob w) (hx : Rd Fx.cs 4 w A 2 fxM), Calls Tryz.prog 19 #[.slice A 2 c, .string ⟨#[120]⟩, .int .i64 3] w fun e w' => e = .returned (.tuple #[.agg #[.string (iS 7), .string (nS 1)], .bool true]) ∧ Below w.heap.size w w' := fun {A c} w hg hx => by have := p_get (A := A) (c := c) ⟨#[120]⟩ 3 w hg hx (by omega) ZM; rw [g3] at this; exact this
  have G2 : ∀ {A : Option Addr} {c : Nat} (w : World) (hg : Glob w) (hx : Rd Fx.cs 4 w A 2 fxM), Calls Tryz.prog 19 #[.slice A 2 c, .string ⟨#[120]⟩, .int .i64 2] w fun e w' => e = .returned (.tuple #[.agg #[.string ⟨#[]⟩, .string ⟨#[]⟩], .bool false]) ∧ Below w.heap.size w w' := fun {A c} w hg hx => by have := p_get (A := A) (c := c) ⟨#[120]⟩ 2 w hg hx (by omega) ZM; rw [g2] at this; exact this
  have L2 : ∀ {A : Option Addr} {c : Nat} (w : World) (hg : Glob w) (hx : Rd Fx.cs 4 w A 2 fxM), Calls Tryz.prog 21 #[.slice A 2 c, .string ⟨#[120]⟩, .int .i64 2] w fun e w' => e = .returned (.tuple #[.agg #[.string (iS (-5)), .string (nS 1)], .bool true]) ∧ Below w.heap.size w w' := fun {A c} w hg hx => by have := p_last (A := A) (c := c) ⟨#[120]⟩ 2 w hg hx (by omega) ZM; rw [l2] at this; exact this
  have L0 : ∀ {A : Option Addr} {c : Nat} (w : World) (hg : Glob w) (hx : Rd Fx.cs 4 w A 2 fxM), Calls Tryz.prog 21 #[.slice A 2 c, .string ⟨#[120]⟩, .int .i64 0] w fun e w' => e = .returned (.tuple #[.agg #[.string ⟨#[]⟩, .string ⟨#[]⟩], .bool false]) ∧ Below w.heap.size w w' := fun {A c} w hg hx => by have := p_last (A := A) (c := c) ⟨#[120]⟩ 0 w hg hx (by omega) ZM; rw [l0] at this; exact this
  clear s1 s2 s3 g3 g2 l2 l0
  have r0 : Rd Fx.cs 4 w none 0 ([] : List Fx) := Rd.nil
  go_enter Tryz.func16, Tryz.ntmps16
  go_wp2_with (first
    | (go_at_call 27; (with_reducible refine (c_ofI 7 w (by omega) (by omega)).mono ?_); rintro e w1 ⟨rfl, hb1⟩; obtain ⟨hc1, hf1⟩ := bcell hb1; have hs1 := hb1.size; (try simp at hs1))
    | (go_at_call 17; (with_reducible refine (p_set_ok ⟨#[120]⟩ (iS 7) (nS 1) 3 [fxI 3 7] w1 (hg.below hb1) (Rd.below r0 hb1) (by omega) Z0 q7 S1.out 1 rfl).mono ?_); rintro e w2 ⟨A2, k2, rfl, rd2, hb2⟩)
    | (go_at_call 27; (with_reducible refine (c_ofI 8 w2 (by omega) (by omega)).mono ?_); rintro e w3 ⟨rfl, hb3⟩; obtain ⟨hc3, hf3⟩ := bcell hb3; have hs3 := hb3.size; (try simp at hs3))
    | (go_at_call 17; (with_reducible refine (p_set_none ⟨#[120]⟩ (iS 8) (nS 1) 3 w3 (hg.below (b_then (b_then hb1 hb2) hb3)) (rd2.below hb3) (by omega) Z1 q8 S2.out).mono ?_); rintro e w4 ⟨A4, k4, rfl, hb4⟩)
    | (go_at_call 27; (with_reducible refine (c_ofI (-5) w4 (by omega) (by omega)).mono ?_); rintro e w5 ⟨rfl, hb5⟩; obtain ⟨hc5, hf5⟩ := bcell hb5; have hs5 := hb5.size; (try simp at hs5))
    | (go_at_call 17; (with_reducible refine (p_set_ok ⟨#[120]⟩ (iS (-5)) (nS 1) 1 fxM w5 (hg.below (b_then (b_then (b_then (b_then hb1 hb2) hb3) hb4) hb5)) ((rd2.below hb3).below (b_then hb4 hb5)) (by omega) Z1 q5 S3.out 2 rfl).mono ?_); rintro e w6 ⟨A6, k6, rfl, rd6, hb6⟩; have HB6 := b_then (b_then (b_then (b_then (b_then hb1 hb2) hb3) hb4) hb5) hb6; have HG6 := hg.below HB6)
    | (go_at_call 19; (with_reducible refine (G3 w6 HG6 rd6).mono ?_); rintro e w7 ⟨rfl, hb7⟩; obtain ⟨hc7, hf7⟩ := bcell hb7; have hs7 := hb7.size; (try simp at hs7))
    | (go_at_call 21; (with_reducible refine (L2 _ (HG6.below (b_alloc hb7 _)) (rd6.below (b_alloc hb7 _))).mono ?_); rintro e w8 ⟨rfl, hb8⟩; have HB8 := b_then (b_alloc hb7 _) hb8)
    | (go_at_call 19; (with_reducible refine (G2 _ (HG6.below (b_alloc HB8 _)) (rd6.below (b_alloc HB8 _))).mono ?_); rintro e w9 ⟨rfl, hb9⟩; have HB9 := b_then (b_alloc HB8 _) hb9)
    | (go_at_call 21; (with_reducible refine (L0 _ (HG6.below (b_alloc HB9 _)) (rd6.below (b_alloc HB9 _))).mono ?_); rintro e w10 ⟨rfl, hb10⟩; have HB10 := b_then (b_alloc HB9 _) hb10))
  have b7 := ((((((Blk.new w7 24 #[.string (iS 7), .string (nS 1)]).below hb8).alloc (.cells #[.string (iS (-5)), .string (nS 1)] 24)).below hb9).alloc (.cells #[.string ⟨#[]⟩, .string ⟨#[]⟩] 24)).below hb10).alloc (.cells #[.string ⟨#[]⟩, .string ⟨#[]⟩] 24)
  have b8 := ((((Blk.new w8 24 #[.string (iS (-5)), .string (nS 1)]).below hb9).alloc (.cells #[.string ⟨#[]⟩, .string ⟨#[]⟩] 24)).below hb10).alloc (.cells #[.string ⟨#[]⟩, .string ⟨#[]⟩] 24)
  have HB11 : Below w.heap.size w (w10.alloc (.cells #[.string ⟨#[]⟩, .string ⟨#[]⟩] 24)) := b_alloc (b_then HB6 HB10) _
  have HR11 : Rd Fx.cs 4 (w10.alloc (.cells #[.string ⟨#[]⟩, .string ⟨#[]⟩] 24)) A6 2 fxM := rd6.below (b_alloc HB10 _)
  obtain ⟨W, hW⟩ : ∃ W, w10.alloc (.cells #[.string ⟨#[]⟩, .string ⟨#[]⟩] 24) = W := ⟨_, rfl⟩
  obtain ⟨g7, hg7⟩ : ∃ g, w7.heap.size = g := ⟨_, rfl⟩
  obtain ⟨g8, hg8⟩ : ∃ g, w8.heap.size = g := ⟨_, rfl⟩
  rw [hW] at b7 b8 HB11 HR11 ⊢
  rw [hg7] at b7 ⊢
  rw [hg8] at b8 ⊢
  refine fixed_last hg HB11 HR11 b7 b8 ?_ _ (by kernel_rfl)
  intro a' W' h1 h2 h3
  go_wp2
  exact bodyPost_ret (v := .bool true) (by rw [← h1]; exact results_tmp rfl _ _ _) h2 ⟨rfl, h3⟩
end Go.Proofs.YtpoejheienohjaaGreatDoor
