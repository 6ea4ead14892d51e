/- The fixed calls of neutral prices. -/
import Derived.Test.YtdkpbifpafaabaaGreatDoorNeJ
import Derived.Test.YtdkpbifpafaabaaGreatDoorPkL
namespace Go.Proofs.YtdkpbifpafaabaaGreatDoor
open Go.RowKit
set_option linter.unusedVariables false
set_option linter.unusedSimpArgs false

def splA : Ac := ⟨⟨#[115, 49]⟩, 0, ⟨#[120]⟩, ⟨#[]⟩, ⟨⟨#[50]⟩, ⟨#[49]⟩⟩, ⟨⟨#[48]⟩, ⟨#[49]⟩⟩, 5, 5, 5⟩
def zeroA : Ac := ⟨⟨#[]⟩, 0, ⟨#[]⟩, ⟨#[]⟩, ⟨⟨#[]⟩, ⟨#[]⟩⟩, ⟨⟨#[]⟩, ⟨#[]⟩⟩, 0, 0, 0⟩
def neuX : List Fx := [⟨⟨#[120]⟩, 4, ⟨⟨#[54, 49]⟩, ⟨#[49]⟩⟩⟩, ⟨⟨#[120]⟩, 5, ⟨⟨#[51, 48]⟩, ⟨#[49]⟩⟩⟩, ⟨⟨#[121]⟩, 5, ⟨⟨#[55]⟩, ⟨#[49]⟩⟩⟩]
def neuM : List Fx := [⟨⟨#[120]⟩, 4, ⟨⟨#[54, 49]⟩, ⟨#[49]⟩⟩⟩, ⟨⟨#[120]⟩, 5, ⟨⟨#[54, 48]⟩, ⟨#[49]⟩⟩⟩, ⟨⟨#[121]⟩, 5, ⟨⟨#[55]⟩, ⟨#[49]⟩⟩⟩]
def neuN : List Fx := [⟨⟨#[120]⟩, 4, ⟨⟨#[54, 49]⟩, ⟨#[49]⟩⟩⟩, ⟨⟨#[120]⟩, 5, ⟨⟨#[49, 50, 48]⟩, ⟨#[49]⟩⟩⟩, ⟨⟨#[121]⟩, 5, ⟨⟨#[55]⟩, ⟨#[49]⟩⟩⟩]
theorem neu_1 : nout splA neuX = neuM := by decide +kernel
theorem neu_2 : nall neuX [splA, splA] = neuN := by decide +kernel
theorem neu_3 : nout zeroA neuX = [] := by decide +kernel
theorem neu_4 : nall neuX [] = neuX := by decide +kernel
set_option maxHeartbeats 800000 in
theorem c_split (w : World) : Calls Tryz.prog 40 #[] w fun e w' => e = .returned (.agg #[.string ⟨#[115, 49]⟩, .int .i64 0, .string ⟨#[120]⟩, .string ⟨#[]⟩, .string ⟨#[50]⟩, .string ⟨#[49]⟩, .string ⟨#[48]⟩, .string ⟨#[49]⟩, .int .i64 5, .int .i64 5, .int .i64 5]) ∧ Below w.heap.size w w' := by
  have h2 : ∀ W, Calls Tryz.prog 28 #[.int .i64 2] W fun e w' => e = .returned (.agg #[.string ⟨#[50]⟩, .string ⟨#[49]⟩]) ∧ Below W.heap.size W w' := fun W => r3_of 2 W (by omega) (by omega)
  have h0 : ∀ W, Calls Tryz.prog 28 #[.int .i64 0] W fun e w' => e = .returned (.agg #[.string ⟨#[48]⟩, .string ⟨#[49]⟩]) ∧ Below W.heap.size W w' := fun W => r3_of 0 W (by omega) (by omega)
  go_enter Tryz.func40, Tryz.ntmps40
  go_wp2_with (first | (go_at_call 28; (with_reducible refine (h2 _).mono ?_); rintro e w1 ⟨rfl, hb1⟩; obtain ⟨hc1, hf1⟩ := bcell hb1; have hs1 := hb1.size; (try simp at hs1); have hv1 : w.heap.size < w1.heap.size := (by omega)) | (go_at_call 28; (with_reducible refine (h0 _).mono ?_); rintro e w2 ⟨rfl, hb2⟩; obtain ⟨hc2, hf2⟩ := bcell hb2; have hs2 := hb2.size; (try simp at hs2); have hv2 : w.heap.size < w2.heap.size := (by omega)))
  have hB2 : Below w.heap.size w w2 := b_then (b_then (b_alloc (Below.refl _ _) _) hb1) hb2
  refine bodyPost_ret (v := .agg #[.string ⟨#[115, 49]⟩, .int .i64 0, .string ⟨#[120]⟩, .string ⟨#[]⟩, .string ⟨#[50]⟩, .string ⟨#[49]⟩, .string ⟨#[48]⟩, .string ⟨#[49]⟩, .int .i64 5, .int .i64 5, .int .i64 5]) ?_ rfl ?_
  · simp [results, Tryz.results40, go_sem, hc1, hf1, hc2, hf2, hv1, hv2]
  · refine ⟨rfl, ?_⟩
    repeat (with_reducible refine b_set ?_ (Nat.le_refl _) _)
    exact hB2
/-- A price's cells, where the table's address is known. -/
structure PLit (w : World) (a : Addr) (o : Nat) (p0 p1 : ByteArray) : Prop where
  c2 : w.cell? ⟨a.block, a.off + o + 2, none⟩ = some (.string p0)
  c3 : w.cell? ⟨a.block, a.off + o + 3, none⟩ = some (.string p1)
  c4 : w.cell? ⟨a.block, a.off + o + 2 + 1, none⟩ = some (.string p1)
theorem Rd.lit {w : World} {ad : Addr} {n : Nat} {xs : List Fx} (h : Rd Fx.cs 4 w (some ad) n xs) {j : Nat} {f : Fx} (hj : xs[j]? = some f) : PLit w ad (j * 4) f.p.num f.p.den := by
  have hjn : j < xs.length := (List.getElem?_eq_some_iff.1 hj).1
  obtain ⟨ad', e, hl, hc⟩ := h.cells (by rw [← h.len]; omega)
  injection e with e
  subst e
  have hc' := hc j _ hj
  have ha : ∀ k, k ≠ 0 → ad.add (j * 4 + k) = ⟨ad.block, ad.off + j * 4 + k, none⟩ := fun k hk => by unfold Addr.add; rw [if_neg (by omega)]; simp [Nat.add_assoc]
  have e2 := hc' 2 _ rfl
  have e3 := hc' 3 _ rfl
  rw [ha 2 (by omega)] at e2
  rw [ha 3 (by omega)] at e3
  exact ⟨e2, e3, e3⟩
abbrev Fixed17Ok : Prop := ∀ w : World, Glob w → Calls Tryz.prog 33 #[] w fun e w' => e = .returned (.bool true) ∧ Below w.heap.size w w'
theorem one_split (g : Nat) (W : World) (hg : Glob W) (hx : Rd Fx.cs 4 W (some ⟨g, 0, none⟩) 3 neuX) : Calls Tryz.prog 35 #[.slice (some ⟨g, 0, none⟩) 3 3, .agg #[.string ⟨#[115, 49]⟩, .int .i64 0, .string ⟨#[120]⟩, .string ⟨#[]⟩, .string ⟨#[50]⟩, .string ⟨#[49]⟩, .string ⟨#[48]⟩, .string ⟨#[49]⟩, .int .i64 5, .int .i64 5, .int .i64 5]] W fun e w' => ∃ B k, e = .returned (.slice B 3 k) ∧ Rd Fx.cs 4 w' B 3 neuM ∧ Below W.heap.size W w' :=
  (p_nOne (c := 3) ⟨#[115, 49]⟩ 0 ⟨#[120]⟩ ⟨#[]⟩ ⟨#[50]⟩ ⟨#[49]⟩ ⟨#[48]⟩ ⟨#[49]⟩ 5 5 5 W hg hx (by omega) (fxr_all (by decide)) (by decide) (by decide) (by decide) (by decide) (by decide) (by decide) (by decide)).mono fun e w' h => by
    have h' : NewFix (nout splA neuX) W e w' := h
    rw [neu_1] at h'
    exact h'.is_ rfl
theorem one_zero (g : Nat) (W : World) (hg : Glob W) (hx : Rd Fx.cs 4 W (some ⟨g, 0, none⟩) 3 neuX) : Calls Tryz.prog 35 #[.slice (some ⟨g, 0, none⟩) 3 3, .agg #[.string ⟨#[]⟩, .int .i64 0, .string ⟨#[]⟩, .string ⟨#[]⟩, .string ⟨#[]⟩, .string ⟨#[]⟩, .string ⟨#[]⟩, .string ⟨#[]⟩, .int .i64 0, .int .i64 0, .int .i64 0]] W fun e w' => ∃ B k, e = .returned (.slice B 0 k) ∧ True ∧ Below W.heap.size W w' :=
  (p_nOne (c := 3) ⟨#[]⟩ 0 ⟨#[]⟩ ⟨#[]⟩ ⟨#[]⟩ ⟨#[]⟩ ⟨#[]⟩ ⟨#[]⟩ 0 0 0 W hg hx (by omega) (fxr_all (by decide)) (by decide) (by decide) (by decide) (by decide) (by decide) (by decide) (by decide)).mono fun e w' h => by
    have h' : NewFix (nout zeroA neuX) W e w' := h
    rw [neu_3] at h'
    obtain ⟨B, k, h1, _, h3⟩ := h'.is_ rfl
    exact ⟨B, k, h1, trivial, h3⟩
theorem acq_all {l : List Ac} (h : (l.all fun x => decide (x.name.size ≤ 1000 ∧ x.asset.size ≤ 1000 ∧ x.other.size ≤ 1000 ∧ (x.ratio.num.size ≤ 1000 ∧ x.ratio.den.size ≤ 1000) ∧ x.cash.num.size ≤ 1000 ∧ x.cash.den.size ≤ 1000)) = true) : ∀ x ∈ l, acq x := fun x hx => by
  have := of_decide_eq_true (List.all_eq_true.1 h x hx)
  unfold acq
  omega
theorem all_two (g g2 : Nat) (W : World) (hg : Glob W) (hx : Rd Fx.cs 4 W (some ⟨g, 0, none⟩) 3 neuX) (hl : Rd Ac.cs 11 W (some ⟨g2, 0, none⟩) 2 [splA, splA]) : Calls Tryz.prog 37 #[.slice (some ⟨g, 0, none⟩) 3 3, .slice (some ⟨g2, 0, none⟩) 2 2] W fun e w' => ∃ B k, e = .returned (.slice B 3 k) ∧ Rd Fx.cs 4 w' B 3 neuN ∧ Below W.heap.size W w' :=
  (p_nall (c := 3) (d := 2) W hg hx (by omega) (fxr_all (by decide)) hl (by omega) (acq_all (by decide))).mono fun e w' h => by
    rw [neu_2] at h
    exact h
theorem all_none (g : Nat) (W : World) (hg : Glob W) (hx : Rd Fx.cs 4 W (some ⟨g, 0, none⟩) 3 neuX) : Calls Tryz.prog 37 #[.slice (some ⟨g, 0, none⟩) 3 3, .slice none 0 0] W fun e w' => ∃ B k, e = .returned (.slice B 3 k) ∧ True ∧ Below W.heap.size W w' :=
  (p_nall (c := 3) (d := 0) (B := none) (m := 0) (l := []) W hg hx (by omega) (fxr_all (by decide)) Rd.nil (by omega) (fun x hx => by cases hx)).mono fun e w' h => by
    rw [neu_4] at h
    obtain ⟨B, k, h1, _, h3⟩ := h
    exact ⟨B, k, h1, trivial, h3⟩
set_option maxRecDepth 100000 in
set_option maxHeartbeats 4000000 in
theorem p_fixed17 : Fixed17Ok := by
  intro w hg
  have hS := fun W => c_split W
  have h61 : ∀ W, Calls Tryz.prog 28 #[.int .i64 61] W fun e w' => e = .returned (.agg #[.string ⟨#[54, 49]⟩, .string ⟨#[49]⟩]) ∧ Below W.heap.size W w' := fun W => r3_of 61 W (by omega) (by omega)
  have h30 : ∀ W, Calls Tryz.prog 28 #[.int .i64 30] W fun e w' => e = .returned (.agg #[.string ⟨#[51, 48]⟩, .string ⟨#[49]⟩]) ∧ Below W.heap.size W w' := fun W => r3_of 30 W (by omega) (by omega)
  have h7 : ∀ W, Calls Tryz.prog 28 #[.int .i64 7] W fun e w' => e = .returned (.agg #[.string ⟨#[55]⟩, .string ⟨#[49]⟩]) ∧ Below W.heap.size W w' := fun W => r3_of 7 W (by omega) (by omega)
  have h60 : ∀ W, Calls Tryz.prog 28 #[.int .i64 60] W fun e w' => e = .returned (.agg #[.string ⟨#[54, 48]⟩, .string ⟨#[49]⟩]) ∧ Below W.heap.size W w' := fun W => r3_of 60 W (by omega) (by omega)
  have h120 : ∀ W, Calls Tryz.prog 28 #[.int .i64 120] W fun e w' => e = .returned (.agg #[.string ⟨#[49, 50, 48]⟩, .string ⟨#[49]⟩]) ∧ Below W.heap.size W w' := fun W => r3_of 120 W (by omega) (by omega)
  go_enter Tryz.func33, Tryz.ntmps33
  go_wp2_with (first
    | (go_at_call 28; (with_reducible refine (h61 _).mono ?_); rintro e w1 ⟨rfl, hb1⟩; obtain ⟨hc1, hf1⟩ := bcell hb1; have hs1 := hb1.size; (try simp at hs1))
    | (go_at_call 28; (with_reducible refine (h30 _).mono ?_); rintro e w2 ⟨rfl, hb2⟩; obtain ⟨hc2, hf2⟩ := bcell hb2; have hs2 := hb2.size; (try simp at hs2))
    | (go_at_call 28; (with_reducible refine (h7 _).mono ?_); rintro e w3 ⟨rfl, hb3⟩; obtain ⟨hc3, hf3⟩ := bcell hb3; have hs3 := hb3.size; (try simp at hs3))
    | (go_at_call 40; (with_reducible refine (hS _).mono ?_); rintro e w4 ⟨rfl, hb4⟩; have R4 := (rd_blk (z := 4) (n := 3) (l := neuX) (by omega) Fx.cs_length (blk_new_at (W := w3) (T := 47) (cs := #[.string ⟨#[120]⟩, .int .i64 4, .string ⟨#[54, 49]⟩, .string ⟨#[49]⟩, .string ⟨#[120]⟩, .int .i64 5, .string ⟨#[51, 48]⟩, .string ⟨#[49]⟩, .string ⟨#[121]⟩, .int .i64 5, .string ⟨#[55]⟩, .string ⟨#[49]⟩]) rfl) rfl rfl (by omega)).below hb4; have hB4 : Below w.heap.size w w4 := (by repeat (first | exact Below.refl _ _ | assumption | refine b_then ?_ (by assumption) | refine b_alloc ?_ _ | refine b_drewN ?_ _ | refine Below.drew ?_ | refine b_set ?_ (by first | exact Nat.le_refl _ | (simp; done) | (simp; omega) | omega) _)); have HR4 := Lib.hid R4; clear R4)
    | (go_at_call 35; (with_reducible refine (one_split w3.heap.size w4 (hg.below hB4) HR4.out).mono ?_); rintro e w5 ⟨B5, k5, rfl, R5, hb5⟩; revert R5 hb5))
  intro R5 hb5
  have hB5 := b_then hB4 hb5
  have HX5 := Lib.hid (HR4.out.below hb5)
  have HR5 := Lib.hid R5
  clear R5 hb5 HR4 hb1 hc1 hf1 hs1 hb2 hc2 hf2 hs2 hb3 hc3 hf3 hs3 hb4 hB4
  go_wp2_with (first
    | (go_at_call 40; (with_reducible refine (hS w6).mono ?_); rintro e w7 ⟨rfl, hb7⟩)
    | (go_at_call 40; (with_reducible refine (hS w5).mono ?_); rintro e w6 ⟨rfl, hb6⟩)
    | (go_at_call 37; (with_reducible refine (all_two w3.heap.size w7.heap.size _ ?_ ?_ ?_).mono ?_); (· exact hg.below (b_alloc (b_then (b_then hB5 hb6) hb7) _)); (· exact HX5.out.below (b_alloc (b_then hb6 hb7) _)); (· exact rd_blk (z := 11) (n := 2) (l := [splA, splA]) (by omega) Ac.cs_length (blk_new_at rfl) rfl rfl (by omega)); rintro e w8 ⟨B8, k8, rfl, R8, hb8⟩; revert R8 hb8))
  intro R8 hb8'
  have hb8 : Below (w7.alloc (.cells #[.string ⟨#[115, 49]⟩, .int .i64 0, .string ⟨#[120]⟩, .string ⟨#[]⟩, .string ⟨#[50]⟩, .string ⟨#[49]⟩, .string ⟨#[48]⟩, .string ⟨#[49]⟩, .int .i64 5, .int .i64 5, .int .i64 5, .string ⟨#[115, 49]⟩, .int .i64 0, .string ⟨#[120]⟩, .string ⟨#[]⟩, .string ⟨#[50]⟩, .string ⟨#[49]⟩, .string ⟨#[48]⟩, .string ⟨#[49]⟩, .int .i64 5, .int .i64 5, .int .i64 5] 25)).heap.size (w7.alloc (.cells #[.string ⟨#[115, 49]⟩, .int .i64 0, .string ⟨#[120]⟩, .string ⟨#[]⟩, .string ⟨#[50]⟩, .string ⟨#[49]⟩, .string ⟨#[48]⟩, .string ⟨#[49]⟩, .int .i64 5, .int .i64 5, .int .i64 5, .string ⟨#[115, 49]⟩, .int .i64 0, .string ⟨#[120]⟩, .string ⟨#[]⟩, .string ⟨#[50]⟩, .string ⟨#[49]⟩, .string ⟨#[48]⟩, .string ⟨#[49]⟩, .int .i64 5, .int .i64 5, .int .i64 5] 25)) w8 := by simpa using hb8'
  clear hb8'
  have hX8 : Below w5.heap.size w5 w8 := b_then (b_alloc (b_then hb6 hb7) _) hb8
  have hB8 : Below w.heap.size w w8 := b_then hB5 hX8
  have HX8 := Lib.hid (HX5.out.below hX8)
  have R5 := HR5.out.below hX8
  clear hb6 hb7 hb8 HX5 HR5 hB5 hX8
  obtain ⟨a5, e5, l5, _⟩ := R5.cells (by omega)
  subst e5
  obtain ⟨a8, e8, l8, _⟩ := R8.cells (by omega)
  subst e8
  have m0 := fun (x : After w8) (y : After x.W) => ((R5.below (b_then x.h y.h)).lit (j := 0) rfl).c2
  have m1 := fun (x : After w8) (y : After x.W) => ((R5.below (b_then x.h y.h)).lit (j := 0) rfl).c3
  have m2 := fun (x : After w8) (y : After x.W) => ((R5.below (b_then x.h y.h)).lit (j := 1) rfl).c2
  have m3 := fun (x : After w8) (y : After x.W) => ((R5.below (b_then x.h y.h)).lit (j := 1) rfl).c3
  have m4 := fun (x : After w8) (y : After x.W) => ((R5.below (b_then x.h y.h)).lit (j := 2) rfl).c2
  have m5 := fun (x : After w8) (y : After x.W) => ((R5.below (b_then x.h y.h)).lit (j := 2) rfl).c3
  have n2 := fun (x : After w8) (y : After x.W) => ((R8.below (b_then x.h y.h)).lit (j := 1) rfl).c2
  have n3 := fun (x : After w8) (y : After x.W) => ((R8.below (b_then x.h y.h)).lit (j := 1) rfl).c3
  simp only [Nat.zero_mul, Nat.add_zero, Nat.one_mul, Nat.reduceMul, Nat.add_assoc, Nat.reduceAdd] at m0 m1 m2 m3 m4 m5 n2 n3
  have heq := eqRat
  clear R5 R8
  go_wp2
  refine wp_region_multi [(43, 62, 0), (49, 68, 3)] [] (fun _ B k W => True) ?mA (by kernel_rfl) (fun p => by kernel_rfl) (fun p x => ?mH)
    ⟨by kernel_rfl, by kernel_rfl, ?ml1, ?ml2, ?mk, ?mt, fun i B k W W' h hb => trivial, ?mhA, ?mQ⟩
  case mH =>
    simp only [mods, mkS_, List.map_cons, List.map_nil, List.append_eq, List.cons_append, List.nil_append, List.append_nil, List.modify_succ_cons, List.modify_zero_cons, repV]
    have hxs := x.h.size
    (try simp at hxs)
    (repeat (first | go_big_quiet_skip | (go_big_quiet_want; go_big_quiet_op; first | go_big_quiet_on | (apply Exists.intro; refine ⟨fun _ => ?_, ?_⟩; (focus (first | (go_at_call 28; with_reducible exact Calls.after (h61 _)) | (go_at_call 28; with_reducible exact Calls.after (h60 _)) | (go_at_call 28; with_reducible exact Calls.after (h7 _)) | (go_at_call 28; with_reducible exact Calls.after (h120 _)))); go_big_quiet_on))))
    refine wpQuiet_nil ?_
    rfl
  case mk =>
    intro y hy p
    simp only [List.mem_cons, List.not_mem_nil, or_false] at hy
    rcases hy with rfl | rfl
    · refine ⟨_, rfl, rfl, fun a W hW hgv => ?_⟩
      have g0 : a.tmps[59]? = some (.bool true) := (hgv 40 _ 59 rfl rfl (by kernel_rfl)).trans rfl
      have g1 := (hgv 41 _ 60 rfl rfl (by kernel_rfl)).trans rfl
      have g2 := (hgv 42 _ 61 rfl rfl (by kernel_rfl)).trans rfl
      exact mk_call rfl rfl (by simp [Region.wanted, yielded, g0]) (by simp [execOp, go_sem, g1, g2]) (one_zero w3.heap.size W (hg.below (b_then hB8 hW)) (HX8.out.below hW))
    · refine ⟨_, rfl, rfl, fun a W hW hgv => ?_⟩
      have g0 : a.tmps[66]? = some (.bool true) := (hgv 47 _ 66 rfl rfl (by kernel_rfl)).trans rfl
      have g1 := (hgv 48 _ 67 rfl rfl (by kernel_rfl)).trans rfl
      exact mk_call rfl rfl (by simp [Region.wanted, yielded, g0]) (by simp [execOp, go_sem, g1]) (all_none w3.heap.size W (hg.below (b_then hB8 hW)) (HX8.out.below hW))
  case mt =>
    intro y hy p
    simp only [List.not_mem_nil] at hy
  case ml1 => simp
  case ml2 => simp
  case mhA => exact fun p => rfl
  case mQ =>
    intro p w9 hb9 hR
    go_wp2
    go_ret
    exact ⟨ret_bool (by simp), b_then hB8 hb9⟩
end Go.Proofs.YtdkpbifpafaabaaGreatDoor
