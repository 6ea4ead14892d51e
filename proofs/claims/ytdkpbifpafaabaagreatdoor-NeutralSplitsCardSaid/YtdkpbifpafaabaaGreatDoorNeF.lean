/- Neutral prices: One of both. -/
import Derived.Test.YtdkpbifpafaabaaGreatDoorNeE
import Derived.Test.YtdkpbifpafaabaaGreatDoorPkGc
import Derived.Test.YtdkpbifpafaabaaGreatDoorPkG
import Derived.Test.YtdkpbifpafaabaaGreatDoorGhB
namespace Go.Proofs.YtdkpbifpafaabaaGreatDoor
open Go.RowKit
set_option linter.unusedVariables false
set_option linter.unusedSimpArgs false

theorem nout_no1 {a : Ac} {xs : List Fx} (h : fmay xs = false) : nout a xs = [] := by unfold nout; rw [h]; rfl
theorem nout_no2 {a : Ac} {xs : List Fx} (h : amay a = false) : nout a xs = [] := by unfold nout; rw [h, Bool.and_false]; rfl
theorem nout_yes {a : Ac} {xs : List Fx} (h : fmay xs = true) (h2 : amay a = true) : nout a xs = nfix a xs := by unfold nout; rw [h, h2]; rfl
set_option maxHeartbeats 2000000 in
theorem p_nOne {A : Option Addr} {n c : Nat} {xs : List Fx} (a0 : ByteArray) (a1 : Int) (a2 a3 a4 a5 a6 a7 : ByteArray) (a8 a9 a10 : Int) (w : World) (hg : Glob w) (hx : Rd Fx.cs 4 w A n xs) (hn : n ≤ 400000) (hz : ∀ f ∈ xs, fxr 1000000 f) (h0 : a0.size ≤ 9223372036854775807) (h2 : a2.size ≤ 9223372036854775807) (h3 : a3.size ≤ 9223372036854775807) (h4 : a4.size ≤ 400000000) (h5 : a5.size ≤ 400000000) (h6 : a6.size ≤ 400000000) (h7 : a7.size ≤ 400000000) :
    Calls Tryz.prog 35 #[.slice A n c, .agg #[.string a0, .int .i64 a1, .string a2, .string a3, .string a4, .string a5, .string a6, .string a7, .int .i64 a8, .int .i64 a9, .int .i64 a10]] w (NewFix (nout ⟨a0, a1, a2, a3, ⟨a4, a5⟩, ⟨a6, a7⟩, a8, a9, a10⟩ xs) w) := by
  have hM := fun W (h : Below w.heap.size w W) => p_may (c := c) W (hg.below h) (hx.below h) (fun f hf => fxr_q (hz f hf) (by omega))
  have hA := fun W (h : Below w.heap.size w W) => p_amay a0 a1 a2 a3 a4 a5 a6 a7 a8 a9 a10 W (hg.below h) h0 h2 h3 (by omega) (by omega) (by omega) (by omega)
  cases e1 : fmay xs with
  | false =>
    rw [nout_no1 e1]
    rw [e1] at hM
    clear e1 hA
    go_enter Tryz.func35, Tryz.ntmps35
    go_wp2_with (go_at_call 43; (with_reducible refine (hM _ (by repeat (first | exact Below.refl _ _ | assumption | refine b_then ?_ (by assumption) | refine b_alloc ?_ _ | refine b_drewN ?_ _ | refine Below.drew ?_ | refine b_set ?_ (by first | exact Nat.le_refl _ | (simp; done) | (simp; omega) | omega) _))).mono ?_); rintro e w1 ⟨rfl, hb1⟩; obtain ⟨hc1, hf1⟩ := bcell hb1; have hs1 := hb1.size; (try simp at hs1); have hq1 : w.heap.size < w1.heap.size := (by omega))
    go_ret
    exact ⟨_, rfl, Own.nil, (by repeat (first | exact Below.refl _ _ | assumption | refine b_then ?_ (by assumption) | refine b_alloc ?_ _ | refine b_drewN ?_ _ | refine Below.drew ?_ | refine b_set ?_ (by first | exact Nat.le_refl _ | (simp; done) | (simp; omega) | omega) _))⟩
  | true =>
  rw [e1] at hM
  cases e2 : amay ⟨a0, a1, a2, a3, ⟨a4, a5⟩, ⟨a6, a7⟩, a8, a9, a10⟩ with
  | false =>
    rw [nout_no2 e2]
    rw [e2] at hA
    clear e1 e2
    go_enter Tryz.func35, Tryz.ntmps35
    go_wp2_with (first | (go_at_call 43; (with_reducible refine (hM _ (by repeat (first | exact Below.refl _ _ | assumption | refine b_then ?_ (by assumption) | refine b_alloc ?_ _ | refine b_drewN ?_ _ | refine Below.drew ?_ | refine b_set ?_ (by first | exact Nat.le_refl _ | (simp; done) | (simp; omega) | omega) _))).mono ?_); rintro e w1 ⟨rfl, hb1⟩; obtain ⟨hc1, hf1⟩ := bcell hb1; have hs1 := hb1.size; (try simp at hs1); have hq1 : w.heap.size < w1.heap.size := (by omega)) | (go_at_call 47; (with_reducible refine (hA _ (by repeat (first | exact Below.refl _ _ | assumption | refine b_then ?_ (by assumption) | refine b_alloc ?_ _ | refine b_drewN ?_ _ | refine Below.drew ?_ | refine b_set ?_ (by first | exact Nat.le_refl _ | (simp; done) | (simp; omega) | omega) _))).mono ?_); rintro e w2 ⟨rfl, hb2⟩; obtain ⟨hc2, hf2⟩ := bcell hb2; have hs2 := hb2.size; (try simp at hs2); have hq2 : w.heap.size < w2.heap.size := (by omega)))
    go_ret
    exact ⟨_, rfl, Own.nil, (by repeat (first | exact Below.refl _ _ | assumption | refine b_then ?_ (by assumption) | refine b_alloc ?_ _ | refine b_drewN ?_ _ | refine Below.drew ?_ | refine b_set ?_ (by first | exact Nat.le_refl _ | (simp; done) | (simp; omega) | omega) _))⟩
  | true =>
    rw [nout_yes e1 e2]
    rw [e2] at hA
    have hN := fun W (h : Below w.heap.size w W) => p_none (c := c) a0 a1 a2 a3 a4 a5 a6 a7 a8 a9 a10 W (hg.below h) (hx.below h) hn hz e2 e1
    unfold NewFix at hN
    clear e1 e2
    go_enter Tryz.func35, Tryz.ntmps35
    go_wp2_with (first
      | (go_at_call 43; (with_reducible refine (hM _ (by repeat (first | exact Below.refl _ _ | assumption | refine b_then ?_ (by assumption) | refine b_alloc ?_ _ | refine b_drewN ?_ _ | refine Below.drew ?_ | refine b_set ?_ (by first | exact Nat.le_refl _ | (simp; done) | (simp; omega) | omega) _))).mono ?_); rintro e w1 ⟨rfl, hb1⟩; obtain ⟨hc1, hf1⟩ := bcell hb1; have hs1 := hb1.size; (try simp at hs1); have hq1 : w.heap.size < w1.heap.size := (by omega))
      | (go_at_call 47; (with_reducible refine (hA _ (by repeat (first | exact Below.refl _ _ | assumption | refine b_then ?_ (by assumption) | refine b_alloc ?_ _ | refine b_drewN ?_ _ | refine Below.drew ?_ | refine b_set ?_ (by first | exact Nat.le_refl _ | (simp; done) | (simp; omega) | omega) _))).mono ?_); rintro e w2 ⟨rfl, hb2⟩; obtain ⟨hc2, hf2⟩ := bcell hb2; have hs2 := hb2.size; (try simp at hs2); have hq2 : w.heap.size < w2.heap.size := (by omega))
      | (go_at_call 70; (with_reducible refine (hN _ (by repeat (first | exact Below.refl _ _ | assumption | refine b_then ?_ (by assumption) | refine b_alloc ?_ _ | refine b_drewN ?_ _ | refine Below.drew ?_ | refine b_set ?_ (by first | exact Nat.le_refl _ | (simp; done) | (simp; omega) | omega) _))).mono ?_); rintro e w3 ⟨v3, rfl, ho3, hb3⟩; have hl3 : w.heap.size ≤ w2.heap.size := (by omega); have hB3 : Below w.heap.size w w3 := (by repeat (first | exact Below.refl _ _ | assumption | refine b_then ?_ (by assumption) | refine b_alloc ?_ _ | refine b_drewN ?_ _ | refine Below.drew ?_ | refine b_set ?_ (by first | exact Nat.le_refl _ | (simp; done) | (simp; omega) | omega) _))))
    go_ret
    exact ⟨_, rfl, ho3.lower hl3, hB3⟩
/-- A table that is answered. -/
def FixIs (ys : List Fx) (m : Nat) (w : World) (e : Ending) (w' : World) : Prop := ∃ B k, e = .returned (.slice B m k) ∧ Rd Fx.cs 4 w' B m ys ∧ Below w.heap.size w w'
theorem NewFix.is_ {ys : List Fx} {w w' : World} {e : Ending} {m : Nat} (h : NewFix ys w e w') (hm : ys.length = m) : FixIs ys m w e w' := by
  obtain ⟨v, rfl, ho, hb⟩ := h
  obtain ⟨A, c, rfl, hr⟩ := ho.rd Fx.cs_length
  subst hm
  exact ⟨A, c, rfl, hr, hb⟩
set_option maxRecDepth 100000 in
set_option maxHeartbeats 4000000 in
theorem r17_one_no {A : Option Addr} {n c : Nat} {xs : List Fx} (a0 : ByteArray) (a1 : Int) (a2 a3 a4 a5 a6 a7 : ByteArray) (a8 a9 a10 : Int) (w : World) (hx : Rd Fx.cs 4 w A n xs) (hz : ∀ f ∈ xs, fxr 1000000 f) (h0 : a0.size ≤ 9223372036854775807) (h2 : a2.size ≤ 9223372036854775807) (h3 : a3.size ≤ 9223372036854775807) (h4 : a4.size ≤ 400000000) (h5 : a5.size ≤ 400000000) (h6 : a6.size ≤ 400000000) (h7 : a7.size ≤ 400000000) (hno : (fmay xs && amay ⟨a0, a1, a2, a3, ⟨a4, a5⟩, ⟨a6, a7⟩, a8, a9, a10⟩) = false) :
    Calls Tryz.prog 36 #[.slice A n c, .agg #[.string a0, .int .i64 a1, .string a2, .string a3, .string a4, .string a5, .string a6, .string a7, .int .i64 a8, .int .i64 a9, .int .i64 a10]] w (FixIs [] 0 w) := by
  have hM := fun W (h : Below w.heap.size w W) => r12_may (c := c) W (hx.below h) (fun f hf => fxq_sz (fxr_q (hz f hf) (by omega)))
  have hA := fun W => r15_may a0 a1 a2 a3 a4 a5 a6 a7 a8 a9 a10 W h0 h2 h3 (by omega) (by omega) (by omega) (by omega)
  cases e1 : fmay xs with
  | false =>
    rw [e1] at hM
    clear e1 hA hno
    go_enter Tryz.func36, Tryz.ntmps36
    go_wp2_with (go_at_call 32; (with_reducible refine (hM _ (by repeat (first | exact Below.refl _ _ | assumption | refine b_then ?_ (by assumption) | refine b_alloc ?_ _ | refine b_drewN ?_ _ | refine Below.drew ?_ | refine b_set ?_ (by first | exact Nat.le_refl _ | (simp; done) | (simp; omega) | omega) _))).mono ?_); rintro e w1 ⟨rfl, hb1⟩; obtain ⟨hc1, hf1⟩ := bcell hb1; have hs1 := hb1.size; (try simp at hs1); have hq1 : w.heap.size < w1.heap.size := (by omega))
    go_ret
    exact ⟨_, _, rfl, Rd.nil, (by repeat (first | exact Below.refl _ _ | assumption | refine b_then ?_ (by assumption) | refine b_alloc ?_ _ | refine b_drewN ?_ _ | refine Below.drew ?_ | refine b_set ?_ (by first | exact Nat.le_refl _ | (simp; done) | (simp; omega) | omega) _))⟩
  | true =>
    rw [e1] at hM
    have e2 : amay ⟨a0, a1, a2, a3, ⟨a4, a5⟩, ⟨a6, a7⟩, a8, a9, a10⟩ = false := by rw [e1] at hno; exact hno
    rw [e2] at hA
    clear e1 e2 hno
    go_enter Tryz.func36, Tryz.ntmps36
    go_wp2_with (first | (go_at_call 32; (with_reducible refine (hM _ (by repeat (first | exact Below.refl _ _ | assumption | refine b_then ?_ (by assumption) | refine b_alloc ?_ _ | refine b_drewN ?_ _ | refine Below.drew ?_ | refine b_set ?_ (by first | exact Nat.le_refl _ | (simp; done) | (simp; omega) | omega) _))).mono ?_); rintro e w1 ⟨rfl, hb1⟩; obtain ⟨hc1, hf1⟩ := bcell hb1; have hs1 := hb1.size; (try simp at hs1); have hq1 : w.heap.size < w1.heap.size := (by omega)) | (go_at_call 29; (with_reducible refine (hA _).mono ?_); rintro e w2 ⟨rfl, hb2⟩; obtain ⟨hc2, hf2⟩ := bcell hb2; have hs2 := hb2.size; (try simp at hs2); have hq2 : w.heap.size < w2.heap.size := (by omega)))
    go_ret
    exact ⟨_, _, rfl, Rd.nil, (by repeat (first | exact Below.refl _ _ | assumption | refine b_then ?_ (by assumption) | refine b_alloc ?_ _ | refine b_drewN ?_ _ | refine Below.drew ?_ | refine b_set ?_ (by first | exact Nat.le_refl _ | (simp; done) | (simp; omega) | omega) _))⟩
theorem keep_yes {xs : List Fx} {s : ByteArray} {ex : Int} {k : Nat} {f : Fx} (hk : xs[k]? = some f) (h : nkeep s ex f = true) : (xs.take (k + 1)).filter (nkeep s ex) = (xs.take k).filter (nkeep s ex) ++ [f] := by
  rw [List.take_add_one, hk, List.filter_append]; simp [h]
theorem keep_no {xs : List Fx} {s : ByteArray} {ex : Int} {k : Nat} {f : Fx} (hk : xs[k]? = some f) (h : nkeep s ex f = false) : (xs.take (k + 1)).filter (nkeep s ex) = (xs.take k).filter (nkeep s ex) := by
  rw [List.take_add_one, hk, List.filter_append]; simp [h]
theorem nkeep_eq (s : ByteArray) (ex : Int) (f : Fx) : nkeep s ex f = (!(f.asset.toList == s.toList) || decide (f.day < ex)) := by
  unfold nkeep ndel
  rw [Bool.not_and]
  congr 1
  rw [Bool.eq_iff_iff, Bool.not_eq_true', decide_eq_false_iff_not, decide_eq_true_eq]; omega
set_option maxRecDepth 100000 in
set_option maxHeartbeats 4000000 in
theorem r17_one_yes {A : Option Addr} {n c : Nat} {xs : List Fx} (a0 : ByteArray) (a1 : Int) (a2 a3 a4 a5 a6 a7 : ByteArray) (a8 a9 a10 : Int) (w : World) (hx : Rd Fx.cs 4 w A n xs) (hn : n ≤ 400000) (hz : ∀ f ∈ xs, fxr 1000000 f) (hw : ∀ k, ∀ f ∈ nmid ⟨a0, a1, a2, a3, ⟨a4, a5⟩, ⟨a6, a7⟩, a8, a9, a10⟩ xs k, fxsz f) (hm : amay ⟨a0, a1, a2, a3, ⟨a4, a5⟩, ⟨a6, a7⟩, a8, a9, a10⟩ = true) (hf : fmay xs = true) :
    Calls Tryz.prog 36 #[.slice A n c, .agg #[.string a0, .int .i64 a1, .string a2, .string a3, .string a4, .string a5, .string a6, .string a7, .int .i64 a8, .int .i64 a9, .int .i64 a10]] w (FixIs (nfix ⟨a0, a1, a2, a3, ⟨a4, a5⟩, ⟨a6, a7⟩, a8, a9, a10⟩ xs) (nfix ⟨a0, a1, a2, a3, ⟨a4, a5⟩, ⟨a6, a7⟩, a8, a9, a10⟩ xs).length w) := by
  obtain ⟨q0, q1, q2, l, N⟩ := nac hm
  have hxl := hx.len
  have n0 := N.name
  have n2 := N.asset
  have n3 := N.other
  have n4 := N.r1
  have n5 := N.r2
  have n6 := N.c1
  have n7 := N.c2
  dsimp only at n0 n2 n3 n4 n5 n6 n7
  have hM := fun W (h : Below w.heap.size w W) => r12_may (c := c) W (hx.below h) (fun f hf => fxq_sz (fxr_q (hz f hf) (by omega)))
  have hA := fun W => r15_may a0 a1 a2 a3 a4 a5 a6 a7 a8 a9 a10 W (by omega) (by omega) (by omega) (by omega) (by omega) (by omega) (by omega)
  rw [hf] at hM
  rw [hm] at hA
  have hO := fun W => r16_of a0 a1 a2 a3 a4 a5 a6 a7 a8 a9 a10 W (by omega) (by omega) (by omega) (by omega) (by omega) (by omega) (by omega)
  have hpt := npof_ptq hm
  have hW : ∀ d, pval (pofL ⟨a0, a1, a2, a3, ⟨a4, a5⟩, ⟨a6, a7⟩, a8, a9, a10⟩) ⟨a6, a7⟩ xs d = nworth ⟨a0, a1, a2, a3, ⟨a4, a5⟩, ⟨a6, a7⟩, a8, a9, a10⟩ xs d := fun d => by unfold nworth; rw [pofC_yes hm]
  rw [pofC_yes hm, N.parts] at hO
  rw [N.parts] at hpt
  simp only [N.parts] at hW
  have hlen : (⟨q0, ⟨q1, q2⟩⟩ :: l : List Pt).length = l.length + 1 := rfl
  obtain ⟨m, hml⟩ : ∃ m, l.length + 1 = m := ⟨_, rfl⟩
  have hm2 : 1 ≤ m ∧ m ≤ 2 := by have := N.few; omega
  have hone := N.one
  have NM := Lib.hid (fun k => @nmid_all ⟨a0, a1, a2, a3, ⟨a4, a5⟩, ⟨a6, a7⟩, a8, a9, a10⟩ xs hm hf k)
  have NI := Lib.hid (fun k f => @nmid_idle ⟨a0, a1, a2, a3, ⟨a4, a5⟩, ⟨a6, a7⟩, a8, a9, a10⟩ xs k f)
  have NP := Lib.hid (fun k f v => @nmid_put ⟨a0, a1, a2, a3, ⟨a4, a5⟩, ⟨a6, a7⟩, a8, a9, a10⟩ xs hm hf k f v)
  have N0 := nmid_zero ⟨a0, a1, a2, a3, ⟨a4, a5⟩, ⟨a6, a7⟩, a8, a9, a10⟩ xs
  have NX : nfix ⟨a0, a1, a2, a3, ⟨a4, a5⟩, ⟨a6, a7⟩, a8, a9, a10⟩ xs = nmid ⟨a0, a1, a2, a3, ⟨a4, a5⟩, ⟨a6, a7⟩, a8, a9, a10⟩ xs n := by unfold nfix; rw [hxl]
  have NH : ∀ f, nhit ⟨a0, a1, a2, a3, ⟨a4, a5⟩, ⟨a6, a7⟩, a8, a9, a10⟩ f = (f.asset.toList == q0.toList && decide (a8 ≤ f.day)) := fun f => by unfold nhit; rw [hone]
  have HW := Lib.hid hw
  rw [NX]
  clear N hone NX hw
  dsimp only at N0
  obtain ⟨a, ha⟩ : ∃ a : Ac, a = ⟨a0, a1, a2, a3, ⟨a4, a5⟩, ⟨a6, a7⟩, a8, a9, a10⟩ := ⟨_, rfl⟩
  rw [← ha] at NM NI NP N0 hW NH HW ⊢
  have HN0 := Lib.hid N0
  clear N0
  have haa : a.asset = a2 := by rw [ha]
  obtain ⟨L, hL⟩ : ∃ L : List Pt, L = ⟨q0, ⟨q1, q2⟩⟩ :: l := ⟨_, rfl⟩
  rw [← hL] at hO hpt hW hlen
  have hL0 : L[0]? = some ⟨q0, ⟨q1, q2⟩⟩ := by rw [hL]; rfl
  rw [hml] at hlen
  clear hm ha hL hml
  go_enter Tryz.func36, Tryz.ntmps36
  have bx0 : Blk (w.alloc (.cells #[.string a0, .int .i64 a1, .string a2, .string a3, .string a4, .string a5, .string a6, .string a7, .int .i64 a8, .int .i64 a9, .int .i64 a10] 25)) w.heap.size 25 #[.string a0, .int .i64 a1, .string a2, .string a3, .string a4, .string a5, .string a6, .string a7, .int .i64 a8, .int .i64 a9, .int .i64 a10] := Blk.new w _ _
  have BX := Lib.hid bx0
  clear bx0
  go_wp2_with (first | (go_at_call 32; (with_reducible refine (hM _ (by repeat (first | exact Below.refl _ _ | assumption | refine b_then ?_ (by assumption) | refine b_alloc ?_ _ | refine b_drewN ?_ _ | refine Below.drew ?_ | refine b_set ?_ (by first | exact Nat.le_refl _ | (simp; done) | (simp; omega) | omega) _))).mono ?_); rintro e w1 ⟨rfl, hb1⟩; obtain ⟨hc1, hf1⟩ := bcell hb1; have hs1 := hb1.size; (try simp at hs1); have hq1 : w.heap.size < w1.heap.size := (by omega)) | (go_at_call 29; (with_reducible refine (hA _).mono ?_); rintro e w2 ⟨rfl, hb2⟩; obtain ⟨hc2, hf2⟩ := bcell hb2; have hs2 := hb2.size; (try simp at hs2); have hq2 : w.heap.size < w2.heap.size := (by omega)))
  have hB2 : Below w.heap.size w w2 := (by repeat (first | exact Below.refl _ _ | assumption | refine b_then ?_ (by assumption) | refine b_alloc ?_ _ | refine b_drewN ?_ _ | refine Below.drew ?_ | refine b_set ?_ (by first | exact Nat.le_refl _ | (simp; done) | (simp; omega) | omega) _))
  have b2 := (BX.out.below hb1).below hb2
  have BX2 := Lib.hid b2
  clear hb1 hb2 hc1 hf1 hs1 hc2 hf2 hs2 hM hA BX b2
  go_loopw [5, 6] (fun out i wr => ∃ k : Nat, k ≤ n ∧ i = .int .i64 k ∧ Hid (Own Fx.cs 4 47 wr w2.heap.size out ((xs.take k).filter (nkeep a2 a8))) ∧ Hid (Below w2.heap.size w2 wr)) (fun _ i _ => n - (intOf i).toNat)
  case atStart => exact ⟨0, Nat.zero_le _, rfl, by show Own Fx.cs 4 47 _ _ _ _; simpa using (Own.made0 (e := Fx.cs) (z := 4) (T := 47) (w := w2) (base := w2.heap.size) (Nat.le_refl _)), b_alloc (Below.refl _ _) _⟩
  case round =>
    obtain ⟨k, hk, rfl, HO', HB⟩ := hrel
    have hB := HB.out
    have hBw : Below w.heap.size w wr := b_then hB2 hB
    have bW := BX2.out.below hB
    have k2 := bW.cell 2
    have k8 := bW.cell 8
    simp at k2 k8
    have s1 : w.heap.size < wr.heap.size := bW.lt
    by_cases hlt : k < n
    · obtain ⟨ad2, b0, b1, b2, b3, rfl, hxk, hl⟩ := fx_in hx hBw hlt
      have HX := Lib.hid hxk
      have HL := Lib.hid hl
      obtain ⟨x0, x1, x2, x3, x3'⟩ := hl wr (Below.refl _ _)
      have hfl : ((xs.take k).filter (nkeep a2 a8)).length ≤ 1000000 := Nat.le_trans (List.length_filter_le _ _) (by rw [List.length_take]; omega)
      clear hxk hl
      by_cases e0 : (b0.toList == a2.toList) = true
      · by_cases e1 : b1 < a8
        · have HN := Lib.hid (keep_yes HX.out (show nkeep a2 a8 ⟨b0, b1, ⟨b2, b3⟩⟩ = true by rw [nkeep_eq]; dsimp only; rw [e0, decide_eq_true e1]; rfl))
          go_wp2
          go_quiet (fail)
          rename_i nq
          have hown1 := HO'.out.drewN nq
          have hB1 : Below w2.heap.size w2 (wr.drewN nq) := b_drewN hB _
          have hs0 := hB.size
          go_wp2_with (at_builtin; refine wpList_app (v := u5) Tryz.elemFix (by omega) Fx.cs_length Fx.cs_one rfl (.tmp 46) (.tmp 51) rfl rfl (hown1.alloc _) ⟨wr.heap.size, 0, none⟩ 1 ⟨b0, b1, ⟨b2, b3⟩⟩ rfl (new_cells _ _ _ _ rfl) (by first | omega | (simp; omega)) (by first | omega | (simp; omega)) (by first | omega | (simp; omega)) ?_; intro v2 w3 hown2 hg2 hat2)
          go_roundw
          case rel => exact ⟨k + 1, by omega, by go_num, by rw [HN.out]; exact hown2, (hown1.alloc _).frame (b_alloc hB1 _) (by omega) hg2⟩
          case measure => simp [intOf]; omega
        · have HN := Lib.hid (keep_no HX.out (show nkeep a2 a8 ⟨b0, b1, ⟨b2, b3⟩⟩ = false by rw [nkeep_eq]; dsimp only; rw [e0, decide_eq_false e1]; rfl))
          go_wp2
          go_quiet (fail)
          go_wp2
          go_roundw
          case rel => exact ⟨k + 1, by omega, by go_num, by rw [HN.out]; exact HO'.out.drewN _, b_drewN hB _⟩
          case measure => simp [intOf]; omega
      · simp only [Bool.not_eq_true] at e0
        have HN := Lib.hid (keep_yes HX.out (show nkeep a2 a8 ⟨b0, b1, ⟨b2, b3⟩⟩ = true by rw [nkeep_eq]; dsimp only; rw [e0]; rfl))
        go_wp2
        go_quiet (fail)
        rename_i nq
        have hown1 := HO'.out.drewN nq
        have hB1 : Below w2.heap.size w2 (wr.drewN nq) := b_drewN hB _
        have hs0 := hB.size
        go_wp2_with (at_builtin; refine wpList_app (v := u5) Tryz.elemFix (by omega) Fx.cs_length Fx.cs_one rfl (.tmp 46) (.tmp 51) rfl rfl (hown1.alloc _) ⟨wr.heap.size, 0, none⟩ 1 ⟨b0, b1, ⟨b2, b3⟩⟩ rfl (new_cells _ _ _ _ rfl) (by first | omega | (simp; omega)) (by first | omega | (simp; omega)) (by first | omega | (simp; omega)) ?_; intro v2 w3 hown2 hg2 hat2)
        go_roundw
        case rel => exact ⟨k + 1, by omega, by go_num, by rw [HN.out]; exact hown2, (hown1.alloc _).frame (b_alloc hB1 _) (by omega) hg2⟩
        case measure => simp [intOf]; omega
    · obtain rfl : n = k := by omega
      have HO0 := HO'.out
      rw [← hxl, List.take_length, ← HN0.out] at HO0
      obtain ⟨A5, c5, hv5, R5⟩ := HO0.rd Fx.cs_length
      subst hv5
      have HR5 := Lib.hid R5
      have kk0 := bW.cell 0
      have kk1 := bW.cell 1
      have kk3 := bW.cell 3
      have kk4 := bW.cell 4
      have kk5 := bW.cell 5
      have kk6 := bW.cell 6
      have kk7 := bW.cell 7
      have kk9 := bW.cell 9
      have kk10 := bW.cell 10
      simp at kk0 kk1 kk3 kk4 kk5 kk6 kk7 kk9 kk10
      clear HO0 R5 HO' HB
      go_wp2_with (go_at_call 21; (with_reducible refine (hO _).mono ?_); rintro e w4 ⟨B, k1, rfl, hR, hb4⟩)
      (try simp only [hlen] at hR)
      (try simp only [hlen])
      have hl4 := hb4.size
      have hB4 : Below w.heap.size w w4 := b_then hBw hb4
      have facts : Below w.heap.size w (w4.alloc (.cells #[.slice B m k1, .string a6, .string a7] 28)) ∧ Rd Pt.cs 3 (w4.alloc (.cells #[.slice B m k1, .string a6, .string a7] 28)) B m L ∧ Blk (w4.alloc (.cells #[.slice B m k1, .string a6, .string a7] 28)) w.heap.size 25 #[.string a0, .int .i64 a1, .string a2, .string a3, .string a4, .string a5, .string a6, .string a7, .int .i64 a8, .int .i64 a9, .int .i64 a10] ∧ Blk (w4.alloc (.cells #[.slice B m k1, .string a6, .string a7] 28)) w4.heap.size 28 #[.slice B m k1, .string a6, .string a7] ∧ Rd Fx.cs 4 (w4.alloc (.cells #[.slice B m k1, .string a6, .string a7] 28)) A5 (nmid a xs 0).length (nmid a xs 0) := ⟨b_alloc hB4 _, hR.below (b_alloc (Below.refl _ _) _), (bW.below hb4).alloc _, Blk.new _ _ _, HR5.out.below (b_alloc hb4 _)⟩
      obtain ⟨Y, hY⟩ : ∃ Y, (w4.alloc (.cells #[.slice B m k1, .string a6, .string a7] 28)) = Y := ⟨_, rfl⟩
      rw [hY] at facts
      obtain ⟨hBY, RY, bY, PY, RO⟩ := facts
      have HRO := Lib.hid RO
      clear hB4 hR hb4 hB hBw bW k2 k8 s1 kk0 kk1 kk3 kk4 kk5 kk6 kk7 kk9 kk10 HR5 RO hO BX2
      have hYl := bY.lt
      have hPl := PY.lt
      obtain ⟨ad, hB1, hadl, hadc⟩ := RY.cells (by omega)
      subst hB1
      have had : Y.cell? ad = some (.string q0) := by have := hadc 0 _ hL0 0 _ rfl; simpa [Addr.add] using this
      clear hadc
      go_wp2
      go_loopw [5, 8] (fun out i wr => ∃ (k : Nat) (B : Option Addr) (cc : Nat), k ≤ n ∧ i = .int .i64 k ∧ out = .slice B (nmid a xs k).length cc ∧ Hid (Rd Fx.cs 4 wr B (nmid a xs k).length (nmid a xs k)) ∧ Hid (Below Y.heap.size Y wr)) (fun _ i _ => n - (intOf i).toNat)
      case atStart =>
        rw [hY]
        exact ⟨0, A5, c5, Nat.zero_le _, rfl, rfl, HRO, Below.refl _ _⟩
      case round =>
        obtain ⟨k, B, cc, hk, rfl, rfl, HR, HB⟩ := hrel
        obtain ⟨n9, hn9⟩ : ∃ n9, (nmid a xs k).length = n9 := ⟨_, rfl⟩
        rw [hn9] at HR ⊢
        have hn9' : n9 ≤ 800000 := by have := (NM.out k (by omega)).2.2; omega
        have HN9 := Lib.hid hn9
        clear hn9
        have HB' := HB.out
        have hBw : Below w.heap.size w wr := b_then hBY HB'
        have bW := bY.below HB'
        have PW := PY.below HB'
        have s1 : w.heap.size < wr.heap.size := bW.lt
        have s2 : w4.heap.size < wr.heap.size := PW.lt
        have s3 : ad.block < wr.heap.size := Nat.lt_of_lt_of_le hadl HB'.size
        by_cases hlt : k < n
        · obtain ⟨ad2, b0, b1, b2, b3, rfl, hxk, hl⟩ := fx_in hx hBw hlt
          have HX := Lib.hid hxk
          have HL := Lib.hid hl
          have y1 := fun (x : After wr) (y : After x.W) => (hl y.W (b_then x.h y.h)).c1
          have p0 := fun (x : After wr) (y : After x.W) => (PW.below (b_then x.h y.h)).cell 0
          have p1 := fun (x : After wr) (y : After x.W) => (PW.below (b_then x.h y.h)).cell 1
          have p2 := fun (x : After wr) (y : After x.W) => (PW.below (b_then x.h y.h)).cell 2
          simp at p0 p1 p2
          clear hxk hl
          have hV := fun W (h : Below Y.heap.size Y W) => r16_value (c := k1) (cf := c) a6 a7 b1 W (RY.below h) (by omega) hpt (by omega) (by omega) (hx.below (b_then hBY h)) (by omega) hz
          rw [hW b1] at hV
          cases hv : nworth a xs b1 with
          | none =>
            rw [hv, optR_none] at hV
            have hI := NI.out k _ HX.out (.inr hv)
            have HR2 : Hid (Rd Fx.cs 4 wr B n9 (nmid a xs (k + 1))) := by rw [hI]; exact HR
            have hlen2 : (nmid a xs (k + 1)).length = n9 := by rw [hI]; exact HN9.out
            have HLen := Lib.hid hlen2
            clear hI hv hlen2
            go_wp2
            (refine wp_region_boxed (T := 23) (A := ?boxA6) (u1 := .string ?boxU6) (u2 := .string ?boxV6) (z1 := .string ⟨#[]⟩) (z2 := .string ⟨#[]⟩) 11 12 9 9 70 (by kernel_rfl) (fun g => by kernel_rfl) (fun g x => ?boxH6) ⟨by kernel_rfl, by kernel_rfl, ⟨_, rfl, rfl, rfl, fun a W => run_alloc_rat rfl⟩, ⟨_, rfl, rfl, rfl, fun a W g h1 h2 hB => run_store_rat rfl h1 h2 hB⟩, ⟨_, rfl, rfl⟩, by kernel_rfl, by kernel_rfl, by decide, ?box16, ?box26, ?box36, ?box46⟩ (by decide) (by decide); (case boxH6 => (simp only [boxed, List.modify_succ_cons, List.modify_zero_cons, repA, repS]; (have hxs := x.h.size); (try simp at hxs); (repeat (first | go_big_quiet_skip | (go_big_quiet_want; go_big_quiet_op; first | go_big_quiet_on | (apply Exists.intro; refine ⟨fun _ => ?_, ?_⟩; (focus ((go_at_call 18; with_reducible exact Calls.after (hV _ (b_then HB' (b_then x.h (After.h _))))))); go_big_quiet_on)))); refine wpQuiet_nil ?_; rfl)); (case box16 => exact fun g => rfl); (case box26 => first | decide | simp); (case box36 => intro g; first | rfl | (simp only [List.getElem?_toArray, List.getElem?_cons_succ, List.getElem?_cons_zero]; rfl) | (simp; exact ⟨rfl, rfl⟩)); rintro g6 w6 hg6 hb6 D6; (try dsimp only); obtain ⟨hc6, hf6⟩ := bcell hb6; have hs6 := hb6.size; (try simp at hs6))
            have hB6 : Below Y.heap.size Y w6 := b_then HB' hb6
            go_wp2
            go_quiet (fail)
            go_wp2
            go_roundw
            case rel => exact ⟨k + 1, B, cc, by omega, by go_num, by rw [HLen.out], by rw [HLen.out]; exact (HR2.out.below hb6).below (b_drewN (Below.refl _ _) _), b_drewN hB6 _⟩
            case measure => simp [intOf]; omega
          | some v =>
            obtain ⟨v0, v1⟩ := v
            rw [hv] at hV
            have hv' : optR (some ⟨v0, v1⟩) = .tuple #[.agg #[.string v0, .string v1], .bool true] := rfl
            rw [hv'] at hV
            have HV := Lib.hid hv
            clear hv hv'
            go_wp2
            (refine wp_region_boxed (T := 23) (A := ?boxA16) (u1 := .string ?boxU16) (u2 := .string ?boxV16) (z1 := .string ⟨#[]⟩) (z2 := .string ⟨#[]⟩) 11 12 9 9 70 (by kernel_rfl) (fun g => by kernel_rfl) (fun g x => ?boxH16) ⟨by kernel_rfl, by kernel_rfl, ⟨_, rfl, rfl, rfl, fun a W => run_alloc_rat rfl⟩, ⟨_, rfl, rfl, rfl, fun a W g h1 h2 hB => run_store_rat rfl h1 h2 hB⟩, ⟨_, rfl, rfl⟩, by kernel_rfl, by kernel_rfl, by decide, ?box116, ?box216, ?box316, ?box416⟩ (by decide) (by decide); (case boxH16 => (simp only [boxed, List.modify_succ_cons, List.modify_zero_cons, repA, repS]; (have hxs := x.h.size); (try simp at hxs); (repeat (first | go_big_quiet_skip | (go_big_quiet_want; go_big_quiet_op; first | go_big_quiet_on | (apply Exists.intro; refine ⟨fun _ => ?_, ?_⟩; (focus ((go_at_call 18; with_reducible exact Calls.after (hV _ (b_then HB' (b_then x.h (After.h _))))))); go_big_quiet_on)))); refine wpQuiet_nil ?_; rfl)); (case box116 => exact fun g => rfl); (case box216 => first | decide | simp); (case box316 => intro g; first | rfl | (simp only [List.getElem?_toArray, List.getElem?_cons_succ, List.getElem?_cons_zero]; rfl) | (simp; exact ⟨rfl, rfl⟩)); rintro g16 w16 hg16 hb16 D16; (try dsimp only); obtain ⟨hc16, hf16⟩ := bcell hb16; have hs16 := hb16.size; (try simp at hs16))
            have hB6 : Below Y.heap.size Y w16 := b_then HB' hb16
            clear hc16 hf16 hs16
            have bW6 := bW.below hb16
            have PW6 := PW.below hb16
            have k2 := bW6.cell 2
            have k8 := bW6.cell 8
            have kP := PW6.cell 0
            simp at k2 k8 kP
            have hadw := (hB6.cell (p := ad) hadl).trans had
            have s1 : w.heap.size < w16.heap.size := bW6.lt
            have s2 : w4.heap.size < w16.heap.size := PW6.lt
            have s3 : ad.block < w16.heap.size := Nat.lt_of_lt_of_le hadl hB6.size
            obtain ⟨x0, x1, x2, x3, x3'⟩ := HL.out w16 hb16
            by_cases e0 : (b0.toList == q0.toList) = true
            · by_cases e1 : a8 ≤ b1
              · have hhit : nhit a ⟨b0, b1, ⟨b2, b3⟩⟩ = true := by rw [NH]; dsimp only; rw [e0, decide_eq_true e1]; rfl
                obtain ⟨hp1, hp2⟩ := NP.out k _ _ HX.out hhit HV.out
                rw [haa] at hp1 hp2
                obtain ⟨m9, hm9⟩ : ∃ m9, (nmid a xs (k + 1)).length = m9 := ⟨_, rfl⟩
                have hzs := HW.out (k + 1) ⟨a2, b1, ⟨v0, v1⟩⟩ (by rw [hp1]; exact fins_mem_iff.2 (.inl rfl))
                have hSet : ∀ W, Below wr.heap.size wr W → Calls Tryz.prog 71 #[.slice B n9 cc, .agg #[.string a2, .int .i64 b1, .string v0, .string v1]] W fun e w' => ∃ B k', e = .returned (.tuple #[.slice B m9 k', .bool true]) ∧ Rd Fx.cs 4 w' B m9 (nmid a xs (k + 1)) ∧ Below W.heap.size W w' := fun W h =>
                  (r12_set a2 v0 v1 b1 W (HR.out.below h) (by omega) (HW.out k) hzs).mono fun e w' hs => SetPost.is_ (ys := nmid a xs (k + 1)) (m := m9) (b := true) hs (by rw [hp2]; rfl) hm9 (by rw [hp2]; rfl)
                have hM9 := Lib.hid hm9
                clear hhit hp1 hp2 hm9 hzs
                go_wp2
                go_quiet (fail)
                rename_i nq
                have hBq : Below wr.heap.size wr (w16.drewN nq) := b_drewN hb16 _
                have D16' := (D16.drewN nq)
                have z2 := fun (x : After (w16.drewN nq)) (y : After x.W) => ((bW6.drewN nq).below (b_then x.h y.h)).cell 2
                have z1 := fun (x : After (w16.drewN nq)) (y : After x.W) => (HL.out y.W (b_then hBq (b_then x.h y.h))).c1
                have zr0 := fun (x : After (w16.drewN nq)) (y : After x.W) => (D16'.below (b_then x.h y.h)).cell 0
                have zr1 := fun (x : After (w16.drewN nq)) (y : After x.W) => (D16'.below (b_then x.h y.h)).cell 1
                simp at z2 zr0 zr1
                clear k2 k8 kP hadw y1 p0 p1 p2 x0 x1 x2 x3 x3'
                go_wp2
                (refine wp_region_res 10 11 12 14 107 96 108 11 m9 (fun B k' W => Rd Fx.cs 4 W B m9 (nmid a xs (k + 1))) ?resA26 (by kernel_rfl) (fun pp => by kernel_rfl) (fun pp x => ?resH26) ⟨by kernel_rfl, by kernel_rfl, by decide, by decide, by decide, by decide, by decide, by decide, by kernel_rfl, by kernel_rfl, by kernel_rfl, ?resK26, ⟨_, rfl, rfl, rfl, rfl⟩, ⟨_, rfl, rfl, rfl, rfl⟩, ⟨_, rfl, rfl, rfl, rfl⟩, ?resx26, ?resy26, ?resz26, fun B k W W' h hb => h.below hb, ?resG26, ?resQ26⟩ (by decide) (by decide) (by decide) (by decide); (case resH26 => (simp only [resl, List.modify_succ_cons, List.modify_zero_cons, repV]; (have hxs := x.h.size); (try simp at hxs); (repeat (first | go_big_quiet_skip | (go_big_quiet_want; go_big_quiet_op; first | go_big_quiet_on | (apply Exists.intro; refine ⟨fun _ => ?_, ?_⟩; (focus (fail)); go_big_quiet_on)))); refine wpQuiet_nil ?_; rfl)); (case resK26 => (intro pp; refine ⟨_, rfl, rfl, fun a W hW hgv => ?_⟩; have g1 := (hgv 0 _ 97 rfl rfl (by kernel_rfl)).trans rfl; have g2 := (hgv 9 _ 106 rfl rfl (by kernel_rfl)).trans rfl; exact res_call rfl rfl rfl (by simp [execOp, go_sem, g1, g2]) (hSet W (b_then hBq hW)))); (case resx26 => (intro pp; first | rfl | (simp [Sl.t]; done))); (case resy26 => (intro pp; first | rfl | (simp [Sl.t]; done))); (case resz26 => (intro pp; first | rfl | (simp [Sl.v]; done))); (case resG26 => (intro pp; first | rfl | (simp; exact ⟨rfl, rfl⟩))); rintro ⟨B26, k26⟩ w26 R26 hb26; (try dsimp only at R26); (try dsimp only); (try simp only [Sl.v, Sl.t]); obtain ⟨hc26, hf26⟩ := bcell hb26; have hs26 := hb26.size; (try simp at hs26))
                have hB26 : Below Y.heap.size Y w26 := b_then (b_then HB' hBq) hb26
                clear hc26 hf26 hs26
                go_wp2
                go_roundw
                case rel => exact ⟨k + 1, B26, k26, by omega, by go_num, by rw [hM9.out], by rw [hM9.out]; exact R26, hB26⟩
                case measure => simp [intOf]; omega
              · have hI := NI.out k _ HX.out (.inl (by rw [NH]; dsimp only; rw [e0, decide_eq_false (by omega)]; rfl))
                have HR2 : Hid (Rd Fx.cs 4 wr B n9 (nmid a xs (k + 1))) := by rw [hI]; exact HR
                have HLen : Hid ((nmid a xs (k + 1)).length = n9) := by rw [hI]; exact HN9
                clear hI
                go_wp2
                go_quiet (fail)
                go_wp2
                go_roundw
                case rel => exact ⟨k + 1, B, cc, by omega, by go_num, by rw [HLen.out], by rw [HLen.out]; exact (HR2.out.below hb16).below (b_drewN (Below.refl _ _) _), b_drewN hB6 _⟩
                case measure => simp [intOf]; omega
            · simp only [Bool.not_eq_true] at e0
              have hI := NI.out k _ HX.out (.inl (by rw [NH]; dsimp only; rw [e0]; rfl))
              have HR2 : Hid (Rd Fx.cs 4 wr B n9 (nmid a xs (k + 1))) := by rw [hI]; exact HR
              have HLen : Hid ((nmid a xs (k + 1)).length = n9) := by rw [hI]; exact HN9
              clear hI
              go_wp2
              go_quiet (fail)
              go_wp2
              go_roundw
              case rel => exact ⟨k + 1, B, cc, by omega, by go_num, by rw [HLen.out], by rw [HLen.out]; exact (HR2.out.below hb16).below (b_drewN (Below.refl _ _) _), b_drewN hB6 _⟩
              case measure => simp [intOf]; omega
        · obtain rfl : n = k := by omega
          go_wp2
          go_ret
          rw [HN9.out]
          exact ⟨_, _, rfl, HR.out, hBw⟩
end Go.Proofs.YtdkpbifpafaabaaGreatDoor
