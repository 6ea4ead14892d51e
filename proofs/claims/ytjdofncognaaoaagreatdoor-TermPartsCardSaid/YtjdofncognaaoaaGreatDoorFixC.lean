/- Walk of fixing.compare. -/
import Derived.Test.YtjdofncognaaoaaGreatDoorFixA
import Derived.Test.YtjdofncognaaoaaGreatDoorRat
import Derived.Laws.CopyRow
import Derived.Lib.Overlaps
import Derived.Lib.AppendZerosOnto
import Derived.Shelf.Spec.SlicesInsert
import Derived.Test.YtjdofncognaaoaaGreatDoorRefB
import Derived.Deep.RegionLaw
namespace Go.Proofs.YtjdofncognaaoaaGreatDoor
open Go.RowKit
set_option linter.unusedVariables false
set_option linter.unusedSimpArgs false

set_option maxRecDepth 100000 in
set_option maxHeartbeats 2000000 in
theorem p_cmp (a0 a2 a3 b0 b2 b3 : ByteArray) (a1 b1 : Int) (w : World) :
    Calls Tryz.prog 96 #[.agg #[.string a0, .int .i64 a1, .string a2, .string a3], .agg #[.string b0, .int .i64 b1, .string b2, .string b3]] w fun e w' => e = .returned (.int .i64 (fcmp ⟨a0, a1, ⟨a2, a3⟩⟩ ⟨b0, b1, ⟨b2, b3⟩⟩)) ∧ Below w.heap.size w w' := by
  unfold fcmp
  dsimp only
  obtain ⟨x, hx⟩ : ∃ x, Lib.compareBytes a0.data.toList b0.data.toList = x := ⟨_, rfl⟩
  obtain ⟨y, hy⟩ : ∃ y, Lib.compareInt a1 b1 = y := ⟨_, rfl⟩
  have hc := fun w => c_compare a0 b0 w
  have hi := fun w => c_cmpInt a1 b1 w
  rw [hx] at hc ⊢
  rw [hy] at hi ⊢
  clear hx hy
  go_enter Tryz.func96, Tryz.ntmps96
  go_wp2
  (refine wp_region_ahead 10 (by kernel_rfl) (by kernel_rfl) ?_; simp only [List.take_succ_cons, List.take_zero, List.drop_succ_cons, List.drop_zero]; (repeat (first | go_big_quiet_skip | (go_big_quiet_want; go_big_quiet_op; first | go_big_quiet_on | (apply Exists.intro; refine ⟨fun _ => ?_, ?_⟩; (focus (first | (go_at_call 138; exact Calls.after_same (hc _)) | (go_at_call 139; exact Calls.after_same (hi _)))); go_big_quiet_on)))); refine wpQuiet_nil ?_; rintro ⟨w1, hb1⟩; (try dsimp only); obtain ⟨hc1, hf1⟩ := bcell hb1; have hs1 := hb1.size; (try simp at hs1))
  go_wp2_with ((go_at_call 137; (with_reducible refine (c_or2n _ _ (by simp) x y).mono ?_); rintro e w' ⟨rfl, rfl⟩))
  go_ret
  exact ⟨rfl, (by repeat (first | exact Below.refl _ _ | assumption | refine b_then ?_ (by assumption) | refine b_alloc ?_ _ | refine b_drewN ?_ _ | refine Below.drew ?_ | refine b_set ?_ (by first | exact Nat.le_refl _ | (simp; done) | (simp; omega) | omega) _))⟩
end Go.Proofs.YtjdofncognaaoaaGreatDoor

/- Walk of fixing.one. -/
namespace Go.Proofs.YtjdofncognaaoaaGreatDoor
open Go.RowKit
set_option linter.unusedVariables false
set_option linter.unusedSimpArgs false

def fxq (f : Fx) : Prop := f.asset.size ≤ 9000000000 ∧ f.p.num.size ≤ 890000000 ∧ f.p.den.size ≤ 890000000
theorem fxq_sz {f : Fx} (h : fxq f) : fxsz f := ⟨h.1, Nat.le_trans h.2.1 (by omega), Nat.le_trans h.2.2 (by omega)⟩
set_option maxHeartbeats 800000 in
theorem p_one (a0 a2 a3 : ByteArray) (a1 : Int) (w : World) (hg : Glob w) (h1 : a0.size ≤ 9223372036854775807) (h2 : a2.size ≤ 890000000) (h3 : a3.size ≤ 890000000) :
    Calls Tryz.prog 95 #[.agg #[.string a0, .int .i64 a1, .string a2, .string a3]] w fun e w' => e = .returned (.bool (fone ⟨a0, a1, ⟨a2, a3⟩⟩)) ∧ Below w.heap.size w w' := by
  unfold fone
  dsimp only
  have hG0 : Glob (w.alloc (.cells #[.string a0, .int .i64 a1, .string a2, .string a3] 58)) := hg.below (b_alloc (Below.refl _ _) _)
  go_enter Tryz.func95, Tryz.ntmps95
  go_wp2_with (first | (go_at_call 136; (with_reducible refine (p_name _ _ (by omega)).mono ?_); rintro e w1 ⟨rfl, hb1⟩; obtain ⟨hc1, hf1⟩ := bcell hb1; have hs1 := hb1.size; (try simp at hs1)) | (go_at_call 124; (with_reducible refine (p_rmay _ _ _ (hG0.below hb1) (by omega) (by omega)).mono ?_); rintro e w2 ⟨rfl, hb2⟩; obtain ⟨hc2, hf2⟩ := bcell hb2; have hs2 := hb2.size; (try simp at hs2)))
  all_goals
    go_ret
    exact ⟨ret_bool (by grind), (by repeat (first | exact Below.refl _ _ | assumption | refine b_then ?_ (by assumption) | refine b_alloc ?_ _ | refine b_drewN ?_ _ | refine Below.drew ?_ | refine b_set ?_ (by first | exact Nat.le_refl _ | (simp; done) | (simp; omega) | omega) _))⟩
end Go.Proofs.YtjdofncognaaoaaGreatDoor

/- Walks of fixing.May. -/
namespace Go.Proofs.YtjdofncognaaoaaGreatDoor
open Go.RowKit
set_option linter.unusedVariables false
set_option linter.unusedSimpArgs false

theorem ahead_yes {a b : Fx} (h : fahead a b = true) : fcmp a b < 0 := by rw [fahead_fcmp] at h; exact of_decide_eq_true h
theorem ahead_no {a b : Fx} (h : fahead a b = false) : 0 ≤ fcmp a b := by rw [fahead_fcmp] at h; have := of_decide_eq_false h; omega
set_option maxHeartbeats 800000 in
theorem p_may {A : Option Addr} {n c : Nat} {xs : List Fx} (w : World) (hg : Glob w) (hx : Rd Fx.cs 4 w A n xs) (hz : ∀ f ∈ xs, fxq f) :
    Calls Tryz.prog 65 #[.slice A n c] w fun e w' => e = .returned (.bool (fmay xs)) ∧ Below w.heap.size w w' := by
  have hbig := hx.big
  go_enter Tryz.func65, Tryz.ntmps65
  go_wp2
  go_loopw [7] (fun i wr => ∃ k : Nat, k ≤ n ∧ i = .int .i64 k ∧ Hid (fmay (xs.take k) = true) ∧ Below w.heap.size w wr) (fun i _ => n - (intOf i).toNat)
  case atStart => exact ⟨0, Nat.zero_le _, rfl, by simp [Hid, fmay, rises], Below.refl _ _⟩
  case round =>
    obtain ⟨k, hk, rfl, H, hB⟩ := hrel
    by_cases hlt : k < n
    · obtain ⟨ad, a0, a1, a2, a3, rfl, hxk, hx0, hx1, hx2, hx3⟩ := fx_now hx hB hlt
      obtain ⟨z1, z2, z3⟩ := hz _ (List.mem_of_getElem? hxk)
      dsimp only at z1 z2 z3
      have HX := Lib.hid hxk
      clear hxk
      have hB1 : Below w.heap.size w (wr.alloc (.cells #[.string a0, .int .i64 a1, .string a2, .string a3] 58)) := b_alloc hB _
      have hG1 := hg.below hB1
      by_cases c1 : fone ⟨a0, a1, ⟨a2, a3⟩⟩ = true
      · by_cases hk0 : 0 < k
        · obtain ⟨ad', b0, b1, b2, b3, e, hxk', hc'⟩ := fx_at hx hB1 (show k - 1 < n by omega)
          obtain rfl : ad = ad' := Option.some.inj e
          have hy0 := fun y => (hc' y).1
          have hy1 := fun y => (hc' y).2.1
          have hy2 := fun y => (hc' y).2.2.1
          have hy3 := fun y => (hc' y).2.2.2
          have HX' := Lib.hid hxk'
          have HC' := Lib.hid hc'
          clear hxk' hc' e
          by_cases c2 : fahead ⟨b0, b1, ⟨b2, b3⟩⟩ ⟨a0, a1, ⟨a2, a3⟩⟩ = true
          · have c3 := ahead_yes c2
            go_wp2
            (refine wp_region_after (by kernel_rfl) (by kernel_rfl) ?_; (repeat (first | go_big_quiet_skip | (go_big_quiet_want; go_big_quiet_op; first | go_big_quiet_on | (apply Exists.intro; refine ⟨fun _ => ?_, ?_⟩; (focus (first | (go_at_call 95; with_reducible exact Calls.after_of (p_one _ _ _ _ _ (hG1.below (After.h _)) (by omega) (by omega) (by omega)) (congrArg Value.bool c1)) | (go_at_call 96; exact Calls.after (p_cmp _ _ _ _ _ _ _ _ _)))); go_big_quiet_on)))); refine wpQuiet_nil ?_; rintro w1 ⟨⟨_, hb1⟩, rfl⟩; (try dsimp only); obtain ⟨hc1, hf1⟩ := bcell hb1; have hs1 := hb1.size; (try simp at hs1))
            go_wp2
            go_roundw
            case rel => exact ⟨k + 1, by omega, by go_num, fmay_next H.out hk0 HX'.out HX.out c1 c2, (by repeat (first | exact Below.refl _ _ | assumption | refine b_then ?_ (by assumption) | refine b_alloc ?_ _ | refine b_drewN ?_ _ | refine Below.drew ?_ | refine b_set ?_ (by first | exact Nat.le_refl _ | (simp; done) | (simp; omega) | omega) _))⟩
            case measure => simp [intOf]; omega
          · simp only [Bool.not_eq_true] at c2
            have c3 := ahead_no c2
            go_wp2
            (refine wp_region_after (by kernel_rfl) (by kernel_rfl) ?_; (repeat (first | go_big_quiet_skip | (go_big_quiet_want; go_big_quiet_op; first | go_big_quiet_on | (apply Exists.intro; refine ⟨fun _ => ?_, ?_⟩; (focus (first | (go_at_call 95; with_reducible exact Calls.after_of (p_one _ _ _ _ _ (hG1.below (After.h _)) (by omega) (by omega) (by omega)) (congrArg Value.bool c1)) | (go_at_call 96; exact Calls.after (p_cmp _ _ _ _ _ _ _ _ _)))); go_big_quiet_on)))); refine wpQuiet_nil ?_; rintro w1 ⟨⟨_, hb1⟩, rfl⟩; (try dsimp only); obtain ⟨hc1, hf1⟩ := bcell hb1; have hs1 := hb1.size; (try simp at hs1))
            go_wp2
            go_ret
            exact ⟨ret_bool (fmay_back hk0 HX'.out HX.out c2).symm, (by repeat (first | exact Below.refl _ _ | assumption | refine b_then ?_ (by assumption) | refine b_alloc ?_ _ | refine b_drewN ?_ _ | refine Below.drew ?_ | refine b_set ?_ (by first | exact Nat.le_refl _ | (simp; done) | (simp; omega) | omega) _))⟩
        · go_wp2
          (refine wp_region_after (by kernel_rfl) (by kernel_rfl) ?_; (repeat (first | go_big_quiet_skip | (go_big_quiet_want; go_big_quiet_op; first | go_big_quiet_on | (apply Exists.intro; refine ⟨fun _ => ?_, ?_⟩; (focus (first | (go_at_call 95; with_reducible exact Calls.after_of (p_one _ _ _ _ _ (hG1.below (After.h _)) (by omega) (by omega) (by omega)) (congrArg Value.bool c1)))); go_big_quiet_on)))); refine wpQuiet_nil ?_; rintro w1 ⟨⟨_, hb1⟩, rfl⟩; (try dsimp only); obtain ⟨hc1, hf1⟩ := bcell hb1; have hs1 := hb1.size; (try simp at hs1))
          go_wp2
          go_roundw
          case rel => exact ⟨k + 1, by omega, by go_num, fmay_first' (by omega) HX.out c1, (by repeat (first | exact Below.refl _ _ | assumption | refine b_then ?_ (by assumption) | refine b_alloc ?_ _ | refine b_drewN ?_ _ | refine Below.drew ?_ | refine b_set ?_ (by first | exact Nat.le_refl _ | (simp; done) | (simp; omega) | omega) _))⟩
          case measure => simp [intOf]; omega
      · simp only [Bool.not_eq_true] at c1
        go_wp2
        (refine wp_region_after (by kernel_rfl) (by kernel_rfl) ?_; (repeat (first | go_big_quiet_skip | (go_big_quiet_want; go_big_quiet_op; first | go_big_quiet_on | (apply Exists.intro; refine ⟨fun _ => ?_, ?_⟩; (focus (first | (go_at_call 95; with_reducible exact Calls.after_of (p_one _ _ _ _ _ (hG1.below (After.h _)) (by omega) (by omega) (by omega)) (congrArg Value.bool c1)))); go_big_quiet_on)))); refine wpQuiet_nil ?_; rintro w1 ⟨⟨_, hb1⟩, rfl⟩; (try dsimp only); obtain ⟨hc1, hf1⟩ := bcell hb1; have hs1 := hb1.size; (try simp at hs1))
        go_wp2
        go_ret
        exact ⟨ret_bool (fmay_bad HX.out c1).symm, (by repeat (first | exact Below.refl _ _ | assumption | refine b_then ?_ (by assumption) | refine b_alloc ?_ _ | refine b_drewN ?_ _ | refine Below.drew ?_ | refine b_set ?_ (by first | exact Nat.le_refl _ | (simp; done) | (simp; omega) | omega) _))⟩
    · obtain rfl : k = n := by omega
      have H2 := H.out
      rw [← hx.len, List.take_length] at H2
      have H3 := Lib.hid H2
      clear H2
      go_wp2
      go_ret
      exact ⟨ret_bool H3.out.symm, (by repeat (first | exact Below.refl _ _ | assumption | refine b_then ?_ (by assumption) | refine b_alloc ?_ _ | refine b_drewN ?_ _ | refine Below.drew ?_ | refine b_set ?_ (by first | exact Nat.le_refl _ | (simp; done) | (simp; omega) | omega) _))⟩
end Go.Proofs.YtjdofncognaaoaaGreatDoor

/- Walks of slices.BinarySearchFunc of prices, fixing.Find. -/
namespace Go.Proofs.YtjdofncognaaoaaGreatDoor
open Go.RowKit
set_option linter.unusedVariables false
set_option linter.unusedSimpArgs false

def FindPost (xs : List Fx) (t : Fx) (w : World) (e : Ending) (w' : World) : Prop := ∃ i, e = .returned (.tuple #[.int .i64 (i : Nat), .bool (fat xs t i)]) ∧ bsI xs t i i ∧ Below w.heap.size w w'
set_option maxHeartbeats 2000000 in
theorem p_bs {A : Option Addr} {n c : Nat} {xs : List Fx} (t0 t2 t3 : ByteArray) (t1 : Int) (w : World) (hx : Rd Fx.cs 4 w A n xs) (hn : n ≤ 1000000) :
    Calls Tryz.prog 97 #[.slice A n c, .agg #[.string t0, .int .i64 t1, .string t2, .string t3], .func (.func 96) #[] #[]] w fun e w' => FindPost xs ⟨t0, t1, ⟨t2, t3⟩⟩ w e w' := by
  have hxl := hx.len
  have hB0 : Below w.heap.size w (w.alloc (.cells #[.string t0, .int .i64 t1, .string t2, .string t3] 58)) := b_alloc (Below.refl _ _) _
  have H0 : Hid (bsI xs ⟨t0, t1, ⟨t2, t3⟩⟩ 0 n) := by have := bsI_start xs ⟨t0, t1, ⟨t2, t3⟩⟩; rw [hxl] at this; exact this
  go_enter Tryz.func97, Tryz.ntmps97
  go_wp2
  go_loopw [9, 10] (fun a b wr => ∃ lo hi : Nat, a = .int .i64 lo ∧ b = .int .i64 hi ∧ lo ≤ hi ∧ hi ≤ n ∧ Hid (bsI xs ⟨t0, t1, ⟨t2, t3⟩⟩ lo hi) ∧ Below (w.heap.size + 1) (w.alloc (.cells #[.string t0, .int .i64 t1, .string t2, .string t3] 58)) wr) (fun a b _ => (intOf b - intOf a).toNat)
  case atStart => exact ⟨0, n, rfl, rfl, Nat.zero_le _, Nat.le_refl _, H0, Below.refl _ _⟩
  case round =>
    obtain ⟨lo, hi, rfl, rfl, hlh, hhi, H, hB⟩ := hrel
    have hBw : Below w.heap.size w wr := b_then hB0 (by simpa using hB)
    have hsz := hB.size
    simp only [World.size_alloc] at hsz
    have ht : ∀ o, wr.cell? ⟨w.heap.size, o, none⟩ = (w.alloc (.cells #[.string t0, .int .i64 t1, .string t2, .string t3] 58)).cell? ⟨w.heap.size, o, none⟩ := fun o => hB.cell (p := ⟨w.heap.size, o, none⟩) (by simp)
    obtain ⟨ht0, ht1, ht2, ht3⟩ : wr.cell? ⟨w.heap.size, 0, none⟩ = some (.string t0) ∧ wr.cell? ⟨w.heap.size, 1, none⟩ = some (.int .i64 t1) ∧ wr.cell? ⟨w.heap.size, 2, none⟩ = some (.string t2) ∧ wr.cell? ⟨w.heap.size, 3, none⟩ = some (.string t3) := by
      refine ⟨(ht 0).trans ?_, (ht 1).trans ?_, (ht 2).trans ?_, (ht 3).trans ?_⟩ <;> exact Blk.cell (Blk.new w _ _) _
    clear ht
    have hszt : w.heap.size < wr.heap.size := by omega
    by_cases hlt : lo < hi
    · obtain ⟨m, hm⟩ : ∃ m, (lo + hi) / 2 = m := ⟨_, rfl⟩
      have hmn : m < n := by omega
      obtain ⟨ad, a0, a1, a2, a3, rfl, hxk, hc'⟩ := fx_at hx hBw hmn
      have hy0 := fun y => (hc' y).1
      have hy1 := fun y => (hc' y).2.1
      have hy2 := fun y => (hc' y).2.2.1
      have hy3 := fun y => (hc' y).2.2.2
      have HX := Lib.hid hxk
      have HC := Lib.hid hc'
      clear hxk hc'
      by_cases c1 : fcmp ⟨a0, a1, ⟨a2, a3⟩⟩ ⟨t0, t1, ⟨t2, t3⟩⟩ < 0
      · go_wp2
        (refine wp_region_after (by kernel_rfl) (by kernel_rfl) ?_; (repeat (first | go_big_quiet_skip | (go_big_quiet_want; go_big_quiet_op; first | go_big_quiet_on | (apply Exists.intro; refine ⟨fun _ => ?_, ?_⟩; (focus ((go_at_call 96; exact Calls.after (p_cmp _ _ _ _ _ _ _ _ _)))); go_big_quiet_on)))); refine wpQuiet_nil ?_; rintro w1 ⟨⟨_, hb1⟩, rfl⟩; (try dsimp only); obtain ⟨hc1, hf1⟩ := bcell hb1; have hs1 := hb1.size; (try simp at hs1))
        go_wp2
        go_roundw
        case rel => exact ⟨m + 1, hi, int_eq (by omega), rfl, by omega, hhi, bsI_up H.out (by omega) HX.out c1, hB.trans (hb1.mono hsz)⟩
        case measure => (simp [intOf]; try omega)
      · go_wp2
        (refine wp_region_after (by kernel_rfl) (by kernel_rfl) ?_; (repeat (first | go_big_quiet_skip | (go_big_quiet_want; go_big_quiet_op; first | go_big_quiet_on | (apply Exists.intro; refine ⟨fun _ => ?_, ?_⟩; (focus ((go_at_call 96; exact Calls.after (p_cmp _ _ _ _ _ _ _ _ _)))); go_big_quiet_on)))); refine wpQuiet_nil ?_; rintro w1 ⟨⟨_, hb1⟩, rfl⟩; (try dsimp only); obtain ⟨hc1, hf1⟩ := bcell hb1; have hs1 := hb1.size; (try simp at hs1))
        go_wp2
        go_roundw
        case rel => exact ⟨lo, m, rfl, int_eq (by omega), by omega, by omega, bsI_down H.out (by omega) (by omega) HX.out (by omega), hB.trans (hb1.mono hsz)⟩
        case measure => (simp [intOf]; try omega)
    · obtain rfl : hi = lo := by omega
      by_cases hln : hi < n
      · obtain ⟨ad, a0, a1, a2, a3, rfl, hxk, hc'⟩ := fx_at hx hBw hln
        have hy0 := fun y => (hc' y).1
        have hy1 := fun y => (hc' y).2.1
        have hy2 := fun y => (hc' y).2.2.1
        have hy3 := fun y => (hc' y).2.2.2
        have HX := Lib.hid hxk
        have HC := Lib.hid hc'
        clear hxk hc'
        have hld : decide ((hi : Int) < (n : Int)) = true := decide_eq_true (by omega)
        by_cases c1 : fcmp ⟨a0, a1, ⟨a2, a3⟩⟩ ⟨t0, t1, ⟨t2, t3⟩⟩ = 0
        · have cb : (fcmp ⟨a0, a1, ⟨a2, a3⟩⟩ ⟨t0, t1, ⟨t2, t3⟩⟩ == 0) = true := by simpa using c1
          have C1 := Lib.hid c1
          clear c1
          go_wp2
          (refine wp_region_after (by kernel_rfl) (by kernel_rfl) ?_; (repeat (first | go_big_quiet_skip | (go_big_quiet_want; go_big_quiet_op; first | go_big_quiet_on | (apply Exists.intro; refine ⟨fun _ => ?_, ?_⟩; (focus ((go_at_call 96; exact Calls.after (p_cmp _ _ _ _ _ _ _ _ _)))); go_big_quiet_on)))); refine wpQuiet_nil ?_; rintro w1 ⟨⟨_, hb1⟩, rfl⟩; (try dsimp only); obtain ⟨hc1, hf1⟩ := bcell hb1; have hs1 := hb1.size; (try simp at hs1))
          go_wp2
          go_ret2
          refine ⟨hi, ?_, H.out, b_then hBw hb1⟩
          have : fat xs ⟨t0, t1, ⟨t2, t3⟩⟩ hi = true := by unfold fat; rw [HX.out]; exact decide_eq_true C1.out
          rw [this]; rfl
        · have cb : (fcmp ⟨a0, a1, ⟨a2, a3⟩⟩ ⟨t0, t1, ⟨t2, t3⟩⟩ == 0) = false := by simpa using c1
          have C1 := Lib.hid c1
          clear c1
          go_wp2
          (refine wp_region_after (by kernel_rfl) (by kernel_rfl) ?_; (repeat (first | go_big_quiet_skip | (go_big_quiet_want; go_big_quiet_op; first | go_big_quiet_on | (apply Exists.intro; refine ⟨fun _ => ?_, ?_⟩; (focus ((go_at_call 96; exact Calls.after (p_cmp _ _ _ _ _ _ _ _ _)))); go_big_quiet_on)))); refine wpQuiet_nil ?_; rintro w1 ⟨⟨_, hb1⟩, rfl⟩; (try dsimp only); obtain ⟨hc1, hf1⟩ := bcell hb1; have hs1 := hb1.size; (try simp at hs1))
          go_wp2
          go_ret2
          refine ⟨hi, ?_, H.out, b_then hBw hb1⟩
          have : fat xs ⟨t0, t1, ⟨t2, t3⟩⟩ hi = false := by unfold fat; rw [HX.out]; exact decide_eq_false C1.out
          rw [this]; rfl
      · have hld : decide ((hi : Int) < (n : Int)) = false := decide_eq_false (by omega)
        go_wp2
        (refine wp_region_after (by kernel_rfl) (by kernel_rfl) ?_; (repeat (first | go_big_quiet_skip | (go_big_quiet_want; go_big_quiet_op; first | go_big_quiet_on | (apply Exists.intro; refine ⟨fun _ => ?_, ?_⟩; (focus (fail)); go_big_quiet_on)))); refine wpQuiet_nil ?_; rintro w1 ⟨⟨_, hb1⟩, rfl⟩; (try dsimp only); obtain ⟨hc1, hf1⟩ := bcell hb1; have hs1 := hb1.size; (try simp at hs1))
        go_wp2
        go_ret2
        refine ⟨hi, ?_, H.out, b_then hBw hb1⟩
        have : fat xs ⟨t0, t1, ⟨t2, t3⟩⟩ hi = false := by unfold fat; rw [List.getElem?_eq_none (by omega)]
        rw [this]; rfl
set_option maxHeartbeats 400000 in
theorem p_find {A : Option Addr} {n c : Nat} {xs : List Fx} (s : ByteArray) (d : Int) (w : World) (hx : Rd Fx.cs 4 w A n xs) (hn : n ≤ 1000000) :
    Calls Tryz.prog 66 #[.slice A n c, .string s, .int .i64 d] w fun e w' => FindPost xs ⟨s, d, rzero⟩ w e w' := by
  go_enter Tryz.func66, Tryz.ntmps66
  go_wp2_with (go_at_call 97; (with_reducible refine (p_bs s ⟨#[]⟩ ⟨#[]⟩ d w hx hn).mono ?_); rintro e w1 ⟨i, rfl, hi, hb1⟩)
  go_ret2
  exact ⟨i, rfl, hi, hb1⟩
end Go.Proofs.YtjdofncognaaoaaGreatDoor

/- Walks of fixing.Get, fixing.Last. -/
namespace Go.Proofs.YtjdofncognaaoaaGreatDoor
open Go.RowKit
set_option linter.unusedVariables false
set_option linter.unusedSimpArgs false

theorem fat_some {xs : List Fx} {t : Fx} {i : Nat} (h : fat xs t i = true) : ∃ a, xs[i]? = some a ∧ fcmp a t = 0 ∧ i < xs.length := by
  unfold fat at h
  cases hx : xs[i]? with
  | none => rw [hx] at h; cases h
  | some a => rw [hx] at h; exact ⟨a, rfl, of_decide_eq_true h, (List.getElem?_eq_some_iff.1 hx).1⟩
end Go.Proofs.YtjdofncognaaoaaGreatDoor

/- Walk of fixing.Last. -/
namespace Go.Proofs.YtjdofncognaaoaaGreatDoor
open Go.RowKit
set_option linter.unusedVariables false
set_option linter.unusedSimpArgs false

theorem filter_last {α : Type} {p : α → Bool} {l : List α} {k : Nat} {a : α} (ha : l[k]? = some a) (hp : p a = true) (h : ∀ j b, k < j → l[j]? = some b → p b = false) : (l.filter p).getLast? = some a := by
  have e : l = l.take (k + 1) ++ l.drop (k + 1) := (List.take_append_drop _ _).symm
  have h1 : (l.drop (k + 1)).filter p = [] := by
    rw [List.filter_eq_nil_iff]
    intro x hx
    obtain ⟨j, hj⟩ := List.mem_iff_getElem?.1 hx
    rw [List.getElem?_drop] at hj
    rw [h (k + 1 + j) x (by omega) hj]; simp
  rw [e, List.filter_append, h1, List.append_nil, List.take_add_one, ha, List.filter_append]
  simp [hp]
theorem filter_none {α : Type} {p : α → Bool} {l : List α} (h : ∀ (j : Nat) b, l[j]? = some b → p b = false) : (l.filter p).getLast? = none := by
  have h1 : l.filter p = [] := by
    rw [List.filter_eq_nil_iff]
    intro x hx
    obtain ⟨j, hj⟩ := List.mem_iff_getElem?.1 hx
    rw [h j x hj]; simp
  rw [h1]; rfl
theorem fupto_iff {a : ByteArray} {d : Int} {f : Fx} : fupto a d f = true ↔ f.asset = a ∧ f.day ≤ d := by
  unfold fupto
  rw [Bool.and_eq_true, beq_iff_eq, tl, tl, decide_eq_true_eq]
  exact ⟨fun h => ⟨s_ext h.1, h.2⟩, fun h => ⟨by rw [h.1], h.2⟩⟩
theorem fupto_no {a : ByteArray} {d : Int} {f : Fx} (h : ¬ (f.asset = a ∧ f.day ≤ d)) : fupto a d f = false := by
  rw [← Bool.not_eq_true, fupto_iff]; exact h
/-- Behind where the search ends there is none. -/
theorem fupto_back {l : List Fx} {a : ByteArray} {d : Int} {p : RT} {i j : Nat} {b : Fx} (hs : rises fahead l = true) (h : bsI l ⟨a, d, p⟩ i i) (hij : i < j) (hb : l[j]? = some b) : fupto a d b = false := by
  refine fupto_no fun ⟨h1, h2⟩ => ?_
  have hil : i < l.length := by have := (List.getElem?_eq_some_iff.1 hb).1; omega
  have hm : l[i]? = some l[i] := List.getElem?_eq_getElem hil
  have h3 := (bs_split hs h hm).2 (Nat.le_refl _)
  have h4 := rises_lt hs hij hm hb
  have h5 : fahead l[i] ⟨a, d, p⟩ = true := by
    rw [fahead_iff] at h4 ⊢
    rcases h4 with h4 | ⟨h4, h5⟩
    · exact .inl (by rw [← h1]; exact h4)
    · exact .inr ⟨h4.trans h1, by show l[i].day < d; omega⟩
  rw [h3] at h5; cases h5
theorem fupto_here {l : List Fx} {a : ByteArray} {d : Int} {p : RT} {i : Nat} {b : Fx} (hs : rises fahead l = true) (h : bsI l ⟨a, d, p⟩ i i) (hb : l[i]? = some b) : fupto a d b = fat l ⟨a, d, p⟩ i := by
  have h3 := (bs_split hs h hb).2 (Nat.le_refl _)
  unfold fat
  rw [hb]
  dsimp only
  rw [Bool.eq_iff_iff, fupto_iff, decide_eq_true_eq, fcmp_zero]
  constructor
  · rintro ⟨h1, h2⟩
    refine ⟨h1, ?_⟩
    show b.day = d
    have : ¬ b.day < d := fun h4 => by
      have h5 : fahead b ⟨a, d, p⟩ = true := fahead_iff _ _ |>.2 (.inr ⟨h1, h4⟩)
      rw [h3] at h5; cases h5
    omega
  · rintro ⟨h1, h2⟩
    exact ⟨h1, by have : b.day = d := h2; omega⟩
theorem flast_cut {l : List Fx} {a : ByteArray} {d : Int} {p : RT} {i : Nat} (hm : fmay l = true) (h : bsI l ⟨a, d, p⟩ i i) :
    (fat l ⟨a, d, p⟩ i = true → flast l a d = (l[i]?).map Fx.p) ∧
    (fat l ⟨a, d, p⟩ i = false → i = 0 → flast l a d = none) ∧
    (fat l ⟨a, d, p⟩ i = false → ∀ b, 0 < i → l[i - 1]? = some b → b.asset = a → flast l a d = some b.p) ∧
    (fat l ⟨a, d, p⟩ i = false → ∀ b, 0 < i → l[i - 1]? = some b → b.asset ≠ a → flast l a d = none) := by
  have hs : rises fahead l = true := by rw [fmay, Bool.and_eq_true] at hm; exact hm.2
  rw [flast, if_pos hm]
  have hge : fat l ⟨a, d, p⟩ i = false → ∀ j b, i ≤ j → l[j]? = some b → fupto a d b = false := fun hf j b hj hb => by
    by_cases e : i = j
    · subst e; rw [fupto_here hs h hb]; exact hf
    · exact fupto_back hs h (by omega) hb
  refine ⟨fun hf => ?_, fun hf h0 => ?_, fun hf b h0 hb ha => ?_, fun hf b h0 hb ha => ?_⟩
  · obtain ⟨b, hb, _, _⟩ := fat_some hf
    rw [filter_last hb (by rw [fupto_here hs h hb]; exact hf) fun j c hj hc => fupto_back hs h hj hc, hb]
  · subst h0
    rw [filter_none fun j b hb => hge hf j b (Nat.zero_le _) hb]; rfl
  · have h1 := (bs_split hs h hb).1 (by omega)
    rw [fahead_iff] at h1
    have h2 : b.day < d := by
      rcases h1 with h1 | ⟨_, h1⟩
      · rw [ha] at h1; exact absurd h1 (List.lt_irrefl _)
      · exact h1
    rw [filter_last hb (fupto_iff.2 ⟨ha, by omega⟩) fun j c hj hc => hge hf j c (by omega) hc]; rfl
  · rw [filter_none fun j c hc => ?_]
    · rfl
    · by_cases hji : i ≤ j
      · exact hge hf j c hji hc
      · refine fupto_no fun ⟨h1, h2⟩ => ha ?_
        by_cases e : j = i - 1
        · subst e; rw [hb] at hc; cases hc; exact h1
        · have h3 := rises_lt hs (show j < i - 1 by omega) hc hb
          have h4 := (bs_split hs h hb).1 (by omega)
          rw [fahead_iff] at h3 h4
          rcases h4 with h4 | ⟨h4, _⟩
          · rcases h3 with h3 | ⟨h3, _⟩
            · rw [h1] at h3
              exact absurd (List.lt_trans h3 h4) (List.lt_irrefl _)
            · rw [← h3]; exact h1
          · exact h4
theorem asset_ne {a b : ByteArray} (h : (a.toList == b.toList) = false) : a ≠ b := fun e => by rw [e] at h; simp at h
theorem asset_eq {a b : ByteArray} (h : (a.toList == b.toList) = true) : a = b := s_eq.2 (by simpa using h)
end Go.Proofs.YtjdofncognaaoaaGreatDoor

/- slices.Clone, slices.Insert of prices: the rows, and the walks. -/
namespace Go.Proofs.YtjdofncognaaoaaGreatDoor
open Go.RowKit
set_option linter.unusedVariables false
set_option linter.unusedSimpArgs false

section
variable {α : Type} {e : α → List Value} {z : Nat}
theorem flat_len (he : ∀ x, (e x).length = z) (l : List α) : (l.flatMap e).length = l.length * z := by
  induction l with
  | nil => simp
  | cons a l ih => rw [List.flatMap_cons, List.length_append, ih, he, List.length_cons, Nat.add_mul, Nat.one_mul, Nat.add_comm]
theorem flat_take (he : ∀ x, (e x).length = z) (l : List α) (i : Nat) : (l.flatMap e).take (i * z) = (l.take i).flatMap e := by
  induction l generalizing i with
  | nil => simp
  | cons a l ih =>
    cases i with
    | zero => simp
    | succ i => rw [List.flatMap_cons, List.take_succ_cons, List.flatMap_cons, Nat.add_mul, Nat.one_mul, Nat.add_comm, List.take_append, he, Nat.add_sub_cancel_left, ih, List.take_of_length_le (by rw [he]; omega)]
theorem flat_drop (he : ∀ x, (e x).length = z) (l : List α) (i : Nat) : (l.flatMap e).drop (i * z) = (l.drop i).flatMap e := by
  induction l generalizing i with
  | nil => simp
  | cons a l ih =>
    cases i with
    | zero => simp
    | succ i => rw [List.flatMap_cons, List.drop_succ_cons, Nat.add_mul, Nat.one_mul, Nat.add_comm, List.drop_append, he, Nat.add_sub_cancel_left, ih, List.drop_of_length_le (by rw [he]; omega), List.nil_append]
theorem flat_inv (hz : 0 < z) (he : ∀ x, (e x).length = z) (l : List α) (i : Nat) (u : Value) (h : (l.flatMap e)[i]? = some u) : ∃ j k x, i = j * z + k ∧ l[j]? = some x ∧ (e x)[k]? = some u := by
  induction l generalizing i with
  | nil => simp at h
  | cons a l ih =>
    rw [List.flatMap_cons, List.getElem?_append, he] at h
    split at h
    · exact ⟨0, i, a, by simp, rfl, h⟩
    · rename_i hi
      obtain ⟨j, k, x, h1, h2, h3⟩ := ih (i - z) h
      exact ⟨j + 1, k, x, by rw [Nat.add_mul]; omega, by simpa using h2, h3⟩
theorem Rd.flat {w : World} {ad : Addr} {n : Nat} {xs : List α} (hz : 0 < z) (he : ∀ x, (e x).length = z) (h : Rd e z w (some ad) n xs) : ∀ i u, (xs.flatMap e)[i]? = some u → w.cell? (ad.add i) = some u := by
  intro i u hu
  obtain ⟨j, k, x, rfl, h2, h3⟩ := flat_inv hz he xs i u hu
  obtain ⟨ad', ha, _, hc⟩ := h.cells (by have := (List.getElem?_eq_some_iff.1 h2).1; have := h.len; omega)
  cases ha
  exact hc j x h2 k u h3
theorem Own.some_ {T : TypeId} {w : World} {base g n cap : Nat} {xs : List α} (h : Own e z T w base (.slice (some ⟨g, 0, none⟩) n cap) xs) : ∃ cur, Blk w g T cur ∧ base ≤ g ∧ xs.length = n ∧ n ≤ cap ∧ cap ≤ maxLen ∧ cur.size = cap * z ∧ cur.toList.take (n * z) = xs.flatMap e := by
  rcases h.row.2 with ⟨hv, _⟩ | ⟨g', cap', cur, hv, hb, hh, hc, hm, hs, ht⟩
  · cases hv
  · injection hv with h1 h2 h3
    injection h1 with h1
    injection h1 with h1
    subst h1; subst h3
    exact ⟨cur, hh, hb, h2.symm, by omega, hm, hs, by rw [h2]; exact ht⟩
theorem Own.of_ {T : TypeId} {w : World} {base g cap : Nat} {cur : Array Value} {xs : List α} (he : ∀ x, (e x).length = z) (hb : base ≤ g) (h : Blk w g T cur) (hc : xs.length ≤ cap) (hm : cap ≤ maxLen) (hs : cur.size = cap * z) (ht : cur.toList.take (xs.length * z) = xs.flatMap e) : Own e z T w base (.slice (some ⟨g, 0, none⟩) xs.length cap) xs :=
  ⟨⟨flat_len he xs, .inr ⟨g, cap, cur, rfl, hb, h, hc, hm, hs, ht⟩⟩⟩
end
theorem run_copy_z {P : Program} (w : World) (dT sT ty elem : TypeId) (z g o dLen dCap : Nat) (a : Addr) (sLen sCap : Nat) (cur : Array Value) (t : TypeId) (cs : List Value)
    (hu : P.underlying dT = some (.slice elem)) (hs : (P.info? elem).map (·.size) = some z)
    (hg : w.heap[g]? = some (.cells cur t (0, 0))) (m : Nat) (hmin : Nat.min sLen dLen = m) (hn : cs.length = m * z)
    (hsrc : ∀ j v, cs[j]? = some v → w.cell? (a.add j) = some v) (hfit : o + cs.length ≤ cur.size) (h1 : ∀ v ∈ cs, v.oneCell' = true) :
    (Builtin.copy_ #[dT, sT] ty #[.slice (some ⟨g, o, none⟩) dLen dCap, .slice (some a) sLen sCap]).run P w =
      .ok (goInt m) (w.setRow g (cur.toList.take o ++ cs ++ cur.toList.drop (o + cs.length)).toArray) := by
  have hl := run_loadCells_list (P := P) w a cs hsrc
  have hst := run_storeCells_at P g o t cs 0 cur w hg (by simpa using hfit) h1
  cases hq : P.info? elem with
  | none => simp [hq] at hs
  | some i =>
    have hi : i.size = z := by simpa [hq] using hs
    subst hmin
    simp [Builtin.copy_, run_underlying hu, Builtin.lenOf, Builtin.firstCells, sizeOf, typeInfo, hq, hi, ← hn, hl, hst]
theorem shift_cells (cur cs fs : List Value) (p : Nat) (hp : p + fs.length ≤ cur.length) :
    let c1 := cur.take (p + fs.length) ++ cs ++ cur.drop (p + fs.length + cs.length)
    c1.take p ++ fs ++ c1.drop (p + fs.length) = cur.take p ++ fs ++ cs ++ cur.drop (p + fs.length + cs.length) := by
  have h1 : (cur.take (p + fs.length)).length = p + fs.length := by rw [List.length_take]; omega
  dsimp only
  rw [List.append_assoc (cur.take (p + fs.length)), List.take_append_of_le_length (by omega), List.take_take, Nat.min_eq_left (by omega), List.drop_append_of_le_length (by omega), List.drop_of_length_le (by omega)]
  simp [List.append_assoc]
theorem grow_cells (cur cs fs : List Value) (p : Nat) (hp : p + fs.length ≤ cur.length) :
    let c1 := cur.take p ++ fs ++ cur.drop (p + fs.length)
    c1.take (p + fs.length) ++ cs ++ c1.drop (p + fs.length + cs.length) = cur.take p ++ fs ++ cs ++ cur.drop (p + fs.length + cs.length) := by
  have h1 : (cur.take p ++ fs).length = p + fs.length := by rw [List.length_append, List.length_take]; omega
  dsimp only
  rw [List.take_append_of_le_length (by omega), List.take_of_length_le (by omega), List.drop_append, List.drop_of_length_le (by omega), h1, List.nil_append, List.drop_drop]
  congr 2; omega
theorem new_row {α : Type} {e : α → List Value} {z : Nat} (he : ∀ x, (e x).length = z) (xs : List α) (f : α) (i : Nat) (hi : i ≤ xs.length) (cur rest : List Value) (hc : cur.take (i * z) = (xs.take i).flatMap e) :
    (cur.take (i * z) ++ e f ++ (xs.drop i).flatMap e ++ rest).take ((xs.length + 1) * z) = (xs.take i ++ f :: xs.drop i).flatMap e := by
  have hl : (cur.take (i * z) ++ e f ++ (xs.drop i).flatMap e).length = (xs.length + 1) * z := by
    rw [hc, List.length_append, List.length_append, flat_len he, flat_len he, he, List.length_take, List.length_drop, Nat.min_eq_left hi, Nat.add_mul, Nat.one_mul, Nat.sub_mul]
    have : i * z ≤ xs.length * z := Nat.mul_le_mul_right _ hi
    omega
  rw [List.take_append_of_le_length (by omega), List.take_of_length_le (by omega), hc]
  simp [List.flatMap_append, List.flatMap_cons]

/-- What Insert gives. -/
def InsPost (xs : List Fx) (f : Fx) (i base : Nat) (w : World) (e : Ending) (w' : World) : Prop := ∃ v, e = .returned v ∧ Own Fx.cs 4 58 w' base v (xs.take i ++ f :: xs.drop i) ∧ Below base w w'
set_option maxRecDepth 100000 in
set_option maxHeartbeats 2000000 in
/-- At the end. -/
theorem p_ins_end {base g0 : Nat} {v : Value} {xs : List Fx} {f : Fx} (w : World) (ho : Own Fx.cs 4 58 w base v xs) (hn : xs.length ≤ 1000000) (hb : base ≤ w.heap.size) (hf : Blk w g0 58 (Fx.cs f).toArray) :
    Calls Tryz.prog 73 #[v, .int .i64 (xs.length : Nat), .slice (some ⟨g0, 0, none⟩) 1 1] w fun e w' => InsPost xs f xs.length base w e w' := by
  have hfl : ∀ i u, (Fx.cs f)[i]? = some u → w.cell? ((⟨g0, 0, none⟩ : Addr).add i) = some u := fun i u hu => by
    have ha : (⟨g0, 0, none⟩ : Addr).add i = ⟨g0, i, none⟩ := by unfold Addr.add; split <;> simp_all
    rw [ha, hf.cell]; simpa using hu
  have hgoal : ∀ v' w', Own Fx.cs 4 58 w' base v' (xs ++ [f]) → w.grownBy w' v.ownBlock → InsPost xs f xs.length base w (.returned v') w' := fun v' w' h1 h2 =>
    ⟨v', rfl, by rw [List.take_length, List.drop_length]; exact h1, (Below.refl base w).grown h2 hb fun k hk => ho.base_le k hk⟩
  rcases ho.row.2 with ⟨rfl, h0⟩ | ⟨g, cap, cur, rfl, hgb, hh, hc, hm, hs, ht⟩
  · have hxs : xs = [] := List.eq_nil_of_length_eq_zero h0
    subst hxs
    go_enter Tryz.func73, Tryz.ntmps73
    go_wp2_with (at_builtin; refine wpList_app (v := .slice none 0 0) Tryz.elemFix (by omega) Fx.cs_length Fx.cs_one rfl (.tmp 23) (.tmp 24) rfl rfl ho ⟨g0, 0, none⟩ 1 f rfl hfl (by simp) (by simp) hb ?_; intro v2 w2 hown2 hg2 hat2)
    go_ret
    exact hgoal _ _ hown2 hg2
  · obtain ⟨n, hnl⟩ : ∃ n, xs.length = n := ⟨_, rfl⟩
    rw [hnl] at hc hn ⊢
    simp only [maxLen] at hm
    rw [hnl] at hgoal ho
    have hg4 : n ≤ cap := hc
    go_enter Tryz.func73, Tryz.ntmps73
    go_wp2_with (at_builtin; refine wpList_app (v := .slice (some ⟨g, 0, none⟩) n cap) Tryz.elemFix (by omega) Fx.cs_length Fx.cs_one rfl (.tmp 23) (.tmp 24) rfl rfl ho ⟨g0, 0, none⟩ 1 f rfl hfl (by omega) (by omega) hb ?_; intro v2 w2 hown2 hg2 hat2)
    all_goals
      go_ret
      exact hgoal _ _ hown2 hg2
end Go.Proofs.YtjdofncognaaoaaGreatDoor

/- slices.Insert of prices, in the middle. -/
namespace Go.Proofs.YtjdofncognaaoaaGreatDoor
open Go.RowKit
set_option linter.unusedVariables false
set_option linter.unusedSimpArgs false

theorem fix_size : (Tryz.prog.info? 58).map (·.size) = some 4 := by kernel_rfl
theorem fix_sizeOf (w : World) : (Go.sizeOf 58).run Tryz.prog w = .ok 4 w := by
  have h := fix_size
  cases hq : Tryz.prog.info? 58 with
  | none => rw [hq] at h; cases h
  | some i =>
    have hi : i.size = 4 := by rw [hq] at h; simpa using h
    simp [sizeOf, typeInfo, hq, hi]
theorem run_ovl (w : World) {g0 g la ca lb cb : Nat} {cs cur : Array Value} {o : Nat} (hne : g0 ≠ g) (h0 : Blk w g0 58 cs) (hg : Blk w g 58 cur) (hs : cur.size ≠ 0) :
    (callFunc 110 #[.slice (some ⟨g0, 0, none⟩) la ca, .slice (some ⟨g, o, none⟩) lb cb]).run Tryz.prog w = .ok (.value (.bool false)) w := by
  rw [run_callFunc_extern Tryz.func110 (by kernel_rfl) (by kernel_rfl) (by kernel_rfl) (e := Extern.SlicesOverlaps.overlaps #[48, 48] #[4]) (by kernel_rfl),
    Lib.run_overlaps_apart w 48 4 58 Tryz.underlying48 4 fix_sizeOf ⟨g0, 0, none⟩ ⟨g, o, none⟩ la ca lb cb hne 58 58 cs.size cur.size (by unfold Blk at h0; simp [World.shape?, h0]) (by unfold Blk at hg; simp [World.shape?, hg]) hs (h0.frozen 0) (h0.frozen _)]
  rfl
theorem add_lit4 (g i : Nat) : (⟨g, 0, none⟩ : Addr).add i = ⟨g, i, none⟩ := by unfold Addr.add; split <;> simp_all
theorem Blk.row {w : World} {g : Nat} {t : TypeId} {cs : Array Value} (h : Blk w g t cs) (cs' : Array Value) : Blk (w.setRow g cs') g t cs' := setRow_heap w g cs cs' t (0, 0) h
theorem below_row {w W : World} {g base : Nat} (h : Below base w W) (hg : base ≤ g) (cs : Array Value) : Below base w (W.setRow g cs) :=
  ⟨h.os, h.tape, h.output, by rw [setRow_size]; exact h.size, fun k hk => (setRow_other W g k cs (by omega)).trans (h.block k hk)⟩
set_option maxRecDepth 100000 in
set_option maxHeartbeats 4000000 in
theorem p_ins_room {base g g0 n cap i : Nat} {xs : List Fx} {f : Fx} (w : World) (ho : Own Fx.cs 4 58 w base (.slice (some ⟨g, 0, none⟩) n cap) xs) (hn : n ≤ 1000000) (hb : base ≤ w.heap.size) (hf : Blk w g0 58 (Fx.cs f).toArray) (hne : g0 ≠ g) (hi : i < n) (hroom : n + 1 ≤ cap) :
    Calls Tryz.prog 73 #[.slice (some ⟨g, 0, none⟩) n cap, .int .i64 (i : Nat), .slice (some ⟨g0, 0, none⟩) 1 1] w fun e w' => InsPost xs f i base w e w' := by
  obtain ⟨cur, hg, hbg, hl, hc, hm, hs, ht⟩ := ho.some_
  simp only [maxLen] at hm
  obtain ⟨cs, hcs⟩ : ∃ cs, (xs.drop i).flatMap Fx.cs = cs := ⟨_, rfl⟩
  have hcl : cs.length = (n - i) * 4 := by rw [← hcs, flat_len Fx.cs_length, List.length_drop, hl]
  have hcut : cur.toList.take (i * 4) = (xs.take i).flatMap Fx.cs := by
    rw [← flat_take Fx.cs_length, ← ht, List.take_take, Nat.min_eq_left (Nat.mul_le_mul_right _ (by omega))]
  have hcd : ∀ j u, cs[j]? = some u → cur[i * 4 + j]? = some u := by
    intro j u hu
    rw [← hcs, ← flat_drop Fx.cs_length, ← ht, List.getElem?_drop, List.getElem?_take] at hu
    split at hu
    · simpa using hu
    · cases hu
  have h1c : ∀ u ∈ cs, u.oneCell' = true := by
    rw [← hcs]; intro u hu
    obtain ⟨y, _, hy⟩ := List.mem_flatMap.1 hu
    exact Fx.cs_one y u hy
  have hfl : (Fx.cs f).length = 4 := rfl
  have hov : ∀ o lb cb, (callFunc 110 #[.slice (some ⟨g0, 0, none⟩) 1 1, .slice (some ⟨g, o, none⟩) lb cb]).run Tryz.prog w = .ok (.value (.bool false)) w := fun o lb cb => run_ovl w hne hf hg (by omega)
  obtain ⟨c1, hc1⟩ : ∃ c1, cur.toList.take ((i + 1) * 4) ++ cs ++ cur.toList.drop ((i + 1) * 4 + cs.length) = c1 := ⟨_, rfl⟩
  have hcp1 : ∀ ty dc sc, (Builtin.copy_ #[48, 48] ty #[.slice (some ⟨g, (i + 1) * 4, none⟩) (n - i) dc, .slice (some ⟨g, i * 4, none⟩) (n + 1 - i) sc]).run Tryz.prog w.drew = .ok (goInt (n - i : Nat)) (w.drew.setRow g c1.toArray) := fun ty dc sc => by
    rw [← hc1]
    exact run_copy_z w.drew _ _ ty _ 4 g ((i + 1) * 4) (n - i) dc ⟨g, i * 4, none⟩ (n + 1 - i) sc cur _ cs Tryz.underlying48 fix_size hg (n - i) (by simp only [Nat.min_def]; split <;> omega) hcl (fun j u hu => by
      have ha : (⟨g, i * 4, none⟩ : Addr).add j = ⟨g, i * 4 + j, none⟩ := by unfold Addr.add; split <;> simp_all
      rw [ha]; exact (Blk.cell hg _).trans (hcd j u hu)) (by omega) h1c
  have hc1l : c1.length = cur.size := by
    rw [← hc1]; simp; omega
  have hgw : Blk (w.drew.setRow g c1.toArray) g 58 c1.toArray := Blk.row (w := w.drew) hg _
  have hfw : Blk (w.drew.setRow g c1.toArray) g0 58 (Fx.cs f).toArray := (setRow_other w.drew g g0 _ hne).trans hf
  obtain ⟨W1, hW1⟩ : ∃ W1, w.drew.setRow g c1.toArray = W1 := ⟨_, rfl⟩
  have hB1 : Below base w W1 := by rw [← hW1]; exact below_row (Below.refl base w).drew hbg _
  rw [hW1] at hcp1 hgw hfw
  have hcp2 : ∀ ty dc, (Builtin.copy_ #[48, 48] ty #[.slice (some ⟨g, i * 4, none⟩) (n + 1 - i) dc, .slice (some ⟨g0, 0, none⟩) 1 1]).run Tryz.prog W1 = .ok (goInt (1 : Nat)) (W1.setRow g (c1.take (i * 4) ++ Fx.cs f ++ c1.drop (i * 4 + 4)).toArray) := fun ty dc => by
    have := run_copy_z W1 48 48 ty _ 4 g (i * 4) (n + 1 - i) dc ⟨g0, 0, none⟩ 1 1 c1.toArray _ (Fx.cs f) Tryz.underlying48 fix_size hgw 1 (by simp only [Nat.min_def]; split <;> omega) (by rw [hfl]) (fun j u hu => by
      rw [add_lit4]; exact (Blk.cell hfw _).trans (by simpa using hu)) (by rw [hfl]; simp; omega) (Fx.cs_one f)
    exact this
  have hend : InsPost xs f i base w (.returned (.slice (some ⟨g, 0, none⟩) (n + 1) cap)) (W1.setRow g (c1.take (i * 4) ++ Fx.cs f ++ c1.drop (i * 4 + 4)).toArray) := by
    have hsh := shift_cells cur.toList cs (Fx.cs f) (i * 4) (by rw [hfl]; simp; omega)
    rw [hfl, show i * 4 + 4 = (i + 1) * 4 by omega, hc1] at hsh
    dsimp only at hsh
    refine ⟨_, rfl, ?_, below_row hB1 hbg _⟩
    rw [show i * 4 + 4 = (i + 1) * 4 by omega, hsh]
    have hll : (xs.take i ++ f :: xs.drop i).length = n + 1 := by simp; omega
    rw [← hll]
    refine Own.of_ Fx.cs_length hbg (Blk.row hgw _) (by omega) (by simp only [maxLen]; omega) ?_ ?_
    · simp; omega
    · rw [hll, ← hl, ← hcs]
      exact new_row Fx.cs_length xs f i (by omega) cur.toList _ hcut
  have HE := Lib.hid hend
  have mixed : Tryz.prog.follows .mixedOrders = true := by kernel_rfl
  clear hend hcd h1c hgw hfw hB1 hW1 ht ho hcut hcs
  go_enter Tryz.func73, Tryz.ntmps73
  go_wp2_with (simp only [hov])
  have hw1 : IntKind.i64.wrap ((i : Int) + 1) = (i : Int) + 1 := by rw [IntKind.wrap_i64]; omega
  have hb1 : (0 : Int) ≤ (i : Int) + 1 := by omega
  have htn : ((i : Int) + 1).toNat = i + 1 := by omega
  have hb2 : ¬ (cap = i + 1) := by omega
  have hb3 : (i : Int) ≤ (n : Int) := by omega
  have hb5 : (i : Int) ≤ (n : Int) + 1 := by omega
  have hb4 : ¬ (cap = i) := by omega
  go_region_law_o (refine step_copy_runI rfl _ _ 48 48 rfl _ _ (by simp [Act.eval, Act.put]) (by simp [Act.eval, Act.put]) (hcp1 _ _ _) ?_)
  go_wp2_with (at_builtin; refine wpList_copy_runI _ rfl _ _ 48 48 rfl _ _ rfl rfl (hcp2 _ _) ?_)
  go_ret
  have HE' := HE.out
  rw [List.append_assoc] at HE'
  exact HE'
end Go.Proofs.YtjdofncognaaoaaGreatDoor

/- slices.Insert of prices, in the middle, without room; all roads. -/
namespace Go.Proofs.YtjdofncognaaoaaGreatDoor
open Go.RowKit
set_option linter.unusedVariables false
set_option linter.unusedSimpArgs false

theorem infoFix : ∃ zero, (Tryz.prog.info? 58).map (fun i => (i.zero, i.size, i.bytes)) = some (some zero, 4, 56) ∧ zero.cells.size = 4 := Tryz.elemFix.inf
set_option maxRecDepth 100000 in
set_option maxHeartbeats 4000000 in
theorem p_ins_grow {base g g0 n cap i : Nat} {xs : List Fx} {f : Fx} (w : World) (ho : Own Fx.cs 4 58 w base (.slice (some ⟨g, 0, none⟩) n cap) xs) (hn : n ≤ 1000000) (hb : base ≤ w.heap.size) (hf : Blk w g0 58 (Fx.cs f).toArray) (hi : i < n) (hroom : cap < n + 1) :
    Calls Tryz.prog 73 #[.slice (some ⟨g, 0, none⟩) n cap, .int .i64 (i : Nat), .slice (some ⟨g0, 0, none⟩) 1 1] w fun e w' => InsPost xs f i base w e w' := by
  obtain ⟨cur, hg, hbg, hl, hc, hm, hs, ht⟩ := ho.some_
  simp only [maxLen] at hm
  obtain ⟨cs, hcs⟩ : ∃ cs, (xs.drop i).flatMap Fx.cs = cs := ⟨_, rfl⟩
  have hcl : cs.length = (n - i) * 4 := by rw [← hcs, flat_len Fx.cs_length, List.length_drop, hl]
  obtain ⟨c0, hc0⟩ : ∃ c0, (xs.take i).flatMap Fx.cs = c0 := ⟨_, rfl⟩
  have hc0l : c0.length = i * 4 := by rw [← hc0, flat_len Fx.cs_length, List.length_take, hl, Nat.min_eq_left (by omega)]
  have hcut : cur.toList.take (i * 4) = c0 := by
    rw [← hc0, ← flat_take Fx.cs_length, ← ht, List.take_take, Nat.min_eq_left (Nat.mul_le_mul_right _ (by omega))]
  have hcd : ∀ j u, cs[j]? = some u → cur[i * 4 + j]? = some u := by
    intro j u hu
    rw [← hcs, ← flat_drop Fx.cs_length, ← ht, List.getElem?_drop, List.getElem?_take] at hu
    split at hu
    · simpa using hu
    · cases hu
  have hc0d : ∀ (j : Nat) (u : Value), c0[j]? = some u → cur[j]? = some u := by
    intro j u hu
    rw [← hcut, List.getElem?_take] at hu
    split at hu
    · simpa using hu
    · cases hu
  have h1c : ∀ u ∈ cs, u.oneCell' = true := by
    rw [← hcs]; intro u hu
    obtain ⟨y, _, hy⟩ := List.mem_flatMap.1 hu
    exact Fx.cs_one y u hy
  have hfl : (Fx.cs f).length = 4 := rfl
  obtain ⟨zero, hinf, hzs⟩ := infoFix
  obtain ⟨i0, hi0, hz0, hz1, hz2⟩ := info_parts hinf
  have hold : (Builtin.firstCells i0.size i (.slice (some ⟨g, 0, none⟩) i cap)).run Tryz.prog w.drew = .ok c0.toArray w.drew := by
    rw [hz1]
    exact run_firstCells_some w.drew 4 i ⟨g, 0, none⟩ i cap c0 hc0l (fun j u hj => by rw [add_lit4]; exact (Blk.cell hg _).trans (hc0d j u hj))
  have hrz : ∀ ty, (Builtin.append_ #[48, 3] ty #[.slice (some ⟨g, 0, none⟩) i cap, .int .i64 ((n : Int) + 1 - (i : Int))]).run Tryz.prog w =
      .ok (.slice (some ⟨w.heap.size, 0, none⟩) (n + 1) (grownCap w (n + 1) cap 58)) (w.drew.alloc (.cells (c0.toArray ++ Builtin.zeroCells zero.cells (n + 1 - i) ++ Builtin.zeroCells zero.cells (grownCap w (n + 1) cap 58 - (n + 1))) 58)) := fun ty => by
    have hik : i + (n + 1 - i) = n + 1 := by omega
    have h := Lib.run_append_grow_zeros w 48 3 ty 58 i0 _ .i64 .i64 Tryz.underlying48 Tryz.underlying3 hi0 hz0 (some ⟨g, 0, none⟩) i cap c0 hold (n + 1 - i) (by omega) (by omega) (by omega) (by omega) (by rw [hz2]; omega) (by rw [hz2, hik]; exact growslice_fits hroom (by omega))
    rw [hik] at h
    rw [show (n : Int) + 1 - (i : Int) = ((n + 1 - i : Nat) : Int) by omega]
    exact h
  have hGn : n + 1 ≤ grownCap w (n + 1) cap 58 := grownCap_ge w _ _ _
  have hG63 := grownCap_le_maxLen w (n + 1) cap 58 (by unfold maxLen; omega)
  obtain ⟨G, hG⟩ : ∃ G, grownCap w (n + 1) cap 58 = G := ⟨_, rfl⟩
  rw [hG] at hrz hGn hG63
  simp only [maxLen] at hG63
  obtain ⟨R, hR⟩ : ∃ R : List Value, (c0.toArray ++ Builtin.zeroCells zero.cells (n + 1 - i) ++ Builtin.zeroCells zero.cells (G - (n + 1))).toList = R := ⟨_, rfl⟩
  have hRl : R.length = G * 4 := by
    rw [← hR]
    simp only [Array.length_toList, Array.size_append, List.size_toArray, size_zeroCells, hzs, hc0l]
    omega
  have hRt : R.take (i * 4) = c0 := by
    rw [← hR, Array.toList_append, Array.toList_append, List.append_assoc, List.take_append_of_le_length (by simp; omega), List.take_of_length_le (by simp; omega)]
  have hRa : (c0.toArray ++ Builtin.zeroCells zero.cells (n + 1 - i) ++ Builtin.zeroCells zero.cells (G - (n + 1))) = R.toArray := by rw [← hR]
  rw [hRa] at hrz
  obtain ⟨N, hN⟩ : ∃ N, w.heap.size = N := ⟨_, rfl⟩
  have hgN : g < N := by rw [← hN]; exact hg.lt
  have hg0N : g0 < N := by rw [← hN]; exact hf.lt
  have hNb : base ≤ N := by omega
  rw [hN] at hrz
  -- behind the append
  obtain ⟨c1, hc1⟩ : ∃ c1, R.take (i * 4) ++ Fx.cs f ++ R.drop (i * 4 + 4) = c1 := ⟨_, rfl⟩
  have hc1l : c1.length = G * 4 := by
    rw [← hc1]; simp [hfl]; omega
  have hcpA : ∀ (W : World), Blk W N 58 R.toArray → Blk W g0 58 (Fx.cs f).toArray → ∀ ty dc, (Builtin.copy_ #[48, 48] ty #[.slice (some ⟨N, i * 4, none⟩) (n + 1 - i) dc, .slice (some ⟨g0, 0, none⟩) 1 1]).run Tryz.prog W = .ok (goInt (1 : Nat)) (W.setRow N c1.toArray) := fun W hW1 hW2 ty dc => by
    have := run_copy_z W 48 48 ty _ 4 N (i * 4) (n + 1 - i) dc ⟨g0, 0, none⟩ 1 1 R.toArray _ (Fx.cs f) Tryz.underlying48 fix_size hW1 1 (by simp only [Nat.min_def]; split <;> omega) (by rw [hfl]) (fun j u hu => by
      rw [add_lit4]; exact (Blk.cell hW2 _).trans (by simpa using hu)) (by rw [hfl]; simp; omega) (Fx.cs_one f)
    rw [← hc1]; exact this
  have hcpB : ∀ (W : World), Blk W N 58 c1.toArray → Blk W g 58 cur → ∀ ty dc sc, (Builtin.copy_ #[48, 48] ty #[.slice (some ⟨N, (i + 1) * 4, none⟩) (n - i) dc, .slice (some ⟨g, i * 4, none⟩) (n - i) sc]).run Tryz.prog W = .ok (goInt (n - i : Nat)) (W.setRow N (c1.take ((i + 1) * 4) ++ cs ++ c1.drop ((i + 1) * 4 + cs.length)).toArray) := fun W hW1 hW2 ty dc sc =>
    run_copy_z W _ _ ty _ 4 N ((i + 1) * 4) (n - i) dc ⟨g, i * 4, none⟩ (n - i) sc c1.toArray _ cs Tryz.underlying48 fix_size hW1 (n - i) (by simp) hcl (fun j u hu => by
      have ha : (⟨g, i * 4, none⟩ : Addr).add j = ⟨g, i * 4 + j, none⟩ := by unfold Addr.add; split <;> simp_all
      rw [ha]; exact (Blk.cell hW2 _).trans (hcd j u hu)) (by simp; omega) h1c
  have hend : ∀ W, Below base w W → Blk W N 58 c1.toArray → InsPost xs f i base w (.returned (.slice (some ⟨N, 0, none⟩) (n + 1) G)) (W.setRow N (c1.take ((i + 1) * 4) ++ cs ++ c1.drop ((i + 1) * 4 + cs.length)).toArray) := fun W hBW hW => by
    have hsh := grow_cells R cs (Fx.cs f) (i * 4) (by rw [hfl]; omega)
    rw [hfl, hc1, show i * 4 + 4 = (i + 1) * 4 by omega] at hsh
    dsimp only at hsh
    refine ⟨_, rfl, ?_, below_row hBW hNb _⟩
    rw [hsh]
    have hll : (xs.take i ++ f :: xs.drop i).length = n + 1 := by simp; omega
    rw [← hll]
    refine Own.of_ Fx.cs_length hNb (Blk.row hW _) (by omega) (by simp only [maxLen]; omega) ?_ ?_
    · simp [hfl]; omega
    · rw [hll, ← hl, ← hcs]
      exact new_row Fx.cs_length xs f i (by omega) R _ (by rw [hRt, hc0])
  have hW1 : Blk (w.drew.alloc (.cells R.toArray 58)) N 58 R.toArray := by rw [← hN]; exact Blk.new w.drew _ _
  have hW0 : Blk (w.drew.alloc (.cells R.toArray 58)) g0 58 (Fx.cs f).toArray := Blk.alloc (w := w.drew) hf _
  have hWg : Blk (w.drew.alloc (.cells R.toArray 58)) g 58 cur := Blk.alloc (w := w.drew) hg _
  have hBW : Below base w (w.drew.alloc (.cells R.toArray 58)) := (Below.refl base w).drew.alloc hb _
  obtain ⟨W1, hW1e⟩ : ∃ W1, w.drew.alloc (.cells R.toArray 58) = W1 := ⟨_, rfl⟩
  rw [hW1e] at hW1 hW0 hWg hBW hrz
  have hX1 := Blk.row hW1 c1.toArray
  have hXg : Blk (W1.setRow N c1.toArray) g 58 cur := (setRow_other W1 N g _ (by omega)).trans hWg
  have hXB := below_row hBW hNb c1.toArray
  have hA' := hcpA W1 hW1 hW0
  obtain ⟨W2, hW2e⟩ : ∃ W2, W1.setRow N c1.toArray = W2 := ⟨_, rfl⟩
  rw [hW2e] at hX1 hXg hXB hA'
  have hB' := hcpB W2.drew hX1 hXg
  have HE := Lib.hid (hend W2.drew hXB.drew hX1)
  have mixed : Tryz.prog.follows .mixedOrders = true := by kernel_rfl
  have hw1 : IntKind.i64.wrap ((i : Int) + 1) = (i : Int) + 1 := by rw [IntKind.wrap_i64]; omega
  have hb1 : (0 : Int) ≤ (i : Int) + 1 := by omega
  have htn : ((i : Int) + 1).toNat = i + 1 := by omega
  have hb2 : ¬ (G = i + 1) := by omega
  have hb3 : (i : Int) ≤ (n : Int) := by omega
  have hb5 : (i : Int) ≤ (n : Int) + 1 := by omega
  have hb4 : ¬ (cap = i) := by omega
  have hb6 : ¬ (G = i) := by omega
  clear hend hcd h1c hW1 hW0 hWg hBW hW1e hX1 hXg hXB hW2e ht ho hcut hcs hcpA hcpB hc0d hold hRt hR hRa hc0 hc1 hinf hi0
  go_enter Tryz.func73, Tryz.ntmps73
  go_wp2_with (at_builtin; refine Lib.wpList_append_run _ rfl _ _ _ _ rfl _ _ rfl rfl _ _ (hrz _) ?_)
  go_region_law_o (refine step_copy_runI rfl _ _ 48 48 rfl _ _ (by simp [Act.eval, Act.put]) (by simp [Act.eval, Act.put]) (hB' _ _ _) ?_)
  go_wp2
  go_ret
  have HE' := HE.out
  first | exact HE' | (rw [List.append_assoc, hcl] at HE'; exact HE')
/-- slices.Insert, whichever road it takes. -/
theorem p_ins {base g0 i : Nat} {v : Value} {xs : List Fx} {f : Fx} (w : World) (ho : Own Fx.cs 4 58 w base v xs) (hn : xs.length ≤ 1000000) (hb : base ≤ w.heap.size) (hf : Blk w g0 58 (Fx.cs f).toArray) (hne : v.ownBlock ≠ some g0) (hi : i ≤ xs.length) :
    Calls Tryz.prog 73 #[v, .int .i64 (i : Nat), .slice (some ⟨g0, 0, none⟩) 1 1] w fun e w' => InsPost xs f i base w e w' := by
  by_cases he : i = xs.length
  · subst he; exact p_ins_end w ho hn hb hf
  · rcases ho.row.2 with ⟨rfl, h0⟩ | ⟨g, cap, cur, rfl, _⟩
    · omega
    · have hg : g0 ≠ g := fun e => hne (by rw [e]; rfl)
      by_cases hr : xs.length + 1 ≤ cap
      · exact p_ins_room w ho hn hb hf hg (by omega) hr
      · exact p_ins_grow w ho hn hb hf (by omega) (by omega)
end Go.Proofs.YtjdofncognaaoaaGreatDoor

/- Walk of fixing.Set. -/
namespace Go.Proofs.YtjdofncognaaoaaGreatDoor
open Go.RowKit
set_option linter.unusedVariables false
set_option linter.unusedSimpArgs false

theorem Blk.four {w : World} {g : Nat} {t : TypeId} {a b c d : Value} (h : Blk w g t #[a, b, c, d]) : w.cell? ⟨g, 0, none⟩ = some a ∧ w.cell? ⟨g, 1, none⟩ = some b ∧ w.cell? ⟨g, 2, none⟩ = some c ∧ w.cell? ⟨g, 3, none⟩ = some d :=
  ⟨h.cell 0, h.cell 1, h.cell 2, h.cell 3⟩
end Go.Proofs.YtjdofncognaaoaaGreatDoor
