/- Walks of the references' books: a line, its order, Line, May, Small, Same. -/
import Derived.Test.YtjdkbmlkplbmoaaGreatDoorRatP
import Derived.Test.YtjdkbmlkplbmoaaGreatDoorNames
namespace Go.Proofs.YtjdkbmlkplbmoaaGreatDoor
open Go.RowKit
set_option linter.unusedVariables false
set_option linter.unusedSimpArgs false

/-- Element k of a list of prices, in whatever world behind. -/
theorem ln_at {w wr : World} {A : Option Addr} {n : Nat} {xs : List Ln} (h : Rd Ln.cs 4 w A n xs) (hB : Below w.heap.size w wr) {k : Nat} (hk : k < n) :
    ∃ ad a0 a1 a2 a3, A = some ad ∧ xs[k]? = some ⟨a0, a1, ⟨a2, a3⟩⟩ ∧ ∀ y : After wr, y.W.cell? (ad.add (k * 4)) = some (.string a0) ∧ y.W.cell? ⟨(ad.add (k * 4)).block, (ad.add (k * 4)).off + 1, none⟩ = some (.string a1) ∧
      y.W.cell? ⟨(ad.add (k * 4)).block, (ad.add (k * 4)).off + 2, none⟩ = some (.string a2) ∧ y.W.cell? ⟨(ad.add (k * 4)).block, (ad.add (k * 4)).off + 3, none⟩ = some (.string a3) := by
  obtain ⟨ad, x, hA, hl, hx, hc⟩ := (h.below hB).at_ hk
  obtain ⟨a0, a1, a2, a3⟩ := x
  refine ⟨ad, a0, a1, a2, a3, hA, hx, fun y => ?_⟩
  have g : ∀ i u, (Ln.cs ⟨a0, a1, ⟨a2, a3⟩⟩)[i]? = some u → y.W.cell? (ad.add (k * 4 + i)) = some u := fun i u hu => (y.h.cell (by rw [add_block]; exact hl)).trans (hc i u hu)
  refine ⟨g 0 _ rfl, ?_, ?_, ?_⟩
  · rw [← add_field _ _ 1 (by omega)]; exact g 1 _ rfl
  · rw [← add_field _ _ 2 (by omega)]; exact g 2 _ rfl
  · rw [← add_field _ _ 3 (by omega)]; exact g 3 _ rfl
theorem ln_now {w wr : World} {A : Option Addr} {n : Nat} {xs : List Ln} (h : Rd Ln.cs 4 w A n xs) (hB : Below w.heap.size w wr) {k : Nat} (hk : k < n) :
    ∃ ad a0 a1 a2 a3, A = some ad ∧ xs[k]? = some ⟨a0, a1, ⟨a2, a3⟩⟩ ∧ wr.cell? (ad.add (k * 4)) = some (.string a0) ∧ wr.cell? ⟨(ad.add (k * 4)).block, (ad.add (k * 4)).off + 1, none⟩ = some (.string a1) ∧
      wr.cell? ⟨(ad.add (k * 4)).block, (ad.add (k * 4)).off + 2, none⟩ = some (.string a2) ∧ wr.cell? ⟨(ad.add (k * 4)).block, (ad.add (k * 4)).off + 3, none⟩ = some (.string a3) := by
  obtain ⟨ad, a0, a1, a2, a3, e, hx, hc⟩ := ln_at h hB hk
  exact ⟨ad, a0, a1, a2, a3, e, hx, hc ⟨wr, Below.refl _ _⟩⟩
/-- A price's cells, at hand. -/
structure LnAt (w : World) (a : Addr) (a0 : ByteArray) (a1 : ByteArray) (a2 a3 : ByteArray) : Prop where
  c0 : w.cell? a = some (.string a0)
  c1 : w.cell? ⟨a.block, a.off + 1, none⟩ = some (.string a1)
  c2 : w.cell? ⟨a.block, a.off + 2, none⟩ = some (.string a2)
  c3 : w.cell? ⟨a.block, a.off + 3, none⟩ = some (.string a3)
  c4 : w.cell? ⟨a.block, a.off + 2 + 1, none⟩ = some (.string a3)
theorem ln_get {w wr : World} {ad : Addr} {n : Nat} {xs : List Ln} (h : Rd Ln.cs 4 w (some ad) n xs) (hB : Below w.heap.size w wr) {k : Nat} (hk : k < n) {a0 a2 a3 : ByteArray} {a1 : ByteArray} (hx : xs[k]? = some ⟨a0, a1, ⟨a2, a3⟩⟩) : LnAt wr (ad.add (k * 4)) a0 a1 a2 a3 := by
  obtain ⟨ad', b0, b1, b2, b3, e, hx', hc⟩ := ln_at h hB hk
  cases e
  rw [hx] at hx'
  injection hx' with hx'
  injection hx' with e0 e1 e2
  injection e2 with e2 e3
  subst e0; subst e1; subst e2; subst e3
  obtain ⟨h0, h1, h2, h3⟩ := hc ⟨wr, Below.refl _ _⟩
  exact ⟨h0, h1, h2, h3, h3⟩
theorem ln_in {w wr : World} {A : Option Addr} {n : Nat} {xs : List Ln} (h : Rd Ln.cs 4 w A n xs) (hB : Below w.heap.size w wr) {k : Nat} (hk : k < n) :
    ∃ ad a0 a1 a2 a3, A = some ad ∧ xs[k]? = some ⟨a0, a1, ⟨a2, a3⟩⟩ ∧ ∀ w1, Below wr.heap.size wr w1 → LnAt w1 (ad.add (k * 4)) a0 a1 a2 a3 := by
  obtain ⟨ad, a0, a1, a2, a3, e, hx, hc⟩ := ln_at h hB hk
  exact ⟨ad, a0, a1, a2, a3, e, hx, fun w1 h1 => let ⟨h0, h1, h2, h3⟩ := hc ⟨w1, h1⟩; ⟨h0, h1, h2, h3, h3⟩⟩
theorem eqLine (d : Nat) (w : World) (x0 y0 : ByteArray) (x1 y1 : ByteArray) (x2 y2 : ByteArray) (x3 y3 : ByteArray) :
    (Op.equalIn (d + 3) 46 (.agg #[.string x0, .string x1, .string x2, .string x3]) (.agg #[.string y0, .string y1, .string y2, .string y3])).run Tryz.prog w = .ok (x0.toList == y0.toList && (x1.toList == y1.toList && ((x2.toList == y2.toList && (x3.toList == y3.toList))))) w := by
  refine eq_of Tryz.underlying46 (by kernel_rfl) ?_
  refine eq_cons (by rfl) (by go_simp; rfl) (by go_simp; rfl) (by go_simp) ?_
  refine eq_cons (by rfl) (by go_simp; rfl) (by go_simp; rfl) (by go_simp) ?_
  exact eq_last (by rfl) (by go_simp) (by go_simp) (eqRat (d + 0) w _ _ _ _)
theorem ln_beq (x0 x2 x3 y0 y2 y3 : ByteArray) (x1 y1 : ByteArray) : (x0.toList == y0.toList && (x1.toList == y1.toList && ((x2.toList == y2.toList && (x3.toList == y3.toList))))) = decide ((⟨x0, x1, ⟨x2, x3⟩⟩ : Ln) = ⟨y0, y1, ⟨y2, y3⟩⟩) := by
  rw [rt_beq, Bool.eq_iff_iff]
  simp only [Bool.and_eq_true, beq_iff_eq, decide_eq_true_eq, Ln.mk.injEq, s_eq]
theorem ln_same {a0 a2 a3 b0 b2 b3 : ByteArray} {a1 b1 : ByteArray} (h : (!(a0.toList == b0.toList) || (!(a1.toList == b1.toList) || (!(a2.toList == b2.toList) || !(a3.toList == b3.toList)))) = false) : (⟨a0, a1, ⟨a2, a3⟩⟩ : Ln) = ⟨b0, b1, ⟨b2, b3⟩⟩ := by
  simp only [Bool.or_eq_false_iff, Bool.not_eq_false', beq_iff_eq] at h
  obtain ⟨h0, h1, h2, h3⟩ := h
  rw [s_eq.2 h0, s_eq.2 h1, s_eq.2 h2, s_eq.2 h3]
theorem ln_unlike {a0 a2 a3 b0 b2 b3 : ByteArray} {a1 b1 : ByteArray} (h : (!(a0.toList == b0.toList) || (!(a1.toList == b1.toList) || (!(a2.toList == b2.toList) || !(a3.toList == b3.toList)))) = true) : ¬ (⟨a0, a1, ⟨a2, a3⟩⟩ : Ln) = ⟨b0, b1, ⟨b2, b3⟩⟩ := by
  intro e
  injection e with e0 e1 e2
  injection e2 with e2 e3
  subst e0; subst e1; subst e2; subst e3
  simp at h
set_option maxHeartbeats 800000 in
theorem r6_same {A B : Option Addr} {n m c d : Nat} {xs ys : List Ln} (w : World) (hx : Rd Ln.cs 4 w A n xs) (hy : Rd Ln.cs 4 w B m ys) :
    Calls Tryz.prog 17 #[.slice A n c, .slice B m d] w fun e w' => e = .returned (.bool (decide (xs = ys))) ∧ Below w.heap.size w w' := by
  have hbig := hx.big
  have hbig2 := hy.big
  have heq := eqLine
  by_cases hnm : n = m
  · subst hnm
    go_enter Tryz.func17, Tryz.ntmps17
    go_wp2
    go_loopw [5] (fun i wr => ∃ k : Nat, k ≤ n ∧ i = .int .i64 k ∧ Hid (xs.take k = ys.take k) ∧ Below w.heap.size w wr) (fun i _ => n - (intOf i).toNat)
    case atStart => exact ⟨0, Nat.zero_le _, rfl, by simp [Hid], Below.refl _ _⟩
    case round =>
      obtain ⟨k, hk, rfl, H, hB⟩ := hrel
      by_cases hlt : k < n
      · obtain ⟨ad, a0, a1, a2, a3, rfl, hxk, hc⟩ := ln_at hx hB hlt
        obtain ⟨ad', b0, b1, b2, b3, rfl, hyk, hc'⟩ := ln_at hy hB hlt
        have hx0 := fun y => (hc y).1
        have hx1 := fun y => (hc y).2.1
        have hx2 := fun y => (hc y).2.2.1
        have hx3 := fun y => (hc y).2.2.2
        have hy0 := fun y => (hc' y).1
        have hy1 := fun y => (hc' y).2.1
        have hy2 := fun y => (hc' y).2.2.1
        have hy3 := fun y => (hc' y).2.2.2
        have HX := Lib.hid hxk
        have HY := Lib.hid hyk
        have HC := Lib.hid hc
        have HC' := Lib.hid hc'
        clear hxk hc hyk hc'
        go_wp2
        (refine wp_region_after (by kernel_rfl) (by kernel_rfl) ?_; (repeat (first | go_big_quiet_skip | (go_big_quiet_want; go_big_quiet_op; first | go_big_quiet_on | (apply Exists.intro; refine ⟨fun _ => ?_, ?_⟩; (focus (fail)); go_big_quiet_on)))); refine wpQuiet_nil ?_; rintro w1 ⟨⟨_, hb1⟩, rfl⟩; (try dsimp only); obtain ⟨hc1, hf1⟩ := bcell hb1; have hs1 := hb1.size; (try simp at hs1))
        generalize hv : (!(a0.toList == b0.toList) || (!(a1.toList == b1.toList) || (!(a2.toList == b2.toList) || !(a3.toList == b3.toList)))) = v
        have HV := Lib.hid hv
        clear hv
        cases v
        · go_wp2
          go_roundw
          case rel => exact ⟨k + 1, by omega, by go_num, take_succ_same H.out HX.out HY.out (ln_same HV.out), (by repeat (first | exact Below.refl _ _ | assumption | refine b_then ?_ (by assumption) | refine b_alloc ?_ _ | refine b_drewN ?_ _ | refine Below.drew ?_ | refine b_set ?_ (by first | exact Nat.le_refl _ | (simp; done) | (simp; omega) | omega) _))⟩
          case measure => simp [intOf]; omega
        · go_wp2
          go_ret
          exact ⟨ret_bool (same_no HX.out HY.out (ln_unlike HV.out)).symm, (by repeat (first | exact Below.refl _ _ | assumption | refine b_then ?_ (by assumption) | refine b_alloc ?_ _ | refine b_drewN ?_ _ | refine Below.drew ?_ | refine b_set ?_ (by first | exact Nat.le_refl _ | (simp; done) | (simp; omega) | omega) _))⟩
      · obtain rfl : k = n := by omega
        have H2 := H.out
        rw [List.take_of_length_le (by rw [hx.len]; exact Nat.le_refl _), List.take_of_length_le (by rw [hy.len]; exact Nat.le_refl _)] at H2
        have H3 := Lib.hid H2
        clear H2
        go_wp2
        go_ret
        exact ⟨ret_bool (decide_eq_true H3.out).symm, hB⟩
  · have hne : decide (xs = ys) = false := by
      rw [decide_eq_false_iff_not]; rintro rfl; exact hnm (hx.len.symm.trans hy.len)
    have hnb : ((n : Int) == (m : Int)) = false := by rw [beq_eq_false_iff_ne]; omega
    have HN := Lib.hid hne
    clear hne
    go_enter Tryz.func17, Tryz.ntmps17
    go_wp2
    go_ret
    exact ⟨ret_bool HN.out.symm, Below.refl _ _⟩
theorem bmay_first {l : List Ln} {a : Ln} (ha : l[0]? = some a) (h1 : lgood a = true) : bmay (l.take 1) = true := by
  rw [bmay, Bool.and_eq_true]
  exact ⟨all_take_succ (k := 0) (by simp) ha h1, rises_take_one⟩
theorem bmay_first' {l : List Ln} {k : Nat} {a : Ln} (hk : k = 0) (ha : l[k]? = some a) (h1 : lgood a = true) : bmay (l.take (k + 1)) = true := by subst hk; exact bmay_first ha h1
theorem bmay_next {l : List Ln} {k : Nat} {a b : Ln} (h : bmay (l.take k) = true) (hk : 0 < k) (ha : l[k - 1]? = some a) (hb : l[k]? = some b) (h1 : lgood b = true) (h2 : lahead a b = true) : bmay (l.take (k + 1)) = true := by
  rw [bmay, Bool.and_eq_true] at h ⊢
  exact ⟨all_take_succ h.1 hb h1, rises_take_succ h.2 hk ha hb h2⟩
theorem bmay_bad {l : List Ln} {k : Nat} {a : Ln} (ha : l[k]? = some a) (h1 : lgood a = false) : bmay l = false := by
  rw [bmay, all_no ha h1]; rfl
theorem bmay_back {l : List Ln} {k : Nat} {a b : Ln} (hk : 0 < k) (ha : l[k - 1]? = some a) (hb : l[k]? = some b) (h2 : lahead a b = false) : bmay l = false := by
  rw [bmay, rises_no hk ha hb h2, Bool.and_false]
/-- Few digits, short names. -/
def lnq (l : Ln) : Prop := l.acct.size ≤ 9000000000 ∧ l.asset.size ≤ 9000000000 ∧ l.q.num.size ≤ 400000000 ∧ l.q.den.size ≤ 400000000
def lnok (l : Ln) : Prop := l.acct.size ≤ 9223372036854775807 ∧ l.asset.size ≤ 9223372036854775807 ∧ l.q.num.size ≤ 9223372036854775807 ∧ l.q.den.size ≤ 9223372036854775807
theorem r6_ahead (a0 a1 a2 a3 b0 b1 b2 b3 : ByteArray) (w : World) :
    Calls Tryz.prog 52 #[.agg #[.string a0, .string a1, .string a2, .string a3], .agg #[.string b0, .string b1, .string b2, .string b3]] w fun e w' => e = .returned (.bool (lahead ⟨a0, a1, ⟨a2, a3⟩⟩ ⟨b0, b1, ⟨b2, b3⟩⟩)) ∧ Below w.heap.size w w' := by
  unfold lahead slt
  go_enter Tryz.func52, Tryz.ntmps52
  go_wp2
  all_goals
    go_ret
    exact ⟨ret_bool (by grind), (by repeat (first | exact Below.refl _ _ | assumption | refine b_then ?_ (by assumption) | refine b_alloc ?_ _ | refine b_drewN ?_ _ | refine Below.drew ?_ | refine b_set ?_ (by first | exact Nat.le_refl _ | (simp; done) | (simp; omega) | omega) _))⟩
set_option maxHeartbeats 800000 in
theorem r6_line (a0 a1 a2 a3 : ByteArray) (w : World) (h0 : a0.size ≤ 9223372036854775807) (h1 : a1.size ≤ 9223372036854775807) (h2 : a2.size ≤ 900000000) (h3 : a3.size ≤ 900000000) :
    Calls Tryz.prog 51 #[.agg #[.string a0, .string a1, .string a2, .string a3]] w fun e w' => e = .returned (.bool (lone ⟨a0, a1, ⟨a2, a3⟩⟩)) ∧ Below w.heap.size w w' := by
  unfold lone
  dsimp only
  have hA := fun W => r6_name a0 W h0
  have hB := fun W => r6_name a1 W h1
  go_enter Tryz.func51, Tryz.ntmps51
  go_wp2_with (first | (go_at_call 56; (with_reducible refine (hA _).mono ?_); rintro e w' ⟨rfl, rfl⟩) | (go_at_call 56; (with_reducible refine (hB _).mono ?_); rintro e w' ⟨rfl, rfl⟩) | (go_at_call 53; (with_reducible refine (r3_may _ _ _ (by omega) (by omega)).mono ?_); rintro e w1 ⟨rfl, hb1⟩; obtain ⟨hc1, hf1⟩ := bcell hb1; have hs1 := hb1.size; (try simp at hs1)))
  all_goals
    go_ret
    exact ⟨ret_bool (by grind), (by repeat (first | exact Below.refl _ _ | assumption | refine b_then ?_ (by assumption) | refine b_alloc ?_ _ | refine b_drewN ?_ _ | refine Below.drew ?_ | refine b_set ?_ (by first | exact Nat.le_refl _ | (simp; done) | (simp; omega) | omega) _))⟩
set_option maxHeartbeats 1600000 in
theorem r6_may {A : Option Addr} {n c : Nat} {xs : List Ln} (w : World) (hx : Rd Ln.cs 4 w A n xs) (hz : ∀ f ∈ xs, lnq f) :
    Calls Tryz.prog 26 #[.slice A n c] w fun e w' => e = .returned (.bool (bmay xs)) ∧ Below w.heap.size w w' := by
  have hbig := hx.big
  go_enter Tryz.func26, Tryz.ntmps26
  go_wp2
  go_loopw [3] (fun i wr => ∃ k : Nat, k ≤ n ∧ i = .int .i64 k ∧ Hid (bmay (xs.take k) = true) ∧ Below w.heap.size w wr) (fun i _ => n - (intOf i).toNat)
  case atStart => exact ⟨0, Nat.zero_le _, rfl, by simp [Hid, bmay, rises], Below.refl _ _⟩
  case round =>
    obtain ⟨k, hk, rfl, H, hB⟩ := hrel
    by_cases hlt : k < n
    · obtain ⟨ad, a0, a1, a2, a3, rfl, hxk, hc⟩ := ln_at hx hB hlt
      have hx0 := fun y => (hc y).1
      have hx1 := fun y => (hc y).2.1
      have hx2 := fun y => (hc y).2.2.1
      have hx3 := fun y => (hc y).2.2.2
      have hx4 : ∀ y : After wr, y.W.cell? ⟨(ad.add (k * 4)).block, (ad.add (k * 4)).off + 2 + 1, none⟩ = some (.string a3) := fun y => (hc y).2.2.2
      obtain ⟨z0, z1, z2, z3⟩ := hz _ (List.mem_of_getElem? hxk)
      dsimp only at z0 z1 z2 z3
      have HX := Lib.hid hxk
      have HC := Lib.hid hc
      clear hxk hc
      have hL : ∀ W, Calls Tryz.prog 51 #[.agg #[.string a0, .string a1, .string a2, .string a3]] W fun e w' => e = .returned (.bool (lone ⟨a0, a1, ⟨a2, a3⟩⟩)) ∧ Below W.heap.size W w' := fun W => r6_line a0 a1 a2 a3 W (by omega) (by omega) (by omega) (by omega)
      by_cases c1 : lone ⟨a0, a1, ⟨a2, a3⟩⟩ = true
      · have hS : ∀ W, Calls Tryz.prog 28 #[.agg #[.string a2, .string a3]] W fun e w' => e = .returned (.int .i64 (rsign ⟨a2, a3⟩)) ∧ Below W.heap.size W w' := fun W => r3_sign a2 a3 W (by omega) (by omega)
        by_cases c0 : (rsign ⟨a2, a3⟩ == 0) = true
        · have hbad : Hid (bmay xs = false) := bmay_bad HX.out (by unfold lgood; rw [c1, c0]; rfl)
          generalize rsign ⟨a2, a3⟩ = s at *
          go_wp2
          (refine wp_region_after (by kernel_rfl) (by kernel_rfl) ?_; (repeat (first | go_big_quiet_skip | (go_big_quiet_want; go_big_quiet_op; first | go_big_quiet_on | (apply Exists.intro; refine ⟨fun _ => ?_, ?_⟩; (focus (first | (go_at_call 51; with_reducible exact Calls.after_of (hL _) (congrArg Value.bool c1)) | (go_at_call 28; with_reducible exact Calls.after (hS _)))); go_big_quiet_on)))); refine wpQuiet_nil ?_; rintro w1 ⟨⟨_, hb1⟩, rfl⟩; (try dsimp only); obtain ⟨hc1, hf1⟩ := bcell hb1; have hs1 := hb1.size; (try simp at hs1))
          go_wp2
          go_ret
          exact ⟨ret_bool hbad.out.symm, (by repeat (first | exact Below.refl _ _ | assumption | refine b_then ?_ (by assumption) | refine b_alloc ?_ _ | refine b_drewN ?_ _ | refine Below.drew ?_ | refine b_set ?_ (by first | exact Nat.le_refl _ | (simp; done) | (simp; omega) | omega) _))⟩
        · simp only [Bool.not_eq_true] at c0
          have cg : lgood ⟨a0, a1, ⟨a2, a3⟩⟩ = true := by unfold lgood; rw [c1, c0]; rfl
          have CG := Lib.hid cg
          clear cg
          generalize rsign ⟨a2, a3⟩ = s at *
          by_cases hk0 : 0 < k
          · obtain ⟨ad', b0, b1, b2, b3, e, hxk', hc'⟩ := ln_at hx hB (show k - 1 < n by omega)
            obtain rfl : ad = ad' := Option.some.inj e
            have hy0 := fun y => (hc' y).1
            have hy1 := fun y => (hc' y).2.1
            have hy2 := fun y => (hc' y).2.2.1
            have hy3 := fun y => (hc' y).2.2.2
            have HX' := Lib.hid hxk'
            have HC' := Lib.hid hc'
            clear hxk' hc' e
            by_cases c2 : lahead ⟨b0, b1, ⟨b2, b3⟩⟩ ⟨a0, a1, ⟨a2, a3⟩⟩ = true
            · go_wp2
              (refine wp_region_after (by kernel_rfl) (by kernel_rfl) ?_; (repeat (first | go_big_quiet_skip | (go_big_quiet_want; go_big_quiet_op; first | go_big_quiet_on | (apply Exists.intro; refine ⟨fun _ => ?_, ?_⟩; (focus (first | (go_at_call 51; with_reducible exact Calls.after_of (hL _) (congrArg Value.bool c1)) | (go_at_call 28; with_reducible exact Calls.after (hS _)) | (go_at_call 52; with_reducible exact Calls.after_of (r6_ahead _ _ _ _ _ _ _ _ _) (congrArg Value.bool c2)))); go_big_quiet_on)))); refine wpQuiet_nil ?_; rintro w1 ⟨⟨_, hb1⟩, rfl⟩; (try dsimp only); obtain ⟨hc1, hf1⟩ := bcell hb1; have hs1 := hb1.size; (try simp at hs1))
              go_wp2
              go_roundw
              case rel => exact ⟨k + 1, by omega, by go_num, bmay_next H.out hk0 HX'.out HX.out CG.out c2, (by repeat (first | exact Below.refl _ _ | assumption | refine b_then ?_ (by assumption) | refine b_alloc ?_ _ | refine b_drewN ?_ _ | refine Below.drew ?_ | refine b_set ?_ (by first | exact Nat.le_refl _ | (simp; done) | (simp; omega) | omega) _))⟩
              case measure => simp [intOf]; omega
            · simp only [Bool.not_eq_true] at c2
              go_wp2
              (refine wp_region_after (by kernel_rfl) (by kernel_rfl) ?_; (repeat (first | go_big_quiet_skip | (go_big_quiet_want; go_big_quiet_op; first | go_big_quiet_on | (apply Exists.intro; refine ⟨fun _ => ?_, ?_⟩; (focus (first | (go_at_call 51; with_reducible exact Calls.after_of (hL _) (congrArg Value.bool c1)) | (go_at_call 28; with_reducible exact Calls.after (hS _)) | (go_at_call 52; with_reducible exact Calls.after_of (r6_ahead _ _ _ _ _ _ _ _ _) (congrArg Value.bool c2)))); go_big_quiet_on)))); refine wpQuiet_nil ?_; rintro w1 ⟨⟨_, hb1⟩, rfl⟩; (try dsimp only); obtain ⟨hc1, hf1⟩ := bcell hb1; have hs1 := hb1.size; (try simp at hs1))
              go_wp2
              go_ret
              exact ⟨ret_bool (bmay_back hk0 HX'.out HX.out c2).symm, (by repeat (first | exact Below.refl _ _ | assumption | refine b_then ?_ (by assumption) | refine b_alloc ?_ _ | refine b_drewN ?_ _ | refine Below.drew ?_ | refine b_set ?_ (by first | exact Nat.le_refl _ | (simp; done) | (simp; omega) | omega) _))⟩
          · go_wp2
            (refine wp_region_after (by kernel_rfl) (by kernel_rfl) ?_; (repeat (first | go_big_quiet_skip | (go_big_quiet_want; go_big_quiet_op; first | go_big_quiet_on | (apply Exists.intro; refine ⟨fun _ => ?_, ?_⟩; (focus (first | (go_at_call 51; with_reducible exact Calls.after_of (hL _) (congrArg Value.bool c1)) | (go_at_call 28; with_reducible exact Calls.after (hS _)))); go_big_quiet_on)))); refine wpQuiet_nil ?_; rintro w1 ⟨⟨_, hb1⟩, rfl⟩; (try dsimp only); obtain ⟨hc1, hf1⟩ := bcell hb1; have hs1 := hb1.size; (try simp at hs1))
            go_wp2
            go_roundw
            case rel => exact ⟨k + 1, by omega, by go_num, bmay_first' (by omega) HX.out CG.out, (by repeat (first | exact Below.refl _ _ | assumption | refine b_then ?_ (by assumption) | refine b_alloc ?_ _ | refine b_drewN ?_ _ | refine Below.drew ?_ | refine b_set ?_ (by first | exact Nat.le_refl _ | (simp; done) | (simp; omega) | omega) _))⟩
            case measure => simp [intOf]; omega
      · simp only [Bool.not_eq_true] at c1
        have hbad : Hid (bmay xs = false) := bmay_bad HX.out (by unfold lgood; rw [c1]; rfl)
        go_wp2
        (refine wp_region_after (by kernel_rfl) (by kernel_rfl) ?_; (repeat (first | go_big_quiet_skip | (go_big_quiet_want; go_big_quiet_op; first | go_big_quiet_on | (apply Exists.intro; refine ⟨fun _ => ?_, ?_⟩; (focus (first | (go_at_call 51; with_reducible exact Calls.after_of (hL _) (congrArg Value.bool c1)))); go_big_quiet_on)))); refine wpQuiet_nil ?_; rintro w1 ⟨⟨_, hb1⟩, rfl⟩; (try dsimp only); obtain ⟨hc1, hf1⟩ := bcell hb1; have hs1 := hb1.size; (try simp at hs1))
        go_wp2
        go_ret
        exact ⟨ret_bool hbad.out.symm, (by repeat (first | exact Below.refl _ _ | assumption | refine b_then ?_ (by assumption) | refine b_alloc ?_ _ | refine b_drewN ?_ _ | refine Below.drew ?_ | refine b_set ?_ (by first | exact Nat.le_refl _ | (simp; done) | (simp; omega) | omega) _))⟩
    · obtain rfl : k = n := by omega
      have H2 := H.out
      rw [← hx.len, List.take_length] at H2
      have H3 := Lib.hid H2
      clear H2
      go_wp2
      go_ret
      exact ⟨ret_bool H3.out.symm, (by repeat (first | exact Below.refl _ _ | assumption | refine b_then ?_ (by assumption) | refine b_alloc ?_ _ | refine b_drewN ?_ _ | refine Below.drew ?_ | refine b_set ?_ (by first | exact Nat.le_refl _ | (simp; done) | (simp; omega) | omega) _))⟩
set_option maxHeartbeats 800000 in
theorem r6_get {A : Option Addr} {n c : Nat} {xs : List Ln} (s d : ByteArray) (w : World) (hx : Rd Ln.cs 4 w A n xs) (hz : ∀ f ∈ xs, lnq f) :
    Calls Tryz.prog 29 #[.slice A n c, .string s, .string d] w fun e w' => e = .returned (bget xs s d).v ∧ Below w.heap.size w w' := by
  have hbig := hx.big
  have hB0 : Below w.heap.size w (w.alloc (.cells #[.string ⟨#[]⟩, .string ⟨#[]⟩] 35)) := b_alloc (Below.refl _ _) _
  have hM := r6_may _ (hx.below hB0) hz (c := c)
  cases c0 : bmay xs with
  | false =>
    rw [c0] at hM
    have hv : Hid ((bget xs s d).v = .agg #[.string ⟨#[]⟩, .string ⟨#[]⟩]) := by unfold Hid bget; rw [c0]; rfl
    go_enter Tryz.func29, Tryz.ntmps29
    go_wp2_with (go_at_call 26; (with_reducible refine (hM).mono ?_); rintro e w1 ⟨rfl, hb1⟩; obtain ⟨hc1, hf1⟩ := bcell hb1; have hs1 := hb1.size; (try simp at hs1); have hq1 : w.heap.size < w1.heap.size := (by omega))
    refine bodyPost_ret (v := .agg #[.string ⟨#[]⟩, .string ⟨#[]⟩]) ?_ rfl ⟨by rw [hv.out], (by repeat (first | exact Below.refl _ _ | assumption | refine b_then ?_ (by assumption) | refine b_alloc ?_ _ | refine b_drewN ?_ _ | refine Below.drew ?_ | refine b_set ?_ (by first | exact Nat.le_refl _ | (simp; done) | (simp; omega) | omega) _))⟩
    simp [results, Tryz.results29, go_sem, hc1, hf1, hq1]
  | true =>
    rw [c0] at hM
    have HV : Hid (bget xs s d = bgetL xs s d) := by unfold Hid bget; rw [c0]; rfl
    go_enter Tryz.func29, Tryz.ntmps29
    go_wp2_with (go_at_call 26; (with_reducible refine (hM).mono ?_); rintro e w1 ⟨rfl, hb1⟩; obtain ⟨hc1, hf1⟩ := bcell hb1; have hs1 := hb1.size; (try simp at hs1); have hq1 : w.heap.size < w1.heap.size := (by omega))
    have hBw1 : Below w.heap.size w w1 := b_then hB0 hb1
    go_loopw [7] (fun i wr => ∃ k : Nat, k ≤ n ∧ i = .int .i64 k ∧ Hid ((xs.take k).find? (lhit s d) = none) ∧ Below w1.heap.size w1 wr) (fun i _ => n - (intOf i).toNat)
    case atStart => exact ⟨0, Nat.zero_le _, rfl, by simp [Hid], Below.refl _ _⟩
    case round =>
      obtain ⟨k, hk, rfl, H, hB⟩ := hrel
      have hBw : Below w.heap.size w wr := b_then hBw1 hB
      obtain ⟨hc2, hf2⟩ := bcell hB
      have hs2 := hB.size
      have hq2 : w.heap.size < wr.heap.size := by omega
      by_cases hlt : k < n
      · obtain ⟨ad, a0, a1, a2, a3, rfl, hxk, hl⟩ := ln_in hx hBw hlt
        have HX := Lib.hid hxk
        clear hxk
        obtain ⟨hx0, hx1, hx2, hx3, hx4⟩ := hl wr (Below.refl _ _)
        clear hl
        have HH : Hid (lhit s d ⟨a0, a1, ⟨a2, a3⟩⟩ = (a0.toList == s.toList && a1.toList == d.toList)) := rfl
        by_cases c1 : (a0.toList == s.toList) = true
        · by_cases c2 : (a1.toList == d.toList) = true
          · have hv : Hid ((bget xs s d).v = .agg #[.string a2, .string a3]) := by
              unfold Hid
              rw [HV.out, bget_some (find_hit H.out HX.out (by rw [HH.out, c1, c2]; rfl))]; rfl
            go_wp2
            refine bodyPost_ret (v := .agg #[.string a2, .string a3]) ?_ rfl ⟨by rw [hv.out], (by repeat (first | exact Below.refl _ _ | assumption | refine b_then ?_ (by assumption) | refine b_alloc ?_ _ | refine b_drewN ?_ _ | refine Below.drew ?_ | refine b_set ?_ (by first | exact Nat.le_refl _ | (simp; done) | (simp; omega) | omega) _))⟩
            simp [results, Tryz.results29, go_sem, hc1, hf1, hq1, hc2, hf2, hq2]
          · simp only [Bool.not_eq_true] at c2
            have H2 : Hid (lhit s d ⟨a0, a1, ⟨a2, a3⟩⟩ = false) := by rw [Hid, HH.out, c2, Bool.and_false]
            go_wp2
            go_roundw
            case rel => exact ⟨k + 1, by omega, by go_num, find_take_succ H.out HX.out H2.out, hB⟩
            case measure => simp [intOf]; omega
        · simp only [Bool.not_eq_true] at c1
          have H2 : Hid (lhit s d ⟨a0, a1, ⟨a2, a3⟩⟩ = false) := by rw [Hid, HH.out, c1, Bool.false_and]
          go_wp2
          go_roundw
          case rel => exact ⟨k + 1, by omega, by go_num, find_take_succ H.out HX.out H2.out, hB⟩
          case measure => simp [intOf]; omega
      · obtain rfl : k = n := by omega
        have hv : Hid ((bget xs s d).v = .agg #[.string (iS 0), .string (nS 1)]) := by
          have h := H.out
          rw [← hx.len, List.take_length] at h
          unfold Hid
          rw [HV.out, bget_none h]; rfl
        have hO := fun W => r3_of 0 W (by omega) (by omega)
        simp only [enc_of, RT.v] at hO
        go_wp2_with (go_at_call 32; (with_reducible refine (hO _).mono ?_); rintro e w3 ⟨rfl, hb3⟩; obtain ⟨hc3, hf3⟩ := bcell hb3; have hs3 := hb3.size; (try simp at hs3); have hq3 : w.heap.size < w3.heap.size := (by omega))
        refine bodyPost_ret (v := .agg #[.string (iS 0), .string (nS 1)]) ?_ rfl ⟨by rw [hv.out], (by repeat (first | exact Below.refl _ _ | assumption | refine b_then ?_ (by assumption) | refine b_alloc ?_ _ | refine b_drewN ?_ _ | refine Below.drew ?_ | refine b_set ?_ (by first | exact Nat.le_refl _ | (simp; done) | (simp; omega) | omega) _))⟩
        simp [results, Tryz.results29, go_sem, hc1, hf1, hq1, hc2, hf2, hq2, hc3, hf3, hq3]
/-! ### Small -/
theorem r3_short1 (g c : Nat) (a b : ByteArray) (w : World) (h0 : w.cell? ⟨g, 0, none⟩ = some (.string a)) (h1 : w.cell? ⟨g, 1, none⟩ = some (.string b)) (ha : a.size ≤ 9223372036854775807) (hb : b.size ≤ 9223372036854775807) :
    Calls Tryz.prog 40 #[.slice (some ⟨g, 0, none⟩) 1 c] w fun e w' => e = .returned (.bool (decide (a.size ≤ 100) && decide (b.size ≤ 100))) ∧ w = w' := by
  go_enter Tryz.func40, Tryz.ntmps40
  go_wp2
  go_loop [3] (fun i => ∃ k : Nat, k ≤ 1 ∧ i = .int .i64 k ∧ Hid (0 < k → a.size ≤ 100 ∧ b.size ≤ 100)) (fun i => 1 - (intOf i).toNat)
  case atStart => exact ⟨0, Nat.zero_le _, rfl, fun h => absurd h (by omega)⟩
  case round =>
    obtain ⟨k, hk, rfl, H⟩ := hrel
    by_cases hlt : k < 1
    · obtain rfl : k = 0 := by omega
      go_wp2
      all_goals first
        | (go_ret; exact ⟨ret_bool (by grind), rfl⟩)
        | (go_round
           case rel => exact ⟨1, by omega, by go_num, fun _ => by constructor <;> omega⟩
           case measure => simp [intOf])
    · obtain rfl : k = 1 := by omega
      obtain ⟨h2, h3⟩ := H.out (by omega)
      go_wp2
      go_ret
      exact ⟨ret_bool (by first | rfl | simp [h2, h3]), rfl⟩
def lnsm (l : Ln) : Bool := (decide (l.q.num.size ≤ 100) && decide (l.q.den.size ≤ 100)) && (decide (l.acct.size ≤ 100) && decide (l.asset.size ≤ 100))
def lsmall (l : List Ln) : Bool := l.all lnsm && decide (l.length ≤ 40)
set_option maxHeartbeats 800000 in
theorem r6_small {A : Option Addr} {n c : Nat} {xs : List Ln} (w : World) (hx : Rd Ln.cs 4 w A n xs) (hz : ∀ f ∈ xs, lnok f) :
    Calls Tryz.prog 12 #[.slice A n c] w fun e w' => e = .returned (.bool (lsmall xs)) ∧ Below w.heap.size w w' := by
  have hbig := hx.big
  go_enter Tryz.func12, Tryz.ntmps12
  go_wp2
  go_loopw [3] (fun i wr => ∃ k : Nat, k ≤ n ∧ i = .int .i64 k ∧ Hid ((xs.take k).all lnsm = true) ∧ Below w.heap.size w wr) (fun i _ => n - (intOf i).toNat)
  case atStart => exact ⟨0, Nat.zero_le _, rfl, by simp [Hid], Below.refl _ _⟩
  case round =>
    obtain ⟨k, hk, rfl, H, hB⟩ := hrel
    by_cases hlt : k < n
    · obtain ⟨ad, a0, a1, a2, a3, rfl, hxk, hl⟩ := ln_in hx hB hlt
      obtain ⟨hx0, hx1, hx2, hx3, hx4⟩ := hl wr (Below.refl _ _)
      have hA := (hx.below hB).at_ hlt
      have hbl : (ad.add (k * 4)).block < wr.heap.size := by
        obtain ⟨ad', x', hA', hl', _⟩ := hA
        cases hA'
        rw [add_block]; exact hl'
      obtain ⟨z0, z1, z2, z3⟩ := hz _ (List.mem_of_getElem? hxk)
      dsimp only at z0 z1 z2 z3
      have HX := Lib.hid hxk
      clear hxk hl hA
      have hS := fun c W h0 h1 => r3_short1 wr.heap.size c a2 a3 W h0 h1 (by omega) (by omega)
      cases cs : (decide (a2.size ≤ 100) && decide (a3.size ≤ 100)) with
      | false =>
        have hbad : Hid (lsmall xs = false) := by
          have : xs.all lnsm = false := all_no HX.out (by unfold lnsm; dsimp only; rw [cs]; rfl)
          unfold Hid lsmall; rw [this]; rfl
        rw [cs] at hS
        go_wp2_with (go_at_call 40; (with_reducible refine (hS _ _ ?_ ?_).mono ?_); (focus (simp [Blk.cell (Blk.new _ _ _)])); (focus (simp [Blk.cell (Blk.new _ _ _)])); rintro e w' ⟨rfl, rfl⟩)
        go_ret
        exact ⟨ret_bool hbad.out.symm, (by repeat (first | exact Below.refl _ _ | assumption | refine b_then ?_ (by assumption) | refine b_alloc ?_ _ | refine b_drewN ?_ _ | refine Below.drew ?_ | refine b_set ?_ (by first | exact Nat.le_refl _ | (simp; done) | (simp; omega) | omega) _))⟩
      | true =>
        have CS := Lib.hid cs
        rw [cs] at hS
        clear cs
        go_wp2_with (go_at_call 40; (with_reducible refine (hS _ _ ?_ ?_).mono ?_); (focus (simp [Blk.cell (Blk.new _ _ _)])); (focus (simp [Blk.cell (Blk.new _ _ _)])); rintro e w' ⟨rfl, rfl⟩)
        all_goals first
          | (go_ret; exact ⟨ret_bool (by rw [lsmall, all_no HX.out (by simp only [lnsm]; rw [CS.out]; grind)]; rfl), (by repeat (first | exact Below.refl _ _ | assumption | refine b_then ?_ (by assumption) | refine b_alloc ?_ _ | refine b_drewN ?_ _ | refine Below.drew ?_ | refine b_set ?_ (by first | exact Nat.le_refl _ | (simp; done) | (simp; omega) | omega) _))⟩)
          | (go_roundw
             case rel => exact ⟨k + 1, by omega, by go_num, all_take_succ (Hid.out H) HX.out (by simp only [lnsm]; rw [CS.out]; grind), (by repeat (first | exact Below.refl _ _ | assumption | refine b_then ?_ (by assumption) | refine b_alloc ?_ _ | refine b_drewN ?_ _ | refine Below.drew ?_ | refine b_set ?_ (by first | exact Nat.le_refl _ | (simp; done) | (simp; omega) | omega) _))⟩
             case measure => simp [intOf]; omega)
    · obtain rfl : k = n := by omega
      have H2 := H.out
      rw [← hx.len, List.take_length] at H2
      have H3 : Hid (lsmall xs = decide (k ≤ 40)) := by
        simp only [Hid, lsmall, H2, Bool.true_and, hx.len]
      clear H2
      go_wp2
      all_goals
        go_ret
        exact ⟨ret_bool (by rw [H3.out]; grind), hB⟩
end Go.Proofs.YtjdkbmlkplbmoaaGreatDoor
