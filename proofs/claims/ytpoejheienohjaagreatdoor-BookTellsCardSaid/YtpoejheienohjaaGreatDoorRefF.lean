/- Walks of the references' names and prices. -/
import Derived.Test.YtpoejheienohjaaGreatDoorRefR
import Derived.Test.YtpoejheienohjaaGreatDoorNames
namespace Go.Proofs.YtpoejheienohjaaGreatDoor
open Go.RowKit
set_option linter.unusedVariables false
set_option linter.unusedSimpArgs false

set_option maxHeartbeats 800000 in
theorem r6_name (s : ByteArray) (w : World) (hs : s.size ≤ 9223372036854775807) :
    Calls Tryz.prog 36 #[.string s] w fun e w' => e = .returned (.bool (isName s)) ∧ w = w' := by
  go_enter Tryz.func36, Tryz.ntmps36
  go_wp2
  go_loop [3] (fun i => ∃ k : Nat, k ≤ s.size ∧ i = .int .i64 k ∧ Hid (nmUpto s k)) (fun i => s.size - (intOf i).toNat)
  case atStart => exact ⟨0, Nat.zero_le _, rfl, fun _ _ h => by omega⟩
  case round =>
    obtain ⟨k, hk, rfl, H⟩ := hrel
    by_cases hlt : k < s.size
    · have hr := s[k].toNat_lt
      go_wp2
      all_goals first
        | (go_ret; exact ⟨ret_bool (isName_no hlt (nmAt_no (by omega))).symm, rfl⟩)
        | (go_round
           case rel => exact ⟨k + 1, by omega, by go_num, nmUpto_succ (Hid.out H) hlt (nmAt_yes (by omega))⟩
           case measure => simp [intOf]; omega)
    · obtain rfl : k = s.size := by omega
      have hn := isName_all H.out
      have HN := Lib.hid hn
      clear hn
      go_wp2
      all_goals
        go_ret
        exact ⟨ret_bool (by rw [HN.out]; grind), rfl⟩
set_option maxHeartbeats 400000 in
theorem r12_ahead (a0 a2 a3 b0 b2 b3 : ByteArray) (a1 b1 : Int) (w : World) :
    Calls Tryz.prog 59 #[.agg #[.string a0, .int .i64 a1, .string a2, .string a3], .agg #[.string b0, .int .i64 b1, .string b2, .string b3]] w fun e w' => e = .returned (.bool (fahead ⟨a0, a1, ⟨a2, a3⟩⟩ ⟨b0, b1, ⟨b2, b3⟩⟩)) ∧ Below w.heap.size w w' := by
  unfold fahead slt
  go_enter Tryz.func59, Tryz.ntmps59
  go_wp2
  all_goals
    go_ret
    exact ⟨ret_bool (by grind), (by repeat (first | exact Below.refl _ _ | assumption | refine b_then ?_ (by assumption) | refine b_alloc ?_ _ | refine b_drewN ?_ _ | refine Below.drew ?_ | refine b_set ?_ (by first | exact Nat.le_refl _ | (simp; done) | (simp; omega) | omega) _))⟩
set_option maxHeartbeats 800000 in
theorem r12_one (a0 a2 a3 : ByteArray) (a1 : Int) (w : World) (h1 : a0.size ≤ 9223372036854775807) (h2 : a2.size ≤ 900000000) (h3 : a3.size ≤ 900000000) :
    Calls Tryz.prog 26 #[.agg #[.string a0, .int .i64 a1, .string a2, .string a3]] w fun e w' => e = .returned (.bool (fone ⟨a0, a1, ⟨a2, a3⟩⟩)) ∧ Below w.heap.size w w' := by
  unfold fone
  dsimp only
  go_enter Tryz.func26, Tryz.ntmps26
  go_wp2_with (first | (go_at_call 36; (with_reducible refine (r6_name _ _ (by omega)).mono ?_); rintro e w' ⟨rfl, rfl⟩) | (go_at_call 61; (with_reducible refine (r3_may _ _ _ (by omega) (by omega)).mono ?_); rintro e w1 ⟨rfl, hb1⟩; obtain ⟨hc1, hf1⟩ := bcell hb1; have hs1 := hb1.size; (try simp at hs1)))
  all_goals
    go_ret
    exact ⟨ret_bool (by grind), (by repeat (first | exact Below.refl _ _ | assumption | refine b_then ?_ (by assumption) | refine b_alloc ?_ _ | refine b_drewN ?_ _ | refine Below.drew ?_ | refine b_set ?_ (by first | exact Nat.le_refl _ | (simp; done) | (simp; omega) | omega) _))⟩
/-- Few digits, short names: what lets a price be reckoned with. -/
def fxsz (f : Fx) : Prop := f.asset.size ≤ 9000000000 ∧ f.p.num.size ≤ 900000000 ∧ f.p.den.size ≤ 900000000
/-- Element k of a list of prices, in whatever world behind. -/
theorem fx_at {w wr : World} {A : Option Addr} {n : Nat} {xs : List Fx} (h : Rd Fx.cs 4 w A n xs) (hB : Below w.heap.size w wr) {k : Nat} (hk : k < n) :
    ∃ ad a0 a1 a2 a3, A = some ad ∧ xs[k]? = some ⟨a0, a1, ⟨a2, a3⟩⟩ ∧ ∀ y : After wr, y.W.cell? (ad.add (k * 4)) = some (.string a0) ∧ y.W.cell? ⟨(ad.add (k * 4)).block, (ad.add (k * 4)).off + 1, none⟩ = some (.int .i64 a1) ∧
      y.W.cell? ⟨(ad.add (k * 4)).block, (ad.add (k * 4)).off + 2, none⟩ = some (.string a2) ∧ y.W.cell? ⟨(ad.add (k * 4)).block, (ad.add (k * 4)).off + 3, none⟩ = some (.string a3) := by
  obtain ⟨ad, x, hA, hl, hx, hc⟩ := (h.below hB).at_ hk
  obtain ⟨a0, a1, a2, a3⟩ := x
  refine ⟨ad, a0, a1, a2, a3, hA, hx, fun y => ?_⟩
  have g : ∀ i u, (Fx.cs ⟨a0, a1, ⟨a2, a3⟩⟩)[i]? = some u → y.W.cell? (ad.add (k * 4 + i)) = some u := fun i u hu => (y.h.cell (by rw [add_block]; exact hl)).trans (hc i u hu)
  refine ⟨g 0 _ rfl, ?_, ?_, ?_⟩
  · rw [← add_field _ _ 1 (by omega)]; exact g 1 _ rfl
  · rw [← add_field _ _ 2 (by omega)]; exact g 2 _ rfl
  · rw [← add_field _ _ 3 (by omega)]; exact g 3 _ rfl
theorem fx_now {w wr : World} {A : Option Addr} {n : Nat} {xs : List Fx} (h : Rd Fx.cs 4 w A n xs) (hB : Below w.heap.size w wr) {k : Nat} (hk : k < n) :
    ∃ ad a0 a1 a2 a3, A = some ad ∧ xs[k]? = some ⟨a0, a1, ⟨a2, a3⟩⟩ ∧ wr.cell? (ad.add (k * 4)) = some (.string a0) ∧ wr.cell? ⟨(ad.add (k * 4)).block, (ad.add (k * 4)).off + 1, none⟩ = some (.int .i64 a1) ∧
      wr.cell? ⟨(ad.add (k * 4)).block, (ad.add (k * 4)).off + 2, none⟩ = some (.string a2) ∧ wr.cell? ⟨(ad.add (k * 4)).block, (ad.add (k * 4)).off + 3, none⟩ = some (.string a3) := by
  obtain ⟨ad, a0, a1, a2, a3, e, hx, hc⟩ := fx_at h hB hk
  exact ⟨ad, a0, a1, a2, a3, e, hx, hc ⟨wr, Below.refl _ _⟩⟩
/-- A price's cells, at hand. -/
structure FxAt (w : World) (a : Addr) (a0 : ByteArray) (a1 : Int) (a2 a3 : ByteArray) : Prop where
  c0 : w.cell? a = some (.string a0)
  c1 : w.cell? ⟨a.block, a.off + 1, none⟩ = some (.int .i64 a1)
  c2 : w.cell? ⟨a.block, a.off + 2, none⟩ = some (.string a2)
  c3 : w.cell? ⟨a.block, a.off + 3, none⟩ = some (.string a3)
  c4 : w.cell? ⟨a.block, a.off + 2 + 1, none⟩ = some (.string a3)
theorem fx_get {w wr : World} {ad : Addr} {n : Nat} {xs : List Fx} (h : Rd Fx.cs 4 w (some ad) n xs) (hB : Below w.heap.size w wr) {k : Nat} (hk : k < n) {a0 a2 a3 : ByteArray} {a1 : Int} (hx : xs[k]? = some ⟨a0, a1, ⟨a2, a3⟩⟩) : FxAt wr (ad.add (k * 4)) a0 a1 a2 a3 := by
  obtain ⟨ad', b0, b1, b2, b3, e, hx', hc⟩ := fx_at h hB hk
  cases e
  rw [hx] at hx'
  injection hx' with hx'
  injection hx' with e0 e1 e2
  injection e2 with e2 e3
  subst e0; subst e1; subst e2; subst e3
  obtain ⟨h0, h1, h2, h3⟩ := hc ⟨wr, Below.refl _ _⟩
  exact ⟨h0, h1, h2, h3, h3⟩
theorem fx_in {w wr : World} {A : Option Addr} {n : Nat} {xs : List Fx} (h : Rd Fx.cs 4 w A n xs) (hB : Below w.heap.size w wr) {k : Nat} (hk : k < n) :
    ∃ ad a0 a1 a2 a3, A = some ad ∧ xs[k]? = some ⟨a0, a1, ⟨a2, a3⟩⟩ ∧ ∀ w1, Below wr.heap.size wr w1 → FxAt w1 (ad.add (k * 4)) a0 a1 a2 a3 := by
  obtain ⟨ad, a0, a1, a2, a3, e, hx, hc⟩ := fx_at h hB hk
  exact ⟨ad, a0, a1, a2, a3, e, hx, fun w1 h1 => let ⟨h0, h1, h2, h3⟩ := hc ⟨w1, h1⟩; ⟨h0, h1, h2, h3, h3⟩⟩
set_option maxHeartbeats 800000 in
theorem r12_may {A : Option Addr} {n c : Nat} {xs : List Fx} (w : World) (hx : Rd Fx.cs 4 w A n xs) (hz : ∀ f ∈ xs, fxsz f) :
    Calls Tryz.prog 25 #[.slice A n c] w fun e w' => e = .returned (.bool (fmay xs)) ∧ Below w.heap.size w w' := by
  have hbig := hx.big
  go_enter Tryz.func25, Tryz.ntmps25
  go_wp2
  go_loopw [3] (fun i wr => ∃ k : Nat, k ≤ n ∧ i = .int .i64 k ∧ Hid (fmay (xs.take k) = true) ∧ Below w.heap.size w wr) (fun i _ => n - (intOf i).toNat)
  case atStart => exact ⟨0, Nat.zero_le _, rfl, by simp [Hid, fmay, rises], Below.refl _ _⟩
  case round =>
    obtain ⟨k, hk, rfl, H, hB⟩ := hrel
    by_cases hlt : k < n
    · obtain ⟨ad, a0, a1, a2, a3, rfl, hxk, hc⟩ := fx_at hx hB hlt
      have hx0 := fun y => (hc y).1
      have hx1 := fun y => (hc y).2.1
      have hx2 := fun y => (hc y).2.2.1
      have hx3 := fun y => (hc y).2.2.2
      obtain ⟨z1, z2, z3⟩ := hz _ (List.mem_of_getElem? hxk)
      dsimp only at z1 z2 z3
      have HX := Lib.hid hxk
      have HC := Lib.hid hc
      clear hxk hc
      by_cases c1 : fone ⟨a0, a1, ⟨a2, a3⟩⟩ = true
      · by_cases hk0 : 0 < k
        · obtain ⟨ad', b0, b1, b2, b3, e, hxk', hc'⟩ := fx_at hx hB (show k - 1 < n by omega)
          obtain rfl : ad = ad' := Option.some.inj e
          have hy0 := fun y => (hc' y).1
          have hy1 := fun y => (hc' y).2.1
          have hy2 := fun y => (hc' y).2.2.1
          have hy3 := fun y => (hc' y).2.2.2
          have HX' := Lib.hid hxk'
          have HC' := Lib.hid hc'
          clear hxk' hc' e
          by_cases c2 : fahead ⟨b0, b1, ⟨b2, b3⟩⟩ ⟨a0, a1, ⟨a2, a3⟩⟩ = true
          · go_wp2
            (refine wp_region_after (by kernel_rfl) (by kernel_rfl) ?_; (repeat (first | go_big_quiet_skip | (go_big_quiet_want; go_big_quiet_op; first | go_big_quiet_on | (apply Exists.intro; refine ⟨fun _ => ?_, ?_⟩; (focus (first | (go_at_call 26; with_reducible exact Calls.after_of (r12_one _ _ _ _ _ (by omega) (by omega) (by omega)) (congrArg Value.bool c1)) | (go_at_call 59; with_reducible exact Calls.after_of (r12_ahead _ _ _ _ _ _ _ _ _) (congrArg Value.bool c2)))); go_big_quiet_on)))); refine wpQuiet_nil ?_; rintro w1 ⟨⟨_, hb1⟩, rfl⟩; (try dsimp only); obtain ⟨hc1, hf1⟩ := bcell hb1; have hs1 := hb1.size; (try simp at hs1))
            go_wp2
            go_roundw
            case rel => exact ⟨k + 1, by omega, by go_num, fmay_next H.out hk0 HX'.out HX.out c1 c2, (by repeat (first | exact Below.refl _ _ | assumption | refine b_then ?_ (by assumption) | refine b_alloc ?_ _ | refine b_drewN ?_ _ | refine Below.drew ?_ | refine b_set ?_ (by first | exact Nat.le_refl _ | (simp; done) | (simp; omega) | omega) _))⟩
            case measure => simp [intOf]; omega
          · simp only [Bool.not_eq_true] at c2
            go_wp2
            (refine wp_region_after (by kernel_rfl) (by kernel_rfl) ?_; (repeat (first | go_big_quiet_skip | (go_big_quiet_want; go_big_quiet_op; first | go_big_quiet_on | (apply Exists.intro; refine ⟨fun _ => ?_, ?_⟩; (focus (first | (go_at_call 26; with_reducible exact Calls.after_of (r12_one _ _ _ _ _ (by omega) (by omega) (by omega)) (congrArg Value.bool c1)) | (go_at_call 59; with_reducible exact Calls.after_of (r12_ahead _ _ _ _ _ _ _ _ _) (congrArg Value.bool c2)))); go_big_quiet_on)))); refine wpQuiet_nil ?_; rintro w1 ⟨⟨_, hb1⟩, rfl⟩; (try dsimp only); obtain ⟨hc1, hf1⟩ := bcell hb1; have hs1 := hb1.size; (try simp at hs1))
            go_wp2
            go_ret
            exact ⟨ret_bool (fmay_back hk0 HX'.out HX.out c2).symm, (by repeat (first | exact Below.refl _ _ | assumption | refine b_then ?_ (by assumption) | refine b_alloc ?_ _ | refine b_drewN ?_ _ | refine Below.drew ?_ | refine b_set ?_ (by first | exact Nat.le_refl _ | (simp; done) | (simp; omega) | omega) _))⟩
        · go_wp2
          (refine wp_region_after (by kernel_rfl) (by kernel_rfl) ?_; (repeat (first | go_big_quiet_skip | (go_big_quiet_want; go_big_quiet_op; first | go_big_quiet_on | (apply Exists.intro; refine ⟨fun _ => ?_, ?_⟩; (focus (first | (go_at_call 26; with_reducible exact Calls.after_of (r12_one _ _ _ _ _ (by omega) (by omega) (by omega)) (congrArg Value.bool c1)))); go_big_quiet_on)))); refine wpQuiet_nil ?_; rintro w1 ⟨⟨_, hb1⟩, rfl⟩; (try dsimp only); obtain ⟨hc1, hf1⟩ := bcell hb1; have hs1 := hb1.size; (try simp at hs1))
          go_wp2
          go_roundw
          case rel => exact ⟨k + 1, by omega, by go_num, fmay_first' (by omega) HX.out c1, (by repeat (first | exact Below.refl _ _ | assumption | refine b_then ?_ (by assumption) | refine b_alloc ?_ _ | refine b_drewN ?_ _ | refine Below.drew ?_ | refine b_set ?_ (by first | exact Nat.le_refl _ | (simp; done) | (simp; omega) | omega) _))⟩
          case measure => simp [intOf]; omega
      · simp only [Bool.not_eq_true] at c1
        go_wp2
        (refine wp_region_after (by kernel_rfl) (by kernel_rfl) ?_; (repeat (first | go_big_quiet_skip | (go_big_quiet_want; go_big_quiet_op; first | go_big_quiet_on | (apply Exists.intro; refine ⟨fun _ => ?_, ?_⟩; (focus (first | (go_at_call 26; with_reducible exact Calls.after_of (r12_one _ _ _ _ _ (by omega) (by omega) (by omega)) (congrArg Value.bool c1)))); go_big_quiet_on)))); refine wpQuiet_nil ?_; rintro w1 ⟨⟨_, hb1⟩, rfl⟩; (try dsimp only); obtain ⟨hc1, hf1⟩ := bcell hb1; have hs1 := hb1.size; (try simp at hs1))
        go_wp2
        go_ret
        exact ⟨ret_bool (fmay_bad HX.out c1).symm, (by repeat (first | exact Below.refl _ _ | assumption | refine b_then ?_ (by assumption) | refine b_alloc ?_ _ | refine b_drewN ?_ _ | refine Below.drew ?_ | refine b_set ?_ (by first | exact Nat.le_refl _ | (simp; done) | (simp; omega) | omega) _))⟩
    · obtain rfl : k = n := by omega
      have H2 := H.out
      rw [← hx.len, List.take_length] at H2
      have H3 := Lib.hid H2
      clear H2
      go_wp2
      go_ret
      exact ⟨ret_bool H3.out.symm, (by repeat (first | exact Below.refl _ _ | assumption | refine b_then ?_ (by assumption) | refine b_alloc ?_ _ | refine b_drewN ?_ _ | refine Below.drew ?_ | refine b_set ?_ (by first | exact Nat.le_refl _ | (simp; done) | (simp; omega) | omega) _))⟩
end Go.Proofs.YtpoejheienohjaaGreatDoor
