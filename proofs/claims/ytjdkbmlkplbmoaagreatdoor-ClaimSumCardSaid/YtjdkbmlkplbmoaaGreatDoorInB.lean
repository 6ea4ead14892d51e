/- Walks of the references' instructions: One, May. -/
import Derived.Test.YtjdkbmlkplbmoaaGreatDoorInA
namespace Go.Proofs.YtjdkbmlkplbmoaaGreatDoor
open Go.RowKit
set_option linter.unusedVariables false
set_option linter.unusedSimpArgs false

theorem imay_first' {l : List In} {k : Nat} {a : In} (hk : k = 0) (ha : l[k]? = some a) (h1 : ione a = true) : imay (l.take (k + 1)) = true := by
  subst hk
  unfold imay
  rw [rises_take_one, Bool.and_true]
  exact all_take_succ (by simp) ha h1
theorem imay_next {l : List In} {k : Nat} {a b : In} (h : imay (l.take k) = true) (hk : 0 < k) (ha : l[k - 1]? = some a) (hb : l[k]? = some b) (h1 : ione b = true) (h2 : iahead a b = true) : imay (l.take (k + 1)) = true := by
  unfold imay at h ⊢
  rw [Bool.and_eq_true] at h ⊢
  exact ⟨all_take_succ h.1 hb h1, rises_take_succ h.2 hk ha hb h2⟩
theorem imay_bad {l : List In} {k : Nat} {a : In} (ha : l[k]? = some a) (h1 : ione a = false) : imay l = false := by
  unfold imay
  rw [all_no ha h1]; rfl
theorem imay_back {l : List In} {k : Nat} {a b : In} (hk : 0 < k) (ha : l[k - 1]? = some a) (hb : l[k]? = some b) (h2 : iahead a b = false) : imay l = false := by
  unfold imay
  rw [rises_no hk ha hb h2, Bool.and_false]
theorem imay_all {l : List In} (h : imay l = true) : ∀ x ∈ l, ione x = true := by
  unfold imay at h
  rw [Bool.and_eq_true, List.all_eq_true] at h; exact h.1
/-- Instructions that can be read. -/
def inok (x : In) : Prop := x.src.size ≤ 9223372036854775807 ∧ x.dst.size ≤ 9223372036854775807 ∧ x.asset.size ≤ 9223372036854775807 ∧ x.q.num.size ≤ 9223372036854775807 ∧ x.q.den.size ≤ 9223372036854775807 ∧ x.pay.num.size ≤ 9223372036854775807 ∧ x.pay.den.size ≤ 9223372036854775807
def insm (x : In) : Bool := (decide (x.q.num.size ≤ 100) && decide (x.q.den.size ≤ 100)) && ((decide (x.pay.num.size ≤ 100) && decide (x.pay.den.size ≤ 100)) && (decide (x.src.size ≤ 100) && (decide (x.dst.size ≤ 100) && decide (x.asset.size ≤ 100))))
def ismall (l : List In) : Bool := l.all insm && decide (l.length ≤ 40)
theorem ismall_B {l : List In} (h : ismall l = true) : (∀ x ∈ l, inB 100 x) ∧ l.length ≤ 40 := by
  unfold ismall at h
  rw [Bool.and_eq_true, List.all_eq_true, decide_eq_true_eq] at h
  refine ⟨fun x hx => ?_, h.2⟩
  have := h.1 x hx
  unfold insm at this
  simp only [Bool.and_eq_true, decide_eq_true_eq] at this
  exact ⟨by omega, by omega, by omega, by omega, by omega, by omega, by omega⟩
theorem inB_mono {j k : Nat} {x : In} (h : inB j x) (hk : j ≤ k) : inB k x := ⟨h.1, h.2.1, h.2.2.1, Nat.le_trans h.2.2.2.1 hk, Nat.le_trans h.2.2.2.2.1 hk, Nat.le_trans h.2.2.2.2.2.1 hk, Nat.le_trans h.2.2.2.2.2.2 hk⟩
set_option maxRecDepth 100000 in
set_option maxHeartbeats 4000000 in
theorem r8_one (a0 a1 a2 : Int) (a3 a4 a5 a6 a7 a8 a9 : ByteArray) (w : World) (h3 : a3.size ≤ 9000000000) (h4 : a4.size ≤ 9000000000) (h5 : a5.size ≤ 9000000000) (h6 : a6.size ≤ 900000000) (h7 : a7.size ≤ 900000000) (h8 : a8.size ≤ 900000000) (h9 : a9.size ≤ 900000000) :
    Calls Tryz.prog 31 #[.agg #[.int .i64 a0, .int .i64 a1, .int .i64 a2, .string a3, .string a4, .string a5, .string a6, .string a7, .string a8, .string a9]] w fun e w' => e = .returned (.bool (ione ⟨a0, a1, a2, a3, a4, a5, ⟨a6, a7⟩, ⟨a8, a9⟩⟩)) ∧ Below w.heap.size w w' := by
  unfold ione
  dsimp only
  have hN3 := fun W => r6_name a3 W (by omega)
  have hN4 := fun W => r6_name a4 W (by omega)
  have hN5 := fun W => r6_name a5 W (by omega)
  have hS1 := fun W => r3_sign a6 a7 W (by omega) (by omega)
  have hS2 := fun W => r3_sign a8 a9 W (by omega) (by omega)
  have hM := fun W => r3_may a8 a9 W (by omega) (by omega)
  go_enter Tryz.func31, Tryz.ntmps31
  go_wp2_with (first
    | (go_at_call 56; (with_reducible refine (hN3 _).mono ?_); rintro e w' ⟨rfl, rfl⟩)
    | (go_at_call 56; (with_reducible refine (hN4 _).mono ?_); rintro e w' ⟨rfl, rfl⟩)
    | (go_at_call 56; (with_reducible refine (hN5 _).mono ?_); rintro e w' ⟨rfl, rfl⟩)
    | (go_at_call 28; (with_reducible refine (hS1 _).mono ?_); rintro e w1 ⟨rfl, hb1⟩; obtain ⟨hc1, hf1⟩ := bcell hb1; have hs1 := hb1.size; (try simp at hs1); have hq1 : w.heap.size < w1.heap.size := (by omega))
    | (go_at_call 53; (with_reducible refine (hM _).mono ?_); rintro e w2 ⟨rfl, hb2⟩; obtain ⟨hc2, hf2⟩ := bcell hb2; have hs2 := hb2.size; (try simp at hs2); have hq2 : w.heap.size < w2.heap.size := (by omega))
    | (go_at_call 28; (with_reducible refine (hS2 _).mono ?_); rintro e w3 ⟨rfl, hb3⟩; obtain ⟨hc3, hf3⟩ := bcell hb3; have hs3 := hb3.size; (try simp at hs3)))
  all_goals
    go_ret
    exact ⟨ret_bool (by grind), (by repeat (first | exact Below.refl _ _ | assumption | refine b_then ?_ (by assumption) | refine b_alloc ?_ _ | refine b_drewN ?_ _ | refine Below.drew ?_ | refine b_set ?_ (by first | exact Nat.le_refl _ | (simp; done) | (simp; omega) | omega) _))⟩
set_option maxRecDepth 100000 in
set_option maxHeartbeats 4000000 in
theorem r8_may {A : Option Addr} {n c : Nat} {xs : List In} (w : World) (hx : Rd In.cs 10 w A n xs) (hn : n ≤ 1000000) (hz : ∀ x ∈ xs, inB 1000000 x) :
    Calls Tryz.prog 21 #[.slice A n c] w fun e w' => e = .returned (.bool (imay xs)) ∧ Below w.heap.size w w' := by
  have hxl := hx.len
  have HXL := Lib.hid hxl
  have HZ := Lib.hid hz
  clear hxl hz
  go_enter Tryz.func21, Tryz.ntmps21
  go_wp2
  go_loopw [3] (fun i wr => ∃ k : Nat, k ≤ n ∧ i = .int .i64 k ∧ Hid (imay (xs.take k) = true) ∧ Below w.heap.size w wr) (fun i _ => n - (intOf i).toNat)
  case atStart => exact ⟨0, Nat.zero_le _, rfl, by simp [Hid, imay, rises], Below.refl _ _⟩
  case round =>
    obtain ⟨k, hk, rfl, H, hB⟩ := hrel
    by_cases hlt : k < n
    · obtain ⟨ad, a0, a1, a2, a3, a4, a5, a6, a7, a8, a9, rfl, hxk, hl⟩ := in_in hx hB hlt
      obtain ⟨z0, z1, z2, z3, z4, z5, z6⟩ := HZ.out _ (List.mem_of_getElem? hxk)
      dsimp only at z0 z1 z2 z3 z4 z5 z6
      have hO := fun W => r8_one a0 a1 a2 a3 a4 a5 a6 a7 a8 a9 W (by omega) (by omega) (by omega) (by omega) (by omega) (by omega) (by omega)
      have HX := Lib.hid hxk
      have y0 := fun y : After wr => (hl y.W y.h).c0
      have y1 := fun y : After wr => (hl y.W y.h).c1
      have y2 := fun y : After wr => (hl y.W y.h).c2
      have y3 := fun y : After wr => (hl y.W y.h).c3
      have y4 := fun y : After wr => (hl y.W y.h).c4
      have y5 := fun y : After wr => (hl y.W y.h).c5
      have y6 := fun y : After wr => (hl y.W y.h).c6
      have y7 := fun y : After wr => (hl y.W y.h).c7
      have y8 := fun y : After wr => (hl y.W y.h).c8
      have y9 := fun y : After wr => (hl y.W y.h).c9
      have HL := Lib.hid hl
      clear hxk hl
      cases c1 : ione ⟨a0, a1, a2, a3, a4, a5, ⟨a6, a7⟩, ⟨a8, a9⟩⟩ with
      | false =>
        have hbad : Hid (imay xs = false) := imay_bad HX.out c1
        rw [c1] at hO
        clear c1
        go_wp2
        (refine wp_region_after (by kernel_rfl) (by kernel_rfl) ?_; (repeat (first | go_big_quiet_skip | (go_big_quiet_want; go_big_quiet_op; first | go_big_quiet_on | (apply Exists.intro; refine ⟨fun _ => ?_, ?_⟩; (focus ((go_at_call 31; with_reducible exact Calls.after (hO _)))); go_big_quiet_on)))); refine wpQuiet_nil ?_; rintro w1 ⟨⟨_, hb1⟩, rfl⟩; (try dsimp only); obtain ⟨hc1, hf1⟩ := bcell hb1; have hs1 := hb1.size; (try simp at hs1))
        go_wp2
        go_ret
        exact ⟨ret_bool hbad.out.symm, (by repeat (first | exact Below.refl _ _ | assumption | refine b_then ?_ (by assumption) | refine b_alloc ?_ _ | refine b_drewN ?_ _ | refine Below.drew ?_ | refine b_set ?_ (by first | exact Nat.le_refl _ | (simp; done) | (simp; omega) | omega) _))⟩
      | true =>
        rw [c1] at hO
        have C1 := Lib.hid c1
        clear c1
        by_cases hk0 : 0 < k
        · obtain ⟨ad2, b0, b1, b2, b3, b4, b5, b6, b7, b8, b9, e2, hxp, hlp⟩ := in_in hx hB (show k - 1 < n by omega)
          injection e2 with e2
          subst e2
          have HXP := Lib.hid hxp
          have x0 := fun y : After wr => (hlp y.W y.h).c0
          have HLP := Lib.hid hlp
          clear hxp hlp
          by_cases c2 : b0 < a0
          · have hc2 : ¬ a0 ≤ b0 := by omega
            have HS : Hid (imay (xs.take (k + 1)) = true) := imay_next H.out hk0 HXP.out HX.out C1.out (decide_eq_true c2)
            go_wp2
            (refine wp_region_after (by kernel_rfl) (by kernel_rfl) ?_; (repeat (first | go_big_quiet_skip | (go_big_quiet_want; go_big_quiet_op; first | go_big_quiet_on | (apply Exists.intro; refine ⟨fun _ => ?_, ?_⟩; (focus ((go_at_call 31; with_reducible exact Calls.after (hO _)))); go_big_quiet_on)))); refine wpQuiet_nil ?_; rintro w1 ⟨⟨_, hb1⟩, rfl⟩; (try dsimp only); obtain ⟨hc1, hf1⟩ := bcell hb1; have hs1 := hb1.size; (try simp at hs1))
            go_wp2
            go_roundw
            case rel => exact ⟨k + 1, by omega, by go_num, HS.out, b_then hB hb1⟩
            case measure => simp [intOf]; omega
          · have hc2 : a0 ≤ b0 := by omega
            have hbad : Hid (imay xs = false) := imay_back hk0 HXP.out HX.out (decide_eq_false c2)
            go_wp2
            (refine wp_region_after (by kernel_rfl) (by kernel_rfl) ?_; (repeat (first | go_big_quiet_skip | (go_big_quiet_want; go_big_quiet_op; first | go_big_quiet_on | (apply Exists.intro; refine ⟨fun _ => ?_, ?_⟩; (focus ((go_at_call 31; with_reducible exact Calls.after (hO _)))); go_big_quiet_on)))); refine wpQuiet_nil ?_; rintro w1 ⟨⟨_, hb1⟩, rfl⟩; (try dsimp only); obtain ⟨hc1, hf1⟩ := bcell hb1; have hs1 := hb1.size; (try simp at hs1))
            go_wp2
            go_ret
            exact ⟨ret_bool hbad.out.symm, (by repeat (first | exact Below.refl _ _ | assumption | refine b_then ?_ (by assumption) | refine b_alloc ?_ _ | refine b_drewN ?_ _ | refine Below.drew ?_ | refine b_set ?_ (by first | exact Nat.le_refl _ | (simp; done) | (simp; omega) | omega) _))⟩
        · have HS : Hid (imay (xs.take (k + 1)) = true) := imay_first' (by omega) HX.out C1.out
          go_wp2
          (refine wp_region_after (by kernel_rfl) (by kernel_rfl) ?_; (repeat (first | go_big_quiet_skip | (go_big_quiet_want; go_big_quiet_op; first | go_big_quiet_on | (apply Exists.intro; refine ⟨fun _ => ?_, ?_⟩; (focus ((go_at_call 31; with_reducible exact Calls.after (hO _)))); go_big_quiet_on)))); refine wpQuiet_nil ?_; rintro w1 ⟨⟨_, hb1⟩, rfl⟩; (try dsimp only); obtain ⟨hc1, hf1⟩ := bcell hb1; have hs1 := hb1.size; (try simp at hs1))
          go_wp2
          go_roundw
          case rel => exact ⟨k + 1, by omega, by go_num, HS.out, b_then hB hb1⟩
          case measure => simp [intOf]; omega
    · obtain rfl : k = n := by omega
      have hok : Hid (imay xs = true) := by have := H.out; rwa [← HXL.out, List.take_length] at this
      go_wp2
      go_ret
      exact ⟨ret_bool hok.out.symm, hB⟩
end Go.Proofs.YtjdkbmlkplbmoaaGreatDoor
