/- Walks of the references' tables of prices: Small, Same, Get, Last. -/
import Derived.Test.YtpoejheienohjaaGreatDoorRefF
import Derived.Test.YtpoejheienohjaaGreatDoorEq
namespace Go.Proofs.YtpoejheienohjaaGreatDoor
open Go.RowKit
set_option linter.unusedVariables false
set_option linter.unusedSimpArgs false

/-! ### Small -/
def fsm (f : Fx) : Bool := decide (f.p.num.size ≤ 40) && (decide (f.p.den.size ≤ 40) && decide (f.asset.size ≤ 100))
def fsmall (l : List Fx) : Bool := l.all fsm && decide (l.length ≤ 60)
set_option maxHeartbeats 800000 in
theorem r12_small {A : Option Addr} {n c : Nat} {xs : List Fx} (w : World) (hx : Rd Fx.cs 4 w A n xs) (hz : ∀ f ∈ xs, f.asset.size ≤ 9223372036854775807 ∧ f.p.num.size ≤ 9223372036854775807 ∧ f.p.den.size ≤ 9223372036854775807) :
    Calls Tryz.prog 15 #[.slice A n c] w fun e w' => e = .returned (.bool (fsmall xs)) ∧ w = w' := by
  have hbig := hx.big
  go_enter Tryz.func15, Tryz.ntmps15
  go_wp2
  go_loop [3] (fun i => ∃ k : Nat, k ≤ n ∧ i = .int .i64 k ∧ Hid ((xs.take k).all fsm = true)) (fun i => n - (intOf i).toNat)
  case atStart => exact ⟨0, Nat.zero_le _, rfl, by simp [Hid]⟩
  case round =>
    obtain ⟨k, hk, rfl, H⟩ := hrel
    by_cases hlt : k < n
    · obtain ⟨ad, a0, a1, a2, a3, rfl, hxk, hx0, hx1, hx2, hx3⟩ := fx_now hx (Below.refl _ w) hlt
      obtain ⟨z1, z2, z3⟩ := hz _ (List.mem_of_getElem? hxk)
      dsimp only at z1 z2 z3
      have HX := Lib.hid hxk
      clear hxk
      go_wp2
      all_goals first
        | (go_ret; exact ⟨ret_bool (by rw [fsmall, all_no HX.out (by simp only [fsm]; grind)]; rfl), rfl⟩)
        | (go_round
           case rel => exact ⟨k + 1, by omega, by go_num, all_take_succ (Hid.out H) HX.out (by simp only [fsm]; grind)⟩
           case measure => simp [intOf]; omega)
    · obtain rfl : k = n := by omega
      have H2 := H.out
      rw [← hx.len, List.take_length] at H2
      have H3 : Hid (fsmall xs = decide (k ≤ 60)) := by
        simp only [Hid, fsmall, H2, Bool.true_and, hx.len]
      clear H2
      go_wp2
      all_goals
        go_ret
        exact ⟨ret_bool (by rw [H3.out]; grind), rfl⟩

/-! ### Same -/
theorem same_no {α : Type} [DecidableEq α] {l m : List α} {k : Nat} {a b : α} (ha : l[k]? = some a) (hb : m[k]? = some b) (h : ¬ a = b) : decide (l = m) = false := by
  rw [decide_eq_false_iff_not]
  rintro rfl
  rw [ha] at hb
  exact h (Option.some.inj hb)
theorem take_succ_same {α : Type} {l m : List α} {k : Nat} {a b : α} (h : l.take k = m.take k) (ha : l[k]? = some a) (hb : m[k]? = some b) (e : a = b) : l.take (k + 1) = m.take (k + 1) := by
  rw [List.take_add_one, List.take_add_one, ha, hb, h, e]
theorem fx_same {a0 a2 a3 b0 b2 b3 : ByteArray} {a1 b1 : Int} (h : (!(a0.toList == b0.toList) || (!(a1 == b1) || (!(a2.toList == b2.toList) || !(a3.toList == b3.toList)))) = false) : (⟨a0, a1, ⟨a2, a3⟩⟩ : Fx) = ⟨b0, b1, ⟨b2, b3⟩⟩ := by
  simp only [Bool.or_eq_false_iff, Bool.not_eq_false', beq_iff_eq] at h
  obtain ⟨h0, h1, h2, h3⟩ := h
  rw [s_eq.2 h0, h1, s_eq.2 h2, s_eq.2 h3]
theorem fx_unlike {a0 a2 a3 b0 b2 b3 : ByteArray} {a1 b1 : Int} (h : (!(a0.toList == b0.toList) || (!(a1 == b1) || (!(a2.toList == b2.toList) || !(a3.toList == b3.toList)))) = true) : ¬ (⟨a0, a1, ⟨a2, a3⟩⟩ : Fx) = ⟨b0, b1, ⟨b2, b3⟩⟩ := by
  intro e
  injection e with e0 e1 e2
  injection e2 with e2 e3
  subst e0; subst e1; subst e2; subst e3
  simp at h
set_option maxHeartbeats 800000 in
theorem r12_same {A B : Option Addr} {n m c d : Nat} {xs ys : List Fx} (w : World) (hx : Rd Fx.cs 4 w A n xs) (hy : Rd Fx.cs 4 w B m ys) :
    Calls Tryz.prog 23 #[.slice A n c, .slice B m d] w fun e w' => e = .returned (.bool (decide (xs = ys))) ∧ Below w.heap.size w w' := by
  have hbig := hx.big
  have hbig2 := hy.big
  have heq := eqFix
  by_cases hnm : n = m
  · subst hnm
    go_enter Tryz.func23, Tryz.ntmps23
    go_wp2
    go_loopw [5] (fun i wr => ∃ k : Nat, k ≤ n ∧ i = .int .i64 k ∧ Hid (xs.take k = ys.take k) ∧ Below w.heap.size w wr) (fun i _ => n - (intOf i).toNat)
    case atStart => exact ⟨0, Nat.zero_le _, rfl, by simp [Hid], Below.refl _ _⟩
    case round =>
      obtain ⟨k, hk, rfl, H, hB⟩ := hrel
      by_cases hlt : k < n
      · obtain ⟨ad, a0, a1, a2, a3, rfl, hxk, hc⟩ := fx_at hx hB hlt
        obtain ⟨ad', b0, b1, b2, b3, rfl, hyk, hc'⟩ := fx_at hy hB hlt
        have hx0 := fun y => (hc y).1
        have hx1 := fun y => (hc y).2.1
        have hx2 := fun y => (hc y).2.2.1
        have hx3 := fun y => (hc y).2.2.2
        have hy0 := fun y => (hc' y).1
        have hy1 := fun y => (hc' y).2.1
        have hy2 := fun y => (hc' y).2.2.1
        have hy3 := fun y => (hc' y).2.2.2
        have HX := Lib.hid hxk
        have HY := Lib.hid hyk
        have HC := Lib.hid hc
        have HC' := Lib.hid hc'
        clear hxk hc hyk hc'
        go_wp2
        (refine wp_region_after (by kernel_rfl) (by kernel_rfl) ?_; (repeat (first | go_big_quiet_skip | (go_big_quiet_want; go_big_quiet_op; first | go_big_quiet_on | (apply Exists.intro; refine ⟨fun _ => ?_, ?_⟩; (focus (fail)); go_big_quiet_on)))); refine wpQuiet_nil ?_; rintro w1 ⟨⟨_, hb1⟩, rfl⟩; (try dsimp only); obtain ⟨hc1, hf1⟩ := bcell hb1; have hs1 := hb1.size; (try simp at hs1))
        generalize hv : (!(a0.toList == b0.toList) || (!(a1 == b1) || (!(a2.toList == b2.toList) || !(a3.toList == b3.toList)))) = v
        have HV := Lib.hid hv
        clear hv
        cases v
        · go_wp2
          go_roundw
          case rel => exact ⟨k + 1, by omega, by go_num, take_succ_same H.out HX.out HY.out (fx_same HV.out), (by repeat (first | exact Below.refl _ _ | assumption | refine b_then ?_ (by assumption) | refine b_alloc ?_ _ | refine b_drewN ?_ _ | refine Below.drew ?_ | refine b_set ?_ (by first | exact Nat.le_refl _ | (simp; done) | (simp; omega) | omega) _))⟩
          case measure => simp [intOf]; omega
        · go_wp2
          go_ret
          exact ⟨ret_bool (same_no HX.out HY.out (fx_unlike HV.out)).symm, (by repeat (first | exact Below.refl _ _ | assumption | refine b_then ?_ (by assumption) | refine b_alloc ?_ _ | refine b_drewN ?_ _ | refine Below.drew ?_ | refine b_set ?_ (by first | exact Nat.le_refl _ | (simp; done) | (simp; omega) | omega) _))⟩
      · obtain rfl : k = n := by omega
        have H2 := H.out
        rw [List.take_of_length_le (by rw [hx.len]; exact Nat.le_refl _), List.take_of_length_le (by rw [hy.len]; exact Nat.le_refl _)] at H2
        have H3 := Lib.hid H2
        clear H2
        go_wp2
        go_ret
        exact ⟨ret_bool (decide_eq_true H3.out).symm, hB⟩
  · have hne : decide (xs = ys) = false := by
      rw [decide_eq_false_iff_not]; rintro rfl; exact hnm (hx.len.symm.trans hy.len)
    have hnb : ((n : Int) == (m : Int)) = false := by rw [beq_eq_false_iff_ne]; omega
    have HN := Lib.hid hne
    clear hne
    go_enter Tryz.func23, Tryz.ntmps23
    go_wp2
    go_ret
    exact ⟨ret_bool HN.out.symm, Below.refl _ _⟩
end Go.Proofs.YtpoejheienohjaaGreatDoor
