/- Walks: R3.Short at any list, R8.Small, slices.IndexFunc at instructions, instruct.Find. -/
import Derived.Test.YtjdkbmlkplbmoaaGreatDoorInF
namespace Go.Proofs.YtjdkbmlkplbmoaaGreatDoor
open Go.RowKit
set_option linter.unusedVariables false
set_option linter.unusedSimpArgs false

theorem RT.cs_length (x : RT) : (RT.cs x).length = 2 := rfl
def rshort (x : RT) : Bool := decide (x.num.size ≤ 100) && decide (x.den.size ≤ 100)
theorem rt_in {w wr : World} {A : Option Addr} {n : Nat} {xs : List RT} (h : Rd RT.cs 2 w A n xs) (hB : Below w.heap.size w wr) {k : Nat} (hk : k < n) :
    ∃ ad a b, A = some ad ∧ xs[k]? = some ⟨a, b⟩ ∧ wr.cell? (ad.add (k * 2)) = some (.string a) ∧ wr.cell? ⟨(ad.add (k * 2)).block, (ad.add (k * 2)).off + 1, none⟩ = some (.string b) := by
  obtain ⟨ad, x, hA, hl, hx, hc⟩ := (h.below hB).at_ hk
  obtain ⟨a, b⟩ := x
  refine ⟨ad, a, b, hA, hx, hc 0 _ rfl, ?_⟩
  rw [← add_field _ _ 1 (by omega)]; exact hc 1 _ rfl
set_option maxHeartbeats 1000000 in
theorem r3_short {A : Option Addr} {n c : Nat} {xs : List RT} (w : World) (hx : Rd RT.cs 2 w A n xs) (hz : ∀ x ∈ xs, x.num.size ≤ 9223372036854775807 ∧ x.den.size ≤ 9223372036854775807) :
    Calls Tryz.prog 40 #[.slice A n c] w fun e w' => e = .returned (.bool (xs.all rshort)) ∧ w = w' := by
  have hbig := hx.big
  have HXL := Lib.hid hx.len
  have HZ := Lib.hid hz
  clear hz
  go_enter Tryz.func40, Tryz.ntmps40
  go_wp2
  go_loop [3] (fun i => ∃ k : Nat, k ≤ n ∧ i = .int .i64 k ∧ Hid ((xs.take k).all rshort = true)) (fun i => n - (intOf i).toNat)
  case atStart => exact ⟨0, Nat.zero_le _, rfl, by simp [Hid]⟩
  case round =>
    obtain ⟨k, hk, rfl, H⟩ := hrel
    by_cases hlt : k < n
    · obtain ⟨ad, a, b, rfl, hxk, y0, y1⟩ := rt_in hx (Below.refl _ _) hlt
      obtain ⟨z0, z1⟩ := HZ.out _ (List.mem_of_getElem? hxk)
      dsimp only at z0 z1
      have HX := Lib.hid hxk
      clear hxk
      by_cases ha : a.size ≤ 100
      · by_cases hb : b.size ≤ 100
        · have HS := Lib.hid (all_snoc H.out HX.out (by unfold rshort; dsimp only; rw [decide_eq_true ha, decide_eq_true hb]; rfl))
          go_wp2
          go_round
          case rel => exact ⟨k + 1, by omega, by go_num, HS.out⟩
          case measure => simp [intOf]; omega
        · have hbad := Lib.hid (all_bad (p := rshort) HX.out (by unfold rshort; dsimp only; rw [decide_eq_false hb, Bool.and_false]))
          go_wp2
          go_ret
          exact ⟨ret_bool hbad.out.symm, rfl⟩
      · have hbad := Lib.hid (all_bad (p := rshort) HX.out (by unfold rshort; dsimp only; rw [decide_eq_false ha, Bool.false_and]))
        go_wp2
        go_ret
        exact ⟨ret_bool hbad.out.symm, rfl⟩
    · obtain rfl : k = n := by omega
      have hok : Hid (xs.all rshort = true) := by have := H.out; rwa [← HXL.out, List.take_length] at this
      go_wp2
      go_ret
      exact ⟨ret_bool hok.out.symm, rfl⟩
theorem insm_no1 {a0 a1 a2 : Int} {a3 a4 a5 a6 a7 a8 a9 : ByteArray} (h : [(⟨a6, a7⟩ : RT), ⟨a8, a9⟩].all rshort = false) : insm ⟨a0, a1, a2, a3, a4, a5, ⟨a6, a7⟩, ⟨a8, a9⟩⟩ = false := by
  unfold insm
  simp only [List.all_cons, List.all_nil, Bool.and_true, rshort] at h
  dsimp only
  grind
theorem insm_no {a0 a1 a2 : Int} {a3 a4 a5 a6 a7 a8 a9 : ByteArray} (h : ¬ (a3.size ≤ 100 ∧ a4.size ≤ 100 ∧ a5.size ≤ 100)) : insm ⟨a0, a1, a2, a3, a4, a5, ⟨a6, a7⟩, ⟨a8, a9⟩⟩ = false := by
  unfold insm
  dsimp only
  grind
theorem insm_yes {a0 a1 a2 : Int} {a3 a4 a5 a6 a7 a8 a9 : ByteArray} (h : [(⟨a6, a7⟩ : RT), ⟨a8, a9⟩].all rshort = true) (h3 : a3.size ≤ 100) (h4 : a4.size ≤ 100) (h5 : a5.size ≤ 100) : insm ⟨a0, a1, a2, a3, a4, a5, ⟨a6, a7⟩, ⟨a8, a9⟩⟩ = true := by
  unfold insm
  simp only [List.all_cons, List.all_nil, Bool.and_true, rshort] at h
  dsimp only
  grind
set_option maxRecDepth 100000 in
set_option maxHeartbeats 4000000 in
theorem r8_small {A : Option Addr} {n c : Nat} {xs : List In} (w : World) (hx : Rd In.cs 10 w A n xs) (hz : ∀ f ∈ xs, inok f) :
    Calls Tryz.prog 13 #[.slice A n c] w fun e w' => e = .returned (.bool (ismall xs)) ∧ Below w.heap.size w w' := by
  have hbig := hx.big
  have HXL := Lib.hid hx.len
  have HZ := Lib.hid hz
  clear hz
  go_enter Tryz.func13, Tryz.ntmps13
  go_wp2
  go_loopw [3] (fun i wr => ∃ k : Nat, k ≤ n ∧ i = .int .i64 (k : Nat) ∧ Hid ((xs.take k).all insm = true) ∧ Below w.heap.size w wr) (fun i _ => n - (intOf i).toNat)
  case atStart => exact ⟨0, Nat.zero_le _, rfl, by simp [Hid], Below.refl _ _⟩
  case round =>
    obtain ⟨k, hk, rfl, H, hB⟩ := hrel
    by_cases hlt : k < n
    · obtain ⟨ad, a0, a1, a2, a3, a4, a5, a6, a7, a8, a9, rfl, hxk, hl⟩ := in_in hx hB hlt
      obtain ⟨z0, z1, z2, z3, z4, z5, z6⟩ := HZ.out _ (List.mem_of_getElem? hxk)
      dsimp only at z0 z1 z2 z3 z4 z5 z6
      have HX := Lib.hid hxk
      have y3 := fun (x : After wr) (y : After x.W) => (hl y.W (b_then x.h y.h)).c3
      have y4 := fun (x : After wr) (y : After x.W) => (hl y.W (b_then x.h y.h)).c4
      have y5 := fun (x : After wr) (y : After x.W) => (hl y.W (b_then x.h y.h)).c5
      have y6 := fun (x : After wr) (y : After x.W) => (hl y.W (b_then x.h y.h)).c6
      have y7 := fun (x : After wr) (y : After x.W) => (hl y.W (b_then x.h y.h)).c7
      have y8 := fun (x : After wr) (y : After x.W) => (hl y.W (b_then x.h y.h)).c8
      have y9 := fun (x : After wr) (y : After x.W) => (hl y.W (b_then x.h y.h)).c9
      have y7' := fun (x : After wr) (y : After x.W) => (hl y.W (b_then x.h y.h)).d7
      have y9' := fun (x : After wr) (y : After x.W) => (hl y.W (b_then x.h y.h)).d9
      clear hxk hl
      obtain ⟨b, hb⟩ : ∃ b, [(⟨a6, a7⟩ : RT), ⟨a8, a9⟩].all rshort = b := ⟨_, rfl⟩
      have hS := fun (B : Option Addr) (kk : Nat) (W : World) (hr : Rd RT.cs 2 W B 2 [⟨a6, a7⟩, ⟨a8, a9⟩]) => r3_short (c := kk) W hr (fun x hx => by
        simp only [List.mem_cons, List.not_mem_nil, or_false] at hx
        rcases hx with rfl | rfl
        · exact ⟨z3, z4⟩
        · exact ⟨z5, z6⟩)
      rw [hb] at hS
      have HBB := Lib.hid hb
      clear hb z3 z4 z5 z6
      cases b with
      | false =>
        have hbad : Hid (ismall xs = false) := by
          have := all_bad (p := insm) HX.out (insm_no1 HBB.out)
          unfold Hid ismall; rw [this]; rfl
        go_wp2
        (refine wp_region_use 10 11 20 21 2 (.bool false) (fun B k W => Rd RT.cs 2 W B 2 [⟨a6, a7⟩, ⟨a8, a9⟩]) ?useA21 (by kernel_rfl) (fun pp => by kernel_rfl) (fun pp x => ?useH21) ⟨by kernel_rfl, by kernel_rfl, by decide, by kernel_rfl, ?useK21, ?useC21, fun B k W W' h hb => h.below hb, ?useG21, ?useQ21⟩ (by decide); (case useH21 => (simp only [usel, List.modify_succ_cons, List.modify_zero_cons, repV]; (have hxs := x.h.size); (try simp at hxs); (repeat (first | go_big_quiet_skip | (go_big_quiet_want; go_big_quiet_op; first | go_big_quiet_on | (apply Exists.intro; refine ⟨fun _ => ?_, ?_⟩; (focus (fail)); go_big_quiet_on)))); refine wpQuiet_nil ?_; rfl)); (case useK21 => (intro pp; refine ⟨_, rfl, rfl, fun a W hW hgv => ?_⟩; have g1 := (hgv 4 _ 14 rfl rfl (by kernel_rfl)).trans rfl; have g2 := (hgv 9 _ 19 rfl rfl (by kernel_rfl)).trans rfl; exact src_built (b := .cells #[.string a6, .string a7, .string a8, .string a9] 35) (k := 2) rfl rfl rfl (by simp [execOp, go_sem, g1, g2]) (Rd.of_new RT.cs_length _ 35 [⟨a6, a7⟩, ⟨a8, a9⟩] (by simp) rfl))); (case useC21 => (intro pp; refine ⟨_, rfl, rfl, fun a W hW hR hgv => ?_⟩; have g := (hgv 10 _ 20 rfl rfl (by kernel_rfl)).trans rfl; exact use_call rfl rfl rfl (by simp [execOp, go_sem, g, Sl.v]) ((hS pp.1 pp.2 W hR).mono fun e w' h => ⟨h.1, by rw [← h.2]; exact Below.refl _ _⟩))); (case useG21 => (intro pp; first | rfl | (simp; exact ⟨rfl, rfl⟩))); rintro ⟨B21, k21⟩ w21 hb21; (try dsimp only); (try simp only [Sl.v]); obtain ⟨hc21, hf21⟩ := bcell hb21; have hs21 := hb21.size; (try simp at hs21))
        go_wp2
        go_ret
        exact ⟨ret_bool hbad.out.symm, (by repeat (first | exact Below.refl _ _ | assumption | refine b_then ?_ (by assumption) | refine b_alloc ?_ _ | refine b_drewN ?_ _ | refine Below.drew ?_ | refine b_set ?_ (by first | exact Nat.le_refl _ | (simp; done) | (simp; omega) | omega) _))⟩
      | true =>
        by_cases h3 : a3.size ≤ 100
        · have d3 : decide (100 < (a3.size : Int)) = false := by simp; omega
          by_cases h4 : a4.size ≤ 100
          · have d4 : decide (100 < (a4.size : Int)) = false := by simp; omega
            by_cases h5 : a5.size ≤ 100
            · have d5 : decide (100 < (a5.size : Int)) = false := by simp; omega
              have HS := Lib.hid (all_snoc H.out HX.out (insm_yes HBB.out h3 h4 h5))
              go_wp2
              (refine wp_region_use 10 11 20 21 2 (.bool true) (fun B k W => Rd RT.cs 2 W B 2 [⟨a6, a7⟩, ⟨a8, a9⟩]) ?useA22 (by kernel_rfl) (fun pp => by kernel_rfl) (fun pp x => ?useH22) ⟨by kernel_rfl, by kernel_rfl, by decide, by kernel_rfl, ?useK22, ?useC22, fun B k W W' h hb => h.below hb, ?useG22, ?useQ22⟩ (by decide); (case useH22 => (simp only [usel, List.modify_succ_cons, List.modify_zero_cons, repV]; (have hxs := x.h.size); (try simp at hxs); (repeat (first | go_big_quiet_skip | (go_big_quiet_want; go_big_quiet_op; first | go_big_quiet_on | (apply Exists.intro; refine ⟨fun _ => ?_, ?_⟩; (focus (fail)); go_big_quiet_on)))); refine wpQuiet_nil ?_; rfl)); (case useK22 => (intro pp; refine ⟨_, rfl, rfl, fun a W hW hgv => ?_⟩; have g1 := (hgv 4 _ 14 rfl rfl (by kernel_rfl)).trans rfl; have g2 := (hgv 9 _ 19 rfl rfl (by kernel_rfl)).trans rfl; exact src_built (b := .cells #[.string a6, .string a7, .string a8, .string a9] 35) (k := 2) rfl rfl rfl (by simp [execOp, go_sem, g1, g2]) (Rd.of_new RT.cs_length _ 35 [⟨a6, a7⟩, ⟨a8, a9⟩] (by simp) rfl))); (case useC22 => (intro pp; refine ⟨_, rfl, rfl, fun a W hW hR hgv => ?_⟩; have g := (hgv 10 _ 20 rfl rfl (by kernel_rfl)).trans rfl; exact use_call rfl rfl rfl (by simp [execOp, go_sem, g, Sl.v]) ((hS pp.1 pp.2 W hR).mono fun e w' h => ⟨h.1, by rw [← h.2]; exact Below.refl _ _⟩))); (case useG22 => (intro pp; first | rfl | (simp; exact ⟨rfl, rfl⟩))); rintro ⟨B22, k22⟩ w22 hb22; (try dsimp only); (try simp only [Sl.v]); obtain ⟨hc22, hf22⟩ := bcell hb22; have hs22 := hb22.size; (try simp at hs22))
              go_wp2
              go_roundw
              case rel => exact ⟨k + 1, by omega, by go_num, HS.out, (by repeat (first | exact Below.refl _ _ | assumption | refine b_then ?_ (by assumption) | refine b_alloc ?_ _ | refine b_drewN ?_ _ | refine Below.drew ?_ | refine b_set ?_ (by first | exact Nat.le_refl _ | (simp; done) | (simp; omega) | omega) _))⟩
              case measure => simp [intOf]; omega
            · have d5 : decide (100 < (a5.size : Int)) = true := by simp; omega
              have hbad : Hid (ismall xs = false) := by
                have := all_bad (p := insm) HX.out (insm_no (by omega))
                unfold Hid ismall; rw [this]; rfl
              go_wp2
              (refine wp_region_use 10 11 20 21 2 (.bool true) (fun B k W => Rd RT.cs 2 W B 2 [⟨a6, a7⟩, ⟨a8, a9⟩]) ?useA23 (by kernel_rfl) (fun pp => by kernel_rfl) (fun pp x => ?useH23) ⟨by kernel_rfl, by kernel_rfl, by decide, by kernel_rfl, ?useK23, ?useC23, fun B k W W' h hb => h.below hb, ?useG23, ?useQ23⟩ (by decide); (case useH23 => (simp only [usel, List.modify_succ_cons, List.modify_zero_cons, repV]; (have hxs := x.h.size); (try simp at hxs); (repeat (first | go_big_quiet_skip | (go_big_quiet_want; go_big_quiet_op; first | go_big_quiet_on | (apply Exists.intro; refine ⟨fun _ => ?_, ?_⟩; (focus (fail)); go_big_quiet_on)))); refine wpQuiet_nil ?_; rfl)); (case useK23 => (intro pp; refine ⟨_, rfl, rfl, fun a W hW hgv => ?_⟩; have g1 := (hgv 4 _ 14 rfl rfl (by kernel_rfl)).trans rfl; have g2 := (hgv 9 _ 19 rfl rfl (by kernel_rfl)).trans rfl; exact src_built (b := .cells #[.string a6, .string a7, .string a8, .string a9] 35) (k := 2) rfl rfl rfl (by simp [execOp, go_sem, g1, g2]) (Rd.of_new RT.cs_length _ 35 [⟨a6, a7⟩, ⟨a8, a9⟩] (by simp) rfl))); (case useC23 => (intro pp; refine ⟨_, rfl, rfl, fun a W hW hR hgv => ?_⟩; have g := (hgv 10 _ 20 rfl rfl (by kernel_rfl)).trans rfl; exact use_call rfl rfl rfl (by simp [execOp, go_sem, g, Sl.v]) ((hS pp.1 pp.2 W hR).mono fun e w' h => ⟨h.1, by rw [← h.2]; exact Below.refl _ _⟩))); (case useG23 => (intro pp; first | rfl | (simp; exact ⟨rfl, rfl⟩))); rintro ⟨B23, k23⟩ w23 hb23; (try dsimp only); (try simp only [Sl.v]); obtain ⟨hc23, hf23⟩ := bcell hb23; have hs23 := hb23.size; (try simp at hs23))
              go_wp2
              go_ret
              exact ⟨ret_bool hbad.out.symm, (by repeat (first | exact Below.refl _ _ | assumption | refine b_then ?_ (by assumption) | refine b_alloc ?_ _ | refine b_drewN ?_ _ | refine Below.drew ?_ | refine b_set ?_ (by first | exact Nat.le_refl _ | (simp; done) | (simp; omega) | omega) _))⟩
          · have d4 : decide (100 < (a4.size : Int)) = true := by simp; omega
            have hbad : Hid (ismall xs = false) := by
              have := all_bad (p := insm) HX.out (insm_no (by omega))
              unfold Hid ismall; rw [this]; rfl
            go_wp2
            (refine wp_region_use 10 11 20 21 2 (.bool true) (fun B k W => Rd RT.cs 2 W B 2 [⟨a6, a7⟩, ⟨a8, a9⟩]) ?useA24 (by kernel_rfl) (fun pp => by kernel_rfl) (fun pp x => ?useH24) ⟨by kernel_rfl, by kernel_rfl, by decide, by kernel_rfl, ?useK24, ?useC24, fun B k W W' h hb => h.below hb, ?useG24, ?useQ24⟩ (by decide); (case useH24 => (simp only [usel, List.modify_succ_cons, List.modify_zero_cons, repV]; (have hxs := x.h.size); (try simp at hxs); (repeat (first | go_big_quiet_skip | (go_big_quiet_want; go_big_quiet_op; first | go_big_quiet_on | (apply Exists.intro; refine ⟨fun _ => ?_, ?_⟩; (focus (fail)); go_big_quiet_on)))); refine wpQuiet_nil ?_; rfl)); (case useK24 => (intro pp; refine ⟨_, rfl, rfl, fun a W hW hgv => ?_⟩; have g1 := (hgv 4 _ 14 rfl rfl (by kernel_rfl)).trans rfl; have g2 := (hgv 9 _ 19 rfl rfl (by kernel_rfl)).trans rfl; exact src_built (b := .cells #[.string a6, .string a7, .string a8, .string a9] 35) (k := 2) rfl rfl rfl (by simp [execOp, go_sem, g1, g2]) (Rd.of_new RT.cs_length _ 35 [⟨a6, a7⟩, ⟨a8, a9⟩] (by simp) rfl))); (case useC24 => (intro pp; refine ⟨_, rfl, rfl, fun a W hW hR hgv => ?_⟩; have g := (hgv 10 _ 20 rfl rfl (by kernel_rfl)).trans rfl; exact use_call rfl rfl rfl (by simp [execOp, go_sem, g, Sl.v]) ((hS pp.1 pp.2 W hR).mono fun e w' h => ⟨h.1, by rw [← h.2]; exact Below.refl _ _⟩))); (case useG24 => (intro pp; first | rfl | (simp; exact ⟨rfl, rfl⟩))); rintro ⟨B24, k24⟩ w24 hb24; (try dsimp only); (try simp only [Sl.v]); obtain ⟨hc24, hf24⟩ := bcell hb24; have hs24 := hb24.size; (try simp at hs24))
            go_wp2
            go_ret
            exact ⟨ret_bool hbad.out.symm, (by repeat (first | exact Below.refl _ _ | assumption | refine b_then ?_ (by assumption) | refine b_alloc ?_ _ | refine b_drewN ?_ _ | refine Below.drew ?_ | refine b_set ?_ (by first | exact Nat.le_refl _ | (simp; done) | (simp; omega) | omega) _))⟩
        · have d3 : decide (100 < (a3.size : Int)) = true := by simp; omega
          have hbad : Hid (ismall xs = false) := by
            have := all_bad (p := insm) HX.out (insm_no (by omega))
            unfold Hid ismall; rw [this]; rfl
          go_wp2
          (refine wp_region_use 10 11 20 21 2 (.bool true) (fun B k W => Rd RT.cs 2 W B 2 [⟨a6, a7⟩, ⟨a8, a9⟩]) ?useA25 (by kernel_rfl) (fun pp => by kernel_rfl) (fun pp x => ?useH25) ⟨by kernel_rfl, by kernel_rfl, by decide, by kernel_rfl, ?useK25, ?useC25, fun B k W W' h hb => h.below hb, ?useG25, ?useQ25⟩ (by decide); (case useH25 => (simp only [usel, List.modify_succ_cons, List.modify_zero_cons, repV]; (have hxs := x.h.size); (try simp at hxs); (repeat (first | go_big_quiet_skip | (go_big_quiet_want; go_big_quiet_op; first | go_big_quiet_on | (apply Exists.intro; refine ⟨fun _ => ?_, ?_⟩; (focus (fail)); go_big_quiet_on)))); refine wpQuiet_nil ?_; rfl)); (case useK25 => (intro pp; refine ⟨_, rfl, rfl, fun a W hW hgv => ?_⟩; have g1 := (hgv 4 _ 14 rfl rfl (by kernel_rfl)).trans rfl; have g2 := (hgv 9 _ 19 rfl rfl (by kernel_rfl)).trans rfl; exact src_built (b := .cells #[.string a6, .string a7, .string a8, .string a9] 35) (k := 2) rfl rfl rfl (by simp [execOp, go_sem, g1, g2]) (Rd.of_new RT.cs_length _ 35 [⟨a6, a7⟩, ⟨a8, a9⟩] (by simp) rfl))); (case useC25 => (intro pp; refine ⟨_, rfl, rfl, fun a W hW hR hgv => ?_⟩; have g := (hgv 10 _ 20 rfl rfl (by kernel_rfl)).trans rfl; exact use_call rfl rfl rfl (by simp [execOp, go_sem, g, Sl.v]) ((hS pp.1 pp.2 W hR).mono fun e w' h => ⟨h.1, by rw [← h.2]; exact Below.refl _ _⟩))); (case useG25 => (intro pp; first | rfl | (simp; exact ⟨rfl, rfl⟩))); rintro ⟨B25, k25⟩ w25 hb25; (try dsimp only); (try simp only [Sl.v]); obtain ⟨hc25, hf25⟩ := bcell hb25; have hs25 := hb25.size; (try simp at hs25))
          go_wp2
          go_ret
          exact ⟨ret_bool hbad.out.symm, (by repeat (first | exact Below.refl _ _ | assumption | refine b_then ?_ (by assumption) | refine b_alloc ?_ _ | refine b_drewN ?_ _ | refine Below.drew ?_ | refine b_set ?_ (by first | exact Nat.le_refl _ | (simp; done) | (simp; omega) | omega) _))⟩
    · obtain rfl : k = n := by omega
      have H2 := H.out
      rw [← HXL.out, List.take_length] at H2
      have H3 : Hid (ismall xs = decide (k ≤ 40)) := by
        unfold Hid ismall; rw [H2, Bool.true_and, HXL.out]
      clear H2
      by_cases h40 : k ≤ 40
      · go_wp2
        go_ret
        exact ⟨ret_bool (by rw [H3.out, decide_eq_true h40]; simp; omega), hB⟩
      · go_wp2
        go_ret
        exact ⟨ret_bool (by rw [H3.out, decide_eq_false h40]; simp; omega), hB⟩
end Go.Proofs.YtjdkbmlkplbmoaaGreatDoor
