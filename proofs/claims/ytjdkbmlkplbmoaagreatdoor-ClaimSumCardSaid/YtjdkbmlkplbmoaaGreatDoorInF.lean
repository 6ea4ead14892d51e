/- Walks of the references' instructions: Same, Ints, Small, Find; R3.Short at any list. -/
import Derived.Test.YtjdkbmlkplbmoaaGreatDoorInE
namespace Go.Proofs.YtjdkbmlkplbmoaaGreatDoor
open Go.RowKit
set_option linter.unusedVariables false
set_option linter.unusedSimpArgs false

theorem in_same {a0 a1 a2 b0 b1 b2 : Int} {a3 a4 a5 a6 a7 a8 a9 b3 b4 b5 b6 b7 b8 b9 : ByteArray} (h : (!(a0 == b0) || (!(a1 == b1) || (!(a2 == b2) || (!(a3.toList == b3.toList) || (!(a4.toList == b4.toList) || (!(a5.toList == b5.toList) || ((!(a6.toList == b6.toList) || !(a7.toList == b7.toList)) || (!(a8.toList == b8.toList) || !(a9.toList == b9.toList))))))))) = false) : (⟨a0, a1, a2, a3, a4, a5, ⟨a6, a7⟩, ⟨a8, a9⟩⟩ : In) = ⟨b0, b1, b2, b3, b4, b5, ⟨b6, b7⟩, ⟨b8, b9⟩⟩ := by
  simp only [Bool.or_eq_false_iff, Bool.not_eq_false', beq_iff_eq] at h
  obtain ⟨h0, h1, h2, h3, h4, h5, ⟨h6, h7⟩, h8, h9⟩ := h
  rw [h0, h1, h2, s_eq.2 h3, s_eq.2 h4, s_eq.2 h5, s_eq.2 h6, s_eq.2 h7, s_eq.2 h8, s_eq.2 h9]
theorem in_unlike {a0 a1 a2 b0 b1 b2 : Int} {a3 a4 a5 a6 a7 a8 a9 b3 b4 b5 b6 b7 b8 b9 : ByteArray} (h : (!(a0 == b0) || (!(a1 == b1) || (!(a2 == b2) || (!(a3.toList == b3.toList) || (!(a4.toList == b4.toList) || (!(a5.toList == b5.toList) || ((!(a6.toList == b6.toList) || !(a7.toList == b7.toList)) || (!(a8.toList == b8.toList) || !(a9.toList == b9.toList))))))))) = true) : ¬ (⟨a0, a1, a2, a3, a4, a5, ⟨a6, a7⟩, ⟨a8, a9⟩⟩ : In) = ⟨b0, b1, b2, b3, b4, b5, ⟨b6, b7⟩, ⟨b8, b9⟩⟩ := by
  intro e
  injection e with e0 e1 e2 e3 e4 e5 e6 e7
  injection e6 with e6 e6'
  injection e7 with e7 e7'
  subst e0; subst e1; subst e2; subst e3; subst e4; subst e5; subst e6; subst e6'; subst e7; subst e7'
  simp at h
set_option maxHeartbeats 2000000 in
theorem r8_same {A B : Option Addr} {n m c d : Nat} {xs ys : List In} (w : World) (hx : Rd In.cs 10 w A n xs) (hy : Rd In.cs 10 w B m ys) :
    Calls Tryz.prog 22 #[.slice A n c, .slice B m d] w fun e w' => e = .returned (.bool (decide (xs = ys))) ∧ Below w.heap.size w w' := by
  have hbig := hx.big
  have hbig2 := hy.big
  have heq := eqIn
  by_cases hnm : n = m
  · subst hnm
    go_enter Tryz.func22, Tryz.ntmps22
    go_wp2
    go_loopw [5] (fun i wr => ∃ k : Nat, k ≤ n ∧ i = .int .i64 k ∧ Hid (xs.take k = ys.take k) ∧ Below w.heap.size w wr) (fun i _ => n - (intOf i).toNat)
    case atStart => exact ⟨0, Nat.zero_le _, rfl, by simp [Hid], Below.refl _ _⟩
    case round =>
      obtain ⟨k, hk, rfl, H, hB⟩ := hrel
      by_cases hlt : k < n
      · obtain ⟨ad, a0, a1, a2, a3, a4, a5, a6, a7, a8, a9, rfl, hxk, hl⟩ := in_in hx hB hlt
        obtain ⟨ad', b0, b1, b2, b3, b4, b5, b6, b7, b8, b9, rfl, hyk, hl'⟩ := in_in hy hB hlt
        have x0 := fun y : After wr => (hl y.W y.h).c0
        have x1 := fun y : After wr => (hl y.W y.h).c1
        have x2 := fun y : After wr => (hl y.W y.h).c2
        have x3 := fun y : After wr => (hl y.W y.h).c3
        have x4 := fun y : After wr => (hl y.W y.h).c4
        have x5 := fun y : After wr => (hl y.W y.h).c5
        have x6 := fun y : After wr => (hl y.W y.h).c6
        have x7 := fun y : After wr => (hl y.W y.h).c7
        have x8 := fun y : After wr => (hl y.W y.h).c8
        have x9 := fun y : After wr => (hl y.W y.h).c9
        have y0 := fun y : After wr => (hl' y.W y.h).c0
        have y1 := fun y : After wr => (hl' y.W y.h).c1
        have y2 := fun y : After wr => (hl' y.W y.h).c2
        have y3 := fun y : After wr => (hl' y.W y.h).c3
        have y4 := fun y : After wr => (hl' y.W y.h).c4
        have y5 := fun y : After wr => (hl' y.W y.h).c5
        have y6 := fun y : After wr => (hl' y.W y.h).c6
        have y7 := fun y : After wr => (hl' y.W y.h).c7
        have y8 := fun y : After wr => (hl' y.W y.h).c8
        have y9 := fun y : After wr => (hl' y.W y.h).c9
        have HX := Lib.hid hxk
        have HY := Lib.hid hyk
        have HC := Lib.hid hl
        have HC' := Lib.hid hl'
        clear hxk hl hyk hl'
        go_wp2
        (refine wp_region_after (by kernel_rfl) (by kernel_rfl) ?_; (repeat (first | go_big_quiet_skip | (go_big_quiet_want; go_big_quiet_op; first | go_big_quiet_on | (apply Exists.intro; refine ⟨fun _ => ?_, ?_⟩; (focus (fail)); go_big_quiet_on)))); refine wpQuiet_nil ?_; rintro w1 ⟨⟨_, hb1⟩, rfl⟩; (try dsimp only); obtain ⟨hc1, hf1⟩ := bcell hb1; have hs1 := hb1.size; (try simp at hs1))
        generalize hv : (!(a0 == b0) || (!(a1 == b1) || (!(a2 == b2) || (!(a3.toList == b3.toList) || (!(a4.toList == b4.toList) || (!(a5.toList == b5.toList) || ((!(a6.toList == b6.toList) || !(a7.toList == b7.toList)) || (!(a8.toList == b8.toList) || !(a9.toList == b9.toList))))))))) = v
        have HV := Lib.hid hv
        clear hv
        cases v
        · go_wp2
          go_roundw
          case rel => exact ⟨k + 1, by omega, by go_num, take_succ_same H.out HX.out HY.out (in_same HV.out), (by repeat (first | exact Below.refl _ _ | assumption | refine b_then ?_ (by assumption) | refine b_alloc ?_ _ | refine b_drewN ?_ _ | refine Below.drew ?_ | refine b_set ?_ (by first | exact Nat.le_refl _ | (simp; done) | (simp; omega) | omega) _))⟩
          case measure => simp [intOf]; omega
        · go_wp2
          go_ret
          exact ⟨ret_bool (same_no HX.out HY.out (in_unlike HV.out)).symm, (by repeat (first | exact Below.refl _ _ | assumption | refine b_then ?_ (by assumption) | refine b_alloc ?_ _ | refine b_drewN ?_ _ | refine Below.drew ?_ | refine b_set ?_ (by first | exact Nat.le_refl _ | (simp; done) | (simp; omega) | omega) _))⟩
      · obtain rfl : k = n := by omega
        have H2 := H.out
        rw [List.take_of_length_le (by rw [hx.len]; exact Nat.le_refl _), List.take_of_length_le (by rw [hy.len]; exact Nat.le_refl _)] at H2
        have H3 := Lib.hid H2
        clear H2
        go_wp2
        go_ret
        exact ⟨ret_bool (decide_eq_true H3.out).symm, hB⟩
  · have hne : decide (xs = ys) = false := by
      rw [decide_eq_false_iff_not]; rintro rfl; exact hnm (hx.len.symm.trans hy.len)
    have hnb : ((n : Int) == (m : Int)) = false := by rw [beq_eq_false_iff_ne]; omega
    have HN := Lib.hid hne
    clear hne
    go_enter Tryz.func22, Tryz.ntmps22
    go_wp2
    go_ret
    exact ⟨ret_bool HN.out.symm, Below.refl _ _⟩
theorem int_in {w wr : World} {A : Option Addr} {n : Nat} {ss : List Int} (h : Rd iCs 1 w A n ss) (hB : Below w.heap.size w wr) {k : Nat} (hk : k < n) :
    ∃ ad s, A = some ad ∧ ss[k]? = some s ∧ ∀ w1, Below wr.heap.size wr w1 → w1.cell? (ad.add k) = some (.int .i64 s) := by
  obtain ⟨ad, s, e, hl, hs, hc⟩ := h.at_ hk
  refine ⟨ad, s, e, hs, fun w1 h1 => ?_⟩
  have h2 := b_then hB h1
  rw [h2.cell (by rw [add_block]; exact hl)]
  have := hc 0 _ rfl
  simpa using this
set_option maxHeartbeats 1000000 in
theorem r8_ints {A B : Option Addr} {n m c d : Nat} {xs ys : List Int} (w : World) (hx : Rd iCs 1 w A n xs) (hy : Rd iCs 1 w B m ys) :
    Calls Tryz.prog 23 #[.slice A n c, .slice B m d] w fun e w' => e = .returned (.bool (decide (xs = ys))) ∧ Below w.heap.size w w' := by
  have hbig := hx.big
  have hbig2 := hy.big
  by_cases hnm : n = m
  · subst hnm
    go_enter Tryz.func23, Tryz.ntmps23
    go_wp2
    go_loopw [5] (fun i wr => ∃ k : Nat, k ≤ n ∧ i = .int .i64 k ∧ Hid (xs.take k = ys.take k) ∧ Below w.heap.size w wr) (fun i _ => n - (intOf i).toNat)
    case atStart => exact ⟨0, Nat.zero_le _, rfl, by simp [Hid], Below.refl _ _⟩
    case round =>
      obtain ⟨k, hk, rfl, H, hB⟩ := hrel
      by_cases hlt : k < n
      · obtain ⟨ad, a, rfl, hxk, hl⟩ := int_in hx hB hlt
        obtain ⟨ad', b, rfl, hyk, hl'⟩ := int_in hy hB hlt
        have x0 := fun y : After wr => hl y.W y.h
        have y0 := fun y : After wr => hl' y.W y.h
        have HX := Lib.hid hxk
        have HY := Lib.hid hyk
        clear hxk hl hyk hl'
        by_cases hab : a = b
        · have HS := Lib.hid (take_succ_same H.out HX.out HY.out hab)
          subst hab
          go_wp2
          (refine wp_region_after (by kernel_rfl) (by kernel_rfl) ?_; (repeat (first | go_big_quiet_skip | (go_big_quiet_want; go_big_quiet_op; first | go_big_quiet_on | (apply Exists.intro; refine ⟨fun _ => ?_, ?_⟩; (focus (fail)); go_big_quiet_on)))); refine wpQuiet_nil ?_; rintro w1 ⟨⟨_, hb1⟩, rfl⟩; (try dsimp only); obtain ⟨hc1, hf1⟩ := bcell hb1; have hs1 := hb1.size; (try simp at hs1))
          go_wp2
          go_roundw
          case rel => exact ⟨k + 1, by omega, by go_num, HS.out, (by repeat (first | exact Below.refl _ _ | assumption | refine b_then ?_ (by assumption) | refine b_alloc ?_ _ | refine b_drewN ?_ _ | refine Below.drew ?_ | refine b_set ?_ (by first | exact Nat.le_refl _ | (simp; done) | (simp; omega) | omega) _))⟩
          case measure => simp [intOf]; omega
        · have hbad := Lib.hid (same_no HX.out HY.out hab)
          have hne : (a == b) = false := by rw [beq_eq_false_iff_ne]; exact hab
          go_wp2
          (refine wp_region_after (by kernel_rfl) (by kernel_rfl) ?_; (repeat (first | go_big_quiet_skip | (go_big_quiet_want; go_big_quiet_op; first | go_big_quiet_on | (apply Exists.intro; refine ⟨fun _ => ?_, ?_⟩; (focus (fail)); go_big_quiet_on)))); refine wpQuiet_nil ?_; rintro w1 ⟨⟨_, hb1⟩, rfl⟩; (try dsimp only); obtain ⟨hc1, hf1⟩ := bcell hb1; have hs1 := hb1.size; (try simp at hs1))
          go_wp2
          go_ret
          exact ⟨ret_bool hbad.out.symm, (by repeat (first | exact Below.refl _ _ | assumption | refine b_then ?_ (by assumption) | refine b_alloc ?_ _ | refine b_drewN ?_ _ | refine Below.drew ?_ | refine b_set ?_ (by first | exact Nat.le_refl _ | (simp; done) | (simp; omega) | omega) _))⟩
      · obtain rfl : k = n := by omega
        have H2 := H.out
        rw [List.take_of_length_le (by rw [hx.len]; exact Nat.le_refl _), List.take_of_length_le (by rw [hy.len]; exact Nat.le_refl _)] at H2
        have H3 := Lib.hid H2
        clear H2
        go_wp2
        go_ret
        exact ⟨ret_bool (decide_eq_true H3.out).symm, hB⟩
  · have hne : decide (xs = ys) = false := by
      rw [decide_eq_false_iff_not]; rintro rfl; exact hnm (hx.len.symm.trans hy.len)
    have hnb : ((n : Int) == (m : Int)) = false := by rw [beq_eq_false_iff_ne]; omega
    have HN := Lib.hid hne
    clear hne
    go_enter Tryz.func23, Tryz.ntmps23
    go_wp2
    go_ret
    exact ⟨ret_bool HN.out.symm, Below.refl _ _⟩
theorem ifind_hit {xs : List In} {id : Int} {k : Nat} {x : In} (h : (xs.take k).all (fun y => !(y.id == id)) = true) (hx : xs[k]? = some x) (he : x.id = id) : ifind xs id = (k : Int) := by
  have hk : k < xs.length := (List.getElem?_eq_some_iff.1 hx).1
  have hk2 : xs[k] = x := (List.getElem?_eq_some_iff.1 hx).2
  have : xs.findIdx? (fun y => y.id == id) = some k := by
    rw [List.findIdx?_eq_some_iff_getElem]
    refine ⟨hk, by rw [hk2]; simpa using he, fun j hj => ?_⟩
    rw [List.all_eq_true] at h
    have := h xs[j] (List.mem_of_getElem? (i := j) (by rw [List.getElem?_take, if_pos hj]; exact List.getElem?_eq_getElem (by omega)))
    simpa using this
  unfold ifind
  rw [this]
theorem ifind_none {xs : List In} {id : Int} (h : xs.all (fun y => !(y.id == id)) = true) : ifind xs id = -1 := by
  have : xs.findIdx? (fun y => y.id == id) = none := by
    rw [List.findIdx?_eq_none_iff]
    intro x hx
    rw [List.all_eq_true] at h
    simpa using h x hx
  unfold ifind
  rw [this]
theorem all_snoc {α : Type} {p : α → Bool} {xs : List α} {k : Nat} {x : α} (h : (xs.take k).all p = true) (hx : xs[k]? = some x) (hp : p x = true) : (xs.take (k + 1)).all p = true := all_step h hx hp
set_option maxHeartbeats 1000000 in
theorem r8_find {A : Option Addr} {n c : Nat} {xs : List In} (id : Int) (w : World) (hx : Rd In.cs 10 w A n xs) :
    Calls Tryz.prog 25 #[.slice A n c, .int .i64 id] w fun e w' => e = .returned (.int .i64 (ifind xs id)) ∧ Below w.heap.size w w' := by
  have hbig := hx.big
  have HXL := Lib.hid hx.len
  go_enter Tryz.func25, Tryz.ntmps25
  go_wp2
  go_loopw [5] (fun i wr => ∃ k : Nat, k ≤ n ∧ i = .int .i64 (k : Nat) ∧ Hid ((xs.take k).all (fun y => !(y.id == id)) = true) ∧ Below w.heap.size w wr) (fun i _ => n - (intOf i).toNat)
  case atStart => exact ⟨0, Nat.zero_le _, rfl, by simp [Hid], Below.refl _ _⟩
  case round =>
    obtain ⟨k, hk, rfl, H, hB⟩ := hrel
    by_cases hlt : k < n
    · obtain ⟨ad, a0, a1, a2, a3, a4, a5, a6, a7, a8, a9, rfl, hxk, hl⟩ := in_in hx hB hlt
      have HX := Lib.hid hxk
      have y0 := (hl wr (Below.refl _ _)).c0
      clear hxk hl
      by_cases he : a0 = id
      · have HF := Lib.hid (ifind_hit H.out HX.out he)
        go_wp2
        go_ret
        exact ⟨ret_int HF.out.symm, hB⟩
      · have HS := Lib.hid (all_snoc H.out HX.out (by simpa using he))
        have hne : (a0 == id) = false := by rw [beq_eq_false_iff_ne]; exact he
        go_wp2
        go_roundw
        case rel => exact ⟨k + 1, by omega, by go_num, HS.out, hB⟩
        case measure => simp [intOf]; omega
    · obtain rfl : k = n := by omega
      have hf : Hid (ifind xs id = -1) := ifind_none (by have := H.out; rwa [← HXL.out, List.take_length] at this)
      go_wp2
      go_ret
      exact ⟨ret_int hf.out.symm, hB⟩
end Go.Proofs.YtjdkbmlkplbmoaaGreatDoor
