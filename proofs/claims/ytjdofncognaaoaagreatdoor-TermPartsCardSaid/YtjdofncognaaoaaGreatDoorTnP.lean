/- TermParts: the walk (given the fixed calls). -/
import Derived.Test.YtjdofncognaaoaaGreatDoorTnM
namespace Go.Proofs.YtjdofncognaaoaaGreatDoor
open Go.RowKit
set_option linter.unusedVariables false
set_option linter.unusedSimpArgs false

set_option maxRecDepth 100000 in
set_option maxHeartbeats 4000000 in
theorem r8_ints {A B : Option Addr} {n m c d : Nat} {xs ys : List Int} (w : World) (hx : Rd jCs 1 w A n xs) (hy : Rd jCs 1 w B m ys) :
    Calls Tryz.prog 31 #[.slice A n c, .slice B m d] w fun e w' => e = .returned (.bool (decide (xs = ys))) ∧ Below w.heap.size w w' := by
  have hbig := hx.big
  have hbig2 := hy.big
  by_cases hnm : n = m
  · subst hnm
    go_enter Tryz.func31, Tryz.ntmps31
    go_wp2
    go_loopw [5] (fun i wr => ∃ k : Nat, k ≤ n ∧ i = .int .i64 k ∧ Hid (xs.take k = ys.take k) ∧ Below w.heap.size w wr) (fun i _ => n - (intOf i).toNat)
    case atStart => exact ⟨0, Nat.zero_le _, rfl, by simp [Hid], Below.refl _ _⟩
    case round =>
      obtain ⟨k, hk, rfl, H, hB⟩ := hrel
      by_cases hlt : k < n
      · obtain ⟨ad, a, rfl, hxk, hl⟩ := jnt_in hx hB hlt
        obtain ⟨ad', b, rfl, hyk, hl'⟩ := jnt_in hy hB hlt
        have x0 := fun y : After wr => hl y.W y.h
        have y0 := fun y : After wr => hl' y.W y.h
        have HX := Lib.hid hxk
        have HY := Lib.hid hyk
        clear hxk hl hyk hl'
        by_cases hab : a = b
        · have HS := Lib.hid (take_succ_same H.out HX.out HY.out hab)
          subst hab
          go_wp2
          (refine wp_region_after (by kernel_rfl) (by kernel_rfl) ?_; (repeat (first | go_big_quiet_skip | (go_big_quiet_want; go_big_quiet_op; first | go_big_quiet_on | (apply Exists.intro; refine ⟨fun _ => ?_, ?_⟩; (focus (fail)); go_big_quiet_on)))); refine wpQuiet_nil ?_; rintro w1 ⟨⟨_, hb1⟩, rfl⟩; (try dsimp only); obtain ⟨hc1, hf1⟩ := bcell hb1; have hs1 := hb1.size; (try simp at hs1))
          go_wp2
          go_roundw
          case rel => exact ⟨k + 1, by omega, by go_num, HS.out, (by repeat (first | exact Below.refl _ _ | assumption | refine b_then ?_ (by assumption) | refine b_alloc ?_ _ | refine b_drewN ?_ _ | refine Below.drew ?_ | refine b_set ?_ (by first | exact Nat.le_refl _ | (simp; done) | (simp; omega) | omega) _))⟩
          case measure => simp [intOf]; omega
        · have hbad := Lib.hid (same_no HX.out HY.out hab)
          have hne : (a == b) = false := by rw [beq_eq_false_iff_ne]; exact hab
          go_wp2
          (refine wp_region_after (by kernel_rfl) (by kernel_rfl) ?_; (repeat (first | go_big_quiet_skip | (go_big_quiet_want; go_big_quiet_op; first | go_big_quiet_on | (apply Exists.intro; refine ⟨fun _ => ?_, ?_⟩; (focus (fail)); go_big_quiet_on)))); refine wpQuiet_nil ?_; rintro w1 ⟨⟨_, hb1⟩, rfl⟩; (try dsimp only); obtain ⟨hc1, hf1⟩ := bcell hb1; have hs1 := hb1.size; (try simp at hs1))
          go_wp2
          go_ret
          exact ⟨ret_bool hbad.out.symm, (by repeat (first | exact Below.refl _ _ | assumption | refine b_then ?_ (by assumption) | refine b_alloc ?_ _ | refine b_drewN ?_ _ | refine Below.drew ?_ | refine b_set ?_ (by first | exact Nat.le_refl _ | (simp; done) | (simp; omega) | omega) _))⟩
      · obtain rfl : k = n := by omega
        have H2 := H.out
        rw [List.take_of_length_le (by rw [hx.len]; exact Nat.le_refl _), List.take_of_length_le (by rw [hy.len]; exact Nat.le_refl _)] at H2
        have H3 := Lib.hid H2
        clear H2
        go_wp2
        go_ret
        exact ⟨ret_bool (decide_eq_true H3.out).symm, hB⟩
  · have hne : decide (xs = ys) = false := by
      rw [decide_eq_false_iff_not]; rintro rfl; exact hnm (hx.len.symm.trans hy.len)
    have hnb : ((n : Int) == (m : Int)) = false := by rw [beq_eq_false_iff_ne]; omega
    have HN := Lib.hid hne
    clear hne
    go_enter Tryz.func31, Tryz.ntmps31
    go_wp2
    go_ret
    exact ⟨ret_bool HN.out.symm, Below.refl _ _⟩
theorem form_len {t : List Nd} (h : tform t = true) : ∃ s nd, t = s ++ [nd] := by
  rcases List.eq_nil_or_concat t with h0 | ⟨s, nd, h0⟩
  · rw [h0] at h; rw [tform_nil] at h; cases h
  · exact ⟨s, nd, by rw [h0, List.concat_eq_append]⟩
theorem tlen_step {l : List (List Nd)} {k : Nat} {x : List Nd} (h : l[k]? = some x) : tlen (l.take (k + 1)) = tlen (l.take k) + x.length := by
  rw [List.take_add_one, h]; exact (tlen_append _ _).trans (by rw [show (some x).toList = [x] from rfl, tlen_one])
theorem parts3 {a b e : List Nd} (ha : tform a = true) (hb : tform b = true) (he : tform e = true) (h : a.length + b.length + e.length ≤ 1000) :
    targsP (a ++ b ++ e ++ [nd0 12]) = [a, b, e] ∧ tdeep (a ++ b ++ e ++ [nd0 12]) = max (max (tdeep a) (tdeep b)) (max (tdeep e) 0) + 1 := by
  obtain ⟨h1, h2, h3⟩ := join3 (n := nd0 12) (tform_iff.1 ha).2 (tform_iff.1 hb).2 (tform_iff.1 he).2 rfl
  have hf : tform (a ++ b ++ e ++ [nd0 12]) = true := tform_iff.2 ⟨by simp; omega, h3⟩
  refine ⟨by unfold targsP; rw [if_pos hf, h1], ?_⟩
  rw [tdeep_tm hf, h2, tdeep_tm ha, tdeep_tm hb, tdeep_tm he]
theorem tdeep_le {a : List Nd} (h : tform a = true) : tdeep a ≤ a.length := by
  rw [tdeep_tm h]
  have h1 := tfold_wt (wt := Int.natAbs) (C := 1) (fun n _ l x hx => ndep_wt hx) (tdep_tm (tform_iff.1 h).2)
  simp at h1
  omega
theorem tdeep_pos {a : List Nd} (h : tform a = true) : 1 ≤ tdeep a := by
  obtain ⟨s, nd, e⟩ := form_len h
  rw [tdeep_tm h]
  subst e
  obtain ⟨l, h1, h2, h3, h4, h5⟩ := targs_of h rfl
  have := tdep_join (l := l) (n := nd) h5 (by rw [← h3])
  rw [h4] at this
  rw [this]
  have h6 : (0 : Int) ≤ ndeep (l.map tdep) := by
    unfold ndeep
    have key : ∀ (l : List Int) (z : Int), z ≤ l.foldl max z := by
      intro l
      induction l with
      | nil => intro z; exact Int.le_refl _
      | cons x l ih => intro z; exact Int.le_trans (Int.le_max_left z x) (ih (max z x))
    exact key _ 0
  omega
set_option maxRecDepth 100000 in
set_option maxHeartbeats 16000000 in
theorem l_tparts (HF : Fixed10Ok) {A B C : Option Addr} {n c m d p q : Nat} {a b e : List Nd} (w : World) (hg : Glob w) (hnc : n ≤ c) (hmd : m ≤ d) (hpq : p ≤ q) (hx : Rd Nd.cs 6 w A n a) (hz1 : ∀ x ∈ a, ndok x) (hy : Rd Nd.cs 6 w B m b) (hz2 : ∀ x ∈ b, ndok x) (hz : Rd Nd.cs 6 w C p e) (hz3 : ∀ x ∈ e, ndok x) :
    Calls Tryz.prog 4 #[.slice A n c, .slice B m d, .slice C p q] w fun e w' => e = .returned (.bool true) ∧ Below w.heap.size w w' := by
  have hFx : ∀ W : World, Glob W → Calls Tryz.prog 15 #[] W fun e w' => e = .returned (.bool true) ∧ Below W.heap.size W w' := HF
  clear HF
  have hS1 := fun W (h : Below w.heap.size w W) => r10_small (c := c) W (hx.below h) hz1
  have hS2 := fun W (h : Below w.heap.size w W) => r10_small (c := d) W (hy.below h) hz2
  have hS3 := fun W (h : Below w.heap.size w W) => r10_small (c := q) W (hz.below h) hz3
  have hT1 := fun W (h : Below w.heap.size w W) => r10_formed (c := c) W (hx.below h)
  have hT2 := fun W (h : Below w.heap.size w W) => r10_formed (c := d) W (hy.below h)
  have hT3 := fun W (h : Below w.heap.size w W) => r10_formed (c := q) W (hz.below h)
  cases e1 : tsmall a with
  | false =>
    rw [e1] at hS1
    go_enter Tryz.func4, Tryz.ntmps4
    go_wp2_with (first
      | (go_at_call 15; (with_reducible refine (hFx w hg).mono ?_); rintro e w1 ⟨rfl, hb1⟩; obtain ⟨hc1, hf1⟩ := bcell hb1; have hs1 := hb1.size; (try simp at hs1))
      | (go_at_call 14; (with_reducible refine (hS1 w1 (by repeat (first | exact Below.refl _ _ | assumption | refine b_then ?_ (by assumption) | refine b_alloc ?_ _ | refine b_drewN ?_ _ | refine Below.drew ?_ | refine b_set ?_ (by first | exact Nat.le_refl _ | (simp; done) | (simp; omega) | omega) _))).mono ?_); rintro e w2 ⟨rfl, hb2⟩; obtain ⟨hc2, hf2⟩ := bcell hb2; have hs2 := hb2.size; (try simp at hs2))
      | (go_at_call 15; (with_reducible refine (hFx w2 (hg.below (by repeat (first | exact Below.refl _ _ | assumption | refine b_then ?_ (by assumption) | refine b_alloc ?_ _ | refine b_drewN ?_ _ | refine Below.drew ?_ | refine b_set ?_ (by first | exact Nat.le_refl _ | (simp; done) | (simp; omega) | omega) _)))).mono ?_); rintro e w3 ⟨rfl, hb3⟩; obtain ⟨hc3, hf3⟩ := bcell hb3; have hs3 := hb3.size; (try simp at hs3)))
    go_ret
    exact ⟨rfl, (by repeat (first | exact Below.refl _ _ | assumption | refine b_then ?_ (by assumption) | refine b_alloc ?_ _ | refine b_drewN ?_ _ | refine Below.drew ?_ | refine b_set ?_ (by first | exact Nat.le_refl _ | (simp; done) | (simp; omega) | omega) _))⟩
  | true =>
  rw [e1] at hS1
  cases e2 : tsmall b with
  | false =>
    rw [e2] at hS2
    go_enter Tryz.func4, Tryz.ntmps4
    go_wp2_with (first
      | (go_at_call 15; (with_reducible refine (hFx w hg).mono ?_); rintro e w1 ⟨rfl, hb1⟩; obtain ⟨hc1, hf1⟩ := bcell hb1; have hs1 := hb1.size; (try simp at hs1))
      | (go_at_call 14; (with_reducible refine (hS1 w1 (by repeat (first | exact Below.refl _ _ | assumption | refine b_then ?_ (by assumption) | refine b_alloc ?_ _ | refine b_drewN ?_ _ | refine Below.drew ?_ | refine b_set ?_ (by first | exact Nat.le_refl _ | (simp; done) | (simp; omega) | omega) _))).mono ?_); rintro e w2 ⟨rfl, hb2⟩; obtain ⟨hc2, hf2⟩ := bcell hb2; have hs2 := hb2.size; (try simp at hs2))
      | (go_at_call 14; (with_reducible refine (hS2 w2 (by repeat (first | exact Below.refl _ _ | assumption | refine b_then ?_ (by assumption) | refine b_alloc ?_ _ | refine b_drewN ?_ _ | refine Below.drew ?_ | refine b_set ?_ (by first | exact Nat.le_refl _ | (simp; done) | (simp; omega) | omega) _))).mono ?_); rintro e w3 ⟨rfl, hb3⟩; obtain ⟨hc3, hf3⟩ := bcell hb3; have hs3 := hb3.size; (try simp at hs3))
      | (go_at_call 15; (with_reducible refine (hFx w3 (hg.below (by repeat (first | exact Below.refl _ _ | assumption | refine b_then ?_ (by assumption) | refine b_alloc ?_ _ | refine b_drewN ?_ _ | refine Below.drew ?_ | refine b_set ?_ (by first | exact Nat.le_refl _ | (simp; done) | (simp; omega) | omega) _)))).mono ?_); rintro e w4 ⟨rfl, hb4⟩; obtain ⟨hc4, hf4⟩ := bcell hb4; have hs4 := hb4.size; (try simp at hs4)))
    go_ret
    exact ⟨rfl, (by repeat (first | exact Below.refl _ _ | assumption | refine b_then ?_ (by assumption) | refine b_alloc ?_ _ | refine b_drewN ?_ _ | refine Below.drew ?_ | refine b_set ?_ (by first | exact Nat.le_refl _ | (simp; done) | (simp; omega) | omega) _))⟩
  | true =>
  rw [e2] at hS2
  cases e3 : tsmall e with
  | false =>
    rw [e3] at hS3
    go_enter Tryz.func4, Tryz.ntmps4
    go_wp2_with (first
      | (go_at_call 15; (with_reducible refine (hFx w hg).mono ?_); rintro e w1 ⟨rfl, hb1⟩; obtain ⟨hc1, hf1⟩ := bcell hb1; have hs1 := hb1.size; (try simp at hs1))
      | (go_at_call 14; (with_reducible refine (hS1 w1 (by repeat (first | exact Below.refl _ _ | assumption | refine b_then ?_ (by assumption) | refine b_alloc ?_ _ | refine b_drewN ?_ _ | refine Below.drew ?_ | refine b_set ?_ (by first | exact Nat.le_refl _ | (simp; done) | (simp; omega) | omega) _))).mono ?_); rintro e w2 ⟨rfl, hb2⟩; obtain ⟨hc2, hf2⟩ := bcell hb2; have hs2 := hb2.size; (try simp at hs2))
      | (go_at_call 14; (with_reducible refine (hS2 w2 (by repeat (first | exact Below.refl _ _ | assumption | refine b_then ?_ (by assumption) | refine b_alloc ?_ _ | refine b_drewN ?_ _ | refine Below.drew ?_ | refine b_set ?_ (by first | exact Nat.le_refl _ | (simp; done) | (simp; omega) | omega) _))).mono ?_); rintro e w3 ⟨rfl, hb3⟩; obtain ⟨hc3, hf3⟩ := bcell hb3; have hs3 := hb3.size; (try simp at hs3))
      | (go_at_call 14; (with_reducible refine (hS3 w3 (by repeat (first | exact Below.refl _ _ | assumption | refine b_then ?_ (by assumption) | refine b_alloc ?_ _ | refine b_drewN ?_ _ | refine Below.drew ?_ | refine b_set ?_ (by first | exact Nat.le_refl _ | (simp; done) | (simp; omega) | omega) _))).mono ?_); rintro e w4 ⟨rfl, hb4⟩; obtain ⟨hc4, hf4⟩ := bcell hb4; have hs4 := hb4.size; (try simp at hs4))
      | (go_at_call 15; (with_reducible refine (hFx w4 (hg.below (by repeat (first | exact Below.refl _ _ | assumption | refine b_then ?_ (by assumption) | refine b_alloc ?_ _ | refine b_drewN ?_ _ | refine Below.drew ?_ | refine b_set ?_ (by first | exact Nat.le_refl _ | (simp; done) | (simp; omega) | omega) _)))).mono ?_); rintro e w5 ⟨rfl, hb5⟩; obtain ⟨hc5, hf5⟩ := bcell hb5; have hs5 := hb5.size; (try simp at hs5)))
    go_ret
    exact ⟨rfl, (by repeat (first | exact Below.refl _ _ | assumption | refine b_then ?_ (by assumption) | refine b_alloc ?_ _ | refine b_drewN ?_ _ | refine Below.drew ?_ | refine b_set ?_ (by first | exact Nat.le_refl _ | (simp; done) | (simp; omega) | omega) _))⟩
  | true =>
  rw [e3] at hS3
  cases e4 : tform a with
  | false =>
    rw [e4] at hT1
    go_enter Tryz.func4, Tryz.ntmps4
    go_wp2_with (first
      | (go_at_call 15; (with_reducible refine (hFx w hg).mono ?_); rintro e w1 ⟨rfl, hb1⟩; obtain ⟨hc1, hf1⟩ := bcell hb1; have hs1 := hb1.size; (try simp at hs1))
      | (go_at_call 14; (with_reducible refine (hS1 w1 (by repeat (first | exact Below.refl _ _ | assumption | refine b_then ?_ (by assumption) | refine b_alloc ?_ _ | refine b_drewN ?_ _ | refine Below.drew ?_ | refine b_set ?_ (by first | exact Nat.le_refl _ | (simp; done) | (simp; omega) | omega) _))).mono ?_); rintro e w2 ⟨rfl, hb2⟩; obtain ⟨hc2, hf2⟩ := bcell hb2; have hs2 := hb2.size; (try simp at hs2))
      | (go_at_call 14; (with_reducible refine (hS2 w2 (by repeat (first | exact Below.refl _ _ | assumption | refine b_then ?_ (by assumption) | refine b_alloc ?_ _ | refine b_drewN ?_ _ | refine Below.drew ?_ | refine b_set ?_ (by first | exact Nat.le_refl _ | (simp; done) | (simp; omega) | omega) _))).mono ?_); rintro e w3 ⟨rfl, hb3⟩; obtain ⟨hc3, hf3⟩ := bcell hb3; have hs3 := hb3.size; (try simp at hs3))
      | (go_at_call 14; (with_reducible refine (hS3 w3 (by repeat (first | exact Below.refl _ _ | assumption | refine b_then ?_ (by assumption) | refine b_alloc ?_ _ | refine b_drewN ?_ _ | refine Below.drew ?_ | refine b_set ?_ (by first | exact Nat.le_refl _ | (simp; done) | (simp; omega) | omega) _))).mono ?_); rintro e w4 ⟨rfl, hb4⟩; obtain ⟨hc4, hf4⟩ := bcell hb4; have hs4 := hb4.size; (try simp at hs4))
      | (go_at_call 30; (with_reducible refine (hT1 w4 (by repeat (first | exact Below.refl _ _ | assumption | refine b_then ?_ (by assumption) | refine b_alloc ?_ _ | refine b_drewN ?_ _ | refine Below.drew ?_ | refine b_set ?_ (by first | exact Nat.le_refl _ | (simp; done) | (simp; omega) | omega) _))).mono ?_); rintro e w5 ⟨rfl, hb5⟩; obtain ⟨hc5, hf5⟩ := bcell hb5; have hs5 := hb5.size; (try simp at hs5))
      | (go_at_call 15; (with_reducible refine (hFx w5 (hg.below (by repeat (first | exact Below.refl _ _ | assumption | refine b_then ?_ (by assumption) | refine b_alloc ?_ _ | refine b_drewN ?_ _ | refine Below.drew ?_ | refine b_set ?_ (by first | exact Nat.le_refl _ | (simp; done) | (simp; omega) | omega) _)))).mono ?_); rintro e w6 ⟨rfl, hb6⟩; obtain ⟨hc6, hf6⟩ := bcell hb6; have hs6 := hb6.size; (try simp at hs6)))
    go_ret
    exact ⟨rfl, (by repeat (first | exact Below.refl _ _ | assumption | refine b_then ?_ (by assumption) | refine b_alloc ?_ _ | refine b_drewN ?_ _ | refine Below.drew ?_ | refine b_set ?_ (by first | exact Nat.le_refl _ | (simp; done) | (simp; omega) | omega) _))⟩
  | true =>
  rw [e4] at hT1
  cases e5 : tform b with
  | false =>
    rw [e5] at hT2
    go_enter Tryz.func4, Tryz.ntmps4
    go_wp2_with (first
      | (go_at_call 15; (with_reducible refine (hFx w hg).mono ?_); rintro e w1 ⟨rfl, hb1⟩; obtain ⟨hc1, hf1⟩ := bcell hb1; have hs1 := hb1.size; (try simp at hs1))
      | (go_at_call 14; (with_reducible refine (hS1 w1 (by repeat (first | exact Below.refl _ _ | assumption | refine b_then ?_ (by assumption) | refine b_alloc ?_ _ | refine b_drewN ?_ _ | refine Below.drew ?_ | refine b_set ?_ (by first | exact Nat.le_refl _ | (simp; done) | (simp; omega) | omega) _))).mono ?_); rintro e w2 ⟨rfl, hb2⟩; obtain ⟨hc2, hf2⟩ := bcell hb2; have hs2 := hb2.size; (try simp at hs2))
      | (go_at_call 14; (with_reducible refine (hS2 w2 (by repeat (first | exact Below.refl _ _ | assumption | refine b_then ?_ (by assumption) | refine b_alloc ?_ _ | refine b_drewN ?_ _ | refine Below.drew ?_ | refine b_set ?_ (by first | exact Nat.le_refl _ | (simp; done) | (simp; omega) | omega) _))).mono ?_); rintro e w3 ⟨rfl, hb3⟩; obtain ⟨hc3, hf3⟩ := bcell hb3; have hs3 := hb3.size; (try simp at hs3))
      | (go_at_call 14; (with_reducible refine (hS3 w3 (by repeat (first | exact Below.refl _ _ | assumption | refine b_then ?_ (by assumption) | refine b_alloc ?_ _ | refine b_drewN ?_ _ | refine Below.drew ?_ | refine b_set ?_ (by first | exact Nat.le_refl _ | (simp; done) | (simp; omega) | omega) _))).mono ?_); rintro e w4 ⟨rfl, hb4⟩; obtain ⟨hc4, hf4⟩ := bcell hb4; have hs4 := hb4.size; (try simp at hs4))
      | (go_at_call 30; (with_reducible refine (hT1 w4 (by repeat (first | exact Below.refl _ _ | assumption | refine b_then ?_ (by assumption) | refine b_alloc ?_ _ | refine b_drewN ?_ _ | refine Below.drew ?_ | refine b_set ?_ (by first | exact Nat.le_refl _ | (simp; done) | (simp; omega) | omega) _))).mono ?_); rintro e w5 ⟨rfl, hb5⟩; obtain ⟨hc5, hf5⟩ := bcell hb5; have hs5 := hb5.size; (try simp at hs5))
      | (go_at_call 30; (with_reducible refine (hT2 w5 (by repeat (first | exact Below.refl _ _ | assumption | refine b_then ?_ (by assumption) | refine b_alloc ?_ _ | refine b_drewN ?_ _ | refine Below.drew ?_ | refine b_set ?_ (by first | exact Nat.le_refl _ | (simp; done) | (simp; omega) | omega) _))).mono ?_); rintro e w6 ⟨rfl, hb6⟩; obtain ⟨hc6, hf6⟩ := bcell hb6; have hs6 := hb6.size; (try simp at hs6))
      | (go_at_call 15; (with_reducible refine (hFx w6 (hg.below (by repeat (first | exact Below.refl _ _ | assumption | refine b_then ?_ (by assumption) | refine b_alloc ?_ _ | refine b_drewN ?_ _ | refine Below.drew ?_ | refine b_set ?_ (by first | exact Nat.le_refl _ | (simp; done) | (simp; omega) | omega) _)))).mono ?_); rintro e w7 ⟨rfl, hb7⟩; obtain ⟨hc7, hf7⟩ := bcell hb7; have hs7 := hb7.size; (try simp at hs7)))
    go_ret
    exact ⟨rfl, (by repeat (first | exact Below.refl _ _ | assumption | refine b_then ?_ (by assumption) | refine b_alloc ?_ _ | refine b_drewN ?_ _ | refine Below.drew ?_ | refine b_set ?_ (by first | exact Nat.le_refl _ | (simp; done) | (simp; omega) | omega) _))⟩
  | true =>
  rw [e5] at hT2
  cases e6 : tform e with
  | false =>
    rw [e6] at hT3
    go_enter Tryz.func4, Tryz.ntmps4
    go_wp2_with (first
      | (go_at_call 15; (with_reducible refine (hFx w hg).mono ?_); rintro e w1 ⟨rfl, hb1⟩; obtain ⟨hc1, hf1⟩ := bcell hb1; have hs1 := hb1.size; (try simp at hs1))
      | (go_at_call 14; (with_reducible refine (hS1 w1 (by repeat (first | exact Below.refl _ _ | assumption | refine b_then ?_ (by assumption) | refine b_alloc ?_ _ | refine b_drewN ?_ _ | refine Below.drew ?_ | refine b_set ?_ (by first | exact Nat.le_refl _ | (simp; done) | (simp; omega) | omega) _))).mono ?_); rintro e w2 ⟨rfl, hb2⟩; obtain ⟨hc2, hf2⟩ := bcell hb2; have hs2 := hb2.size; (try simp at hs2))
      | (go_at_call 14; (with_reducible refine (hS2 w2 (by repeat (first | exact Below.refl _ _ | assumption | refine b_then ?_ (by assumption) | refine b_alloc ?_ _ | refine b_drewN ?_ _ | refine Below.drew ?_ | refine b_set ?_ (by first | exact Nat.le_refl _ | (simp; done) | (simp; omega) | omega) _))).mono ?_); rintro e w3 ⟨rfl, hb3⟩; obtain ⟨hc3, hf3⟩ := bcell hb3; have hs3 := hb3.size; (try simp at hs3))
      | (go_at_call 14; (with_reducible refine (hS3 w3 (by repeat (first | exact Below.refl _ _ | assumption | refine b_then ?_ (by assumption) | refine b_alloc ?_ _ | refine b_drewN ?_ _ | refine Below.drew ?_ | refine b_set ?_ (by first | exact Nat.le_refl _ | (simp; done) | (simp; omega) | omega) _))).mono ?_); rintro e w4 ⟨rfl, hb4⟩; obtain ⟨hc4, hf4⟩ := bcell hb4; have hs4 := hb4.size; (try simp at hs4))
      | (go_at_call 30; (with_reducible refine (hT1 w4 (by repeat (first | exact Below.refl _ _ | assumption | refine b_then ?_ (by assumption) | refine b_alloc ?_ _ | refine b_drewN ?_ _ | refine Below.drew ?_ | refine b_set ?_ (by first | exact Nat.le_refl _ | (simp; done) | (simp; omega) | omega) _))).mono ?_); rintro e w5 ⟨rfl, hb5⟩; obtain ⟨hc5, hf5⟩ := bcell hb5; have hs5 := hb5.size; (try simp at hs5))
      | (go_at_call 30; (with_reducible refine (hT2 w5 (by repeat (first | exact Below.refl _ _ | assumption | refine b_then ?_ (by assumption) | refine b_alloc ?_ _ | refine b_drewN ?_ _ | refine Below.drew ?_ | refine b_set ?_ (by first | exact Nat.le_refl _ | (simp; done) | (simp; omega) | omega) _))).mono ?_); rintro e w6 ⟨rfl, hb6⟩; obtain ⟨hc6, hf6⟩ := bcell hb6; have hs6 := hb6.size; (try simp at hs6))
      | (go_at_call 30; (with_reducible refine (hT3 w6 (by repeat (first | exact Below.refl _ _ | assumption | refine b_then ?_ (by assumption) | refine b_alloc ?_ _ | refine b_drewN ?_ _ | refine Below.drew ?_ | refine b_set ?_ (by first | exact Nat.le_refl _ | (simp; done) | (simp; omega) | omega) _))).mono ?_); rintro e w7 ⟨rfl, hb7⟩; obtain ⟨hc7, hf7⟩ := bcell hb7; have hs7 := hb7.size; (try simp at hs7))
      | (go_at_call 15; (with_reducible refine (hFx w7 (hg.below (by repeat (first | exact Below.refl _ _ | assumption | refine b_then ?_ (by assumption) | refine b_alloc ?_ _ | refine b_drewN ?_ _ | refine Below.drew ?_ | refine b_set ?_ (by first | exact Nat.le_refl _ | (simp; done) | (simp; omega) | omega) _)))).mono ?_); rintro e w8 ⟨rfl, hb8⟩; obtain ⟨hc8, hf8⟩ := bcell hb8; have hs8 := hb8.size; (try simp at hs8)))
    go_ret
    exact ⟨rfl, (by repeat (first | exact Below.refl _ _ | assumption | refine b_then ?_ (by assumption) | refine b_alloc ?_ _ | refine b_drewN ?_ _ | refine Below.drew ?_ | refine b_set ?_ (by first | exact Nat.le_refl _ | (simp; done) | (simp; omega) | omega) _))⟩
  | true =>
  rw [e6] at hT3
  obtain ⟨s, nd, hsn⟩ := form_len e4
  have hlx := hx.len
  have hly := hy.len
  have hlz := hz.len
  have hn : n ≤ 200 := by rw [← hlx]; exact tsmall_n e1
  have hm : m ≤ 200 := by rw [← hly]; exact tsmall_n e2
  have hp : p ≤ 200 := by rw [← hlz]; exact tsmall_n e3
  have hbig := hx.big
  have hbig2 := hy.big
  have hbig3 := hz.big
  obtain ⟨g1, g2⟩ := parts3 e4 e5 e6 (by omega)
  obtain ⟨l, l1, l2, l3, l4, l5⟩ := targs_of e4 hsn
  obtain ⟨L, hL⟩ : ∃ L, l.length = L := ⟨_, rfl⟩
  have hnl : n = s.length + 1 := by rw [← hlx, hsn]; simp
  obtain ⟨n', hn'⟩ : ∃ n', s.length = n' := ⟨_, rfl⟩
  rw [hn'] at hnl
  subst hnl
  have hlast : a[n']? = some nd := by rw [hsn, ← hn']; simp
  have hA1 := fun W (h : Below w.heap.size w W) => p_args (c := c) W (hx.below h) hnc
  rw [l1] at hA1
  have hD1 := fun W (h : Below w.heap.size w W) => p_depth (c := c) W (hx.below h)
  have hD2 := fun W (h : Below w.heap.size w W) => p_depth (c := d) W (hy.below h)
  have hD3 := fun W (h : Below w.heap.size w W) => p_depth (c := q) W (hz.below h)
  have d1 := tdeep_pos e4
  have d2 := tdeep_pos e5
  have d3 := tdeep_pos e6
  have u1 := tdeep_le e4
  have u2 := tdeep_le e5
  have u3 := tdeep_le e6
  rw [hlx] at u1
  rw [hly] at u2
  rw [hlz] at u3
  have HTE := Lib.hid l4
  have HLL := Lib.hid hL
  have HLA := Lib.hid hlast
  have HAR := Lib.hid l3
  have HT := Lib.hid g1
  have HDT := Lib.hid g2
  have HX := Lib.hid hlx
  have HY := Lib.hid hly
  have HZ := Lib.hid hlz
  have HN := Lib.hid hn'
  obtain ⟨x1, hx1⟩ : ∃ x, tdeep a = x := ⟨_, rfl⟩
  obtain ⟨x2, hx2⟩ : ∃ x, tdeep b = x := ⟨_, rfl⟩
  obtain ⟨x3, hx3⟩ : ∃ x, tdeep e = x := ⟨_, rfl⟩
  rw [hx1] at hD1 d1 u1
  rw [hx2] at hD2 d2 u2
  rw [hx3] at hD3 d3 u3
  have HX1 := Lib.hid hx1
  have HX2 := Lib.hid hx2
  have HX3 := Lib.hid hx3
  clear e1 e2 e3 e4 e5 e6 g1 g2 l1 l2 l3 l4 l5 hL hlast hlx hly hlz hz1 hz2 hz3 hn' hsn hx1 hx2 hx3
  go_enter Tryz.func4, Tryz.ntmps4
  go_wp2_with (first
    | (go_at_call 15; (with_reducible refine (hFx w hg).mono ?_); rintro e w1 ⟨rfl, hb1⟩; obtain ⟨hc1, hf1⟩ := bcell hb1; have hs1 := hb1.size; (try simp at hs1))
    | (go_at_call 14; (with_reducible refine (hS1 w1 (by repeat (first | exact Below.refl _ _ | assumption | refine b_then ?_ (by assumption) | refine b_alloc ?_ _ | refine b_drewN ?_ _ | refine Below.drew ?_ | refine b_set ?_ (by first | exact Nat.le_refl _ | (simp; done) | (simp; omega) | omega) _))).mono ?_); rintro e w2 ⟨rfl, hb2⟩; obtain ⟨hc2, hf2⟩ := bcell hb2; have hs2 := hb2.size; (try simp at hs2))
    | (go_at_call 14; (with_reducible refine (hS2 w2 (by repeat (first | exact Below.refl _ _ | assumption | refine b_then ?_ (by assumption) | refine b_alloc ?_ _ | refine b_drewN ?_ _ | refine Below.drew ?_ | refine b_set ?_ (by first | exact Nat.le_refl _ | (simp; done) | (simp; omega) | omega) _))).mono ?_); rintro e w3 ⟨rfl, hb3⟩; obtain ⟨hc3, hf3⟩ := bcell hb3; have hs3 := hb3.size; (try simp at hs3))
    | (go_at_call 14; (with_reducible refine (hS3 w3 (by repeat (first | exact Below.refl _ _ | assumption | refine b_then ?_ (by assumption) | refine b_alloc ?_ _ | refine b_drewN ?_ _ | refine Below.drew ?_ | refine b_set ?_ (by first | exact Nat.le_refl _ | (simp; done) | (simp; omega) | omega) _))).mono ?_); rintro e w4 ⟨rfl, hb4⟩; obtain ⟨hc4, hf4⟩ := bcell hb4; have hs4 := hb4.size; (try simp at hs4))
    | (go_at_call 30; (with_reducible refine (hT1 w4 (by repeat (first | exact Below.refl _ _ | assumption | refine b_then ?_ (by assumption) | refine b_alloc ?_ _ | refine b_drewN ?_ _ | refine Below.drew ?_ | refine b_set ?_ (by first | exact Nat.le_refl _ | (simp; done) | (simp; omega) | omega) _))).mono ?_); rintro e w5 ⟨rfl, hb5⟩; obtain ⟨hc5, hf5⟩ := bcell hb5; have hs5 := hb5.size; (try simp at hs5))
    | (go_at_call 30; (with_reducible refine (hT2 w5 (by repeat (first | exact Below.refl _ _ | assumption | refine b_then ?_ (by assumption) | refine b_alloc ?_ _ | refine b_drewN ?_ _ | refine Below.drew ?_ | refine b_set ?_ (by first | exact Nat.le_refl _ | (simp; done) | (simp; omega) | omega) _))).mono ?_); rintro e w6 ⟨rfl, hb6⟩; obtain ⟨hc6, hf6⟩ := bcell hb6; have hs6 := hb6.size; (try simp at hs6))
    | (go_at_call 30; (with_reducible refine (hT3 w6 (by repeat (first | exact Below.refl _ _ | assumption | refine b_then ?_ (by assumption) | refine b_alloc ?_ _ | refine b_drewN ?_ _ | refine Below.drew ?_ | refine b_set ?_ (by first | exact Nat.le_refl _ | (simp; done) | (simp; omega) | omega) _))).mono ?_); rintro e w7 ⟨rfl, hb7⟩; obtain ⟨hc7, hf7⟩ := bcell hb7; have hs7 := hb7.size; (try simp at hs7))
    | (go_at_call 28; (with_reducible refine (j_join 12 (m := n' + 1 + m + p + 1) (ts := [a, b, e]) (t := a ++ b ++ e ++ [nd0 12]) _ ?_ (by simp) (by simp [HX.out, HY.out, HZ.out]; omega) (by simp [HX.out, HY.out, HZ.out]; omega)).mono ?_); (· exact tl_three hnc hmd hpq (hx.below (by repeat (first | exact Below.refl _ _ | assumption | refine b_then ?_ (by assumption) | refine b_alloc ?_ _ | refine b_drewN ?_ _ | refine Below.drew ?_ | refine b_set ?_ (by first | exact Nat.le_refl _ | (simp; done) | (simp; omega) | omega) _))) (hy.below (by repeat (first | exact Below.refl _ _ | assumption | refine b_then ?_ (by assumption) | refine b_alloc ?_ _ | refine b_drewN ?_ _ | refine Below.drew ?_ | refine b_set ?_ (by first | exact Nat.le_refl _ | (simp; done) | (simp; omega) | omega) _))) (hz.below (by repeat (first | exact Below.refl _ _ | assumption | refine b_then ?_ (by assumption) | refine b_alloc ?_ _ | refine b_drewN ?_ _ | refine Below.drew ?_ | refine b_set ?_ (by first | exact Nat.le_refl _ | (simp; done) | (simp; omega) | omega) _))) (by first | rfl | simp)); rintro e w8 ⟨J, jk, rfl, ⟨hjk, R8⟩, hb8⟩; (have hB8 : Below w.heap.size w w8 := (by repeat (first | exact Below.refl _ _ | assumption | refine b_then ?_ (by assumption) | refine b_alloc ?_ _ | refine b_drewN ?_ _ | refine Below.drew ?_ | refine b_set ?_ (by first | exact Nat.le_refl _ | (simp; done) | (simp; omega) | omega) _))); (have HR8 := Lib.hid R8); clear R8)
    | (go_at_call 23; (with_reducible refine (p_args w8 HR8.out hjk).mono ?_); rintro e w9 ⟨P, pm, pk, rfl, hpm, T9, hb9⟩; rw [HT.out] at T9; (have hpm3 : pm = 3 := T9.len.symm); subst hpm3; (have HT9 := Lib.hid T9); (have hB9 : Below w.heap.size w w9 := b_then hB8 hb9); clear T9)
    | (go_at_call 23; (with_reducible refine (hA1 w9 hB9).mono ?_); rintro e w10 ⟨G, gm, gk, rfl, hgm, T10, hb10⟩; (have hgL : gm = L := by rw [← HLL.out]; exact T10.len.symm); subst hgL; (have HT10 := Lib.hid T10); (have hB10 : Below w.heap.size w w10 := b_then hB9 hb10); clear T10))
  have HB10 := Lib.hid hB10
  have hB1010 : Below w10.heap.size w10 w10 := Below.refl _ _
  have hsum : tlen l ≤ 200 := by show l.flatten.length ≤ 200; rw [HTE.out, HN.out]; omega
  have HT9' := Lib.hid (HT9.out.below hb10)
  have HR10 := Lib.hid (HR8.out.below (b_then hb9 hb10))
  have HT0 : Hid (tlen (l.take 0) = 0) := rfl
  have hgmb := HT10.out.big
  have hml : ∀ (k : Nat), tlen (l.take k) ≤ 200 := fun k => Nat.le_trans (flat_le k) hsum
  clear hb1 hc1 hf1 hs1 hb2 hc2 hf2 hs2 hb3 hc3 hf3 hs3 hb4 hc4 hf4 hs4 hb5 hc5 hf5 hs5 hb6 hc6 hf6 hs6 hb7 hc7 hf7 hs7 hb8 hb9 hb10 hB8 hB9 hB10 HT9 HR8 hA1 hS1 hS2 hS3 hT1 hT2 hT3 hFx
  go_loopw [10, 11] (fun sv iv wr => ∃ (k z : Nat), k ≤ gm ∧ iv = .int .i64 k ∧ sv = .int .i64 z ∧ z ≤ 200 ∧ Hid (tlen (l.take k) = z) ∧ Below w10.heap.size w10 wr) (fun _ iv _ => gm - (intOf iv).toNat)
  case atStart => exact ⟨0, 0, Nat.zero_le _, by go_num, by go_num, Nat.zero_le _, HT0, hB1010⟩
  case round =>
    clear HT0 hB1010
    obtain ⟨k, z, hk, rfl, rfl, hz200, HSM, hB⟩ := hrel
    by_cases hlt : k < gm
    · obtain ⟨ad, D, mm, cc, t0, rfl, ht0, hmc, hR, hl⟩ := tl_in HT10.out hB hlt
      have y0 := hl wr (Below.refl _ _)
      have hst := tlen_step ht0
      rw [HSM.out, hR.len] at hst
      have hle := hml (k + 1)
      rw [hst] at hle
      have HST := Lib.hid hst
      clear hl ht0 hR hst
      go_wp2
      go_roundw
      case rel => exact ⟨k + 1, z + mm, by omega, by go_num, by go_num, hle, HST, hB⟩
      case measure => simp [intOf]; omega
    · obtain rfl : k = gm := by omega
      have hz2 : z = n' := by rw [← HSM.out, ← HLL.out, List.take_length]; show l.flatten.length = n'; rw [HTE.out, HN.out]
      subst hz2
      have hwB : Below w.heap.size w wr := b_then HB10.out hB
      obtain ⟨ad, a0, a1, a2, a3, a4, a5, rfl, hxk, hl⟩ := nd_in hx hwB (show z < z + 1 by omega)
      have hnd : nd = ⟨a0, ⟨a1, a2⟩, a3, a4, a5⟩ := by have := HLA.out; rw [hxk] at this; injection this with this; exact this.symm
      have har : (k : Int) = arity a0 := by have := HAR.out; rw [HLL.out, hnd] at this; exact this
      have hAr := fun W => p_arity a0 W
      rw [← har] at hAr
      have hD4 := fun W (h : Below wr.heap.size wr W) => p_depth (c := jk) W (HR10.out.below (b_then hB h))
      rw [HDT.out, HX1.out, HX2.out, HX3.out] at hD4
      have hmx : max (max x1 x2) (max x3 0) = max (max x1 x2) x3 := by omega
      rw [hmx] at hD4
      obtain ⟨X, hX⟩ : ∃ X, max (max x1 x2) x3 = X := ⟨_, rfl⟩
      rw [hX] at hD4
      have HXM := Lib.hid hX
      have HL := Lib.hid hl
      clear hxk hnd har hmx hml hl hX
      go_wp2_with (first
        | (go_at_call 20; (with_reducible refine (hD1 wr hwB).mono ?_); rintro e w11 ⟨rfl, hb11⟩; obtain ⟨hc11, hf11⟩ := bcell hb11; have hs11 := hb11.size; (try simp at hs11))
        | (go_at_call 20; (with_reducible refine (hD2 w11 (by repeat (first | exact Below.refl _ _ | assumption | refine b_then ?_ (by assumption) | refine b_alloc ?_ _ | refine b_drewN ?_ _ | refine Below.drew ?_ | refine b_set ?_ (by first | exact Nat.le_refl _ | (simp; done) | (simp; omega) | omega) _))).mono ?_); rintro e w12 ⟨rfl, hb12⟩; obtain ⟨hc12, hf12⟩ := bcell hb12; have hs12 := hb12.size; (try simp at hs12))
        | (go_at_call 20; (with_reducible refine (hD3 w12 (by repeat (first | exact Below.refl _ _ | assumption | refine b_then ?_ (by assumption) | refine b_alloc ?_ _ | refine b_drewN ?_ _ | refine Below.drew ?_ | refine b_set ?_ (by first | exact Nat.le_refl _ | (simp; done) | (simp; omega) | omega) _))).mono ?_); rintro e w13 ⟨rfl, hb13⟩; obtain ⟨hc13, hf13⟩ := bcell hb13; have hs13 := hb13.size; (try simp at hs13))
        | (go_at_call 22; (with_reducible refine (r10_all (c := pk) (d := 3) _ (HT9'.out.below (by repeat (first | exact Below.refl _ _ | assumption | refine b_then ?_ (by assumption) | refine b_alloc ?_ _ | refine b_drewN ?_ _ | refine Below.drew ?_ | refine b_set ?_ (by first | exact Nat.le_refl _ | (simp; done) | (simp; omega) | omega) _))) (tl_three hnc hmd hpq (hx.below (by repeat (first | exact Below.refl _ _ | assumption | refine b_then ?_ (by assumption) | refine b_alloc ?_ _ | refine b_drewN ?_ _ | refine Below.drew ?_ | refine b_set ?_ (by first | exact Nat.le_refl _ | (simp; done) | (simp; omega) | omega) _))) (hy.below (by repeat (first | exact Below.refl _ _ | assumption | refine b_then ?_ (by assumption) | refine b_alloc ?_ _ | refine b_drewN ?_ _ | refine Below.drew ?_ | refine b_set ?_ (by first | exact Nat.le_refl _ | (simp; done) | (simp; omega) | omega) _))) (hz.below (by repeat (first | exact Below.refl _ _ | assumption | refine b_then ?_ (by assumption) | refine b_alloc ?_ _ | refine b_drewN ?_ _ | refine Below.drew ?_ | refine b_set ?_ (by first | exact Nat.le_refl _ | (simp; done) | (simp; omega) | omega) _))) ?_)).mono ?_); (· first | rfl | simp); rintro e w14 ⟨rfl, hb14⟩)
        | (go_at_call 20; (with_reducible refine (hD4 w14 (by repeat (first | exact Below.refl _ _ | assumption | refine b_then ?_ (by assumption) | refine b_alloc ?_ _ | refine b_drewN ?_ _ | refine Below.drew ?_ | refine b_set ?_ (by first | exact Nat.le_refl _ | (simp; done) | (simp; omega) | omega) _))).mono ?_); rintro e w15 ⟨rfl, hb15⟩; (obtain ⟨y0, _⟩ := HL.out w15 (by repeat (first | exact Below.refl _ _ | assumption | refine b_then ?_ (by assumption) | refine b_alloc ?_ _ | refine b_drewN ?_ _ | refine Below.drew ?_ | refine b_set ?_ (by first | exact Nat.le_refl _ | (simp; done) | (simp; omega) | omega) _))))
        | (go_at_call 25; (with_reducible refine (hAr _).mono ?_); rintro e w' ⟨rfl, rfl⟩)
        | (go_at_call 28; (with_reducible refine (j_join 6 (m := z + 1 + m + 1) (ts := [a, b]) (t := a ++ b ++ [nd0 6]) _ ?_ (by simp) (by simp [HX.out, HY.out]; omega) (by simp [HX.out, HY.out]; omega)).mono ?_); (· exact tl_two hnc hmd (hx.below (by repeat (first | exact Below.refl _ _ | assumption | refine b_then ?_ (by assumption) | refine b_alloc ?_ _ | refine b_drewN ?_ _ | refine Below.drew ?_ | refine b_set ?_ (by first | exact Nat.le_refl _ | (simp; done) | (simp; omega) | omega) _))) (hy.below (by repeat (first | exact Below.refl _ _ | assumption | refine b_then ?_ (by assumption) | refine b_alloc ?_ _ | refine b_drewN ?_ _ | refine Below.drew ?_ | refine b_set ?_ (by first | exact Nat.le_refl _ | (simp; done) | (simp; omega) | omega) _))) (by first | rfl | simp)); rintro e w16 ⟨J2, jk2, rfl, ⟨hjk2, R16⟩, hb16⟩; clear R16)
        | (go_at_call 31; (with_reducible refine (r8_ints (xs := [(z : Int) + 1 + (m : Int) + 1]) (ys := [(z : Int) + 1 + (m : Int) + 1]) _ ?_ ?_).mono ?_); (· exact (Rd.made jCs_length w16 3 [(z : Int) + 1 + (m : Int) + 1] (by simp) rfl rfl rfl).below (b_alloc (Below.refl _ _) _)); (· exact Rd.made jCs_length _ 3 [(z : Int) + 1 + (m : Int) + 1] (by simp) rfl (by simp) rfl); rintro e w17 ⟨rfl, hb17⟩))
      all_goals (first
        | (exfalso; have := HXM.out; omega)
        | (go_ret; exact ⟨rfl, b_then hwB (by repeat (first | exact Below.refl _ _ | assumption | refine b_then ?_ (by assumption) | refine b_alloc ?_ _ | refine b_drewN ?_ _ | refine Below.drew ?_ | refine b_set ?_ (by first | exact Nat.le_refl _ | (simp; done) | (simp; omega) | omega) _))⟩)
        | (go_ret; exact ⟨ret_bool (by simp), b_then hwB (by repeat (first | exact Below.refl _ _ | assumption | refine b_then ?_ (by assumption) | refine b_alloc ?_ _ | refine b_drewN ?_ _ | refine Below.drew ?_ | refine b_set ?_ (by first | exact Nat.le_refl _ | (simp; done) | (simp; omega) | omega) _))⟩))
end Go.Proofs.YtjdofncognaaoaaGreatDoor
