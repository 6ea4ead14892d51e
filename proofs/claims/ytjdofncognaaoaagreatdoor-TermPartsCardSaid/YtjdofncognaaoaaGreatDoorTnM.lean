/- TermTells: the walk (given the fixed calls). -/
import Derived.Test.YtjdofncognaaoaaGreatDoorTnF
namespace Go.Proofs.YtjdofncognaaoaaGreatDoor
open Go.RowKit
set_option linter.unusedVariables false
set_option linter.unusedSimpArgs false

theorem tsmall_n {t : List Nd} (h : tsmall t = true) : t.length ≤ 200 := by
  unfold tsmall at h
  rw [Bool.and_eq_true] at h
  exact of_decide_eq_true h.2
theorem tsmall_nq {t : List Nd} (h : tsmall t = true) : ∀ x ∈ t, nq x := by
  unfold tsmall at h
  rw [Bool.and_eq_true, List.all_eq_true] at h
  intro x hx
  have h1 := h.1 x hx
  unfold nsm at h1
  rw [Bool.and_eq_true, Bool.and_eq_true] at h1
  have a := of_decide_eq_true h1.1.1
  have b := of_decide_eq_true h1.1.2
  have c := of_decide_eq_true h1.2
  exact ⟨by omega, by omega, by omega⟩
theorem jr_join (op : Int) {A : Option Addr} {n c : Nat} {ts : List (List Nd)} {t : List Nd} {m : Nat} (w : World) (hx : TL w A n ts) (ht : ts.flatten ++ [nd0 op] = t) (hm : t.length = m) (hs : ts.flatten.length ≤ 1000000) :
    Calls Tryz.prog 29 #[.int .i64 op, .slice A n c] w fun e w' => ∃ B k, e = .returned (.slice B m k) ∧ (m ≤ k ∧ Rd Nd.cs 6 w' B m t) ∧ Below w.heap.size w w' :=
  (r10_join op (c := c) w hx hs).mono fun e w' ⟨v, h1, h2, h3⟩ => by
    rw [ht] at h2
    obtain ⟨B, k, hv, hr⟩ := h2.rd Nd.cs_length
    subst hv
    rw [hm] at h1 h2 hr
    exact ⟨B, k, h1, ⟨h2.shape.2.1, hr⟩, h3⟩
set_option maxRecDepth 100000 in
set_option maxHeartbeats 16000000 in
theorem l_ttells (HF : Fixed10Ok) {A : Option Addr} {n c : Nat} {t : List Nd} (op : Int) (w : World) (hg : Glob w) (hnc : n ≤ c) (hx : Rd Nd.cs 6 w A n t) (hz : ∀ x ∈ t, ndok x) :
    Calls Tryz.prog 3 #[.slice A n c, .int .i64 op] w fun e w' => e = .returned (.bool true) ∧ Below w.heap.size w w' := by
  have hFx : ∀ W : World, Glob W → Calls Tryz.prog 15 #[] W fun e w' => e = .returned (.bool true) ∧ Below W.heap.size W w' := HF
  clear HF
  have hS := r10_small (c := c) w hx hz
  cases hs : tsmall t with
  | false =>
    rw [hs] at hS
    go_enter Tryz.func3, Tryz.ntmps3
    go_wp2_with (first
      | (go_at_call 14; (with_reducible refine (hS).mono ?_); rintro e w1 ⟨rfl, hb1⟩; obtain ⟨hc1, hf1⟩ := bcell hb1; have hs1 := hb1.size; (try simp at hs1))
      | (go_at_call 15; (with_reducible refine (hFx w1 (hg.below hb1)).mono ?_); rintro e w2 ⟨rfl, hb2⟩; obtain ⟨hc2, hf2⟩ := bcell hb2; have hs2 := hb2.size; (try simp at hs2)))
    go_ret
    exact ⟨rfl, b_then hb1 hb2⟩
  | true =>
    rw [hs] at hS
    have hq := tsmall_nq hs
    have hn : n ≤ 200 := by rw [← hx.len]; exact tsmall_n hs
    have hbig := hx.big
    have HL := Lib.hid hx.len
    have hC := fun W (h : Below w.heap.size w W) => p_tcheck (c := c) W (hg.below h) (hx.below h) hq
    have hC2 := fun W (h : Below w.heap.size w W) => r10_check (c := c) W (hx.below h) hq
    have hP := fun W (h : Below w.heap.size w W) => p_print (c := c) W (hg.below h) (hx.below h) hq
    have hP2 := fun W (h : Below w.heap.size w W) => r10_print (c := c) W (hx.below h) hq
    have hD := fun W (h : Below w.heap.size w W) => p_depth (c := c) W (hx.below h)
    have hD2 := fun W (h : Below w.heap.size w W) => r10_depth (c := c) W (hx.below h)
    have hA := fun W (h : Below w.heap.size w W) => p_args (c := c) W (hx.below h) hnc
    have hA2 := fun W (h : Below w.heap.size w W) => r10_args (c := c) W (hx.below h) hnc
    have hR := fun W => p_arity op W
    have hR2 := fun W => r10_arity op W
    obtain ⟨S, hSS⟩ : ∃ S, tpr t = S := ⟨_, rfl⟩
    obtain ⟨K, hKK⟩ : ∃ K, tchk t = K := ⟨_, rfl⟩
    obtain ⟨D, hDD⟩ : ∃ D, tdeep t = D := ⟨_, rfl⟩
    obtain ⟨R, hRR⟩ : ∃ R, arity op = R := ⟨_, rfl⟩
    rw [hSS] at hP hP2
    rw [hKK] at hC hC2
    rw [hDD] at hD hD2
    rw [hRR] at hR hR2
    clear hs hSS hKK hDD hRR hz hq
    go_enter Tryz.func3, Tryz.ntmps3
    go_wp2_with (first
      | (go_at_call 14; (with_reducible refine (hS).mono ?_); rintro e w1 ⟨rfl, hb1⟩; obtain ⟨hc1, hf1⟩ := bcell hb1; have hs1 := hb1.size; (try simp at hs1))
      | (go_at_call 15; (with_reducible refine (hFx w1 (hg.below hb1)).mono ?_); rintro e w2 ⟨rfl, hb2⟩; obtain ⟨hc2, hf2⟩ := bcell hb2; have hs2 := hb2.size; (try simp at hs2))
      | (go_at_call 16; (with_reducible refine (hC w2 (b_then hb1 hb2)).mono ?_); rintro e w3 ⟨rfl, hb3⟩; obtain ⟨hc3, hf3⟩ := bcell hb3; have hs3 := hb3.size; (try simp at hs3))
      | (go_at_call 17; (with_reducible refine (hC2 w3 (by repeat (first | exact Below.refl _ _ | assumption | refine b_then ?_ (by assumption) | refine b_alloc ?_ _ | refine b_drewN ?_ _ | refine Below.drew ?_ | refine b_set ?_ (by first | exact Nat.le_refl _ | (simp; done) | (simp; omega) | omega) _))).mono ?_); rintro e w4 ⟨rfl, hb4⟩; obtain ⟨hc4, hf4⟩ := bcell hb4; have hs4 := hb4.size; (try simp at hs4))
      | (go_at_call 18; (with_reducible refine (hP w4 (by repeat (first | exact Below.refl _ _ | assumption | refine b_then ?_ (by assumption) | refine b_alloc ?_ _ | refine b_drewN ?_ _ | refine Below.drew ?_ | refine b_set ?_ (by first | exact Nat.le_refl _ | (simp; done) | (simp; omega) | omega) _))).mono ?_); rintro e w5 ⟨rfl, hb5⟩; obtain ⟨hc5, hf5⟩ := bcell hb5; have hs5 := hb5.size; (try simp at hs5))
      | (go_at_call 19; (with_reducible refine (hP2 w5 (by repeat (first | exact Below.refl _ _ | assumption | refine b_then ?_ (by assumption) | refine b_alloc ?_ _ | refine b_drewN ?_ _ | refine Below.drew ?_ | refine b_set ?_ (by first | exact Nat.le_refl _ | (simp; done) | (simp; omega) | omega) _))).mono ?_); rintro e w6 ⟨rfl, hb6⟩; obtain ⟨hc6, hf6⟩ := bcell hb6; have hs6 := hb6.size; (try simp at hs6))
      | (go_at_call 20; (with_reducible refine (hD w6 (by repeat (first | exact Below.refl _ _ | assumption | refine b_then ?_ (by assumption) | refine b_alloc ?_ _ | refine b_drewN ?_ _ | refine Below.drew ?_ | refine b_set ?_ (by first | exact Nat.le_refl _ | (simp; done) | (simp; omega) | omega) _))).mono ?_); rintro e w7 ⟨rfl, hb7⟩; obtain ⟨hc7, hf7⟩ := bcell hb7; have hs7 := hb7.size; (try simp at hs7))
      | (go_at_call 21; (with_reducible refine (hD2 w7 (by repeat (first | exact Below.refl _ _ | assumption | refine b_then ?_ (by assumption) | refine b_alloc ?_ _ | refine b_drewN ?_ _ | refine Below.drew ?_ | refine b_set ?_ (by first | exact Nat.le_refl _ | (simp; done) | (simp; omega) | omega) _))).mono ?_); rintro e w8 ⟨rfl, hb8⟩; obtain ⟨hc8, hf8⟩ := bcell hb8; have hs8 := hb8.size; (try simp at hs8))
      | (go_at_call 23; (with_reducible refine (hA w8 (by repeat (first | exact Below.refl _ _ | assumption | refine b_then ?_ (by assumption) | refine b_alloc ?_ _ | refine b_drewN ?_ _ | refine Below.drew ?_ | refine b_set ?_ (by first | exact Nat.le_refl _ | (simp; done) | (simp; omega) | omega) _))).mono ?_); rintro e w9 ⟨B9, m9, k9, rfl, hm9, T9, hb9⟩; (have HT9 := Lib.hid T9); clear T9)
      | (go_at_call 24; (with_reducible refine (hA2 w9 (by repeat (first | exact Below.refl _ _ | assumption | refine b_then ?_ (by assumption) | refine b_alloc ?_ _ | refine b_drewN ?_ _ | refine Below.drew ?_ | refine b_set ?_ (by first | exact Nat.le_refl _ | (simp; done) | (simp; omega) | omega) _))).mono ?_); rintro e w10 ⟨B10, m10, k10, rfl, hm10, T10, hb10⟩; (have HT10 := Lib.hid T10); clear T10)
      | (go_at_call 22; (with_reducible refine (r10_all w10 (HT9.out.below hb10) HT10.out).mono ?_); rintro e w11 ⟨rfl, hb11⟩; (have hbw11 : Below w.heap.size w w11 := (by repeat (first | exact Below.refl _ _ | assumption | refine b_then ?_ (by assumption) | refine b_alloc ?_ _ | refine b_drewN ?_ _ | refine Below.drew ?_ | refine b_set ?_ (by first | exact Nat.le_refl _ | (simp; done) | (simp; omega) | omega) _))); (obtain ⟨hc11, hf11⟩ := bcell hb11); (have hs11 := hb11.size))
      | (go_at_call 25; (with_reducible refine (hR w11).mono ?_); rintro e w' ⟨rfl, rfl⟩)
      | (go_at_call 26; (with_reducible refine (hR2 w11).mono ?_); rintro e w12 ⟨rfl, hb12⟩; obtain ⟨hc12, hf12⟩ := bcell hb12; have hs12 := hb12.size; (try simp at hs12))
      | (go_at_call 28; (with_reducible refine (j_join op (m := n + n + 1) (ts := [t, t]) (t := t ++ t ++ [nd0 op]) _ ?_ (by simp) (by simp [HL.out]; omega) (by simp [HL.out]; omega)).mono ?_); (· exact tl_two hnc hnc (hx.below (b_then hbw11 hb12)) (hx.below (b_then hbw11 hb12)) (by first | rfl | simp)); rintro e w13 ⟨B13, k13, rfl, ⟨hk13, R13⟩, hb13⟩; (have HR13 := Lib.hid R13); (have hbw13 : Below w.heap.size w w13 := b_then (b_alloc (b_then hbw11 hb12) _) hb13); clear R13)
      | (go_at_call 29; (with_reducible refine (jr_join op (m := n + n + 1) (ts := [t, t]) (t := t ++ t ++ [nd0 op]) _ ?_ (by simp) (by simp [HL.out]; omega) (by simp [HL.out]; omega)).mono ?_); (· exact tl_two hnc hnc (hx.below hbw13) (hx.below hbw13) (by first | rfl | simp)); rintro e w14 ⟨B14, k14, rfl, ⟨hk14, R14⟩, hb14⟩; (have HR14 := Lib.hid R14); (have hbw14 : Below w13.heap.size w13 w14 := b_then (b_alloc (Below.refl _ _) _) hb14); clear R14)
      | (go_at_call 27; (with_reducible refine (r10_same w14 (HR13.out.below hbw14) HR14.out).mono ?_); rintro e w15 ⟨rfl, hb15⟩))
    go_ret
    exact ⟨ret_bool (by simp), b_then (b_then hbw13 hbw14) hb15⟩
end Go.Proofs.YtjdofncognaaoaaGreatDoor
