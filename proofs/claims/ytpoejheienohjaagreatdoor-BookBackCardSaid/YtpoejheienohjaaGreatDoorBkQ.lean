/- BookBack: the walk (given the fixed calls). -/
import Derived.Test.YtpoejheienohjaaGreatDoorBkP
import Derived.Test.YtpoejheienohjaaGreatDoorGhost
namespace Go.Proofs.YtpoejheienohjaaGreatDoor
open Go.RowKit
set_option linter.unusedVariables false
set_option linter.unusedSimpArgs false

theorem ltwo_at {a b c : Ln} {i : Nat} (h : [a, b][i]? = some c) : (i = 0 ∧ a = c) ∨ (i = 1 ∧ b = c) := by
  match i with
  | 0 => exact .inl ⟨rfl, by simpa using h⟩
  | 1 => exact .inr ⟨rfl, by simpa using h⟩
  | i + 2 => simp at h
theorem ln_two (w : World) (f g : Ln) : Rd Ln.cs 4 (w.alloc (.cells (Ln.cs f ++ Ln.cs g).toArray 43)) (some ⟨w.heap.size, 0, none⟩) 2 [f, g] :=
  ⟨rfl, by omega, fun _ => ⟨_, rfl, by simp, fun j x hj i u hu => by
    rw [add_lit4]
    refine (Blk.cell (Blk.new w _ _) _).trans ?_
    rcases ltwo_at hj with ⟨rfl, rfl⟩ | ⟨rfl, rfl⟩
    · have hi : i < 4 := (List.getElem?_eq_some_iff.1 hu).1
      rw [Nat.zero_mul, Nat.zero_add]
      simpa [List.getElem?_append_left (show i < (Ln.cs f).length from hi)] using hu
    · have : (Ln.cs f ++ Ln.cs g)[4 + i]? = (Ln.cs g)[i]? := by
        rw [List.getElem?_append_right (show (Ln.cs f).length ≤ 4 + i by show 4 ≤ _; omega)]
        congr 1
        show 4 + i - 4 = i
        omega
      simpa [this] using hu⟩⟩
theorem sumI_all {hs : List Ln} (h : ∀ f ∈ hs, rmay f.q = true ∧ lnS f) : ∀ k, k ≤ hs.length → ∃ z, sumI hs k z
  | 0, _ => ⟨0, sumI_zero hs⟩
  | k + 1, hk => by
    obtain ⟨z, hz⟩ := sumI_all h k (by omega)
    have hx : hs[k]? = some hs[k] := List.getElem?_eq_getElem (by omega)
    obtain ⟨hm, hS⟩ := h _ (List.mem_of_getElem? hx)
    obtain ⟨q, hq, hqd, hqs⟩ := ln_rat hm hS
    exact ⟨z + q, sumI_step hz hx hqd hqs⟩
theorem dtot_small {xs : List Ln} {a : ByteArray} (hm : bmay xs = true) (hz : ∀ f ∈ xs, lnS f) (hl : xs.length ≤ 40) : rsmall 400000000 (dtot xs a) := by
  obtain ⟨z, hz1, hz2⟩ := sumI_all (hold_mem (a := a) hm hz) _ (Nat.le_refl _)
  have hlen := hold_len xs a
  rw [List.take_length] at hz1
  rw [show dtot xs a = z by rw [hz1, bholders_yes hm]; rfl]
  exact rsmall_mono hz2 (by omega)
set_option maxRecDepth 100000 in
set_option maxHeartbeats 4000000 in
theorem l_back (HF : Fixed6Ok) {A : Option Addr} {n c : Nat} {xs : List Ln} (a0 a1 a2 a3 b0 b1 b2 b3 : ByteArray) (w : World) (hg : Glob w) (hx : Rd Ln.cs 4 w A n xs) (hz : ∀ f ∈ xs, lnok f) (hf : lnok ⟨a0, a1, ⟨a2, a3⟩⟩) (hf2 : lnok ⟨b0, b1, ⟨b2, b3⟩⟩) :
    Calls Tryz.prog 8 #[.slice A n c, .agg #[.string a0, .string a1, .string a2, .string a3], .agg #[.string b0, .string b1, .string b2, .string b3]] w fun e w' => e = .returned (.bool true) ∧ Below w.heap.size w w' := by
  have hxl := hx.len
  have hB0 : Below w.heap.size w ((w.alloc (.cells #[.string a0, .string a1, .string a2, .string a3] 43)).alloc (.cells #[.string b0, .string b1, .string b2, .string b3] 43)) := b_alloc (b_alloc (Below.refl _ _) _) _
  have bx0 : Blk ((w.alloc (.cells #[.string a0, .string a1, .string a2, .string a3] 43)).alloc (.cells #[.string b0, .string b1, .string b2, .string b3] 43)) w.heap.size 43 #[.string a0, .string a1, .string a2, .string a3] := (Blk.new w _ _).alloc _
  have by0 : Blk ((w.alloc (.cells #[.string a0, .string a1, .string a2, .string a3] 43)).alloc (.cells #[.string b0, .string b1, .string b2, .string b3] 43)) (w.heap.size + 1) 43 #[.string b0, .string b1, .string b2, .string b3] := by
    have := Blk.new (w.alloc (.cells #[.string a0, .string a1, .string a2, .string a3] 43)) 43 #[.string b0, .string b1, .string b2, .string b3]
    rwa [World.size_alloc] at this
  have HFX := Lib.hid HF
  clear HF
  have hS : ∀ W, Below w.heap.size w W → Calls Tryz.prog 28 #[.slice A n c] W fun e w' => e = .returned (.bool (lsmall xs)) ∧ Below W.heap.size W w' := fun W hW => r6_small (c := c) W (hx.below hW) hz
  have hS2 : ∀ W : World, Calls Tryz.prog 28 #[.slice (some ⟨W.heap.size, 0, none⟩) 2 2] (W.alloc (.cells #[.string a0, .string a1, .string a2, .string a3, .string b0, .string b1, .string b2, .string b3] 43)) fun e w' => e = .returned (.bool (lsmall [⟨a0, a1, ⟨a2, a3⟩⟩, ⟨b0, b1, ⟨b2, b3⟩⟩])) ∧ Below (W.alloc (.cells #[.string a0, .string a1, .string a2, .string a3, .string b0, .string b1, .string b2, .string b3] 43)).heap.size (W.alloc (.cells #[.string a0, .string a1, .string a2, .string a3, .string b0, .string b1, .string b2, .string b3] 43)) w' :=
    fun W => r6_small (c := 2) _ (ln_two W ⟨a0, a1, ⟨a2, a3⟩⟩ ⟨b0, b1, ⟨b2, b3⟩⟩) (fun f h => by
      rcases List.mem_cons.1 h with rfl | h
      · exact hf
      · rw [List.mem_singleton.1 h]; exact hf2)
  cases c1 : lsmall xs with
  | false =>
    rw [c1] at hS
    have KS := Lib.hid hS
    clear hS hS2 hz hf hf2
    go_enter Tryz.func8, Tryz.ntmps8
    go_wp2_with (first
      | (go_at_call 29; (with_reducible refine (HFX.out _ (hg.below hB0)).mono ?_); rintro e w1 ⟨rfl, hb1⟩; have hB1 := b_then hB0 hb1; have bx1 := bx0.below hb1; have by1 := by0.below hb1; obtain ⟨x10, x11, x12, x13⟩ := bx1.four; obtain ⟨y10, y11, y12, y13⟩ := by1.four; have q1 := bx1.lt; have r1 := by1.lt)
      | (go_at_call 28; (with_reducible refine (KS.out w1 hB1).mono ?_); rintro e w2 ⟨rfl, hb2⟩; have hB2 := b_then hB1 hb2; have bx2 := bx1.below hb2; have by2 := by1.below hb2; obtain ⟨x20, x21, x22, x23⟩ := bx2.four; obtain ⟨y20, y21, y22, y23⟩ := by2.four; have q2 := bx2.lt; have r2 := by2.lt; have hB2a := b_alloc hB2 (.cells #[.string a0, .string a1, .string a2, .string a3, .string b0, .string b1, .string b2, .string b3] 43); have bx2a := bx2.alloc (.cells #[.string a0, .string a1, .string a2, .string a3, .string b0, .string b1, .string b2, .string b3] 43); have by2a := by2.alloc (.cells #[.string a0, .string a1, .string a2, .string a3, .string b0, .string b1, .string b2, .string b3] 43))
      | (go_at_call 29; (with_reducible refine (HFX.out w2 (hg.below hB2)).mono ?_); rintro e w9 ⟨rfl, hb9⟩; obtain ⟨hc9, hf9⟩ := bcell hb9; have hs9 := hb9.size; (try simp at hs9)))
    go_ret
    exact ⟨rfl, b_then hB2 hb9⟩
  | true =>
  rw [c1] at hS
  obtain ⟨hzB, hn40⟩ := lsmall_B c1
  have hzq : ∀ f ∈ xs, lnq f := fun f h => lnB_q (hzB f h) (by omega)
  cases c2 : lsmall [⟨a0, a1, ⟨a2, a3⟩⟩, ⟨b0, b1, ⟨b2, b3⟩⟩] with
  | false =>
    rw [c2] at hS2
    have KS := Lib.hid hS
    have KS2 := Lib.hid hS2
    clear hS hS2 hz hf hf2 hzB hzq
    go_enter Tryz.func8, Tryz.ntmps8
    go_wp2_with (first
      | (go_at_call 29; (with_reducible refine (HFX.out _ (hg.below hB0)).mono ?_); rintro e w1 ⟨rfl, hb1⟩; have hB1 := b_then hB0 hb1; have bx1 := bx0.below hb1; have by1 := by0.below hb1; obtain ⟨x10, x11, x12, x13⟩ := bx1.four; obtain ⟨y10, y11, y12, y13⟩ := by1.four; have q1 := bx1.lt; have r1 := by1.lt)
      | (go_at_call 28; (with_reducible refine (KS.out w1 hB1).mono ?_); rintro e w2 ⟨rfl, hb2⟩; have hB2 := b_then hB1 hb2; have bx2 := bx1.below hb2; have by2 := by1.below hb2; obtain ⟨x20, x21, x22, x23⟩ := bx2.four; obtain ⟨y20, y21, y22, y23⟩ := by2.four; have q2 := bx2.lt; have r2 := by2.lt; have hB2a := b_alloc hB2 (.cells #[.string a0, .string a1, .string a2, .string a3, .string b0, .string b1, .string b2, .string b3] 43); have bx2a := bx2.alloc (.cells #[.string a0, .string a1, .string a2, .string a3, .string b0, .string b1, .string b2, .string b3] 43); have by2a := by2.alloc (.cells #[.string a0, .string a1, .string a2, .string a3, .string b0, .string b1, .string b2, .string b3] 43))
      | (go_at_call 28; (with_reducible refine (KS2.out w2).mono ?_); rintro e w3 ⟨rfl, hb3⟩; have hB3 := b_then hB2a hb3; have bx3 := bx2a.below hb3; have by3 := by2a.below hb3; obtain ⟨x30, x31, x32, x33⟩ := bx3.four; obtain ⟨y30, y31, y32, y33⟩ := by3.four; have q3 := bx3.lt; have r3 := by3.lt)
      | (go_at_call 29; (with_reducible refine (HFX.out w3 (hg.below hB3)).mono ?_); rintro e w9 ⟨rfl, hb9⟩; obtain ⟨hc9, hf9⟩ := bcell hb9; have hs9 := hb9.size; (try simp at hs9)))
    go_ret
    exact ⟨rfl, b_then hB3 hb9⟩
  | true =>
  rw [c2] at hS2
  have hfB : lnB 100 ⟨a0, a1, ⟨a2, a3⟩⟩ := (lsmall_B c2).1 _ (by simp)
  have hgB : lnB 100 ⟨b0, b1, ⟨b2, b3⟩⟩ := (lsmall_B c2).1 _ (by simp)
  obtain ⟨f0, f1, f2, f3⟩ := id hfB
  obtain ⟨g0, g1, g2, g3⟩ := id hgB
  dsimp only at f0 f1 f2 f3 g0 g1 g2 g3
  have hM : ∀ W, Below w.heap.size w W → Calls Tryz.prog 34 #[.slice A n c] W fun e w' => e = .returned (.bool (bmay xs)) ∧ Below W.heap.size W w' := fun W hW => r6_may (c := c) W (hx.below hW) hzq
  have hL := fun W => r6_line a0 a1 a2 a3 W hf.1 hf.2.1 (by omega) (by omega)
  have hL2 := fun W => r6_line b0 b1 b2 b3 W hf2.1 hf2.2.1 (by omega) (by omega)
  have KS := Lib.hid hS
  have KS2 := Lib.hid hS2
  clear hS hS2 hz hf hf2
  cases c3 : bmay xs with
  | false =>
    rw [c3] at hM
    have KM := Lib.hid hM
    clear hM hL hL2 hzB hzq f0 f1 f2 f3 g0 g1 g2 g3 hfB hgB
    go_enter Tryz.func8, Tryz.ntmps8
    go_wp2_with (first
      | (go_at_call 29; (with_reducible refine (HFX.out _ (hg.below hB0)).mono ?_); rintro e w1 ⟨rfl, hb1⟩; have hB1 := b_then hB0 hb1; have bx1 := bx0.below hb1; have by1 := by0.below hb1; obtain ⟨x10, x11, x12, x13⟩ := bx1.four; obtain ⟨y10, y11, y12, y13⟩ := by1.four; have q1 := bx1.lt; have r1 := by1.lt)
      | (go_at_call 28; (with_reducible refine (KS.out w1 hB1).mono ?_); rintro e w2 ⟨rfl, hb2⟩; have hB2 := b_then hB1 hb2; have bx2 := bx1.below hb2; have by2 := by1.below hb2; obtain ⟨x20, x21, x22, x23⟩ := bx2.four; obtain ⟨y20, y21, y22, y23⟩ := by2.four; have q2 := bx2.lt; have r2 := by2.lt; have hB2a := b_alloc hB2 (.cells #[.string a0, .string a1, .string a2, .string a3, .string b0, .string b1, .string b2, .string b3] 43); have bx2a := bx2.alloc (.cells #[.string a0, .string a1, .string a2, .string a3, .string b0, .string b1, .string b2, .string b3] 43); have by2a := by2.alloc (.cells #[.string a0, .string a1, .string a2, .string a3, .string b0, .string b1, .string b2, .string b3] 43))
      | (go_at_call 28; (with_reducible refine (KS2.out w2).mono ?_); rintro e w3 ⟨rfl, hb3⟩; have hB3 := b_then hB2a hb3; have bx3 := bx2a.below hb3; have by3 := by2a.below hb3; obtain ⟨x30, x31, x32, x33⟩ := bx3.four; obtain ⟨y30, y31, y32, y33⟩ := by3.four; have q3 := bx3.lt; have r3 := by3.lt)
      | (go_at_call 34; (with_reducible refine (KM.out w3 hB3).mono ?_); rintro e w4 ⟨rfl, hb4⟩; have hB4 := b_then hB3 hb4; have bx4 := bx3.below hb4; have by4 := by3.below hb4; obtain ⟨x40, x41, x42, x43⟩ := bx4.four; obtain ⟨y40, y41, y42, y43⟩ := by4.four; have q4 := bx4.lt; have r4 := by4.lt)
      | (go_at_call 29; (with_reducible refine (HFX.out w4 (hg.below hB4)).mono ?_); rintro e w9 ⟨rfl, hb9⟩; obtain ⟨hc9, hf9⟩ := bcell hb9; have hs9 := hb9.size; (try simp at hs9)))
    go_ret
    exact ⟨rfl, b_then hB4 hb9⟩
  | true =>
  rw [c3] at hM
  have KM := Lib.hid hM
  clear hM
  cases c4 : lone ⟨a0, a1, ⟨a2, a3⟩⟩ with
  | false =>
    rw [c4] at hL
    have KL := Lib.hid hL
    clear hL hL2 hzB hzq f0 f1 f2 f3 g0 g1 g2 g3 hfB hgB
    go_enter Tryz.func8, Tryz.ntmps8
    go_wp2_with (first
      | (go_at_call 29; (with_reducible refine (HFX.out _ (hg.below hB0)).mono ?_); rintro e w1 ⟨rfl, hb1⟩; have hB1 := b_then hB0 hb1; have bx1 := bx0.below hb1; have by1 := by0.below hb1; obtain ⟨x10, x11, x12, x13⟩ := bx1.four; obtain ⟨y10, y11, y12, y13⟩ := by1.four; have q1 := bx1.lt; have r1 := by1.lt)
      | (go_at_call 28; (with_reducible refine (KS.out w1 hB1).mono ?_); rintro e w2 ⟨rfl, hb2⟩; have hB2 := b_then hB1 hb2; have bx2 := bx1.below hb2; have by2 := by1.below hb2; obtain ⟨x20, x21, x22, x23⟩ := bx2.four; obtain ⟨y20, y21, y22, y23⟩ := by2.four; have q2 := bx2.lt; have r2 := by2.lt; have hB2a := b_alloc hB2 (.cells #[.string a0, .string a1, .string a2, .string a3, .string b0, .string b1, .string b2, .string b3] 43); have bx2a := bx2.alloc (.cells #[.string a0, .string a1, .string a2, .string a3, .string b0, .string b1, .string b2, .string b3] 43); have by2a := by2.alloc (.cells #[.string a0, .string a1, .string a2, .string a3, .string b0, .string b1, .string b2, .string b3] 43))
      | (go_at_call 28; (with_reducible refine (KS2.out w2).mono ?_); rintro e w3 ⟨rfl, hb3⟩; have hB3 := b_then hB2a hb3; have bx3 := bx2a.below hb3; have by3 := by2a.below hb3; obtain ⟨x30, x31, x32, x33⟩ := bx3.four; obtain ⟨y30, y31, y32, y33⟩ := by3.four; have q3 := bx3.lt; have r3 := by3.lt)
      | (go_at_call 34; (with_reducible refine (KM.out w3 hB3).mono ?_); rintro e w4 ⟨rfl, hb4⟩; have hB4 := b_then hB3 hb4; have bx4 := bx3.below hb4; have by4 := by3.below hb4; obtain ⟨x40, x41, x42, x43⟩ := bx4.four; obtain ⟨y40, y41, y42, y43⟩ := by4.four; have q4 := bx4.lt; have r4 := by4.lt)
      | (go_at_call 43; (with_reducible refine (KL.out w4).mono ?_); rintro e w5 ⟨rfl, hb5⟩; have hB5 := b_then hB4 hb5; have bx5 := bx4.below hb5; have by5 := by4.below hb5; obtain ⟨x50, x51, x52, x53⟩ := bx5.four; obtain ⟨y50, y51, y52, y53⟩ := by5.four; have q5 := bx5.lt; have r5 := by5.lt)
      | (go_at_call 29; (with_reducible refine (HFX.out w5 (hg.below hB5)).mono ?_); rintro e w9 ⟨rfl, hb9⟩; obtain ⟨hc9, hf9⟩ := bcell hb9; have hs9 := hb9.size; (try simp at hs9)))
    go_ret
    exact ⟨rfl, b_then hB5 hb9⟩
  | true =>
  rw [c4] at hL
  have KL := Lib.hid hL
  clear hL
  cases c5 : lone ⟨b0, b1, ⟨b2, b3⟩⟩ with
  | false =>
    rw [c5] at hL2
    have KL2 := Lib.hid hL2
    clear hL2 hzB hzq f0 f1 f2 f3 g0 g1 g2 g3 hfB hgB
    go_enter Tryz.func8, Tryz.ntmps8
    go_wp2_with (first
      | (go_at_call 29; (with_reducible refine (HFX.out _ (hg.below hB0)).mono ?_); rintro e w1 ⟨rfl, hb1⟩; have hB1 := b_then hB0 hb1; have bx1 := bx0.below hb1; have by1 := by0.below hb1; obtain ⟨x10, x11, x12, x13⟩ := bx1.four; obtain ⟨y10, y11, y12, y13⟩ := by1.four; have q1 := bx1.lt; have r1 := by1.lt)
      | (go_at_call 28; (with_reducible refine (KS.out w1 hB1).mono ?_); rintro e w2 ⟨rfl, hb2⟩; have hB2 := b_then hB1 hb2; have bx2 := bx1.below hb2; have by2 := by1.below hb2; obtain ⟨x20, x21, x22, x23⟩ := bx2.four; obtain ⟨y20, y21, y22, y23⟩ := by2.four; have q2 := bx2.lt; have r2 := by2.lt; have hB2a := b_alloc hB2 (.cells #[.string a0, .string a1, .string a2, .string a3, .string b0, .string b1, .string b2, .string b3] 43); have bx2a := bx2.alloc (.cells #[.string a0, .string a1, .string a2, .string a3, .string b0, .string b1, .string b2, .string b3] 43); have by2a := by2.alloc (.cells #[.string a0, .string a1, .string a2, .string a3, .string b0, .string b1, .string b2, .string b3] 43))
      | (go_at_call 28; (with_reducible refine (KS2.out w2).mono ?_); rintro e w3 ⟨rfl, hb3⟩; have hB3 := b_then hB2a hb3; have bx3 := bx2a.below hb3; have by3 := by2a.below hb3; obtain ⟨x30, x31, x32, x33⟩ := bx3.four; obtain ⟨y30, y31, y32, y33⟩ := by3.four; have q3 := bx3.lt; have r3 := by3.lt)
      | (go_at_call 34; (with_reducible refine (KM.out w3 hB3).mono ?_); rintro e w4 ⟨rfl, hb4⟩; have hB4 := b_then hB3 hb4; have bx4 := bx3.below hb4; have by4 := by3.below hb4; obtain ⟨x40, x41, x42, x43⟩ := bx4.four; obtain ⟨y40, y41, y42, y43⟩ := by4.four; have q4 := bx4.lt; have r4 := by4.lt)
      | (go_at_call 43; (with_reducible refine (KL.out w4).mono ?_); rintro e w5 ⟨rfl, hb5⟩; have hB5 := b_then hB4 hb5; have bx5 := bx4.below hb5; have by5 := by4.below hb5; obtain ⟨x50, x51, x52, x53⟩ := bx5.four; obtain ⟨y50, y51, y52, y53⟩ := by5.four; have q5 := bx5.lt; have r5 := by5.lt)
      | (go_at_call 43; (with_reducible refine (KL2.out w5).mono ?_); rintro e w6 ⟨rfl, hb6⟩; have hB6 := b_then hB5 hb6; have bx6 := bx5.below hb6; have by6 := by5.below hb6; obtain ⟨x60, x61, x62, x63⟩ := bx6.four; obtain ⟨y60, y61, y62, y63⟩ := by6.four; have q6 := bx6.lt; have r6 := by6.lt)
      | (go_at_call 29; (with_reducible refine (HFX.out w6 (hg.below hB6)).mono ?_); rintro e w9 ⟨rfl, hb9⟩; obtain ⟨hc9, hf9⟩ := bcell hb9; have hs9 := hb9.size; (try simp at hs9)))
    go_ret
    exact ⟨rfl, b_then hB6 hb9⟩
  | true =>
  rw [c5] at hL2
  have KL2 := Lib.hid hL2
  clear hL2
  obtain ⟨q, hq, hdq, hqs⟩ := rat_of (lone_of c4).2.2 f2 f3
  obtain ⟨r, hr, hdr, hrs⟩ := rat_of (lone_of c5).2.2 g2 g3
  injection hq with e2 e3
  injection hr with e4 e5
  subst e2; subst e3; subst e4; subst e5
  have hq' : (⟨iS q.num, nS q.den⟩ : RT) = enc q := rfl
  have hys := put_B c3 c4 hzB (by omega) hfB
  have hyl := put_len c3 c4
  have hym := bput_may c3 c4
  obtain ⟨ys, hY⟩ : ∃ ys, bput xs ⟨a0, a1, ⟨iS q.num, nS q.den⟩⟩ = ys := ⟨_, rfl⟩
  rw [hY] at hys hyl hym
  obtain ⟨my, hmy⟩ : ∃ my, ys.length = my := ⟨_, rfl⟩
  have hvs := put_B c3 c5 hzB (by omega) hgB
  have hvl := put_len c3 c5
  have hvm := bput_may c3 c5
  obtain ⟨vs, hV⟩ : ∃ vs, bput xs ⟨b0, b1, ⟨iS r.num, nS r.den⟩⟩ = vs := ⟨_, rfl⟩
  rw [hV] at hvs hvl hvm
  obtain ⟨mv, hmv⟩ : ∃ mv, vs.length = mv := ⟨_, rfl⟩
  obtain ⟨es, hE⟩ : ∃ es, bput ys ⟨b0, b1, ⟨iS r.num, nS r.den⟩⟩ = es := ⟨_, rfl⟩
  obtain ⟨me, hme⟩ : ∃ me, es.length = me := ⟨_, rfl⟩
  have hE2 : bput vs ⟨a0, a1, ⟨iS q.num, nS q.den⟩⟩ = es := by rw [← hE, ← hY, ← hV]; exact both_same c3 c5 c4
  have hqY : ∀ f ∈ ys, lnq f := fun f h => lnB_q (hys f h) (by omega)
  have hSY : ∀ f ∈ ys, lnS f := fun f h => lnB_S (hys f h) (by omega)
  have hqV : ∀ f ∈ vs, lnq f := fun f h => lnB_q (hvs f h) (by omega)
  have hSX : ∀ f ∈ xs, lnS f := fun f h => lnB_S (hzB f h) (by omega)
  have hlq : lnq ⟨a0, a1, ⟨iS q.num, nS q.den⟩⟩ := lnB_q hfB (by omega)
  have hmq : lnq ⟨b0, b1, ⟨iS r.num, nS r.den⟩⟩ := lnB_q hgB (by omega)
  obtain ⟨u, hu⟩ : ∃ u, iS (-q).num = u := ⟨_, rfl⟩
  obtain ⟨v, hv⟩ : ∃ v, nS (-q).den = v := ⟨_, rfl⟩
  have hnq : lnq ⟨a0, a1, ⟨u, v⟩⟩ := ⟨f0, f1, by have := (enc_size (rsmall_neg hqs)).1; rw [← hu]; exact Nat.le_trans this (by omega), by have := (enc_size (rsmall_neg hqs)).2; rw [← hv]; exact Nat.le_trans this (by omega)⟩
  have hln : lone ⟨a0, a1, ⟨u, v⟩⟩ = true := by have := lone_neg c4; unfold lneg at this; rw [hdq] at this; rw [← hu, ← hv]; exact this
  have KA := Lib.hid (fun W (hW : Below w.heap.size w W) => ((b_add (c := c) a0 a1 (iS q.num) (nS q.den) W (hg.below hW) (hx.below hW) (by omega) hzq hlq).mono fun e w' h => h.is_ (ys := ys) (m := my) (b := true) (by rw [badd_yes c3 c4, hY]; rfl) hmy (by rw [badd_yes c3 c4]; rfl) : Calls Tryz.prog 30 #[.slice A n c, .agg #[.string a0, .string a1, .string (iS q.num), .string (nS q.den)]] W fun e w' => AddIs ys my true W e w'))
  have KAd := Lib.hid (fun B k W (hW : Below w.heap.size w W) (hr : Rd Ln.cs 4 W B my ys) => ((b_add (c := k) a0 a1 u v W (hg.below hW) hr (by omega) hqY hnq).mono fun e w' h => h.is_ (ys := xs) (m := n) (b := true)
      (by rw [badd_yes hym hln, ← hu, ← hv]; have := back_same c3 c4; unfold lneg at this; rw [hdq, hY] at this; exact this) hxl
      (by rw [badd_yes hym hln]; rfl) : Calls Tryz.prog 30 #[.slice B my k, .agg #[.string a0, .string a1, .string u, .string v]] W fun e w' => AddIs xs n true W e w'))
  have KAe := Lib.hid (fun B k W (hW : Below w.heap.size w W) (hr : Rd Ln.cs 4 W B my ys) => ((b_add (c := k) b0 b1 (iS r.num) (nS r.den) W (hg.below hW) hr (by omega) hqY hmq).mono fun e w' h => h.is_ (ys := es) (m := me) (b := true) (by rw [badd_yes hym c5, hE]; rfl) hme (by rw [badd_yes hym c5]; rfl) : Calls Tryz.prog 30 #[.slice B my k, .agg #[.string b0, .string b1, .string (iS r.num), .string (nS r.den)]] W fun e w' => AddIs es me true W e w'))
  have KAf := Lib.hid (fun W (hW : Below w.heap.size w W) => ((b_add (c := c) b0 b1 (iS r.num) (nS r.den) W (hg.below hW) (hx.below hW) (by omega) hzq hmq).mono fun e w' h => h.is_ (ys := vs) (m := mv) (b := true) (by rw [badd_yes c3 c5, hV]; rfl) hmv (by rw [badd_yes c3 c5]; rfl) : Calls Tryz.prog 30 #[.slice A n c, .agg #[.string b0, .string b1, .string (iS r.num), .string (nS r.den)]] W fun e w' => AddIs vs mv true W e w'))
  have KAg := Lib.hid (fun B k W (hW : Below w.heap.size w W) (hr : Rd Ln.cs 4 W B mv vs) => ((b_add (c := k) a0 a1 (iS q.num) (nS q.den) W (hg.below hW) hr (by omega) hqV hlq).mono fun e w' h => h.is_ (ys := es) (m := me) (b := true) (by rw [badd_yes hvm c4, hE2]; rfl) hme (by rw [badd_yes hvm c4]; rfl) : Calls Tryz.prog 30 #[.slice B mv k, .agg #[.string a0, .string a1, .string (iS q.num), .string (nS q.den)]] W fun e w' => AddIs es me true W e w'))
  have hNeg : ∀ W, Calls Tryz.prog 44 #[.agg #[.string (iS q.num), .string (nS q.den)]] W fun e w' => e = .returned (.agg #[.string u, .string v]) ∧ Below W.heap.size W w' := fun W => by have := r3_neg q W (rsmall_mono hqs (by omega)); rw [← hu, ← hv]; exact this
  have KN := Lib.hid hNeg
  have hMay : ∀ B k W, Below w.heap.size w W → Rd Ln.cs 4 W B my ys → Calls Tryz.prog 33 #[.slice B my k] W fun e w' => e = .returned (.bool true) ∧ Below W.heap.size W w' := fun B k W hW hr => by have := b_may (c := k) W (hg.below hW) hr hqY; rw [hym] at this; exact this
  have KMy := Lib.hid hMay
  have KH := Lib.hid (show True ∧ True from ⟨trivial, trivial⟩)
  obtain ⟨P, hP, hPs⟩ := get_rat hzB (by omega) c3 b0 b1
  obtain ⟨P2, hP2, hPs2⟩ := get_rat hys (by omega) hym b0 b1
  have hG : ∀ W, Below w.heap.size w W → Calls Tryz.prog 37 #[.slice A n c, .string b0, .string b1] W fun e w' => e = .returned (.agg #[.string (iS P.num), .string (nS P.den)]) ∧ Below W.heap.size W w' := fun W hW => by
    have := b_get (c := c) b0 b1 W (hg.below hW) (hx.below hW) (by omega) hzq
    rw [bget_yes c3, hP] at this
    exact this
  have hG2 : ∀ B k W, Glob W → Rd Ln.cs 4 W B my ys → Calls Tryz.prog 37 #[.slice B my k, .string b0, .string b1] W fun e w' => e = .returned (.agg #[.string (iS P2.num), .string (nS P2.den)]) ∧ Below W.heap.size W w' := fun B k W hW hr => by
    have := b_get (c := k) b0 b1 W hW hr (by omega) hqY
    rw [bget_yes hym, hP2] at this
    exact this
  have KG := Lib.hid hG
  have KG2 := Lib.hid hG2
  have hPget : (a0 = b0 ∧ a1 = b1 → P2 = P + q) ∧ (¬ (a0 = b0 ∧ a1 = b1) → P2 = P) := by
    have h := bput_get c3 c4 b0 b1
    rw [hY, hP2, hP] at h
    constructor
    · rintro ⟨e, e'⟩
      rw [if_pos ⟨e.symm, e'.symm⟩, hq', radd_enc] at h
      exact enc_inj h
    · intro hne
      rw [if_neg fun e => hne ⟨e.1.symm, e.2.symm⟩] at h
      exact enc_inj h
  obtain ⟨S, hS⟩ : ∃ S, P + q = S := ⟨_, rfl⟩
  have hAS : ∀ W, Calls Tryz.prog 45 #[.agg #[.string (iS P.num), .string (nS P.den)], .agg #[.string (iS q.num), .string (nS q.den)]] W fun e w' => e = .returned (.agg #[.string (iS S.num), .string (nS S.den)]) ∧ Below W.heap.size W w' := fun W => by
    have := r3_add P q W (rsmall_mono hPs (by omega)) (rsmall_mono hqs (by omega))
    rw [hS] at this
    exact this
  obtain ⟨Tt, hTt⟩ : ∃ Tt, dtot xs a1 = Tt := ⟨_, rfl⟩
  have hTs := dtot_small (a := a1) c3 hSX hn40
  rw [hTt] at hTs
  obtain ⟨T2, hT2⟩ : ∃ T2, Tt + q = T2 := ⟨_, rfl⟩
  have hAT : ∀ W, Calls Tryz.prog 45 #[.agg #[.string (iS Tt.num), .string (nS Tt.den)], .agg #[.string (iS q.num), .string (nS q.den)]] W fun e w' => e = .returned (.agg #[.string (iS T2.num), .string (nS T2.den)]) ∧ Below W.heap.size W w' := fun W => by
    have := r3_add Tt q W hTs (rsmall_mono hqs (by omega))
    rw [hT2] at this
    exact this
  have hTb : ∀ W, Below w.heap.size w W → Calls Tryz.prog 39 #[.slice A n c, .string a1] W fun e w' => e = .returned (.agg #[.string (iS Tt.num), .string (nS Tt.den)]) ∧ Below W.heap.size W w' := fun W hW => by
    have := b_total (c := c) a1 W (hg.below hW) (hx.below hW) (by omega) hSX
    rw [btotal_enc c3, hTt] at this
    exact this
  have hTc : ∀ B k W, Glob W → Rd Ln.cs 4 W B my ys → Calls Tryz.prog 39 #[.slice B my k, .string a1] W fun e w' => e = .returned (.agg #[.string (iS T2.num), .string (nS T2.den)]) ∧ Below W.heap.size W w' := fun B k W hW hr => by
    have := b_total (c := k) a1 W hW hr (by omega) hSY
    have e : btotal ys a1 = enc T2 := by
      have h := put_total c3 c4
      rw [hY] at h
      have h2 : dec (⟨iS q.num, nS q.den⟩ : RT) = q := by exact hdq
      rw [show btotal ys a1 = _ from h]
      show enc (dtot xs a1 + dec (⟨iS q.num, nS q.den⟩ : RT)) = _
      rw [h2, hTt, hT2]
    rw [e] at this
    exact this
  have KAS := Lib.hid hAS
  have KAT := Lib.hid hAT
  have KTb := Lib.hid hTb
  have KTc := Lib.hid hTc
  have hcase : ((a0.toList == b0.toList) = false ∧ P2 = P) ∨ ((a0.toList == b0.toList) = true ∧ (a1.toList == b1.toList) = false ∧ P2 = P) ∨ ((a0.toList == b0.toList) = true ∧ (a1.toList == b1.toList) = true ∧ P2 = S) := by
    cases e0 : (a0.toList == b0.toList) with
    | false => exact .inl ⟨rfl, hPget.2 fun h => by rw [h.1] at e0; simp at e0⟩
    | true =>
      cases e1 : (a1.toList == b1.toList) with
      | false => exact .inr (.inl ⟨rfl, rfl, hPget.2 fun h => by rw [h.2] at e1; simp at e1⟩)
      | true => exact .inr (.inr ⟨rfl, rfl, by rw [← hS]; exact hPget.1 ⟨s_eq.2 (by simpa using e0), s_eq.2 (by simpa using e1)⟩⟩)
  have heq := eqRat
  clear hPget hAS hAT hTb hTc hS hTt hTs hT2 hq' hG hG2 hP hP2 hPs hPs2 hNeg hu hv hln hMay hzq hzB hqY hSY hqV hSX hlq hmq hnq hys hvs hdq hdr hqs hrs hY hV hE hE2 hfB hgB c4 c5 c1 c2 hyl hvl hym hvm hmy hmv hme hxl
  rcases hcase with ⟨hc0, hp⟩ | ⟨hc0, hc1, hp⟩ | ⟨hc0, hc1, hp⟩
  · subst hp
    go_enter Tryz.func8, Tryz.ntmps8
    go_wp2_with (first
      | (go_at_call 29; (with_reducible refine (HFX.out _ (hg.below hB0)).mono ?_); rintro e w1 ⟨rfl, hb1⟩; have hB1 := b_then hB0 hb1; have bx1 := bx0.below hb1; have by1 := by0.below hb1; obtain ⟨x10, x11, x12, x13⟩ := bx1.four; obtain ⟨y10, y11, y12, y13⟩ := by1.four; have q1 := bx1.lt; have r1 := by1.lt)
      | (go_at_call 28; (with_reducible refine (KS.out w1 hB1).mono ?_); rintro e w2 ⟨rfl, hb2⟩; have hB2 := b_then hB1 hb2; have bx2 := bx1.below hb2; have by2 := by1.below hb2; obtain ⟨x20, x21, x22, x23⟩ := bx2.four; obtain ⟨y20, y21, y22, y23⟩ := by2.four; have q2 := bx2.lt; have r2 := by2.lt; have hB2a := b_alloc hB2 (.cells #[.string a0, .string a1, .string (iS q.num), .string (nS q.den), .string b0, .string b1, .string (iS r.num), .string (nS r.den)] 43); have bx2a := bx2.alloc (.cells #[.string a0, .string a1, .string (iS q.num), .string (nS q.den), .string b0, .string b1, .string (iS r.num), .string (nS r.den)] 43); have by2a := by2.alloc (.cells #[.string a0, .string a1, .string (iS q.num), .string (nS q.den), .string b0, .string b1, .string (iS r.num), .string (nS r.den)] 43))
      | (go_at_call 28; (with_reducible refine (KS2.out w2).mono ?_); rintro e w3 ⟨rfl, hb3⟩; have hB3 := b_then hB2a hb3; have bx3 := bx2a.below hb3; have by3 := by2a.below hb3; obtain ⟨x30, x31, x32, x33⟩ := bx3.four; obtain ⟨y30, y31, y32, y33⟩ := by3.four; have q3 := bx3.lt; have r3 := by3.lt)
      | (go_at_call 34; (with_reducible refine (KM.out w3 hB3).mono ?_); rintro e w4 ⟨rfl, hb4⟩; have hB4 := b_then hB3 hb4; have bx4 := bx3.below hb4; have by4 := by3.below hb4; obtain ⟨x40, x41, x42, x43⟩ := bx4.four; obtain ⟨y40, y41, y42, y43⟩ := by4.four; have q4 := bx4.lt; have r4 := by4.lt)
      | (go_at_call 43; (with_reducible refine (KL.out w4).mono ?_); rintro e w5 ⟨rfl, hb5⟩; have hB5 := b_then hB4 hb5; have bx5 := bx4.below hb5; have by5 := by4.below hb5; obtain ⟨x50, x51, x52, x53⟩ := bx5.four; obtain ⟨y50, y51, y52, y53⟩ := by5.four; have q5 := bx5.lt; have r5 := by5.lt)
      | (go_at_call 43; (with_reducible refine (KL2.out w5).mono ?_); rintro e w6 ⟨rfl, hb6⟩; have hB6 := b_then hB5 hb6; have bx6 := bx5.below hb6; have by6 := by5.below hb6; obtain ⟨x60, x61, x62, x63⟩ := bx6.four; obtain ⟨y60, y61, y62, y63⟩ := by6.four; have q6 := bx6.lt; have r6 := by6.lt)
      | (go_at_call 30; (with_reducible refine (KA.out w6 hB6).mono ?_); rintro e w7 ⟨B7, k7, rfl, rd7, hb7⟩; have hB7 := b_then hB6 hb7; have bx7 := bx6.below hb7; have by7 := by6.below hb7; obtain ⟨x70, x71, x72, x73⟩ := bx7.four; obtain ⟨y70, y71, y72, y73⟩ := by7.four; have q7 := bx7.lt; have r7 := by7.lt)
      | (go_at_call 44; (with_reducible refine (KN.out _).mono ?_); rintro e w8 ⟨rfl, hb8⟩; have hB8 := b_then (b_alloc hB7 (.cells #[.string a0, .string a1, .string (iS q.num), .string (nS q.den)] 43)) hb8; have bx8 := (bx7.alloc (.cells #[.string a0, .string a1, .string (iS q.num), .string (nS q.den)] 43)).below hb8; have by8 := (by7.alloc (.cells #[.string a0, .string a1, .string (iS q.num), .string (nS q.den)] 43)).below hb8; have bz8 := (Blk.new w7 43 #[.string a0, .string a1, .string (iS q.num), .string (nS q.den)]).below hb8; obtain ⟨x80, x81, x82, x83⟩ := bx8.four; obtain ⟨y80, y81, y82, y83⟩ := by8.four; obtain ⟨z80, z81, z82, z83⟩ := bz8.four; have q8 := bx8.lt; have r8 := by8.lt; have s8 := bz8.lt; obtain ⟨hc8, hf8⟩ := bcell hb8; have hs8 := hb8.size; (try simp at hs8))
      | (go_at_call 30; (with_reducible refine (KAd.out B7 k7 _ (b_set (b_set hB8 hB7.size _) hB7.size _) (rd7.below (b_set (b_set (b_then (b_alloc (Below.refl _ _) _) hb8) (Nat.le_refl _) _) (Nat.le_refl _) _))).mono ?_); rintro e w9 ⟨B9, k9, rfl, rd9, hb9⟩; have hB9 : Below w.heap.size w w9 := b_then (b_set (b_set hB8 hB7.size _) hB7.size _) hb9; have bx9 := Blk.below (Blk.far (Blk.far bx8 (by simp; omega) _) (by simp; omega) _) hb9; have by9 := Blk.below (Blk.far (Blk.far by8 (by simp; omega) _) (by simp; omega) _) hb9; have rd7' : Rd Ln.cs 4 w9 B7 my ys := (rd7.below (b_then (b_set (b_set (b_then (b_alloc (Below.refl _ _) _) hb8) (Nat.le_refl _) _) (Nat.le_refl _) _) hb9)); obtain ⟨x90, x91, x92, x93⟩ := bx9.four; obtain ⟨y90, y91, y92, y93⟩ := by9.four; have q9 := bx9.lt; have r9 := by9.lt)
      | (go_at_call 30; (with_reducible refine (KAe.out B7 k7 w9 hB9 rd7').mono ?_); rintro e w10 ⟨B10, k10, rfl, rd10, hb10⟩; have hB10 := b_then hB9 hb10; have bx10 := bx9.below hb10; have by10 := by9.below hb10; obtain ⟨x100, x101, x102, x103⟩ := bx10.four; obtain ⟨y100, y101, y102, y103⟩ := by10.four; have q10 := bx10.lt; have r10 := by10.lt)
      | (go_at_call 30; (with_reducible refine (KAf.out w10 hB10).mono ?_); rintro e w11 ⟨B11, k11, rfl, rd11, hb11⟩; have hB11 := b_then hB10 hb11; have bx11 := bx10.below hb11; have by11 := by10.below hb11; obtain ⟨x110, x111, x112, x113⟩ := bx11.four; obtain ⟨y110, y111, y112, y113⟩ := by11.four; have q11 := bx11.lt; have r11 := by11.lt)
      | (go_at_call 30; (with_reducible refine (KAg.out B11 k11 w11 hB11 rd11).mono ?_); rintro e w12 ⟨B12, k12, rfl, rd12, hb12⟩; have hB12 := b_then hB11 hb12; have bx12 := bx11.below hb12; have by12 := by11.below hb12; obtain ⟨x120, x121, x122, x123⟩ := bx12.four; obtain ⟨y120, y121, y122, y123⟩ := by12.four; have q12 := bx12.lt; have r12 := by12.lt)
      | (go_at_call 33; (with_reducible refine (KMy.out B7 k7 w12 hB12 (rd7'.below (b_then (b_then hb10 hb11) hb12))).mono ?_); rintro e w13 ⟨rfl, hb13⟩; have hB13 := b_then hB12 hb13; have bx13 := bx12.below hb13; have by13 := by12.below hb13; obtain ⟨x130, x131, x132, x133⟩ := bx13.four; obtain ⟨y130, y131, y132, y133⟩ := by13.four; have q13 := bx13.lt; have r13 := by13.lt)
      | (go_at_call 32; (with_reducible refine (r6_same w13 (rd9.below (b_then (b_then (b_then hb10 hb11) hb12) hb13)) (hx.below hB13)).mono ?_); rintro e w14 ⟨rfl, hb14⟩; have hB14 := b_then hB13 hb14; have bx14 := bx13.below hb14; have by14 := by13.below hb14; obtain ⟨x140, x141, x142, x143⟩ := bx14.four; obtain ⟨y140, y141, y142, y143⟩ := by14.four; have q14 := bx14.lt; have r14 := by14.lt)
      | (go_at_call 32; (with_reducible refine (r6_same w14 (rd10.below (b_then (b_then (b_then hb11 hb12) hb13) hb14)) (rd12.below (b_then hb13 hb14))).mono ?_); rintro e w15 ⟨rfl, hb15⟩; have hB15 := b_then hB14 hb15; have bx15 := bx14.below hb15; have by15 := by14.below hb15; obtain ⟨x150, x151, x152, x153⟩ := bx15.four; obtain ⟨y150, y151, y152, y153⟩ := by15.four; have q15 := bx15.lt; have r15 := by15.lt))
    have hg15 := hg.below hB15
    have rd15 := rd7'.below (b_then (b_then (b_then (b_then (b_then hb10 hb11) hb12) hb13) hb14) hb15)
    (refine wp_region_two (T := 24) (A := ?boxA16) (u1 := .string ?boxU16) (u2 := .string ?boxV16) (v1 := .string ?boxX16) (v2 := .string ?boxY16) (z1 := .string ⟨#[]⟩) (z2 := .string ⟨#[]⟩) 12 13 14 15 5 11 19 20 126 132 (by kernel_rfl) (fun p => by kernel_rfl) (fun p x => ?boxH16) ⟨by kernel_rfl, by kernel_rfl, ⟨_, rfl, rfl, rfl, fun a W => run_alloc_rat rfl⟩, ⟨_, rfl, rfl, rfl, fun a W => run_alloc_rat rfl⟩, ⟨_, rfl, rfl, rfl, fun a W g h1 h2 hB => run_store_rat rfl h1 h2 hB⟩, ⟨_, rfl, rfl, rfl, fun a W g h1 h2 hB => run_store_rat rfl h1 h2 hB⟩, ⟨_, rfl, rfl⟩, ⟨_, rfl, rfl⟩, by kernel_rfl, by kernel_rfl, by kernel_rfl, by kernel_rfl, by decide, by decide, by decide, by decide, by decide, by decide, ?box116, ?box216, ?box2b16, by decide, ?box316, ?box3b16, ?box416⟩ (by decide) (by decide) (by decide) (by decide); (case boxH16 => (simp only [twol, List.modify_succ_cons, List.modify_zero_cons, repA, repS]; (have hxs := x.h.size); (try simp at hxs); (repeat (first | go_big_quiet_skip | (go_big_quiet_want; go_big_quiet_op; first | go_big_quiet_on | (apply Exists.intro; refine ⟨fun _ => ?_, ?_⟩; (focus (first | (go_at_call 37; with_reducible exact Calls.after (KG.out _ (b_then hB15 (b_then x.h (After.h _))))) | (go_at_call 37; with_reducible exact Calls.after (KG2.out _ _ _ (hg15.below (b_then x.h (After.h _))) (rd15.below (b_then x.h (After.h _))))))); go_big_quiet_on)))); refine wpQuiet_nil ?_; rfl)); (case box116 => exact fun g h => rfl); (case box216 => first | decide | simp); (case box2b16 => first | decide | simp); (case box316 => intro p; first | rfl | (simp only [List.getElem?_toArray, List.getElem?_cons_succ, List.getElem?_cons_zero]; rfl) | (simp; exact ⟨rfl, rfl⟩)); (case box3b16 => intro p; first | rfl | (simp only [List.getElem?_toArray, List.getElem?_cons_succ, List.getElem?_cons_zero]; rfl) | (simp; exact ⟨rfl, rfl⟩)); rintro g16 h16 w16 hg16 hh16 hb16 D16 E16; (try dsimp only); obtain ⟨hc16, hf16⟩ := bcell hb16; have hs16 := hb16.size; (try simp at hs16))
    obtain ⟨d0, d1⟩ := D16.aftr
    obtain ⟨e0, e1⟩ := E16.aftr
    have bx16 := bx15.below hb16
    have hB16 := b_then hB15 hb16
    have hg16' := hg15.below hb16
    have rd16 := rd15.below hb16
    obtain ⟨x160, x161, x162, x163⟩ := bx16.four
    have q16 := bx16.lt
    go_wp2
    (refine wp_region_after (by kernel_rfl) (by kernel_rfl) ?_; (repeat (first | go_big_quiet_skip | (go_big_quiet_want; go_big_quiet_op; first | go_big_quiet_on | (apply Exists.intro; refine ⟨fun _ => ?_, ?_⟩; (focus (first | (go_at_call 45; with_reducible exact Calls.after (KAS.out _)) | (go_at_call 45; with_reducible exact Calls.after (KAT.out _)) | (go_at_call 39; with_reducible exact Calls.after (KTb.out _ (b_then hB16 (After.h _)))) | (go_at_call 39; with_reducible exact Calls.after (KTc.out _ _ _ (hg16'.below (After.h _)) (rd16.below (After.h _)))))); go_big_quiet_on)))); refine wpQuiet_nil ?_; rintro w18 ⟨⟨_, hb18⟩, rfl⟩; (try dsimp only); obtain ⟨hc18, hf18⟩ := bcell hb18; have hs18 := hb18.size; (try simp at hs18))
    go_wp2
    go_ret
    exact ⟨rfl, b_then hB16 hb18⟩
  · subst hp
    go_enter Tryz.func8, Tryz.ntmps8
    go_wp2_with (first
      | (go_at_call 29; (with_reducible refine (HFX.out _ (hg.below hB0)).mono ?_); rintro e w1 ⟨rfl, hb1⟩; have hB1 := b_then hB0 hb1; have bx1 := bx0.below hb1; have by1 := by0.below hb1; obtain ⟨x10, x11, x12, x13⟩ := bx1.four; obtain ⟨y10, y11, y12, y13⟩ := by1.four; have q1 := bx1.lt; have r1 := by1.lt)
      | (go_at_call 28; (with_reducible refine (KS.out w1 hB1).mono ?_); rintro e w2 ⟨rfl, hb2⟩; have hB2 := b_then hB1 hb2; have bx2 := bx1.below hb2; have by2 := by1.below hb2; obtain ⟨x20, x21, x22, x23⟩ := bx2.four; obtain ⟨y20, y21, y22, y23⟩ := by2.four; have q2 := bx2.lt; have r2 := by2.lt; have hB2a := b_alloc hB2 (.cells #[.string a0, .string a1, .string (iS q.num), .string (nS q.den), .string b0, .string b1, .string (iS r.num), .string (nS r.den)] 43); have bx2a := bx2.alloc (.cells #[.string a0, .string a1, .string (iS q.num), .string (nS q.den), .string b0, .string b1, .string (iS r.num), .string (nS r.den)] 43); have by2a := by2.alloc (.cells #[.string a0, .string a1, .string (iS q.num), .string (nS q.den), .string b0, .string b1, .string (iS r.num), .string (nS r.den)] 43))
      | (go_at_call 28; (with_reducible refine (KS2.out w2).mono ?_); rintro e w3 ⟨rfl, hb3⟩; have hB3 := b_then hB2a hb3; have bx3 := bx2a.below hb3; have by3 := by2a.below hb3; obtain ⟨x30, x31, x32, x33⟩ := bx3.four; obtain ⟨y30, y31, y32, y33⟩ := by3.four; have q3 := bx3.lt; have r3 := by3.lt)
      | (go_at_call 34; (with_reducible refine (KM.out w3 hB3).mono ?_); rintro e w4 ⟨rfl, hb4⟩; have hB4 := b_then hB3 hb4; have bx4 := bx3.below hb4; have by4 := by3.below hb4; obtain ⟨x40, x41, x42, x43⟩ := bx4.four; obtain ⟨y40, y41, y42, y43⟩ := by4.four; have q4 := bx4.lt; have r4 := by4.lt)
      | (go_at_call 43; (with_reducible refine (KL.out w4).mono ?_); rintro e w5 ⟨rfl, hb5⟩; have hB5 := b_then hB4 hb5; have bx5 := bx4.below hb5; have by5 := by4.below hb5; obtain ⟨x50, x51, x52, x53⟩ := bx5.four; obtain ⟨y50, y51, y52, y53⟩ := by5.four; have q5 := bx5.lt; have r5 := by5.lt)
      | (go_at_call 43; (with_reducible refine (KL2.out w5).mono ?_); rintro e w6 ⟨rfl, hb6⟩; have hB6 := b_then hB5 hb6; have bx6 := bx5.below hb6; have by6 := by5.below hb6; obtain ⟨x60, x61, x62, x63⟩ := bx6.four; obtain ⟨y60, y61, y62, y63⟩ := by6.four; have q6 := bx6.lt; have r6 := by6.lt)
      | (go_at_call 30; (with_reducible refine (KA.out w6 hB6).mono ?_); rintro e w7 ⟨B7, k7, rfl, rd7, hb7⟩; have hB7 := b_then hB6 hb7; have bx7 := bx6.below hb7; have by7 := by6.below hb7; obtain ⟨x70, x71, x72, x73⟩ := bx7.four; obtain ⟨y70, y71, y72, y73⟩ := by7.four; have q7 := bx7.lt; have r7 := by7.lt)
      | (go_at_call 44; (with_reducible refine (KN.out _).mono ?_); rintro e w8 ⟨rfl, hb8⟩; have hB8 := b_then (b_alloc hB7 (.cells #[.string a0, .string a1, .string (iS q.num), .string (nS q.den)] 43)) hb8; have bx8 := (bx7.alloc (.cells #[.string a0, .string a1, .string (iS q.num), .string (nS q.den)] 43)).below hb8; have by8 := (by7.alloc (.cells #[.string a0, .string a1, .string (iS q.num), .string (nS q.den)] 43)).below hb8; have bz8 := (Blk.new w7 43 #[.string a0, .string a1, .string (iS q.num), .string (nS q.den)]).below hb8; obtain ⟨x80, x81, x82, x83⟩ := bx8.four; obtain ⟨y80, y81, y82, y83⟩ := by8.four; obtain ⟨z80, z81, z82, z83⟩ := bz8.four; have q8 := bx8.lt; have r8 := by8.lt; have s8 := bz8.lt; obtain ⟨hc8, hf8⟩ := bcell hb8; have hs8 := hb8.size; (try simp at hs8))
      | (go_at_call 30; (with_reducible refine (KAd.out B7 k7 _ (b_set (b_set hB8 hB7.size _) hB7.size _) (rd7.below (b_set (b_set (b_then (b_alloc (Below.refl _ _) _) hb8) (Nat.le_refl _) _) (Nat.le_refl _) _))).mono ?_); rintro e w9 ⟨B9, k9, rfl, rd9, hb9⟩; have hB9 : Below w.heap.size w w9 := b_then (b_set (b_set hB8 hB7.size _) hB7.size _) hb9; have bx9 := Blk.below (Blk.far (Blk.far bx8 (by simp; omega) _) (by simp; omega) _) hb9; have by9 := Blk.below (Blk.far (Blk.far by8 (by simp; omega) _) (by simp; omega) _) hb9; have rd7' : Rd Ln.cs 4 w9 B7 my ys := (rd7.below (b_then (b_set (b_set (b_then (b_alloc (Below.refl _ _) _) hb8) (Nat.le_refl _) _) (Nat.le_refl _) _) hb9)); obtain ⟨x90, x91, x92, x93⟩ := bx9.four; obtain ⟨y90, y91, y92, y93⟩ := by9.four; have q9 := bx9.lt; have r9 := by9.lt)
      | (go_at_call 30; (with_reducible refine (KAe.out B7 k7 w9 hB9 rd7').mono ?_); rintro e w10 ⟨B10, k10, rfl, rd10, hb10⟩; have hB10 := b_then hB9 hb10; have bx10 := bx9.below hb10; have by10 := by9.below hb10; obtain ⟨x100, x101, x102, x103⟩ := bx10.four; obtain ⟨y100, y101, y102, y103⟩ := by10.four; have q10 := bx10.lt; have r10 := by10.lt)
      | (go_at_call 30; (with_reducible refine (KAf.out w10 hB10).mono ?_); rintro e w11 ⟨B11, k11, rfl, rd11, hb11⟩; have hB11 := b_then hB10 hb11; have bx11 := bx10.below hb11; have by11 := by10.below hb11; obtain ⟨x110, x111, x112, x113⟩ := bx11.four; obtain ⟨y110, y111, y112, y113⟩ := by11.four; have q11 := bx11.lt; have r11 := by11.lt)
      | (go_at_call 30; (with_reducible refine (KAg.out B11 k11 w11 hB11 rd11).mono ?_); rintro e w12 ⟨B12, k12, rfl, rd12, hb12⟩; have hB12 := b_then hB11 hb12; have bx12 := bx11.below hb12; have by12 := by11.below hb12; obtain ⟨x120, x121, x122, x123⟩ := bx12.four; obtain ⟨y120, y121, y122, y123⟩ := by12.four; have q12 := bx12.lt; have r12 := by12.lt)
      | (go_at_call 33; (with_reducible refine (KMy.out B7 k7 w12 hB12 (rd7'.below (b_then (b_then hb10 hb11) hb12))).mono ?_); rintro e w13 ⟨rfl, hb13⟩; have hB13 := b_then hB12 hb13; have bx13 := bx12.below hb13; have by13 := by12.below hb13; obtain ⟨x130, x131, x132, x133⟩ := bx13.four; obtain ⟨y130, y131, y132, y133⟩ := by13.four; have q13 := bx13.lt; have r13 := by13.lt)
      | (go_at_call 32; (with_reducible refine (r6_same w13 (rd9.below (b_then (b_then (b_then hb10 hb11) hb12) hb13)) (hx.below hB13)).mono ?_); rintro e w14 ⟨rfl, hb14⟩; have hB14 := b_then hB13 hb14; have bx14 := bx13.below hb14; have by14 := by13.below hb14; obtain ⟨x140, x141, x142, x143⟩ := bx14.four; obtain ⟨y140, y141, y142, y143⟩ := by14.four; have q14 := bx14.lt; have r14 := by14.lt)
      | (go_at_call 32; (with_reducible refine (r6_same w14 (rd10.below (b_then (b_then (b_then hb11 hb12) hb13) hb14)) (rd12.below (b_then hb13 hb14))).mono ?_); rintro e w15 ⟨rfl, hb15⟩; have hB15 := b_then hB14 hb15; have bx15 := bx14.below hb15; have by15 := by14.below hb15; obtain ⟨x150, x151, x152, x153⟩ := bx15.four; obtain ⟨y150, y151, y152, y153⟩ := by15.four; have q15 := bx15.lt; have r15 := by15.lt))
    have hg15 := hg.below hB15
    have rd15 := rd7'.below (b_then (b_then (b_then (b_then (b_then hb10 hb11) hb12) hb13) hb14) hb15)
    (refine wp_region_two (T := 24) (A := ?boxA26) (u1 := .string ?boxU26) (u2 := .string ?boxV26) (v1 := .string ?boxX26) (v2 := .string ?boxY26) (z1 := .string ⟨#[]⟩) (z2 := .string ⟨#[]⟩) 12 13 14 15 5 11 19 20 126 132 (by kernel_rfl) (fun p => by kernel_rfl) (fun p x => ?boxH26) ⟨by kernel_rfl, by kernel_rfl, ⟨_, rfl, rfl, rfl, fun a W => run_alloc_rat rfl⟩, ⟨_, rfl, rfl, rfl, fun a W => run_alloc_rat rfl⟩, ⟨_, rfl, rfl, rfl, fun a W g h1 h2 hB => run_store_rat rfl h1 h2 hB⟩, ⟨_, rfl, rfl, rfl, fun a W g h1 h2 hB => run_store_rat rfl h1 h2 hB⟩, ⟨_, rfl, rfl⟩, ⟨_, rfl, rfl⟩, by kernel_rfl, by kernel_rfl, by kernel_rfl, by kernel_rfl, by decide, by decide, by decide, by decide, by decide, by decide, ?box126, ?box226, ?box2b26, by decide, ?box326, ?box3b26, ?box426⟩ (by decide) (by decide) (by decide) (by decide); (case boxH26 => (simp only [twol, List.modify_succ_cons, List.modify_zero_cons, repA, repS]; (have hxs := x.h.size); (try simp at hxs); (repeat (first | go_big_quiet_skip | (go_big_quiet_want; go_big_quiet_op; first | go_big_quiet_on | (apply Exists.intro; refine ⟨fun _ => ?_, ?_⟩; (focus (first | (go_at_call 37; with_reducible exact Calls.after (KG.out _ (b_then hB15 (b_then x.h (After.h _))))) | (go_at_call 37; with_reducible exact Calls.after (KG2.out _ _ _ (hg15.below (b_then x.h (After.h _))) (rd15.below (b_then x.h (After.h _))))))); go_big_quiet_on)))); refine wpQuiet_nil ?_; rfl)); (case box126 => exact fun g h => rfl); (case box226 => first | decide | simp); (case box2b26 => first | decide | simp); (case box326 => intro p; first | rfl | (simp only [List.getElem?_toArray, List.getElem?_cons_succ, List.getElem?_cons_zero]; rfl) | (simp; exact ⟨rfl, rfl⟩)); (case box3b26 => intro p; first | rfl | (simp only [List.getElem?_toArray, List.getElem?_cons_succ, List.getElem?_cons_zero]; rfl) | (simp; exact ⟨rfl, rfl⟩)); rintro g26 h26 w26 hg26 hh26 hb26 D26 E26; (try dsimp only); obtain ⟨hc26, hf26⟩ := bcell hb26; have hs26 := hb26.size; (try simp at hs26))
    obtain ⟨d0, d1⟩ := D26.aftr
    obtain ⟨e0, e1⟩ := E26.aftr
    have bx16 := bx15.below hb26
    have hB16 := b_then hB15 hb26
    have hg16' := hg15.below hb26
    have rd16 := rd15.below hb26
    obtain ⟨x160, x161, x162, x163⟩ := bx16.four
    have q16 := bx16.lt
    go_wp2
    (refine wp_region_after (by kernel_rfl) (by kernel_rfl) ?_; (repeat (first | go_big_quiet_skip | (go_big_quiet_want; go_big_quiet_op; first | go_big_quiet_on | (apply Exists.intro; refine ⟨fun _ => ?_, ?_⟩; (focus (first | (go_at_call 45; with_reducible exact Calls.after (KAS.out _)) | (go_at_call 45; with_reducible exact Calls.after (KAT.out _)) | (go_at_call 39; with_reducible exact Calls.after (KTb.out _ (b_then hB16 (After.h _)))) | (go_at_call 39; with_reducible exact Calls.after (KTc.out _ _ _ (hg16'.below (After.h _)) (rd16.below (After.h _)))))); go_big_quiet_on)))); refine wpQuiet_nil ?_; rintro w28 ⟨⟨_, hb28⟩, rfl⟩; (try dsimp only); obtain ⟨hc28, hf28⟩ := bcell hb28; have hs28 := hb28.size; (try simp at hs28))
    go_wp2
    go_ret
    exact ⟨rfl, b_then hB16 hb28⟩
  · subst hp
    go_enter Tryz.func8, Tryz.ntmps8
    go_wp2_with (first
      | (go_at_call 29; (with_reducible refine (HFX.out _ (hg.below hB0)).mono ?_); rintro e w1 ⟨rfl, hb1⟩; have hB1 := b_then hB0 hb1; have bx1 := bx0.below hb1; have by1 := by0.below hb1; obtain ⟨x10, x11, x12, x13⟩ := bx1.four; obtain ⟨y10, y11, y12, y13⟩ := by1.four; have q1 := bx1.lt; have r1 := by1.lt)
      | (go_at_call 28; (with_reducible refine (KS.out w1 hB1).mono ?_); rintro e w2 ⟨rfl, hb2⟩; have hB2 := b_then hB1 hb2; have bx2 := bx1.below hb2; have by2 := by1.below hb2; obtain ⟨x20, x21, x22, x23⟩ := bx2.four; obtain ⟨y20, y21, y22, y23⟩ := by2.four; have q2 := bx2.lt; have r2 := by2.lt; have hB2a := b_alloc hB2 (.cells #[.string a0, .string a1, .string (iS q.num), .string (nS q.den), .string b0, .string b1, .string (iS r.num), .string (nS r.den)] 43); have bx2a := bx2.alloc (.cells #[.string a0, .string a1, .string (iS q.num), .string (nS q.den), .string b0, .string b1, .string (iS r.num), .string (nS r.den)] 43); have by2a := by2.alloc (.cells #[.string a0, .string a1, .string (iS q.num), .string (nS q.den), .string b0, .string b1, .string (iS r.num), .string (nS r.den)] 43))
      | (go_at_call 28; (with_reducible refine (KS2.out w2).mono ?_); rintro e w3 ⟨rfl, hb3⟩; have hB3 := b_then hB2a hb3; have bx3 := bx2a.below hb3; have by3 := by2a.below hb3; obtain ⟨x30, x31, x32, x33⟩ := bx3.four; obtain ⟨y30, y31, y32, y33⟩ := by3.four; have q3 := bx3.lt; have r3 := by3.lt)
      | (go_at_call 34; (with_reducible refine (KM.out w3 hB3).mono ?_); rintro e w4 ⟨rfl, hb4⟩; have hB4 := b_then hB3 hb4; have bx4 := bx3.below hb4; have by4 := by3.below hb4; obtain ⟨x40, x41, x42, x43⟩ := bx4.four; obtain ⟨y40, y41, y42, y43⟩ := by4.four; have q4 := bx4.lt; have r4 := by4.lt)
      | (go_at_call 43; (with_reducible refine (KL.out w4).mono ?_); rintro e w5 ⟨rfl, hb5⟩; have hB5 := b_then hB4 hb5; have bx5 := bx4.below hb5; have by5 := by4.below hb5; obtain ⟨x50, x51, x52, x53⟩ := bx5.four; obtain ⟨y50, y51, y52, y53⟩ := by5.four; have q5 := bx5.lt; have r5 := by5.lt)
      | (go_at_call 43; (with_reducible refine (KL2.out w5).mono ?_); rintro e w6 ⟨rfl, hb6⟩; have hB6 := b_then hB5 hb6; have bx6 := bx5.below hb6; have by6 := by5.below hb6; obtain ⟨x60, x61, x62, x63⟩ := bx6.four; obtain ⟨y60, y61, y62, y63⟩ := by6.four; have q6 := bx6.lt; have r6 := by6.lt)
      | (go_at_call 30; (with_reducible refine (KA.out w6 hB6).mono ?_); rintro e w7 ⟨B7, k7, rfl, rd7, hb7⟩; have hB7 := b_then hB6 hb7; have bx7 := bx6.below hb7; have by7 := by6.below hb7; obtain ⟨x70, x71, x72, x73⟩ := bx7.four; obtain ⟨y70, y71, y72, y73⟩ := by7.four; have q7 := bx7.lt; have r7 := by7.lt)
      | (go_at_call 44; (with_reducible refine (KN.out _).mono ?_); rintro e w8 ⟨rfl, hb8⟩; have hB8 := b_then (b_alloc hB7 (.cells #[.string a0, .string a1, .string (iS q.num), .string (nS q.den)] 43)) hb8; have bx8 := (bx7.alloc (.cells #[.string a0, .string a1, .string (iS q.num), .string (nS q.den)] 43)).below hb8; have by8 := (by7.alloc (.cells #[.string a0, .string a1, .string (iS q.num), .string (nS q.den)] 43)).below hb8; have bz8 := (Blk.new w7 43 #[.string a0, .string a1, .string (iS q.num), .string (nS q.den)]).below hb8; obtain ⟨x80, x81, x82, x83⟩ := bx8.four; obtain ⟨y80, y81, y82, y83⟩ := by8.four; obtain ⟨z80, z81, z82, z83⟩ := bz8.four; have q8 := bx8.lt; have r8 := by8.lt; have s8 := bz8.lt; obtain ⟨hc8, hf8⟩ := bcell hb8; have hs8 := hb8.size; (try simp at hs8))
      | (go_at_call 30; (with_reducible refine (KAd.out B7 k7 _ (b_set (b_set hB8 hB7.size _) hB7.size _) (rd7.below (b_set (b_set (b_then (b_alloc (Below.refl _ _) _) hb8) (Nat.le_refl _) _) (Nat.le_refl _) _))).mono ?_); rintro e w9 ⟨B9, k9, rfl, rd9, hb9⟩; have hB9 : Below w.heap.size w w9 := b_then (b_set (b_set hB8 hB7.size _) hB7.size _) hb9; have bx9 := Blk.below (Blk.far (Blk.far bx8 (by simp; omega) _) (by simp; omega) _) hb9; have by9 := Blk.below (Blk.far (Blk.far by8 (by simp; omega) _) (by simp; omega) _) hb9; have rd7' : Rd Ln.cs 4 w9 B7 my ys := (rd7.below (b_then (b_set (b_set (b_then (b_alloc (Below.refl _ _) _) hb8) (Nat.le_refl _) _) (Nat.le_refl _) _) hb9)); obtain ⟨x90, x91, x92, x93⟩ := bx9.four; obtain ⟨y90, y91, y92, y93⟩ := by9.four; have q9 := bx9.lt; have r9 := by9.lt)
      | (go_at_call 30; (with_reducible refine (KAe.out B7 k7 w9 hB9 rd7').mono ?_); rintro e w10 ⟨B10, k10, rfl, rd10, hb10⟩; have hB10 := b_then hB9 hb10; have bx10 := bx9.below hb10; have by10 := by9.below hb10; obtain ⟨x100, x101, x102, x103⟩ := bx10.four; obtain ⟨y100, y101, y102, y103⟩ := by10.four; have q10 := bx10.lt; have r10 := by10.lt)
      | (go_at_call 30; (with_reducible refine (KAf.out w10 hB10).mono ?_); rintro e w11 ⟨B11, k11, rfl, rd11, hb11⟩; have hB11 := b_then hB10 hb11; have bx11 := bx10.below hb11; have by11 := by10.below hb11; obtain ⟨x110, x111, x112, x113⟩ := bx11.four; obtain ⟨y110, y111, y112, y113⟩ := by11.four; have q11 := bx11.lt; have r11 := by11.lt)
      | (go_at_call 30; (with_reducible refine (KAg.out B11 k11 w11 hB11 rd11).mono ?_); rintro e w12 ⟨B12, k12, rfl, rd12, hb12⟩; have hB12 := b_then hB11 hb12; have bx12 := bx11.below hb12; have by12 := by11.below hb12; obtain ⟨x120, x121, x122, x123⟩ := bx12.four; obtain ⟨y120, y121, y122, y123⟩ := by12.four; have q12 := bx12.lt; have r12 := by12.lt)
      | (go_at_call 33; (with_reducible refine (KMy.out B7 k7 w12 hB12 (rd7'.below (b_then (b_then hb10 hb11) hb12))).mono ?_); rintro e w13 ⟨rfl, hb13⟩; have hB13 := b_then hB12 hb13; have bx13 := bx12.below hb13; have by13 := by12.below hb13; obtain ⟨x130, x131, x132, x133⟩ := bx13.four; obtain ⟨y130, y131, y132, y133⟩ := by13.four; have q13 := bx13.lt; have r13 := by13.lt)
      | (go_at_call 32; (with_reducible refine (r6_same w13 (rd9.below (b_then (b_then (b_then hb10 hb11) hb12) hb13)) (hx.below hB13)).mono ?_); rintro e w14 ⟨rfl, hb14⟩; have hB14 := b_then hB13 hb14; have bx14 := bx13.below hb14; have by14 := by13.below hb14; obtain ⟨x140, x141, x142, x143⟩ := bx14.four; obtain ⟨y140, y141, y142, y143⟩ := by14.four; have q14 := bx14.lt; have r14 := by14.lt)
      | (go_at_call 32; (with_reducible refine (r6_same w14 (rd10.below (b_then (b_then (b_then hb11 hb12) hb13) hb14)) (rd12.below (b_then hb13 hb14))).mono ?_); rintro e w15 ⟨rfl, hb15⟩; have hB15 := b_then hB14 hb15; have bx15 := bx14.below hb15; have by15 := by14.below hb15; obtain ⟨x150, x151, x152, x153⟩ := bx15.four; obtain ⟨y150, y151, y152, y153⟩ := by15.four; have q15 := bx15.lt; have r15 := by15.lt))
    have hg15 := hg.below hB15
    have rd15 := rd7'.below (b_then (b_then (b_then (b_then (b_then hb10 hb11) hb12) hb13) hb14) hb15)
    (refine wp_region_two (T := 24) (A := ?boxA36) (u1 := .string ?boxU36) (u2 := .string ?boxV36) (v1 := .string ?boxX36) (v2 := .string ?boxY36) (z1 := .string ⟨#[]⟩) (z2 := .string ⟨#[]⟩) 12 13 14 15 5 11 19 20 126 132 (by kernel_rfl) (fun p => by kernel_rfl) (fun p x => ?boxH36) ⟨by kernel_rfl, by kernel_rfl, ⟨_, rfl, rfl, rfl, fun a W => run_alloc_rat rfl⟩, ⟨_, rfl, rfl, rfl, fun a W => run_alloc_rat rfl⟩, ⟨_, rfl, rfl, rfl, fun a W g h1 h2 hB => run_store_rat rfl h1 h2 hB⟩, ⟨_, rfl, rfl, rfl, fun a W g h1 h2 hB => run_store_rat rfl h1 h2 hB⟩, ⟨_, rfl, rfl⟩, ⟨_, rfl, rfl⟩, by kernel_rfl, by kernel_rfl, by kernel_rfl, by kernel_rfl, by decide, by decide, by decide, by decide, by decide, by decide, ?box136, ?box236, ?box2b36, by decide, ?box336, ?box3b36, ?box436⟩ (by decide) (by decide) (by decide) (by decide); (case boxH36 => (simp only [twol, List.modify_succ_cons, List.modify_zero_cons, repA, repS]; (have hxs := x.h.size); (try simp at hxs); (repeat (first | go_big_quiet_skip | (go_big_quiet_want; go_big_quiet_op; first | go_big_quiet_on | (apply Exists.intro; refine ⟨fun _ => ?_, ?_⟩; (focus (first | (go_at_call 37; with_reducible exact Calls.after (KG.out _ (b_then hB15 (b_then x.h (After.h _))))) | (go_at_call 37; with_reducible exact Calls.after (KG2.out _ _ _ (hg15.below (b_then x.h (After.h _))) (rd15.below (b_then x.h (After.h _))))))); go_big_quiet_on)))); refine wpQuiet_nil ?_; rfl)); (case box136 => exact fun g h => rfl); (case box236 => first | decide | simp); (case box2b36 => first | decide | simp); (case box336 => intro p; first | rfl | (simp only [List.getElem?_toArray, List.getElem?_cons_succ, List.getElem?_cons_zero]; rfl) | (simp; exact ⟨rfl, rfl⟩)); (case box3b36 => intro p; first | rfl | (simp only [List.getElem?_toArray, List.getElem?_cons_succ, List.getElem?_cons_zero]; rfl) | (simp; exact ⟨rfl, rfl⟩)); rintro g36 h36 w36 hg36 hh36 hb36 D36 E36; (try dsimp only); obtain ⟨hc36, hf36⟩ := bcell hb36; have hs36 := hb36.size; (try simp at hs36))
    obtain ⟨d0, d1⟩ := D36.aftr
    obtain ⟨e0, e1⟩ := E36.aftr
    have bx16 := bx15.below hb36
    have hB16 := b_then hB15 hb36
    have hg16' := hg15.below hb36
    have rd16 := rd15.below hb36
    obtain ⟨x160, x161, x162, x163⟩ := bx16.four
    have q16 := bx16.lt
    go_wp2
    (refine wp_region_after (by kernel_rfl) (by kernel_rfl) ?_; (repeat (first | go_big_quiet_skip | (go_big_quiet_want; go_big_quiet_op; first | go_big_quiet_on | (apply Exists.intro; refine ⟨fun _ => ?_, ?_⟩; (focus (first | (go_at_call 45; with_reducible exact Calls.after (KAS.out _)) | (go_at_call 45; with_reducible exact Calls.after (KAT.out _)) | (go_at_call 39; with_reducible exact Calls.after (KTb.out _ (b_then hB16 (After.h _)))) | (go_at_call 39; with_reducible exact Calls.after (KTc.out _ _ _ (hg16'.below (After.h _)) (rd16.below (After.h _)))))); go_big_quiet_on)))); refine wpQuiet_nil ?_; rintro w38 ⟨⟨_, hb38⟩, rfl⟩; (try dsimp only); obtain ⟨hc38, hf38⟩ := bcell hb38; have hs38 := hb38.size; (try simp at hs38))
    go_wp2
    go_ret
    exact ⟨rfl, b_then hB16 hb38⟩
end Go.Proofs.YtpoejheienohjaaGreatDoor

