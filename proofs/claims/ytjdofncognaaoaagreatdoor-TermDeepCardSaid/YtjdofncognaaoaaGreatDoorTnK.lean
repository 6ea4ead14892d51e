/- TermDeep: the walk (given the fixed calls). -/
import Derived.Test.YtjdofncognaaoaaGreatDoorTnF
namespace Go.Proofs.YtjdofncognaaoaaGreatDoor
open Go.RowKit
set_option linter.unusedVariables false
set_option linter.unusedSimpArgs false

theorem tnegs_form (k : Nat) (h : k ≤ 200) : tform (tnegs k) = true := tform_iff.2 ⟨by rw [tnegs_len]; omega, tnegs_tm k⟩
theorem tnegs_deep (k : Nat) (h : k ≤ 200) : tdeep (tnegs k) = k + 1 := by rw [tdeep_tm (tnegs_form k h), tnegs_dep]
theorem tnegs_tpr (k : Nat) (h : k ≤ 200) : (tpr (tnegs k)).size = 1 + 3 * k := by
  obtain ⟨s, h1, h2⟩ := tnegs_print k
  have h3 : tprint (tnegs k) = some s := by
    unfold tprint
    rw [tval_done h1 (by rw [tnegs_len]; omega)]; rfl
  rw [tpr_some h3, ← h2]
  rfl
theorem tl_size {s : ByteArray} (h : 0 < s.size) : (s.toList == []) = false := by
  rw [← Bool.not_eq_true]
  intro e
  have := empty_of e
  subst this
  exact absurd h (by decide)
theorem tnegs_chk (k : Nat) (h : k ≤ 200) : tchk (tnegs k) = if k + 1 ≤ 150 then 0 else 100 := by
  unfold tchk
  have h1 := tnegs_tpr k h
  rw [tnegs_deep k h, tl_size (by omega), h1]
  by_cases h2 : k + 1 ≤ 150
  · rw [if_pos h2, if_neg (by intro h3; rcases h3 with h3 | h3 | h3 <;> first | cases h3 | omega)]
  · rw [if_neg h2, if_pos (.inr (.inr (by omega)))]
theorem nq_n7 : nq n7 := by unfold nq n7; decide +kernel
theorem nq_neg : nq nneg := by unfold nq nneg; decide +kernel
theorem tnegs_nq : ∀ (k : Nat), ∀ x ∈ tnegs k, nq x
  | 0, x, h => by
    have : x = n7 := by simpa [tnegs] using h
    subst this; exact nq_n7
  | k + 1, x, h => by
    rcases List.mem_append.1 (show x ∈ tnegs k ++ [nneg] from h) with h | h
    · exact tnegs_nq k x h
    · have : x = nneg := by simpa using h
      subst this; exact nq_neg
theorem n7_eq : n7 = ⟨0, ⟨⟨#[55]⟩, ⟨#[49]⟩⟩, ⟨#[]⟩, 0, 0⟩ := by decide +kernel
theorem enc7 : enc ((7 : Int) : Rat) = ⟨⟨#[55]⟩, ⟨#[49]⟩⟩ := by decide +kernel
set_option maxRecDepth 100000 in
set_option maxHeartbeats 8000000 in
theorem l_tdeep (HF : Fixed10Ok) (z : Int) (w : World) (hg : Glob w) (hz1 : -9223372036854775808 ≤ z) (hz2 : z ≤ 9223372036854775807) :
    Calls Tryz.prog 7 #[.int .i64 z] w fun e w' => e = .returned (.bool true) ∧ Below w.heap.size w w' := by
  have hFx : ∀ W : World, Glob W → Calls Tryz.prog 15 #[] W fun e w' => e = .returned (.bool true) ∧ Below W.heap.size W w' := HF
  clear HF
  by_cases hb : 0 ≤ z ∧ z ≤ 200
  · obtain ⟨n, rfl⟩ : ∃ n : Nat, z = n := ⟨z.toNat, by omega⟩
    have hn : n ≤ 200 := by omega
    have h7 : ∀ W, Calls Tryz.prog 32 #[.int .i64 7] W fun e w' => e = .returned (.agg #[.string ⟨#[55]⟩, .string ⟨#[49]⟩]) ∧ Below W.heap.size W w' := fun W => (r3_of 7 W (by omega) (by omega)).mono fun e w' he => by rw [enc7] at he; exact he
    clear hb
    go_enter Tryz.func7, Tryz.ntmps7
    go_wp2_with (first | (go_at_call 15; (with_reducible refine (hFx w hg).mono ?_); rintro e w1 ⟨rfl, hb1⟩; obtain ⟨hc1, hf1⟩ := bcell hb1; have hs1 := hb1.size; (try simp at hs1)) | (go_at_call 32; (with_reducible refine (h7 _).mono ?_); rintro e w2 ⟨rfl, hb2⟩; obtain ⟨hc2, hf2⟩ := bcell hb2; have hs2 := hb2.size; (try simp at hs2)))
    have hB2 : Below w.heap.size w w2 := b_then hb1 hb2
    have HT0 : Hid (Rd Nd.cs 6 (w2.alloc (.cells #[.int .i64 0, .string ⟨#[55]⟩, .string ⟨#[49]⟩, .string ⟨#[]⟩, .int .i64 0, .int .i64 0] 41)) (some ⟨w2.heap.size, 0, none⟩) 1 (tnegs 0)) := Rd.made Nd.cs_length w2 41 (tnegs 0) (by decide) (by show _ = ([n7].flatMap Nd.cs).toArray; rw [n7_eq]; rfl) rfl rfl
    have hW0 : Below w.heap.size w (w2.alloc (.cells #[.int .i64 0, .string ⟨#[55]⟩, .string ⟨#[49]⟩, .string ⟨#[]⟩, .int .i64 0, .int .i64 0] 41)) := b_alloc hB2 _
    clear hb1 hc1 hf1 hs1 hb2 hc2 hf2 hs2
    go_loopw [3, 4] (fun tv iv wr => ∃ (k c : Nat) (B : Option Addr), k ≤ n ∧ iv = .int .i64 k ∧ tv = .slice B (k + 1) c ∧ k + 1 ≤ c ∧ Hid (Rd Nd.cs 6 wr B (k + 1) (tnegs k)) ∧ Below w.heap.size w wr) (fun _ iv _ => n - (intOf iv).toNat)
    case atStart => exact ⟨0, 1, _, Nat.zero_le _, rfl, rfl, Nat.le_refl _, HT0, hW0⟩
    case round =>
      clear HT0 hW0
      obtain ⟨k, c, B, hk, rfl, rfl, hkc, HT, hB⟩ := hrel
      by_cases hlt : k < n
      · have hJ := j_join 5 (c := 1) (ts := [tnegs k]) (t := tnegs (k + 1)) (m := k + 1 + 1) (wr.alloc (.cells #[.slice B (k + 1) c] 23)) (tl_one (g := wr.heap.size) hkc HT.out rfl) (by simp [tnegs, nneg, nd0]) (tnegs_len (k + 1)) (by simp [tnegs_len]; omega)
        have HJ := Lib.hid hJ
        clear hJ
        go_wp2_with (go_at_call 28; (with_reducible refine HJ.out.mono ?_); rintro e w3 ⟨B3, k3, rfl, ⟨hk3, R3⟩, hb3⟩; (have HR3 := Lib.hid R3); (have hB3 : Below w.heap.size w w3 := b_then (b_alloc hB _) hb3); clear R3)
        go_roundw
        case rel => exact ⟨k + 1, k3, B3, by omega, by go_num, rfl, hk3, HR3, hB3⟩
        case measure => simp [intOf]; omega
      · obtain rfl : k = n := by omega
        obtain ⟨S, hS⟩ : ∃ S, tpr (tnegs k) = S := ⟨_, rfl⟩
        have hSz : S.size = 1 + 3 * k := by rw [← hS]; exact tnegs_tpr k hn
        have hD := fun W (h : Below wr.heap.size wr W) => p_depth (c := c) W (HT.out.below h)
        have hC := fun W (h : Below wr.heap.size wr W) => p_tcheck (c := c) W (hg.below (b_then hB h)) (HT.out.below h) (tnegs_nq k)
        have hP := fun W (h : Below wr.heap.size wr W) => p_print (c := c) W (hg.below (b_then hB h)) (HT.out.below h) (tnegs_nq k)
        rw [tnegs_deep k hn] at hD
        rw [tnegs_chk k hn] at hC
        rw [hS] at hP
        have HSZ := Lib.hid hSz
        by_cases h150 : k + 1 ≤ 150
        · rw [if_pos h150] at hC
          clear hS hSz
          go_wp2_with (first | (go_at_call 20; (with_reducible refine (hD _ (Below.refl _ _)).mono ?_); rintro e w4 ⟨rfl, hb4⟩; obtain ⟨hc4, hf4⟩ := bcell hb4; have hs4 := hb4.size; (try simp at hs4)) | (go_at_call 16; (with_reducible refine (hC _ hb4).mono ?_); rintro e w5 ⟨rfl, hb5⟩; obtain ⟨hc5, hf5⟩ := bcell hb5; have hs5 := hb5.size; (try simp at hs5)) | (go_at_call 18; (with_reducible refine (hP _ (b_then hb4 hb5)).mono ?_); rintro e w6 ⟨rfl, hb6⟩; obtain ⟨hc6, hf6⟩ := bcell hb6; have hs6 := hb6.size; (try simp at hs6)))
          go_ret
          exact ⟨ret_bool (by have := HSZ.out; simp; omega), b_then hB (b_then (b_then hb4 hb5) hb6)⟩
        · rw [if_neg h150] at hC
          clear hS hSz
          go_wp2_with (first | (go_at_call 20; (with_reducible refine (hD _ (Below.refl _ _)).mono ?_); rintro e w4 ⟨rfl, hb4⟩; obtain ⟨hc4, hf4⟩ := bcell hb4; have hs4 := hb4.size; (try simp at hs4)) | (go_at_call 16; (with_reducible refine (hC _ hb4).mono ?_); rintro e w5 ⟨rfl, hb5⟩; obtain ⟨hc5, hf5⟩ := bcell hb5; have hs5 := hb5.size; (try simp at hs5)) | (go_at_call 18; (with_reducible refine (hP _ (b_then hb4 hb5)).mono ?_); rintro e w6 ⟨rfl, hb6⟩; obtain ⟨hc6, hf6⟩ := bcell hb6; have hs6 := hb6.size; (try simp at hs6)))
          go_ret
          exact ⟨ret_bool (by have := HSZ.out; simp; omega), b_then hB (b_then (b_then hb4 hb5) hb6)⟩
  · go_enter Tryz.func7, Tryz.ntmps7
    by_cases h0 : z < 0
    · go_wp2_with (first | (go_at_call 15; (with_reducible refine (hFx w hg).mono ?_); rintro e w1 ⟨rfl, hb1⟩; obtain ⟨hc1, hf1⟩ := bcell hb1; have hs1 := hb1.size; (try simp at hs1)) | (go_at_call 15; (with_reducible refine (hFx w1 (hg.below hb1)).mono ?_); rintro e w2 ⟨rfl, hb2⟩; obtain ⟨hc2, hf2⟩ := bcell hb2; have hs2 := hb2.size; (try simp at hs2)))
      go_ret
      exact ⟨rfl, b_then hb1 hb2⟩
    · have h2 : 200 < z := by omega
      go_wp2_with (first | (go_at_call 15; (with_reducible refine (hFx w hg).mono ?_); rintro e w1 ⟨rfl, hb1⟩; obtain ⟨hc1, hf1⟩ := bcell hb1; have hs1 := hb1.size; (try simp at hs1)) | (go_at_call 15; (with_reducible refine (hFx w1 (hg.below hb1)).mono ?_); rintro e w2 ⟨rfl, hb2⟩; obtain ⟨hc2, hf2⟩ := bcell hb2; have hs2 := hb2.size; (try simp at hs2)))
      go_ret
      exact ⟨rfl, b_then hb1 hb2⟩
end Go.Proofs.YtjdofncognaaoaaGreatDoor
