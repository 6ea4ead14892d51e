/- BookNames: plain law and walk (given the fixed calls). -/
import Derived.Test.YtpoejheienohjaaGreatDoorBkL
namespace Go.Proofs.YtpoejheienohjaaGreatDoor
open Go.RowKit
set_option linter.unusedVariables false
set_option linter.unusedSimpArgs false

theorem nmAll_snoc (l : List UInt8) (c : UInt8) (h : l ≠ []) : nmAll (l ++ [c]) = (nmAll l && nmc c) := by
  cases l with
  | nil => exact absurd rfl h
  | cons a t =>
    by_cases ha : a = 33
    · subst ha; simp [nmAll]
    · have e : ∀ t, nmAll (a :: t) = (a :: t).all nmc := fun t => by unfold nmAll; split <;> simp_all
      rw [List.cons_append, e, e]
      simp [Bool.and_assoc]
theorem name_snoc {s t : ByteArray} {c : UInt8} (ht : t.data.toList = s.data.toList ++ [c]) :
    (isName s = false → s.size ≠ 0 → isName t = false) ∧ (isName s = true → s.size ≤ 20 ∧ isName t = (nmc c && decide (s.size < 20))) := by
  have hz : t.size = s.size + 1 := by rw [sz, ht, List.length_append, sz]; rfl
  constructor
  · intro h h0
    have hn : s.data.toList ≠ [] := by intro e; apply h0; rw [sz, e]; rfl
    unfold isName at *
    rw [ht, nmAll_snoc _ _ hn, hz]
    cases h1 : nmAll s.data.toList with
    | false => rfl
    | true =>
      rw [h1] at h
      simp at h
      have := h (by omega)
      simp
      intro _
      omega
  · intro h
    obtain ⟨h1, h2⟩ := isName_size h
    have hn : s.data.toList ≠ [] := by intro e; rw [sz, e] at h1; simp at h1
    refine ⟨h2, ?_⟩
    unfold isName at *
    rw [ht, nmAll_snoc _ _ hn, hz]
    simp only [Bool.and_eq_true, decide_eq_true_eq] at h
    rw [h.1, Bool.true_and, show decide (1 ≤ s.size + 1) = true by simp, Bool.true_and]
    congr 1
theorem name_empty {s : ByteArray} (h : s.size = 0) : s = ⟨#[]⟩ := by
  have : s.data.toList = [] := List.eq_nil_of_length_eq_zero (by rw [← sz]; exact h)
  cases s with
  | mk d => simp at this; rw [this]
theorem conv_one (w1 : World) (z : Int) (h0 : 0 ≤ z) (h1 : z ≤ 255) : (convert 59 9 (.slice (some ⟨w1.heap.size, 0, none⟩) 1 1)).run Tryz.prog (w1.alloc (.cells #[.int .u8 z] 5)) = .ok (.string ⟨#[UInt8.ofNat z.toNat]⟩) (w1.alloc (.cells #[.int .u8 z] 5)) := by
  have hb : Blk (w1.alloc (.cells #[.int .u8 z] 5)) w1.heap.size 5 (bcells [UInt8.ofNat z.toNat]) := by
    have := Blk.new w1 5 #[.int .u8 z]
    have e : bcells [UInt8.ofNat z.toNat] = #[.int .u8 z] := by
      simp only [bcells, List.map_cons, List.map_nil]
      rw [show ((UInt8.ofNat z.toNat).toNat : Int) = z by
        have : (UInt8.ofNat z.toNat).toNat = z.toNat := by rw [UInt8.toNat_ofNat']; omega
        omega]
    rw [e]; exact this
  exact run_string hb Tryz.underlying59 Tryz.underlying5 Tryz.underlying9 rfl 1
theorem nmc_z {z : Int} (h0 : 0 ≤ z) (h1 : z ≤ 255) : nmc (UInt8.ofNat z.toNat) = ((decide (97 ≤ z) && decide (z ≤ 122)) || (decide (48 ≤ z) && decide (z ≤ 57))) := by
  have e : (UInt8.ofNat z.toNat).toNat = z.toNat := by rw [UInt8.toNat_ofNat']; omega
  unfold nmc
  rw [e, Bool.eq_iff_iff]
  simp only [Bool.or_eq_true, Bool.and_eq_true, decide_eq_true_eq]
  omega
theorem good_t {z : Int} (h : (97 ≤ z ∧ z ≤ 122) ∨ (48 ≤ z ∧ z ≤ 57)) : ((decide (97 ≤ z) && decide (z ≤ 122)) || (decide (48 ≤ z) && decide (z ≤ 57))) = true := by
  simp only [Bool.or_eq_true, Bool.and_eq_true, decide_eq_true_eq]; exact h
theorem good_f {z : Int} (h : ¬ ((97 ≤ z ∧ z ≤ 122) ∨ (48 ≤ z ∧ z ≤ 57))) : ((decide (97 ≤ z) && decide (z ≤ 122)) || (decide (48 ≤ z) && decide (z ≤ 57))) = false := by
  rw [← Bool.not_eq_true]
  simp only [Bool.or_eq_true, Bool.and_eq_true, decide_eq_true_eq]; exact h
set_option maxRecDepth 100000 in
set_option maxHeartbeats 4000000 in
theorem l_names (HF : Fixed6Ok) (s : ByteArray) (z : Int) (w : World) (hg : Glob w) (hs : s.size ≤ 9223372036854775807) (hz0 : 0 ≤ z) (hz1 : z ≤ 255) :
    Calls Tryz.prog 10 #[.string s, .int .u8 z] w fun e w' => e = .returned (.bool true) ∧ Below w.heap.size w w' := by
  have HFX := Lib.hid HF
  clear HF
  by_cases h30 : 30 < s.size
  · go_enter Tryz.func10, Tryz.ntmps10
    go_wp2_with (first
      | (go_at_call 29; (with_reducible refine (HFX.out w hg).mono ?_); rintro e w1 ⟨rfl, hb1⟩; obtain ⟨hc1, hf1⟩ := bcell hb1; have hs1 := hb1.size; (try simp at hs1))
      | (go_at_call 29; (with_reducible refine (HFX.out w1 (hg.below hb1)).mono ?_); rintro e w2 ⟨rfl, hb2⟩; obtain ⟨hc2, hf2⟩ := bcell hb2; have hs2 := hb2.size; (try simp at hs2)))
    go_ret
    exact ⟨rfl, b_then hb1 hb2⟩
  · have kc := fun W => conv_one W z hz0 hz1
    obtain ⟨t, ht⟩ : ∃ t, s ++ (⟨#[UInt8.ofNat z.toNat]⟩ : ByteArray) = t := ⟨_, rfl⟩
    have htl : t.data.toList = s.data.toList ++ [UInt8.ofNat z.toNat] := by rw [← ht]; simp
    have hts : t.size ≤ 31 := by rw [sz, htl, List.length_append, ← sz]; simp; omega
    obtain ⟨n0, n1⟩ := name_snoc htl
    rw [nmc_z hz0 hz1] at n1
    have hp := fun W => p_name s W hs
    have hq := fun W => p_name t W (by omega)
    obtain ⟨bt, hbt⟩ : ∃ bt, isName t = bt := ⟨_, rfl⟩
    rw [hbt] at hq n0 n1
    clear htl hts hbt hs
    have hcl : (¬ 97 ≤ z ∧ z ≤ 122 ∧ ¬ 48 ≤ z ∧ z ≤ 57) ∨ (¬ 97 ≤ z ∧ z ≤ 122 ∧ 48 ≤ z ∧ z ≤ 57) ∨ (¬ 97 ≤ z ∧ z ≤ 122 ∧ 48 ≤ z ∧ ¬ z ≤ 57) ∨ (97 ≤ z ∧ z ≤ 122 ∧ 48 ≤ z ∧ ¬ z ≤ 57) ∨ (97 ≤ z ∧ ¬ z ≤ 122 ∧ 48 ≤ z ∧ ¬ z ≤ 57) := by omega
    cases hN : isName s with
    | false =>
      rw [hN] at hp n0 n1
      have n0 := n0 rfl
      clear n1
      cases bt with
      | true =>
        have he : s.toList.isEmpty = true := by
          by_cases h : s.size = 0
          · rw [name_empty h, tl]; rfl
          · exact absurd (n0 h) (by simp)
        clear n0 hN
        rcases hcl with ⟨hA, hB, hC, hD⟩ | ⟨hA, hB, hC, hD⟩ | ⟨hA, hB, hC, hD⟩ | ⟨hA, hB, hC, hD⟩ | ⟨hA, hB, hC, hD⟩
        all_goals
          go_enter Tryz.func10, Tryz.ntmps10
          go_wp2_with (first
            | (go_at_call 29; (with_reducible refine (HFX.out w hg).mono ?_); rintro e w1 ⟨rfl, hb1⟩; obtain ⟨hc1, hf1⟩ := bcell hb1; have hs1 := hb1.size; (try simp at hs1))
            | (go_at_call 35; (with_reducible refine (hp _).mono ?_); rintro e w2 ⟨rfl, hb2⟩; obtain ⟨hc2, hf2⟩ := bcell hb2; have hs2 := hb2.size; (try simp at hs2))
            | (go_at_call 35; (with_reducible refine (hq _).mono ?_); rintro e w3 ⟨rfl, hb3⟩; obtain ⟨hc3, hf3⟩ := bcell hb3; have hs3 := hb3.size; (try simp at hs3)))
          go_ret
          exact ⟨rfl, (by repeat (first | exact Below.refl _ _ | assumption | refine b_then ?_ (by assumption) | refine b_alloc ?_ _ | refine b_drewN ?_ _ | refine Below.drew ?_ | refine b_set ?_ (by first | exact Nat.le_refl _ | (simp; done) | (simp; omega) | omega) _))⟩
      | false =>
        clear n0 hN
        rcases hcl with ⟨hA, hB, hC, hD⟩ | ⟨hA, hB, hC, hD⟩ | ⟨hA, hB, hC, hD⟩ | ⟨hA, hB, hC, hD⟩ | ⟨hA, hB, hC, hD⟩
        all_goals
          go_enter Tryz.func10, Tryz.ntmps10
          go_wp2_with (first
            | (go_at_call 29; (with_reducible refine (HFX.out w hg).mono ?_); rintro e w1 ⟨rfl, hb1⟩; obtain ⟨hc1, hf1⟩ := bcell hb1; have hs1 := hb1.size; (try simp at hs1))
            | (go_at_call 35; (with_reducible refine (hp _).mono ?_); rintro e w2 ⟨rfl, hb2⟩; obtain ⟨hc2, hf2⟩ := bcell hb2; have hs2 := hb2.size; (try simp at hs2))
            | (go_at_call 35; (with_reducible refine (hq _).mono ?_); rintro e w3 ⟨rfl, hb3⟩; obtain ⟨hc3, hf3⟩ := bcell hb3; have hs3 := hb3.size; (try simp at hs3)))
          go_ret
          exact ⟨rfl, (by repeat (first | exact Below.refl _ _ | assumption | refine b_then ?_ (by assumption) | refine b_alloc ?_ _ | refine b_drewN ?_ _ | refine Below.drew ?_ | refine b_set ?_ (by first | exact Nat.le_refl _ | (simp; done) | (simp; omega) | omega) _))⟩
    | true =>
      rw [hN] at hp n0 n1
      replace n1 := n1 rfl
      obtain ⟨h20, n1⟩ := n1
      clear n0 hN
      rcases hcl with ⟨hA, hB, hC, hD⟩ | ⟨hA, hB, hC, hD⟩ | ⟨hA, hB, hC, hD⟩ | ⟨hA, hB, hC, hD⟩ | ⟨hA, hB, hC, hD⟩
      all_goals by_cases h19 : s.size < 20
      all_goals
        first | rw [good_t (by omega)] at n1 | rw [good_f (by omega)] at n1
        first | rw [decide_eq_true h19] at n1 | rw [decide_eq_false h19] at n1
        first | rw [Bool.true_and] at n1 | rw [Bool.false_and] at n1
        subst n1
        first | (have h21 : s.size = 20 := by omega); clear h20 h19 h30 | clear h20
        go_enter Tryz.func10, Tryz.ntmps10
        go_wp2_with (first
          | (go_at_call 29; (with_reducible refine (HFX.out w hg).mono ?_); rintro e w1 ⟨rfl, hb1⟩; obtain ⟨hc1, hf1⟩ := bcell hb1; have hs1 := hb1.size; (try simp at hs1))
          | (go_at_call 35; (with_reducible refine (hp _).mono ?_); rintro e w2 ⟨rfl, hb2⟩; obtain ⟨hc2, hf2⟩ := bcell hb2; have hs2 := hb2.size; (try simp at hs2))
          | (go_at_call 35; (with_reducible refine (hq _).mono ?_); rintro e w3 ⟨rfl, hb3⟩; obtain ⟨hc3, hf3⟩ := bcell hb3; have hs3 := hb3.size; (try simp at hs3)))
        go_ret
        first | exact ⟨rfl, (by repeat (first | exact Below.refl _ _ | assumption | refine b_then ?_ (by assumption) | refine b_alloc ?_ _ | refine b_drewN ?_ _ | refine Below.drew ?_ | refine b_set ?_ (by first | exact Nat.le_refl _ | (simp; done) | (simp; omega) | omega) _))⟩ | exact ⟨ret_bool (decide_eq_true (by omega)), (by repeat (first | exact Below.refl _ _ | assumption | refine b_then ?_ (by assumption) | refine b_alloc ?_ _ | refine b_drewN ?_ _ | refine Below.drew ?_ | refine b_set ?_ (by first | exact Nat.le_refl _ | (simp; done) | (simp; omega) | omega) _))⟩
end Go.Proofs.YtpoejheienohjaaGreatDoor
