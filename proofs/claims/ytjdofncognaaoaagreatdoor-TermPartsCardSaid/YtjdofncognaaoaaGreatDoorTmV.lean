/- Walks: a number's print in a term; term.words, term.node. -/
import Derived.Test.YtjdofncognaaoaaGreatDoorTmU
import Derived.Test.YtjdofncognaaoaaGreatDoorTmS
import Derived.Test.YtjdofncognaaoaaGreatDoorTmR
import Derived.Test.YtjdofncognaaoaaGreatDoorShelf3
namespace Go.Proofs.YtjdofncognaaoaaGreatDoor
open Go.RowKit
set_option linter.unusedVariables false
set_option linter.unusedSimpArgs false

set_option maxRecDepth 100000 in
set_option maxHeartbeats 2000000 in
theorem p_number (q : Rat) (w : World) (hg : Glob w) (h : rsmall 61 q) :
    Calls Tryz.prog 87 #[.agg #[.string (iS q.num), .string (nS q.den)]] w fun e w' => e = .returned (.string (mkS (numT (enc q)))) ∧ Below w.heap.size w w' := by
  have hP := fun W hgw => p_Places q W hgw (rsmall_mono h (by omega))
  have hz1 : (iS q.num).size ≤ 62 := by have := iS_sz h.1; omega
  have hz2 : (nS q.den).size ≤ 61 := by rw [nS_size]; exact h.2
  have hS := fun W hgw => p_rsign (iS q.num) (nS q.den) W hgw (by omega) (by omega)
  have hsg : rsign ⟨iS q.num, nS q.den⟩ = q.num.sign := by
    unfold rsign
    rw [show rmay ⟨iS q.num, nS q.den⟩ = true from rmay_enc q, if_pos rfl, show rnum ⟨iS q.num, nS q.den⟩ = q.num from ival_itx _]
  rw [hsg] at hS
  clear hsg
  cases hp : dplaces q.den with
  | none =>
    rw [numT_no (fun n e => by rw [hp] at e; cases e)]
    rw [hp, optN_none] at hP
    unfold numF
    clear hp
    go_enter Tryz.func87, Tryz.ntmps87
    go_wp2_with (first | (go_at_call 128; (with_reducible refine (hP _ (hg.below (by repeat (first | exact Below.refl _ _ | assumption | refine b_then ?_ (by assumption) | refine b_alloc ?_ _ | refine b_drewN ?_ _ | refine Below.drew ?_ | refine b_set ?_ (by first | exact Nat.le_refl _ | (simp; done) | (simp; omega) | omega) _)))).mono ?_); rintro e w1 ⟨rfl, hb1⟩; obtain ⟨hc1, hf1⟩ := bcell hb1; have hs1 := hb1.size; (try simp at hs1); have hq1 : w.heap.size < w1.heap.size := (by omega)) | (go_at_call 106; (with_reducible refine (hS _ (hg.below (by repeat (first | exact Below.refl _ _ | assumption | refine b_then ?_ (by assumption) | refine b_alloc ?_ _ | refine b_drewN ?_ _ | refine Below.drew ?_ | refine b_set ?_ (by first | exact Nat.le_refl _ | (simp; done) | (simp; omega) | omega) _)))).mono ?_); rintro e w2 ⟨rfl, hb2⟩; obtain ⟨hc2, hf2⟩ := bcell hb2; have hs2 := hb2.size; (try simp at hs2); have hq2 : w.heap.size < w2.heap.size := (by omega)) | (go_at_call 129; (with_reducible refine (hD _ (hg.below (by repeat (first | exact Below.refl _ _ | assumption | refine b_then ?_ (by assumption) | refine b_alloc ?_ _ | refine b_drewN ?_ _ | refine Below.drew ?_ | refine b_set ?_ (by first | exact Nat.le_refl _ | (simp; done) | (simp; omega) | omega) _)))).mono ?_); rintro e w3 ⟨rfl, hb3⟩; obtain ⟨hc3, hf3⟩ := bcell hb3; have hs3 := hb3.size; (try simp at hs3); skip))
    go_ret
    exact ⟨rfl, (by repeat (first | exact Below.refl _ _ | assumption | refine b_then ?_ (by assumption) | refine b_alloc ?_ _ | refine b_drewN ?_ _ | refine Below.drew ?_ | refine b_set ?_ (by first | exact Nat.le_refl _ | (simp; done) | (simp; omega) | omega) _))⟩
  | some n =>
    rw [hp, optN_some] at hP
    by_cases hn : n ≤ 20
    · have hn' : (n : Int) ≤ 20 := by omega
      by_cases h0 : 0 ≤ q.num
      · rw [numT_yes hp hn h0]
        have hs0 : 0 ≤ q.num.sign := by rw [Int.sign_nonneg_iff]; exact h0
        have hD := fun W hgw => p_dprint q n W hgw (rsmall_mono h (by omega)) hp hn h0
        generalize mkS (dtext (dM q n) n) = R at *
        generalize q.num.sign = sg at *
        clear hp
        go_enter Tryz.func87, Tryz.ntmps87
        go_wp2_with (first | (go_at_call 128; (with_reducible refine (hP _ (hg.below (by repeat (first | exact Below.refl _ _ | assumption | refine b_then ?_ (by assumption) | refine b_alloc ?_ _ | refine b_drewN ?_ _ | refine Below.drew ?_ | refine b_set ?_ (by first | exact Nat.le_refl _ | (simp; done) | (simp; omega) | omega) _)))).mono ?_); rintro e w1 ⟨rfl, hb1⟩; obtain ⟨hc1, hf1⟩ := bcell hb1; have hs1 := hb1.size; (try simp at hs1); have hq1 : w.heap.size < w1.heap.size := (by omega)) | (go_at_call 106; (with_reducible refine (hS _ (hg.below (by repeat (first | exact Below.refl _ _ | assumption | refine b_then ?_ (by assumption) | refine b_alloc ?_ _ | refine b_drewN ?_ _ | refine Below.drew ?_ | refine b_set ?_ (by first | exact Nat.le_refl _ | (simp; done) | (simp; omega) | omega) _)))).mono ?_); rintro e w2 ⟨rfl, hb2⟩; obtain ⟨hc2, hf2⟩ := bcell hb2; have hs2 := hb2.size; (try simp at hs2); have hq2 : w.heap.size < w2.heap.size := (by omega)) | (go_at_call 129; (with_reducible refine (hD _ (hg.below (by repeat (first | exact Below.refl _ _ | assumption | refine b_then ?_ (by assumption) | refine b_alloc ?_ _ | refine b_drewN ?_ _ | refine Below.drew ?_ | refine b_set ?_ (by first | exact Nat.le_refl _ | (simp; done) | (simp; omega) | omega) _)))).mono ?_); rintro e w3 ⟨rfl, hb3⟩; obtain ⟨hc3, hf3⟩ := bcell hb3; have hs3 := hb3.size; (try simp at hs3); skip))
        go_ret
        exact ⟨rfl, (by repeat (first | exact Below.refl _ _ | assumption | refine b_then ?_ (by assumption) | refine b_alloc ?_ _ | refine b_drewN ?_ _ | refine Below.drew ?_ | refine b_set ?_ (by first | exact Nat.le_refl _ | (simp; done) | (simp; omega) | omega) _))⟩
      · rw [numT_no (fun m e hm => h0 hm.2)]
        have hs0 : q.num.sign < 0 := by rw [Int.sign_neg_iff]; omega
        unfold numF
        generalize q.num.sign = sg at *
        clear hp
        go_enter Tryz.func87, Tryz.ntmps87
        go_wp2_with (first | (go_at_call 128; (with_reducible refine (hP _ (hg.below (by repeat (first | exact Below.refl _ _ | assumption | refine b_then ?_ (by assumption) | refine b_alloc ?_ _ | refine b_drewN ?_ _ | refine Below.drew ?_ | refine b_set ?_ (by first | exact Nat.le_refl _ | (simp; done) | (simp; omega) | omega) _)))).mono ?_); rintro e w1 ⟨rfl, hb1⟩; obtain ⟨hc1, hf1⟩ := bcell hb1; have hs1 := hb1.size; (try simp at hs1); have hq1 : w.heap.size < w1.heap.size := (by omega)) | (go_at_call 106; (with_reducible refine (hS _ (hg.below (by repeat (first | exact Below.refl _ _ | assumption | refine b_then ?_ (by assumption) | refine b_alloc ?_ _ | refine b_drewN ?_ _ | refine Below.drew ?_ | refine b_set ?_ (by first | exact Nat.le_refl _ | (simp; done) | (simp; omega) | omega) _)))).mono ?_); rintro e w2 ⟨rfl, hb2⟩; obtain ⟨hc2, hf2⟩ := bcell hb2; have hs2 := hb2.size; (try simp at hs2); have hq2 : w.heap.size < w2.heap.size := (by omega)) | (go_at_call 129; (with_reducible refine (hD _ (hg.below (by repeat (first | exact Below.refl _ _ | assumption | refine b_then ?_ (by assumption) | refine b_alloc ?_ _ | refine b_drewN ?_ _ | refine Below.drew ?_ | refine b_set ?_ (by first | exact Nat.le_refl _ | (simp; done) | (simp; omega) | omega) _)))).mono ?_); rintro e w3 ⟨rfl, hb3⟩; obtain ⟨hc3, hf3⟩ := bcell hb3; have hs3 := hb3.size; (try simp at hs3); skip))
        go_ret
        exact ⟨rfl, (by repeat (first | exact Below.refl _ _ | assumption | refine b_then ?_ (by assumption) | refine b_alloc ?_ _ | refine b_drewN ?_ _ | refine Below.drew ?_ | refine b_set ?_ (by first | exact Nat.le_refl _ | (simp; done) | (simp; omega) | omega) _))⟩
    · have hn' : ¬ (n : Int) ≤ 20 := by omega
      rw [numT_no (fun m e hm => by rw [hp] at e; injection e with e; omega)]
      unfold numF
      clear hp
      go_enter Tryz.func87, Tryz.ntmps87
      go_wp2_with (first | (go_at_call 128; (with_reducible refine (hP _ (hg.below (by repeat (first | exact Below.refl _ _ | assumption | refine b_then ?_ (by assumption) | refine b_alloc ?_ _ | refine b_drewN ?_ _ | refine Below.drew ?_ | refine b_set ?_ (by first | exact Nat.le_refl _ | (simp; done) | (simp; omega) | omega) _)))).mono ?_); rintro e w1 ⟨rfl, hb1⟩; obtain ⟨hc1, hf1⟩ := bcell hb1; have hs1 := hb1.size; (try simp at hs1); have hq1 : w.heap.size < w1.heap.size := (by omega)) | (go_at_call 106; (with_reducible refine (hS _ (hg.below (by repeat (first | exact Below.refl _ _ | assumption | refine b_then ?_ (by assumption) | refine b_alloc ?_ _ | refine b_drewN ?_ _ | refine Below.drew ?_ | refine b_set ?_ (by first | exact Nat.le_refl _ | (simp; done) | (simp; omega) | omega) _)))).mono ?_); rintro e w2 ⟨rfl, hb2⟩; obtain ⟨hc2, hf2⟩ := bcell hb2; have hs2 := hb2.size; (try simp at hs2); have hq2 : w.heap.size < w2.heap.size := (by omega)) | (go_at_call 129; (with_reducible refine (hD _ (hg.below (by repeat (first | exact Below.refl _ _ | assumption | refine b_then ?_ (by assumption) | refine b_alloc ?_ _ | refine b_drewN ?_ _ | refine Below.drew ?_ | refine b_set ?_ (by first | exact Nat.le_refl _ | (simp; done) | (simp; omega) | omega) _)))).mono ?_); rintro e w3 ⟨rfl, hb3⟩; obtain ⟨hc3, hf3⟩ := bcell hb3; have hs3 := hb3.size; (try simp at hs3); skip))
      go_ret
      exact ⟨rfl, (by repeat (first | exact Below.refl _ _ | assumption | refine b_then ?_ (by assumption) | refine b_alloc ?_ _ | refine b_drewN ?_ _ | refine Below.drew ?_ | refine b_set ?_ (by first | exact Nat.le_refl _ | (simp; done) | (simp; omega) | omega) _))⟩
set_option maxRecDepth 100000 in
set_option maxHeartbeats 2000000 in
theorem r10_number (q : Rat) (w : World) (h : rsmall 61 q) :
    Calls Tryz.prog 92 #[.agg #[.string (iS q.num), .string (nS q.den)]] w fun e w' => e = .returned (.string (mkS (numT (enc q)))) ∧ Below w.heap.size w w' := by
  have hP := fun W => r4_Places q W (rsmall_mono h (by omega))
  have hz1 : (iS q.num).size ≤ 62 := by have := iS_sz h.1; omega
  have hz2 : (nS q.den).size ≤ 61 := by rw [nS_size]; exact h.2
  have hS := fun W => r3_sign (iS q.num) (nS q.den) W (by omega) (by omega)
  have hsg : rsign ⟨iS q.num, nS q.den⟩ = q.num.sign := by
    unfold rsign
    rw [show rmay ⟨iS q.num, nS q.den⟩ = true from rmay_enc q, if_pos rfl, show rnum ⟨iS q.num, nS q.den⟩ = q.num from ival_itx _]
  rw [hsg] at hS
  clear hsg
  cases hp : dplaces q.den with
  | none =>
    rw [numT_no (fun n e => by rw [hp] at e; cases e)]
    rw [hp, optN_none] at hP
    unfold numF
    clear hp
    go_enter Tryz.func92, Tryz.ntmps92
    go_wp2_with (first | (go_at_call 134; (with_reducible refine (hP _).mono ?_); rintro e w1 ⟨rfl, hb1⟩; obtain ⟨hc1, hf1⟩ := bcell hb1; have hs1 := hb1.size; (try simp at hs1); have hq1 : w.heap.size < w1.heap.size := (by omega)) | (go_at_call 43; (with_reducible refine (hS _).mono ?_); rintro e w2 ⟨rfl, hb2⟩; obtain ⟨hc2, hf2⟩ := bcell hb2; have hs2 := hb2.size; (try simp at hs2); have hq2 : w.heap.size < w2.heap.size := (by omega)) | (go_at_call 135; (with_reducible refine (hD _).mono ?_); rintro e w3 ⟨rfl, hb3⟩; obtain ⟨hc3, hf3⟩ := bcell hb3; have hs3 := hb3.size; (try simp at hs3); skip))
    go_ret
    exact ⟨rfl, (by repeat (first | exact Below.refl _ _ | assumption | refine b_then ?_ (by assumption) | refine b_alloc ?_ _ | refine b_drewN ?_ _ | refine Below.drew ?_ | refine b_set ?_ (by first | exact Nat.le_refl _ | (simp; done) | (simp; omega) | omega) _))⟩
  | some n =>
    rw [hp, optN_some] at hP
    by_cases hn : n ≤ 20
    · have hn' : (n : Int) ≤ 20 := by omega
      by_cases h0 : 0 ≤ q.num
      · rw [numT_yes hp hn h0]
        have hs0 : 0 ≤ q.num.sign := by rw [Int.sign_nonneg_iff]; exact h0
        have hD := fun W => r4_print q n W (rsmall_mono h (by omega)) hp hn h0
        generalize mkS (dtext (dM q n) n) = R at *
        generalize q.num.sign = sg at *
        clear hp
        go_enter Tryz.func92, Tryz.ntmps92
        go_wp2_with (first | (go_at_call 134; (with_reducible refine (hP _).mono ?_); rintro e w1 ⟨rfl, hb1⟩; obtain ⟨hc1, hf1⟩ := bcell hb1; have hs1 := hb1.size; (try simp at hs1); have hq1 : w.heap.size < w1.heap.size := (by omega)) | (go_at_call 43; (with_reducible refine (hS _).mono ?_); rintro e w2 ⟨rfl, hb2⟩; obtain ⟨hc2, hf2⟩ := bcell hb2; have hs2 := hb2.size; (try simp at hs2); have hq2 : w.heap.size < w2.heap.size := (by omega)) | (go_at_call 135; (with_reducible refine (hD _).mono ?_); rintro e w3 ⟨rfl, hb3⟩; obtain ⟨hc3, hf3⟩ := bcell hb3; have hs3 := hb3.size; (try simp at hs3); skip))
        go_ret
        exact ⟨rfl, (by repeat (first | exact Below.refl _ _ | assumption | refine b_then ?_ (by assumption) | refine b_alloc ?_ _ | refine b_drewN ?_ _ | refine Below.drew ?_ | refine b_set ?_ (by first | exact Nat.le_refl _ | (simp; done) | (simp; omega) | omega) _))⟩
      · rw [numT_no (fun m e hm => h0 hm.2)]
        have hs0 : q.num.sign < 0 := by rw [Int.sign_neg_iff]; omega
        unfold numF
        generalize q.num.sign = sg at *
        clear hp
        go_enter Tryz.func92, Tryz.ntmps92
        go_wp2_with (first | (go_at_call 134; (with_reducible refine (hP _).mono ?_); rintro e w1 ⟨rfl, hb1⟩; obtain ⟨hc1, hf1⟩ := bcell hb1; have hs1 := hb1.size; (try simp at hs1); have hq1 : w.heap.size < w1.heap.size := (by omega)) | (go_at_call 43; (with_reducible refine (hS _).mono ?_); rintro e w2 ⟨rfl, hb2⟩; obtain ⟨hc2, hf2⟩ := bcell hb2; have hs2 := hb2.size; (try simp at hs2); have hq2 : w.heap.size < w2.heap.size := (by omega)) | (go_at_call 135; (with_reducible refine (hD _).mono ?_); rintro e w3 ⟨rfl, hb3⟩; obtain ⟨hc3, hf3⟩ := bcell hb3; have hs3 := hb3.size; (try simp at hs3); skip))
        go_ret
        exact ⟨rfl, (by repeat (first | exact Below.refl _ _ | assumption | refine b_then ?_ (by assumption) | refine b_alloc ?_ _ | refine b_drewN ?_ _ | refine Below.drew ?_ | refine b_set ?_ (by first | exact Nat.le_refl _ | (simp; done) | (simp; omega) | omega) _))⟩
    · have hn' : ¬ (n : Int) ≤ 20 := by omega
      rw [numT_no (fun m e hm => by rw [hp] at e; injection e with e; omega)]
      unfold numF
      clear hp
      go_enter Tryz.func92, Tryz.ntmps92
      go_wp2_with (first | (go_at_call 134; (with_reducible refine (hP _).mono ?_); rintro e w1 ⟨rfl, hb1⟩; obtain ⟨hc1, hf1⟩ := bcell hb1; have hs1 := hb1.size; (try simp at hs1); have hq1 : w.heap.size < w1.heap.size := (by omega)) | (go_at_call 43; (with_reducible refine (hS _).mono ?_); rintro e w2 ⟨rfl, hb2⟩; obtain ⟨hc2, hf2⟩ := bcell hb2; have hs2 := hb2.size; (try simp at hs2); have hq2 : w.heap.size < w2.heap.size := (by omega)) | (go_at_call 135; (with_reducible refine (hD _).mono ?_); rintro e w3 ⟨rfl, hb3⟩; obtain ⟨hc3, hf3⟩ := bcell hb3; have hs3 := hb3.size; (try simp at hs3); skip))
      go_ret
      exact ⟨rfl, (by repeat (first | exact Below.refl _ _ | assumption | refine b_then ?_ (by assumption) | refine b_alloc ?_ _ | refine b_drewN ?_ _ | refine Below.drew ?_ | refine b_set ?_ (by first | exact Nat.le_refl _ | (simp; done) | (simp; omega) | omega) _))⟩
abbrev wordArr : Array Value := #[.string ⟨#[]⟩, .string ⟨#[]⟩, .string ⟨#[97, 118, 103]⟩, .string ⟨#[104, 105]⟩, .string ⟨#[108, 111]⟩, .string ⟨#[]⟩, .string ⟨#[43]⟩, .string ⟨#[45]⟩, .string ⟨#[42]⟩, .string ⟨#[47]⟩, .string ⟨#[109, 97, 120]⟩, .string ⟨#[109, 105, 110]⟩, .string ⟨#[105, 102]⟩]
set_option maxRecDepth 100000 in
set_option maxHeartbeats 2000000 in
theorem p_words (w : World) : Calls Tryz.prog 86 #[] w fun e w' => e = .returned (.agg #[.string ⟨#[]⟩, .string ⟨#[]⟩, .string ⟨#[97, 118, 103]⟩, .string ⟨#[104, 105]⟩, .string ⟨#[108, 111]⟩, .string ⟨#[]⟩, .string ⟨#[43]⟩, .string ⟨#[45]⟩, .string ⟨#[42]⟩, .string ⟨#[47]⟩, .string ⟨#[109, 97, 120]⟩, .string ⟨#[109, 105, 110]⟩, .string ⟨#[105, 102]⟩]) ∧ Below w.heap.size w w' := by
  go_enter Tryz.func86, Tryz.ntmps86
  go_wp2
  refine bodyPost_ret (v := .agg #[.string ⟨#[]⟩, .string ⟨#[]⟩, .string ⟨#[97, 118, 103]⟩, .string ⟨#[104, 105]⟩, .string ⟨#[108, 111]⟩, .string ⟨#[]⟩, .string ⟨#[43]⟩, .string ⟨#[45]⟩, .string ⟨#[42]⟩, .string ⟨#[47]⟩, .string ⟨#[109, 97, 120]⟩, .string ⟨#[109, 105, 110]⟩, .string ⟨#[105, 102]⟩]) ?_ rfl ⟨rfl, (by repeat (first | exact Below.refl _ _ | assumption | refine b_then ?_ (by assumption) | refine b_alloc ?_ _ | refine b_drewN ?_ _ | refine Below.drew ?_ | refine b_set ?_ (by first | exact Nat.le_refl _ | (simp; done) | (simp; omega) | omega) _))⟩
  simp [results, Tryz.results86, go_sem]
theorem word_ix0 (W : World) : (Instr.index 113 (.agg #[.string ⟨#[]⟩, .string ⟨#[]⟩, .string ⟨#[97, 118, 103]⟩, .string ⟨#[104, 105]⟩, .string ⟨#[108, 111]⟩, .string ⟨#[]⟩, .string ⟨#[43]⟩, .string ⟨#[45]⟩, .string ⟨#[42]⟩, .string ⟨#[47]⟩, .string ⟨#[109, 97, 120]⟩, .string ⟨#[109, 105, 110]⟩, .string ⟨#[105, 102]⟩]) (.int .i64 0)).run Tryz.prog W = .ok (.string ⟨#[]⟩) W := by kernel_rfl
theorem word_ix1 (W : World) : (Instr.index 113 (.agg #[.string ⟨#[]⟩, .string ⟨#[]⟩, .string ⟨#[97, 118, 103]⟩, .string ⟨#[104, 105]⟩, .string ⟨#[108, 111]⟩, .string ⟨#[]⟩, .string ⟨#[43]⟩, .string ⟨#[45]⟩, .string ⟨#[42]⟩, .string ⟨#[47]⟩, .string ⟨#[109, 97, 120]⟩, .string ⟨#[109, 105, 110]⟩, .string ⟨#[105, 102]⟩]) (.int .i64 1)).run Tryz.prog W = .ok (.string ⟨#[]⟩) W := by kernel_rfl
theorem word_ix2 (W : World) : (Instr.index 113 (.agg #[.string ⟨#[]⟩, .string ⟨#[]⟩, .string ⟨#[97, 118, 103]⟩, .string ⟨#[104, 105]⟩, .string ⟨#[108, 111]⟩, .string ⟨#[]⟩, .string ⟨#[43]⟩, .string ⟨#[45]⟩, .string ⟨#[42]⟩, .string ⟨#[47]⟩, .string ⟨#[109, 97, 120]⟩, .string ⟨#[109, 105, 110]⟩, .string ⟨#[105, 102]⟩]) (.int .i64 2)).run Tryz.prog W = .ok (.string ⟨#[97, 118, 103]⟩) W := by kernel_rfl
theorem word_ix3 (W : World) : (Instr.index 113 (.agg #[.string ⟨#[]⟩, .string ⟨#[]⟩, .string ⟨#[97, 118, 103]⟩, .string ⟨#[104, 105]⟩, .string ⟨#[108, 111]⟩, .string ⟨#[]⟩, .string ⟨#[43]⟩, .string ⟨#[45]⟩, .string ⟨#[42]⟩, .string ⟨#[47]⟩, .string ⟨#[109, 97, 120]⟩, .string ⟨#[109, 105, 110]⟩, .string ⟨#[105, 102]⟩]) (.int .i64 3)).run Tryz.prog W = .ok (.string ⟨#[104, 105]⟩) W := by kernel_rfl
theorem word_ix4 (W : World) : (Instr.index 113 (.agg #[.string ⟨#[]⟩, .string ⟨#[]⟩, .string ⟨#[97, 118, 103]⟩, .string ⟨#[104, 105]⟩, .string ⟨#[108, 111]⟩, .string ⟨#[]⟩, .string ⟨#[43]⟩, .string ⟨#[45]⟩, .string ⟨#[42]⟩, .string ⟨#[47]⟩, .string ⟨#[109, 97, 120]⟩, .string ⟨#[109, 105, 110]⟩, .string ⟨#[105, 102]⟩]) (.int .i64 4)).run Tryz.prog W = .ok (.string ⟨#[108, 111]⟩) W := by kernel_rfl
theorem word_ix5 (W : World) : (Instr.index 113 (.agg #[.string ⟨#[]⟩, .string ⟨#[]⟩, .string ⟨#[97, 118, 103]⟩, .string ⟨#[104, 105]⟩, .string ⟨#[108, 111]⟩, .string ⟨#[]⟩, .string ⟨#[43]⟩, .string ⟨#[45]⟩, .string ⟨#[42]⟩, .string ⟨#[47]⟩, .string ⟨#[109, 97, 120]⟩, .string ⟨#[109, 105, 110]⟩, .string ⟨#[105, 102]⟩]) (.int .i64 5)).run Tryz.prog W = .ok (.string ⟨#[]⟩) W := by kernel_rfl
theorem word_ix6 (W : World) : (Instr.index 113 (.agg #[.string ⟨#[]⟩, .string ⟨#[]⟩, .string ⟨#[97, 118, 103]⟩, .string ⟨#[104, 105]⟩, .string ⟨#[108, 111]⟩, .string ⟨#[]⟩, .string ⟨#[43]⟩, .string ⟨#[45]⟩, .string ⟨#[42]⟩, .string ⟨#[47]⟩, .string ⟨#[109, 97, 120]⟩, .string ⟨#[109, 105, 110]⟩, .string ⟨#[105, 102]⟩]) (.int .i64 6)).run Tryz.prog W = .ok (.string ⟨#[43]⟩) W := by kernel_rfl
theorem word_ix7 (W : World) : (Instr.index 113 (.agg #[.string ⟨#[]⟩, .string ⟨#[]⟩, .string ⟨#[97, 118, 103]⟩, .string ⟨#[104, 105]⟩, .string ⟨#[108, 111]⟩, .string ⟨#[]⟩, .string ⟨#[43]⟩, .string ⟨#[45]⟩, .string ⟨#[42]⟩, .string ⟨#[47]⟩, .string ⟨#[109, 97, 120]⟩, .string ⟨#[109, 105, 110]⟩, .string ⟨#[105, 102]⟩]) (.int .i64 7)).run Tryz.prog W = .ok (.string ⟨#[45]⟩) W := by kernel_rfl
theorem word_ix8 (W : World) : (Instr.index 113 (.agg #[.string ⟨#[]⟩, .string ⟨#[]⟩, .string ⟨#[97, 118, 103]⟩, .string ⟨#[104, 105]⟩, .string ⟨#[108, 111]⟩, .string ⟨#[]⟩, .string ⟨#[43]⟩, .string ⟨#[45]⟩, .string ⟨#[42]⟩, .string ⟨#[47]⟩, .string ⟨#[109, 97, 120]⟩, .string ⟨#[109, 105, 110]⟩, .string ⟨#[105, 102]⟩]) (.int .i64 8)).run Tryz.prog W = .ok (.string ⟨#[42]⟩) W := by kernel_rfl
theorem word_ix9 (W : World) : (Instr.index 113 (.agg #[.string ⟨#[]⟩, .string ⟨#[]⟩, .string ⟨#[97, 118, 103]⟩, .string ⟨#[104, 105]⟩, .string ⟨#[108, 111]⟩, .string ⟨#[]⟩, .string ⟨#[43]⟩, .string ⟨#[45]⟩, .string ⟨#[42]⟩, .string ⟨#[47]⟩, .string ⟨#[109, 97, 120]⟩, .string ⟨#[109, 105, 110]⟩, .string ⟨#[105, 102]⟩]) (.int .i64 9)).run Tryz.prog W = .ok (.string ⟨#[47]⟩) W := by kernel_rfl
theorem word_ix10 (W : World) : (Instr.index 113 (.agg #[.string ⟨#[]⟩, .string ⟨#[]⟩, .string ⟨#[97, 118, 103]⟩, .string ⟨#[104, 105]⟩, .string ⟨#[108, 111]⟩, .string ⟨#[]⟩, .string ⟨#[43]⟩, .string ⟨#[45]⟩, .string ⟨#[42]⟩, .string ⟨#[47]⟩, .string ⟨#[109, 97, 120]⟩, .string ⟨#[109, 105, 110]⟩, .string ⟨#[105, 102]⟩]) (.int .i64 10)).run Tryz.prog W = .ok (.string ⟨#[109, 97, 120]⟩) W := by kernel_rfl
theorem word_ix11 (W : World) : (Instr.index 113 (.agg #[.string ⟨#[]⟩, .string ⟨#[]⟩, .string ⟨#[97, 118, 103]⟩, .string ⟨#[104, 105]⟩, .string ⟨#[108, 111]⟩, .string ⟨#[]⟩, .string ⟨#[43]⟩, .string ⟨#[45]⟩, .string ⟨#[42]⟩, .string ⟨#[47]⟩, .string ⟨#[109, 97, 120]⟩, .string ⟨#[109, 105, 110]⟩, .string ⟨#[105, 102]⟩]) (.int .i64 11)).run Tryz.prog W = .ok (.string ⟨#[109, 105, 110]⟩) W := by kernel_rfl
theorem word_ix12 (W : World) : (Instr.index 113 (.agg #[.string ⟨#[]⟩, .string ⟨#[]⟩, .string ⟨#[97, 118, 103]⟩, .string ⟨#[104, 105]⟩, .string ⟨#[108, 111]⟩, .string ⟨#[]⟩, .string ⟨#[43]⟩, .string ⟨#[45]⟩, .string ⟨#[42]⟩, .string ⟨#[47]⟩, .string ⟨#[109, 97, 120]⟩, .string ⟨#[109, 105, 110]⟩, .string ⟨#[105, 102]⟩]) (.int .i64 12)).run Tryz.prog W = .ok (.string ⟨#[105, 102]⟩) W := by kernel_rfl
/-- The texts of a short slice, at hand. -/
theorem str_cells {w : World} {A : Option Addr} {m : Nat} {l : List ByteArray} (h : Rd kCs 1 w A m l) (hm : 0 < m) : ∃ ad, A = some ad ∧ ad.block < w.heap.size ∧ ∀ W, Below w.heap.size w W →
    (∀ s, l[0]? = some s → W.cell? ad = some (.string s)) ∧ (∀ s, l[1]? = some s → W.cell? ⟨ad.block, ad.off + 1, none⟩ = some (.string s)) ∧ (∀ s, l[2]? = some s → W.cell? ⟨ad.block, ad.off + 2, none⟩ = some (.string s)) := by
  obtain ⟨ad, hA, hl, hc⟩ := h.cells hm
  refine ⟨ad, hA, hl, fun W hW => ⟨fun s hs => ?_, fun s hs => ?_, fun s hs => ?_⟩⟩
  · have := hc 0 s hs 0 _ rfl
    have e : ad.add (0 * 1 + 0) = ad := rfl
    rw [e] at this
    exact (hW.cell hl).trans this
  · have := hc 1 s hs 0 _ rfl
    have e : ad.add (1 * 1 + 0) = ⟨ad.block, ad.off + 1, none⟩ := rfl
    rw [e] at this
    exact (hW.cell (p := ⟨ad.block, ad.off + 1, none⟩) hl).trans this
  · have := hc 2 s hs 0 _ rfl
    have e : ad.add (2 * 1 + 0) = ⟨ad.block, ad.off + 2, none⟩ := rfl
    rw [e] at this
    exact (hW.cell (p := ⟨ad.block, ad.off + 2, none⟩) hl).trans this
set_option maxRecDepth 100000 in
set_option maxHeartbeats 2000000 in
theorem p_node_no (a0 : Int) (a1 a2 a3 : ByteArray) (a4 a5 : Int) {B : Option Addr} {m k : Nat} {l : List ByteArray} (w : World) (hg : Glob w) (h1 : a1.size ≤ 880000000) (h2 : a2.size ≤ 880000000) (h3 : a3.size ≤ 9223372036854775807) (hm : nmay ⟨a0, ⟨a1, a2⟩, a3, a4, a5⟩ = false) :
    Calls Tryz.prog 54 #[.agg #[.int .i64 a0, .string a1, .string a2, .string a3, .int .i64 a4, .int .i64 a5], .slice B m k] w fun e w' => e = .returned (optS (pnode ⟨a0, ⟨a1, a2⟩, a3, a4, a5⟩ l)) ∧ Below w.heap.size w w' := by
  have hM := fun W hgw => p_tmay a0 a1 a2 a3 a4 a5 W hgw h1 h2 h3
  rw [hm] at hM
  have e : pnode ⟨a0, ⟨a1, a2⟩, a3, a4, a5⟩ l = none := by unfold pnode ptx pmay; rw [hm, Bool.and_false]; rfl
  rw [e, optS_none]
  clear hm e
  go_enter Tryz.func54, Tryz.ntmps54
  go_wp2_with (go_at_call 85; (with_reducible refine (hM _ (hg.below (by repeat (first | exact Below.refl _ _ | assumption | refine b_then ?_ (by assumption) | refine b_alloc ?_ _ | refine b_drewN ?_ _ | refine Below.drew ?_ | refine b_set ?_ (by first | exact Nat.le_refl _ | (simp; done) | (simp; omega) | omega) _)))).mono ?_); rintro e w1 ⟨rfl, hb1⟩; obtain ⟨hc1, hf1⟩ := bcell hb1; have hs1 := hb1.size; (try simp at hs1); have hq1 : w.heap.size < w1.heap.size := (by omega))
  go_ret2
  exact ⟨rfl, (by repeat (first | exact Below.refl _ _ | assumption | refine b_then ?_ (by assumption) | refine b_alloc ?_ _ | refine b_drewN ?_ _ | refine Below.drew ?_ | refine b_set ?_ (by first | exact Nat.le_refl _ | (simp; done) | (simp; omega) | omega) _))⟩
theorem pnode_yes {n : Nd} {l : List ByteArray} {s : ByteArray} (hm : nmay n = true) (h0 : 0 ≤ n.op) (e : (if n.op ≤ 4 then leafT numT n else upT n.op (l.map bsl)) = bsl s) : pnode n l = some s := by
  unfold pnode ptx pmay
  rw [hm, decide_eq_true h0, Bool.and_self, if_pos rfl, e]; rfl
set_option maxRecDepth 100000 in
set_option maxHeartbeats 4000000 in
theorem p_node0 (a1 a2 a3 : ByteArray) (a4 a5 : Int) {B : Option Addr} {m k : Nat} {l : List ByteArray} (w : World) (hg : Glob w) (hm : nmay ⟨0, ⟨a1, a2⟩, a3, a4, a5⟩ = true) :
    Calls Tryz.prog 54 #[.agg #[.int .i64 0, .string a1, .string a2, .string a3, .int .i64 a4, .int .i64 a5], .slice B m k] w fun e w' => e = .returned (optS (pnode ⟨0, ⟨a1, a2⟩, a3, a4, a5⟩ l)) ∧ Below w.heap.size w w' := by
  obtain ⟨q, hq, hs, hy, hy2, hy3⟩ := nmay_num hm rfl
  dsimp only at hq hy hy2 hy3
  injection hq with e1 e2
  subst e1; subst e2; subst hy; subst hy2; subst hy3
  have hz1 : (iS q.num).size ≤ 62 := by have := iS_sz hs.1; omega
  have hz2 : (nS q.den).size ≤ 61 := by rw [nS_size]; have := hs.2; omega
  have hM := fun W hgw => p_tmay 0 (iS q.num) (nS q.den) ⟨#[]⟩ 0 0 W hgw (by omega) (by omega) (by first | decide | (dsimp only; decide))
  rw [hm] at hM
  have hN := fun W hgw => p_number q W hgw (rsmall_mono hs (by omega))
  have e : pnode ⟨0, ⟨iS q.num, nS q.den⟩, ⟨#[]⟩, 0, 0⟩ l = some (mkS (numT (enc q))) := pnode_yes hm (by first | decide | (dsimp only; decide)) (by
    rw [if_pos (by first | decide | (dsimp only; decide))]; unfold leafT; rw [if_pos rfl]; rfl)
  rw [e, optS_some]
  clear e hm hs
  generalize mkS (numT (enc q)) = R at *
  go_enter Tryz.func54, Tryz.ntmps54
  go_wp2_with (go_at_call 85; (with_reducible refine (hM _ (hg.below (by repeat (first | exact Below.refl _ _ | assumption | refine b_then ?_ (by assumption) | refine b_alloc ?_ _ | refine b_drewN ?_ _ | refine Below.drew ?_ | refine b_set ?_ (by first | exact Nat.le_refl _ | (simp; done) | (simp; omega) | omega) _)))).mono ?_); rintro e w1 ⟨rfl, hb1⟩; obtain ⟨hc1, hf1⟩ := bcell hb1; have hs1 := hb1.size; (try simp at hs1); have hq1 : w.heap.size < w1.heap.size := (by omega))
  have hg1 : Glob w1 := hg.below (by repeat (first | exact Below.refl _ _ | assumption | refine b_then ?_ (by assumption) | refine b_alloc ?_ _ | refine b_drewN ?_ _ | refine Below.drew ?_ | refine b_set ?_ (by first | exact Nat.le_refl _ | (simp; done) | (simp; omega) | omega) _))
  have ix := word_ix0
  (refine wp_region_after (by kernel_rfl) (by kernel_rfl) ?_; (repeat (first | go_big_quiet_skip | (go_big_quiet_want; go_big_quiet_op; first | go_big_quiet_on | (apply Exists.intro; refine ⟨fun _ => ?_, ?_⟩; (focus ((go_at_call 86; with_reducible exact Calls.after (p_words _)))); go_big_quiet_on)))); refine wpQuiet_nil ?_; rintro w2 ⟨⟨_, hb2⟩, rfl⟩; (try dsimp only); obtain ⟨hc2, hf2⟩ := bcell hb2; have hs2 := hb2.size; (try simp at hs2))
  clear ix
  have hq2 : w.heap.size < w2.heap.size := by omega
  go_wp2_with (go_at_call 87; (with_reducible refine (hN _ (hg.below (by repeat (first | exact Below.refl _ _ | assumption | refine b_then ?_ (by assumption) | refine b_alloc ?_ _ | refine b_drewN ?_ _ | refine Below.drew ?_ | refine b_set ?_ (by first | exact Nat.le_refl _ | (simp; done) | (simp; omega) | omega) _)))).mono ?_); rintro e w3 ⟨rfl, hb3⟩; obtain ⟨hc3, hf3⟩ := bcell hb3; have hs3 := hb3.size; (try simp at hs3); skip)
  go_ret2
  exact ⟨rfl, (by repeat (first | exact Below.refl _ _ | assumption | refine b_then ?_ (by assumption) | refine b_alloc ?_ _ | refine b_drewN ?_ _ | refine Below.drew ?_ | refine b_set ?_ (by first | exact Nat.le_refl _ | (simp; done) | (simp; omega) | omega) _))⟩
set_option maxRecDepth 100000 in
set_option maxHeartbeats 4000000 in
theorem p_node1 (a1 a2 a3 : ByteArray) (a4 a5 : Int) {B : Option Addr} {m k : Nat} {l : List ByteArray} (w : World) (hg : Glob w) (hm : nmay ⟨1, ⟨a1, a2⟩, a3, a4, a5⟩ = true) :
    Calls Tryz.prog 54 #[.agg #[.int .i64 1, .string a1, .string a2, .string a3, .int .i64 a4, .int .i64 a5], .slice B m k] w fun e w' => e = .returned (optS (pnode ⟨1, ⟨a1, a2⟩, a3, a4, a5⟩ l)) ∧ Below w.heap.size w w' := by
  obtain ⟨hn, hy, hy1, hy2, hy3⟩ := nmay_px hm rfl
  dsimp only at hn hy hy1 hy2 hy3
  injection hn with e1 e2
  subst e1; subst e2; subst hy
  have hz3 := tasset_size hy1
  have hz4 : (iS a4).size ≤ 4 := by rw [sz, iS_l]; exact day_len hy2 hy3
  have hM := fun W hgw => p_tmay 1 ⟨#[]⟩ ⟨#[]⟩ a3 a4 0 W hgw (by first | decide | (dsimp only; decide)) (by first | decide | (dsimp only; decide)) (by omega)
  rw [hm] at hM
  have hI := fun W hgw => c_itoa a4 W (by omega) (by omega) hgw
  have e : pnode ⟨1, ⟨⟨#[]⟩, ⟨#[]⟩⟩, a3, a4, 0⟩ l = some ((⟨#[112, 120, 40]⟩ : ByteArray) ++ a3 ++ ⟨#[44, 32]⟩ ++ iS a4 ++ ⟨#[41]⟩) := pnode_yes hm (by first | decide | (dsimp only; decide)) (by
    rw [if_pos (by first | decide | (dsimp only; decide))]; unfold leafT bsl; rw [if_neg (by first | decide | (dsimp only; decide)), if_pos rfl, s_append, s_append, s_append, s_append, iS_l]; simp)
  rw [e, optS_some]
  clear e hm hy1
  generalize iS a4 = s4 at *
  go_enter Tryz.func54, Tryz.ntmps54
  go_wp2_with (go_at_call 85; (with_reducible refine (hM _ (hg.below (by repeat (first | exact Below.refl _ _ | assumption | refine b_then ?_ (by assumption) | refine b_alloc ?_ _ | refine b_drewN ?_ _ | refine Below.drew ?_ | refine b_set ?_ (by first | exact Nat.le_refl _ | (simp; done) | (simp; omega) | omega) _)))).mono ?_); rintro e w1 ⟨rfl, hb1⟩; obtain ⟨hc1, hf1⟩ := bcell hb1; have hs1 := hb1.size; (try simp at hs1); have hq1 : w.heap.size < w1.heap.size := (by omega))
  have hg1 : Glob w1 := hg.below (by repeat (first | exact Below.refl _ _ | assumption | refine b_then ?_ (by assumption) | refine b_alloc ?_ _ | refine b_drewN ?_ _ | refine Below.drew ?_ | refine b_set ?_ (by first | exact Nat.le_refl _ | (simp; done) | (simp; omega) | omega) _))
  have ix := word_ix1
  (refine wp_region_after (by kernel_rfl) (by kernel_rfl) ?_; (repeat (first | go_big_quiet_skip | (go_big_quiet_want; go_big_quiet_op; first | go_big_quiet_on | (apply Exists.intro; refine ⟨fun _ => ?_, ?_⟩; (focus ((go_at_call 86; with_reducible exact Calls.after (p_words _)))); go_big_quiet_on)))); refine wpQuiet_nil ?_; rintro w2 ⟨⟨_, hb2⟩, rfl⟩; (try dsimp only); obtain ⟨hc2, hf2⟩ := bcell hb2; have hs2 := hb2.size; (try simp at hs2))
  clear ix
  have hq2 : w.heap.size < w2.heap.size := by omega
  go_wp2
  have hg2 : Glob w2 := hg1.below hb2
  (refine wp_region_after (by kernel_rfl) (by kernel_rfl) ?_; (repeat (first | go_big_quiet_skip | (go_big_quiet_want; go_big_quiet_op; first | go_big_quiet_on | (apply Exists.intro; refine ⟨fun _ => ?_, ?_⟩; (focus ((go_at_call 88; with_reducible exact Calls.after (hI _ (hg2.below (After.h _)))))); go_big_quiet_on)))); refine wpQuiet_nil ?_; rintro w3 ⟨⟨_, hb3⟩, rfl⟩; (try dsimp only); obtain ⟨hc3, hf3⟩ := bcell hb3; have hs3 := hb3.size; (try simp at hs3))
  go_wp2
  go_ret2
  exact ⟨rfl, (by repeat (first | exact Below.refl _ _ | assumption | refine b_then ?_ (by assumption) | refine b_alloc ?_ _ | refine b_drewN ?_ _ | refine Below.drew ?_ | refine b_set ?_ (by first | exact Nat.le_refl _ | (simp; done) | (simp; omega) | omega) _))⟩
set_option maxRecDepth 100000 in
set_option maxHeartbeats 4000000 in
theorem p_node2 (a1 a2 a3 : ByteArray) (a4 a5 : Int) {B : Option Addr} {m k : Nat} {l : List ByteArray} (w : World) (hg : Glob w) (hm : nmay ⟨2, ⟨a1, a2⟩, a3, a4, a5⟩ = true) :
    Calls Tryz.prog 54 #[.agg #[.int .i64 2, .string a1, .string a2, .string a3, .int .i64 a4, .int .i64 a5], .slice B m k] w fun e w' => e = .returned (optS (pnode ⟨2, ⟨a1, a2⟩, a3, a4, a5⟩ l)) ∧ Below w.heap.size w w' := by
  obtain ⟨hn, hy1, hy2, hy3, hy4, hy5⟩ := nmay_span hm (by first | decide | (dsimp only; decide)) (by first | decide | (dsimp only; decide))
  dsimp only at hn hy1 hy2 hy3 hy4 hy5
  injection hn with e1 e2
  subst e1; subst e2
  have hz3 := tasset_size hy1
  have hz4 : (iS a4).size ≤ 4 := by rw [sz, iS_l]; exact day_len hy2 (by omega)
  have hz5 : (iS a5).size ≤ 4 := by rw [sz, iS_l]; exact day_len (by omega) hy3
  have hM := fun W hgw => p_tmay 2 ⟨#[]⟩ ⟨#[]⟩ a3 a4 a5 W hgw (by first | decide | (dsimp only; decide)) (by first | decide | (dsimp only; decide)) (by omega)
  rw [hm] at hM
  have hI := fun W hgw => c_itoa a4 W (by omega) (by omega) hgw
  have hJ := fun W hgw => c_itoa a5 W (by omega) (by omega) hgw
  have e : pnode ⟨2, ⟨⟨#[]⟩, ⟨#[]⟩⟩, a3, a4, a5⟩ l = some ((⟨#[97, 118, 103]⟩ : ByteArray) ++ ⟨#[40]⟩ ++ a3 ++ ⟨#[44, 32]⟩ ++ iS a4 ++ ⟨#[44, 32]⟩ ++ iS a5 ++ ⟨#[41]⟩) := pnode_yes hm (by first | decide | (dsimp only; decide)) (by
    rw [if_pos (by first | decide | (dsimp only; decide))]; unfold leafT bsl; rw [if_neg (by first | decide | (dsimp only; decide)), if_neg (by first | decide | (dsimp only; decide)), s_append, s_append, s_append, s_append, s_append, s_append, s_append, iS_l, iS_l]; simp)
  rw [e, optS_some]
  clear e hm hy1
  have HI := Lib.hid hI
  have HJ := Lib.hid hJ
  clear hI hJ
  go_enter Tryz.func54, Tryz.ntmps54
  go_wp2_with (go_at_call 85; (with_reducible refine (hM _ (hg.below (by repeat (first | exact Below.refl _ _ | assumption | refine b_then ?_ (by assumption) | refine b_alloc ?_ _ | refine b_drewN ?_ _ | refine Below.drew ?_ | refine b_set ?_ (by first | exact Nat.le_refl _ | (simp; done) | (simp; omega) | omega) _)))).mono ?_); rintro e w1 ⟨rfl, hb1⟩; obtain ⟨hc1, hf1⟩ := bcell hb1; have hs1 := hb1.size; (try simp at hs1); have hq1 : w.heap.size < w1.heap.size := (by omega))
  have hg1 : Glob w1 := hg.below (by repeat (first | exact Below.refl _ _ | assumption | refine b_then ?_ (by assumption) | refine b_alloc ?_ _ | refine b_drewN ?_ _ | refine Below.drew ?_ | refine b_set ?_ (by first | exact Nat.le_refl _ | (simp; done) | (simp; omega) | omega) _))
  have ix := word_ix2
  (refine wp_region_after (by kernel_rfl) (by kernel_rfl) ?_; (repeat (first | go_big_quiet_skip | (go_big_quiet_want; go_big_quiet_op; first | go_big_quiet_on | (apply Exists.intro; refine ⟨fun _ => ?_, ?_⟩; (focus ((go_at_call 86; with_reducible exact Calls.after (p_words _)))); go_big_quiet_on)))); refine wpQuiet_nil ?_; rintro w2 ⟨⟨_, hb2⟩, rfl⟩; (try dsimp only); obtain ⟨hc2, hf2⟩ := bcell hb2; have hs2 := hb2.size; (try simp at hs2))
  clear ix
  have hq2 : w.heap.size < w2.heap.size := by omega
  go_wp2
  have hg2 : Glob w2 := hg1.below hb2
  (refine wp_region_after (by kernel_rfl) (by kernel_rfl) ?_; (repeat (first | go_big_quiet_skip | (go_big_quiet_want; go_big_quiet_op; first | go_big_quiet_on | (apply Exists.intro; refine ⟨fun _ => ?_, ?_⟩; (focus (first | (go_at_call 88; with_reducible exact Calls.after (HI.out _ (hg2.below (After.h _)))) | (go_at_call 88; with_reducible exact Calls.after (HJ.out _ (hg2.below (After.h _)))))); go_big_quiet_on)))); refine wpQuiet_nil ?_; rintro w3 ⟨⟨_, hb3⟩, rfl⟩; (try dsimp only); obtain ⟨hc3, hf3⟩ := bcell hb3; have hs3 := hb3.size; (try simp at hs3))
  go_wp2
  go_ret2
  exact ⟨rfl, (by repeat (first | exact Below.refl _ _ | assumption | refine b_then ?_ (by assumption) | refine b_alloc ?_ _ | refine b_drewN ?_ _ | refine Below.drew ?_ | refine b_set ?_ (by first | exact Nat.le_refl _ | (simp; done) | (simp; omega) | omega) _))⟩
set_option maxRecDepth 100000 in
set_option maxHeartbeats 4000000 in
theorem p_node3 (a1 a2 a3 : ByteArray) (a4 a5 : Int) {B : Option Addr} {m k : Nat} {l : List ByteArray} (w : World) (hg : Glob w) (hm : nmay ⟨3, ⟨a1, a2⟩, a3, a4, a5⟩ = true) :
    Calls Tryz.prog 54 #[.agg #[.int .i64 3, .string a1, .string a2, .string a3, .int .i64 a4, .int .i64 a5], .slice B m k] w fun e w' => e = .returned (optS (pnode ⟨3, ⟨a1, a2⟩, a3, a4, a5⟩ l)) ∧ Below w.heap.size w w' := by
  obtain ⟨hn, hy1, hy2, hy3, hy4, hy5⟩ := nmay_span hm (by first | decide | (dsimp only; decide)) (by first | decide | (dsimp only; decide))
  dsimp only at hn hy1 hy2 hy3 hy4 hy5
  injection hn with e1 e2
  subst e1; subst e2
  have hz3 := tasset_size hy1
  have hz4 : (iS a4).size ≤ 4 := by rw [sz, iS_l]; exact day_len hy2 (by omega)
  have hz5 : (iS a5).size ≤ 4 := by rw [sz, iS_l]; exact day_len (by omega) hy3
  have hM := fun W hgw => p_tmay 3 ⟨#[]⟩ ⟨#[]⟩ a3 a4 a5 W hgw (by first | decide | (dsimp only; decide)) (by first | decide | (dsimp only; decide)) (by omega)
  rw [hm] at hM
  have hI := fun W hgw => c_itoa a4 W (by omega) (by omega) hgw
  have hJ := fun W hgw => c_itoa a5 W (by omega) (by omega) hgw
  have e : pnode ⟨3, ⟨⟨#[]⟩, ⟨#[]⟩⟩, a3, a4, a5⟩ l = some ((⟨#[104, 105]⟩ : ByteArray) ++ ⟨#[40]⟩ ++ a3 ++ ⟨#[44, 32]⟩ ++ iS a4 ++ ⟨#[44, 32]⟩ ++ iS a5 ++ ⟨#[41]⟩) := pnode_yes hm (by first | decide | (dsimp only; decide)) (by
    rw [if_pos (by first | decide | (dsimp only; decide))]; unfold leafT bsl; rw [if_neg (by first | decide | (dsimp only; decide)), if_neg (by first | decide | (dsimp only; decide)), s_append, s_append, s_append, s_append, s_append, s_append, s_append, iS_l, iS_l]; simp)
  rw [e, optS_some]
  clear e hm hy1
  have HI := Lib.hid hI
  have HJ := Lib.hid hJ
  clear hI hJ
  go_enter Tryz.func54, Tryz.ntmps54
  go_wp2_with (go_at_call 85; (with_reducible refine (hM _ (hg.below (by repeat (first | exact Below.refl _ _ | assumption | refine b_then ?_ (by assumption) | refine b_alloc ?_ _ | refine b_drewN ?_ _ | refine Below.drew ?_ | refine b_set ?_ (by first | exact Nat.le_refl _ | (simp; done) | (simp; omega) | omega) _)))).mono ?_); rintro e w1 ⟨rfl, hb1⟩; obtain ⟨hc1, hf1⟩ := bcell hb1; have hs1 := hb1.size; (try simp at hs1); have hq1 : w.heap.size < w1.heap.size := (by omega))
  have hg1 : Glob w1 := hg.below (by repeat (first | exact Below.refl _ _ | assumption | refine b_then ?_ (by assumption) | refine b_alloc ?_ _ | refine b_drewN ?_ _ | refine Below.drew ?_ | refine b_set ?_ (by first | exact Nat.le_refl _ | (simp; done) | (simp; omega) | omega) _))
  have ix := word_ix3
  (refine wp_region_after (by kernel_rfl) (by kernel_rfl) ?_; (repeat (first | go_big_quiet_skip | (go_big_quiet_want; go_big_quiet_op; first | go_big_quiet_on | (apply Exists.intro; refine ⟨fun _ => ?_, ?_⟩; (focus ((go_at_call 86; with_reducible exact Calls.after (p_words _)))); go_big_quiet_on)))); refine wpQuiet_nil ?_; rintro w2 ⟨⟨_, hb2⟩, rfl⟩; (try dsimp only); obtain ⟨hc2, hf2⟩ := bcell hb2; have hs2 := hb2.size; (try simp at hs2))
  clear ix
  have hq2 : w.heap.size < w2.heap.size := by omega
  go_wp2
  have hg2 : Glob w2 := hg1.below hb2
  (refine wp_region_after (by kernel_rfl) (by kernel_rfl) ?_; (repeat (first | go_big_quiet_skip | (go_big_quiet_want; go_big_quiet_op; first | go_big_quiet_on | (apply Exists.intro; refine ⟨fun _ => ?_, ?_⟩; (focus (first | (go_at_call 88; with_reducible exact Calls.after (HI.out _ (hg2.below (After.h _)))) | (go_at_call 88; with_reducible exact Calls.after (HJ.out _ (hg2.below (After.h _)))))); go_big_quiet_on)))); refine wpQuiet_nil ?_; rintro w3 ⟨⟨_, hb3⟩, rfl⟩; (try dsimp only); obtain ⟨hc3, hf3⟩ := bcell hb3; have hs3 := hb3.size; (try simp at hs3))
  go_wp2
  go_ret2
  exact ⟨rfl, (by repeat (first | exact Below.refl _ _ | assumption | refine b_then ?_ (by assumption) | refine b_alloc ?_ _ | refine b_drewN ?_ _ | refine Below.drew ?_ | refine b_set ?_ (by first | exact Nat.le_refl _ | (simp; done) | (simp; omega) | omega) _))⟩
set_option maxRecDepth 100000 in
set_option maxHeartbeats 4000000 in
theorem p_node4 (a1 a2 a3 : ByteArray) (a4 a5 : Int) {B : Option Addr} {m k : Nat} {l : List ByteArray} (w : World) (hg : Glob w) (hm : nmay ⟨4, ⟨a1, a2⟩, a3, a4, a5⟩ = true) :
    Calls Tryz.prog 54 #[.agg #[.int .i64 4, .string a1, .string a2, .string a3, .int .i64 a4, .int .i64 a5], .slice B m k] w fun e w' => e = .returned (optS (pnode ⟨4, ⟨a1, a2⟩, a3, a4, a5⟩ l)) ∧ Below w.heap.size w w' := by
  obtain ⟨hn, hy1, hy2, hy3, hy4, hy5⟩ := nmay_span hm (by first | decide | (dsimp only; decide)) (by first | decide | (dsimp only; decide))
  dsimp only at hn hy1 hy2 hy3 hy4 hy5
  injection hn with e1 e2
  subst e1; subst e2
  have hz3 := tasset_size hy1
  have hz4 : (iS a4).size ≤ 4 := by rw [sz, iS_l]; exact day_len hy2 (by omega)
  have hz5 : (iS a5).size ≤ 4 := by rw [sz, iS_l]; exact day_len (by omega) hy3
  have hM := fun W hgw => p_tmay 4 ⟨#[]⟩ ⟨#[]⟩ a3 a4 a5 W hgw (by first | decide | (dsimp only; decide)) (by first | decide | (dsimp only; decide)) (by omega)
  rw [hm] at hM
  have hI := fun W hgw => c_itoa a4 W (by omega) (by omega) hgw
  have hJ := fun W hgw => c_itoa a5 W (by omega) (by omega) hgw
  have e : pnode ⟨4, ⟨⟨#[]⟩, ⟨#[]⟩⟩, a3, a4, a5⟩ l = some ((⟨#[108, 111]⟩ : ByteArray) ++ ⟨#[40]⟩ ++ a3 ++ ⟨#[44, 32]⟩ ++ iS a4 ++ ⟨#[44, 32]⟩ ++ iS a5 ++ ⟨#[41]⟩) := pnode_yes hm (by first | decide | (dsimp only; decide)) (by
    rw [if_pos (by first | decide | (dsimp only; decide))]; unfold leafT bsl; rw [if_neg (by first | decide | (dsimp only; decide)), if_neg (by first | decide | (dsimp only; decide)), s_append, s_append, s_append, s_append, s_append, s_append, s_append, iS_l, iS_l]; simp)
  rw [e, optS_some]
  clear e hm hy1
  have HI := Lib.hid hI
  have HJ := Lib.hid hJ
  clear hI hJ
  go_enter Tryz.func54, Tryz.ntmps54
  go_wp2_with (go_at_call 85; (with_reducible refine (hM _ (hg.below (by repeat (first | exact Below.refl _ _ | assumption | refine b_then ?_ (by assumption) | refine b_alloc ?_ _ | refine b_drewN ?_ _ | refine Below.drew ?_ | refine b_set ?_ (by first | exact Nat.le_refl _ | (simp; done) | (simp; omega) | omega) _)))).mono ?_); rintro e w1 ⟨rfl, hb1⟩; obtain ⟨hc1, hf1⟩ := bcell hb1; have hs1 := hb1.size; (try simp at hs1); have hq1 : w.heap.size < w1.heap.size := (by omega))
  have hg1 : Glob w1 := hg.below (by repeat (first | exact Below.refl _ _ | assumption | refine b_then ?_ (by assumption) | refine b_alloc ?_ _ | refine b_drewN ?_ _ | refine Below.drew ?_ | refine b_set ?_ (by first | exact Nat.le_refl _ | (simp; done) | (simp; omega) | omega) _))
  have ix := word_ix4
  (refine wp_region_after (by kernel_rfl) (by kernel_rfl) ?_; (repeat (first | go_big_quiet_skip | (go_big_quiet_want; go_big_quiet_op; first | go_big_quiet_on | (apply Exists.intro; refine ⟨fun _ => ?_, ?_⟩; (focus ((go_at_call 86; with_reducible exact Calls.after (p_words _)))); go_big_quiet_on)))); refine wpQuiet_nil ?_; rintro w2 ⟨⟨_, hb2⟩, rfl⟩; (try dsimp only); obtain ⟨hc2, hf2⟩ := bcell hb2; have hs2 := hb2.size; (try simp at hs2))
  clear ix
  have hq2 : w.heap.size < w2.heap.size := by omega
  go_wp2
  have hg2 : Glob w2 := hg1.below hb2
  (refine wp_region_after (by kernel_rfl) (by kernel_rfl) ?_; (repeat (first | go_big_quiet_skip | (go_big_quiet_want; go_big_quiet_op; first | go_big_quiet_on | (apply Exists.intro; refine ⟨fun _ => ?_, ?_⟩; (focus (first | (go_at_call 88; with_reducible exact Calls.after (HI.out _ (hg2.below (After.h _)))) | (go_at_call 88; with_reducible exact Calls.after (HJ.out _ (hg2.below (After.h _)))))); go_big_quiet_on)))); refine wpQuiet_nil ?_; rintro w3 ⟨⟨_, hb3⟩, rfl⟩; (try dsimp only); obtain ⟨hc3, hf3⟩ := bcell hb3; have hs3 := hb3.size; (try simp at hs3))
  go_wp2
  go_ret2
  exact ⟨rfl, (by repeat (first | exact Below.refl _ _ | assumption | refine b_then ?_ (by assumption) | refine b_alloc ?_ _ | refine b_drewN ?_ _ | refine Below.drew ?_ | refine b_set ?_ (by first | exact Nat.le_refl _ | (simp; done) | (simp; omega) | omega) _))⟩
end Go.Proofs.YtjdofncognaaoaaGreatDoor
