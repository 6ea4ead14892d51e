/- Walks: a term's assets, days; which nodes may be. -/
import Derived.Test.YtjdofncognaaoaaGreatDoorTmO
import Derived.Test.YtjdofncognaaoaaGreatDoorTmH
import Derived.Test.YtjdofncognaaoaaGreatDoorRatP
namespace Go.Proofs.YtjdofncognaaoaaGreatDoor
open Go.RowKit
set_option linter.unusedVariables false
set_option linter.unusedSimpArgs false

theorem tasset_no1 {s : ByteArray} (h : isName s = false) : tasset s = false := by unfold tasset; rw [h]; rfl
theorem tlow_of {s : ByteArray} (h : 0 < s.size) : tlow s = (decide (97 ≤ s[0].toNat) && decide (s[0].toNat ≤ 122)) := by
  unfold tlow
  have := s_at s 0 h
  cases hs : s.data.toList with
  | nil => rw [hs] at this; cases this
  | cons c l => rw [hs] at this; injection this with e; dsimp only; rw [e]
theorem tlow_ref {s : ByteArray} (h : isName s = true) (h0 : 0 < s.size) : tlow s = (!(s[0].toNat == 33) && (decide (s[0].toNat < 48) || !decide (s[0].toNat ≤ 57)) ) := by
  rw [tlow_of h0]
  have hn : nmAll s.data.toList = true := by unfold isName at h; rw [Bool.and_eq_true] at h; exact h.1
  have := (nmAll_iff _).1 hn 0 _ (s_at s 0 h0)
  unfold nmAt nmc at this
  rw [Bool.eq_iff_iff]
  simp only [Bool.or_eq_true, Bool.and_eq_true, decide_eq_true_eq, beq_iff_eq, Bool.not_eq_true', decide_eq_false_iff_not, beq_eq_false_iff_ne] at this ⊢
  omega
set_option maxHeartbeats 800000 in
theorem p_tasset (s : ByteArray) (w : World) (hs : s.size ≤ 9223372036854775807) :
    Calls Tryz.prog 126 #[.string s] w fun e w' => e = .returned (.bool (tasset s)) ∧ Below w.heap.size w w' := by
  have hN := fun W => p_name s W hs
  cases c1 : isName s with
  | false =>
    rw [c1] at hN
    rw [tasset_no1 c1]
    go_enter Tryz.func126, Tryz.ntmps126
    go_wp2_with (go_at_call 136; (with_reducible refine (hN _).mono ?_); rintro e w1 ⟨rfl, hb1⟩; obtain ⟨hc1, hf1⟩ := bcell hb1; have hs1 := hb1.size; (try simp at hs1))
    go_ret
    exact ⟨rfl, (by repeat (first | exact Below.refl _ _ | assumption | refine b_then ?_ (by assumption) | refine b_alloc ?_ _ | refine b_drewN ?_ _ | refine Below.drew ?_ | refine b_set ?_ (by first | exact Nat.le_refl _ | (simp; done) | (simp; omega) | omega) _))⟩
  | true =>
    rw [c1] at hN
    have h0 : 0 < s.size := (isName_size c1).1
    have hl := tlow_of h0
    unfold tasset
    rw [c1, hl]
    obtain ⟨bv, hbv⟩ : ∃ v : UInt8, s[0] = v := ⟨_, rfl⟩
    rw [hbv]
    have hb0 : (0 : Int) ≤ (bv.toNat : Int) := by omega
    by_cases c2 : 97 ≤ bv.toNat
    · by_cases c3 : bv.toNat ≤ 122
      · have d2 : (97 : Int) ≤ (bv.toNat : Int) := by omega
        have d3 : (bv.toNat : Int) ≤ 122 := by omega
        rw [decide_eq_true c2, decide_eq_true c3]
        go_enter Tryz.func126, Tryz.ntmps126
        go_wp2_with (go_at_call 136; (with_reducible refine (hN _).mono ?_); rintro e w1 ⟨rfl, hb1⟩; obtain ⟨hc1, hf1⟩ := bcell hb1; have hs1 := hb1.size; (try simp at hs1))
        go_ret
        exact ⟨ret_bool (by first | (simp; done) | (simp; omega)), (by repeat (first | exact Below.refl _ _ | assumption | refine b_then ?_ (by assumption) | refine b_alloc ?_ _ | refine b_drewN ?_ _ | refine Below.drew ?_ | refine b_set ?_ (by first | exact Nat.le_refl _ | (simp; done) | (simp; omega) | omega) _))⟩
      · have d2 : (97 : Int) ≤ (bv.toNat : Int) := by omega
        have d3 : ¬ (bv.toNat : Int) ≤ 122 := by omega
        rw [decide_eq_true c2, decide_eq_false c3]
        go_enter Tryz.func126, Tryz.ntmps126
        go_wp2_with (go_at_call 136; (with_reducible refine (hN _).mono ?_); rintro e w1 ⟨rfl, hb1⟩; obtain ⟨hc1, hf1⟩ := bcell hb1; have hs1 := hb1.size; (try simp at hs1))
        go_ret
        exact ⟨ret_bool (by first | (simp; done) | (simp; omega)), (by repeat (first | exact Below.refl _ _ | assumption | refine b_then ?_ (by assumption) | refine b_alloc ?_ _ | refine b_drewN ?_ _ | refine Below.drew ?_ | refine b_set ?_ (by first | exact Nat.le_refl _ | (simp; done) | (simp; omega) | omega) _))⟩
    · have d2 : ¬ (97 : Int) ≤ (bv.toNat : Int) := by omega
      rw [decide_eq_false c2]
      go_enter Tryz.func126, Tryz.ntmps126
      go_wp2_with (go_at_call 136; (with_reducible refine (hN _).mono ?_); rintro e w1 ⟨rfl, hb1⟩; obtain ⟨hc1, hf1⟩ := bcell hb1; have hs1 := hb1.size; (try simp at hs1))
      go_ret
      exact ⟨ret_bool (by first | (simp; done) | (simp; omega)), (by repeat (first | exact Below.refl _ _ | assumption | refine b_then ?_ (by assumption) | refine b_alloc ?_ _ | refine b_drewN ?_ _ | refine Below.drew ?_ | refine b_set ?_ (by first | exact Nat.le_refl _ | (simp; done) | (simp; omega) | omega) _))⟩
set_option maxHeartbeats 800000 in
theorem r10_asset (s : ByteArray) (w : World) (hs : s.size ≤ 9223372036854775807) :
    Calls Tryz.prog 91 #[.string s] w fun e w' => e = .returned (.bool (tasset s)) ∧ Below w.heap.size w w' := by
  have hN := fun W => r6_name s W hs
  cases c1 : isName s with
  | false =>
    rw [c1] at hN
    rw [tasset_no1 c1]
    go_enter Tryz.func91, Tryz.ntmps91
    go_wp2_with (go_at_call 112; (with_reducible refine (hN _).mono ?_); rintro e w' ⟨rfl, rfl⟩)
    go_ret
    exact ⟨rfl, (by repeat (first | exact Below.refl _ _ | assumption | refine b_then ?_ (by assumption) | refine b_alloc ?_ _ | refine b_drewN ?_ _ | refine Below.drew ?_ | refine b_set ?_ (by first | exact Nat.le_refl _ | (simp; done) | (simp; omega) | omega) _))⟩
  | true =>
    rw [c1] at hN
    have h0 : 0 < s.size := (isName_size c1).1
    have hl := tlow_ref c1 h0
    unfold tasset
    rw [c1, hl]
    obtain ⟨bv, hbv⟩ : ∃ v : UInt8, s[0] = v := ⟨_, rfl⟩
    rw [hbv]
    by_cases c2 : bv.toNat = 33
    · have d2 : ((bv.toNat : Int) == 33) = true := by rw [c2]; rfl
      have d2' : ((bv.toNat : Int) != 33) = false := by rw [c2]; rfl
      rw [c2]
      go_enter Tryz.func91, Tryz.ntmps91
      go_wp2_with (go_at_call 112; (with_reducible refine (hN _).mono ?_); rintro e w' ⟨rfl, rfl⟩)
      go_ret
      exact ⟨ret_bool (by first | (simp; done) | (simp; omega)), (by repeat (first | exact Below.refl _ _ | assumption | refine b_then ?_ (by assumption) | refine b_alloc ?_ _ | refine b_drewN ?_ _ | refine Below.drew ?_ | refine b_set ?_ (by first | exact Nat.le_refl _ | (simp; done) | (simp; omega) | omega) _))⟩
    · have d2 : ((bv.toNat : Int) == 33) = false := by simp; omega
      have d2' : ((bv.toNat : Int) != 33) = true := by simp; omega
      have e2 : (bv.toNat == 33) = false := by simpa using c2
      rw [e2]
      by_cases c3 : bv.toNat < 48
      · have d3 : (bv.toNat : Int) < 48 := by omega
        rw [decide_eq_true c3]
        go_enter Tryz.func91, Tryz.ntmps91
        go_wp2_with (go_at_call 112; (with_reducible refine (hN _).mono ?_); rintro e w' ⟨rfl, rfl⟩)
        go_ret
        exact ⟨ret_bool (by first | (simp; done) | (simp; omega)), (by repeat (first | exact Below.refl _ _ | assumption | refine b_then ?_ (by assumption) | refine b_alloc ?_ _ | refine b_drewN ?_ _ | refine Below.drew ?_ | refine b_set ?_ (by first | exact Nat.le_refl _ | (simp; done) | (simp; omega) | omega) _))⟩
      · have d3 : ¬ (bv.toNat : Int) < 48 := by omega
        rw [decide_eq_false c3]
        by_cases c4 : bv.toNat ≤ 57
        · have d4 : ¬ (57 : Int) < (bv.toNat : Int) := by omega
          rw [decide_eq_true c4]
          go_enter Tryz.func91, Tryz.ntmps91
          go_wp2_with (go_at_call 112; (with_reducible refine (hN _).mono ?_); rintro e w' ⟨rfl, rfl⟩)
          go_ret
          exact ⟨ret_bool (by first | (simp; done) | (simp; omega)), (by repeat (first | exact Below.refl _ _ | assumption | refine b_then ?_ (by assumption) | refine b_alloc ?_ _ | refine b_drewN ?_ _ | refine Below.drew ?_ | refine b_set ?_ (by first | exact Nat.le_refl _ | (simp; done) | (simp; omega) | omega) _))⟩
        · have d4 : (57 : Int) < (bv.toNat : Int) := by omega
          rw [decide_eq_false c4]
          go_enter Tryz.func91, Tryz.ntmps91
          go_wp2_with (go_at_call 112; (with_reducible refine (hN _).mono ?_); rintro e w' ⟨rfl, rfl⟩)
          go_ret
          exact ⟨ret_bool (by first | (simp; done) | (simp; omega)), (by repeat (first | exact Below.refl _ _ | assumption | refine b_then ?_ (by assumption) | refine b_alloc ?_ _ | refine b_drewN ?_ _ | refine Below.drew ?_ | refine b_set ?_ (by first | exact Nat.le_refl _ | (simp; done) | (simp; omega) | omega) _))⟩
theorem nil_tl : (⟨#[]⟩ : ByteArray).toList = [] := by rw [tl]
theorem p_day (d : Int) (w : World) : Calls Tryz.prog 127 #[.int .i64 d] w fun e w' => e = .returned (.bool (decide (0 ≤ d) && decide (d ≤ 9999))) ∧ w = w' := by
  by_cases h1 : 0 ≤ d
  · by_cases h2 : d ≤ 9999
    · rw [decide_eq_true h1, decide_eq_true h2]
      go_enter Tryz.func127, Tryz.ntmps127
      go_wp2
      go_ret
      exact ⟨rfl, rfl⟩
    · rw [decide_eq_true h1, decide_eq_false h2]
      go_enter Tryz.func127, Tryz.ntmps127
      go_wp2
      go_ret
      exact ⟨rfl, rfl⟩
  · rw [decide_eq_false h1]
    go_enter Tryz.func127, Tryz.ntmps127
    go_wp2
    go_ret
    exact ⟨rfl, rfl⟩
set_option maxRecDepth 100000 in
set_option maxHeartbeats 2000000 in
theorem p_tmay0 (a1 a2 a3 : ByteArray) (a4 a5 : Int) (w : World) (hg : Glob w) (h1 : a1.size ≤ 880000000) (h2 : a2.size ≤ 880000000) :
    Calls Tryz.prog 85 #[.agg #[.int .i64 0, .string a1, .string a2, .string a3, .int .i64 a4, .int .i64 a5]] w fun e w' => e = .returned (.bool (nmay ⟨0, ⟨a1, a2⟩, a3, a4, a5⟩)) ∧ Below w.heap.size w w' := by
  unfold nmay
  rw [if_pos rfl]
  dsimp only
  obtain ⟨E, hE⟩ : ∃ E, (a3.toList == [] && (a4 == 0 && a5 == 0)) = E := ⟨_, rfl⟩
  have heq : ∀ (d : Nat) (W : World), (Op.equalIn (d + 3) 41 (.agg #[.int .i64 0, .string a1, .string a2, .string a3, .int .i64 a4, .int .i64 a5]) (.agg #[.int .i64 0, .string a1, .string a2, .string ⟨#[]⟩, .int .i64 0, .int .i64 0])).run Tryz.prog W = .ok E W := fun d W => by
    rw [eqNd, ← hE]
    simp [nil_tl]
  have hM := fun W hgw => p_rmay a1 a2 W hgw (by omega) (by omega)
  rw [hE]
  clear hE
  cases E with
  | false =>
    go_enter Tryz.func85, Tryz.ntmps85
    go_wp2
    go_ret
    exact ⟨rfl, (by repeat (first | exact Below.refl _ _ | assumption | refine b_then ?_ (by assumption) | refine b_alloc ?_ _ | refine b_drewN ?_ _ | refine Below.drew ?_ | refine b_set ?_ (by first | exact Nat.le_refl _ | (simp; done) | (simp; omega) | omega) _))⟩
  | true =>
    cases c : rmay ⟨a1, a2⟩ with
    | false =>
      rw [c] at hM
      go_enter Tryz.func85, Tryz.ntmps85
      go_wp2_with (go_at_call 124; (with_reducible refine (hM _ (hg.below (by repeat (first | exact Below.refl _ _ | assumption | refine b_then ?_ (by assumption) | refine b_alloc ?_ _ | refine b_drewN ?_ _ | refine Below.drew ?_ | refine b_set ?_ (by first | exact Nat.le_refl _ | (simp; done) | (simp; omega) | omega) _)))).mono ?_); rintro e w1 ⟨rfl, hb1⟩; obtain ⟨hc1, hf1⟩ := bcell hb1; have hs1 := hb1.size; (try simp at hs1); have hq1 : w.heap.size + 1 < w1.heap.size := (by omega); have hr1 : w.heap.size < w1.heap.size := (by omega))
      go_ret
      exact ⟨rfl, (by repeat (first | exact Below.refl _ _ | assumption | refine b_then ?_ (by assumption) | refine b_alloc ?_ _ | refine b_drewN ?_ _ | refine Below.drew ?_ | refine b_set ?_ (by first | exact Nat.le_refl _ | (simp; done) | (simp; omega) | omega) _))⟩
    | true =>
      rw [c] at hM
      obtain ⟨q, hq⟩ := rmay_of c
      injection hq with e1 e2
      subst e1; subst e2
      have hAb := fun W => w_abs q.num W (by rw [iS_size] at h1 ⊢; omega)
      have hn : ndg (ival (iS q.num).data.toList).natAbs = (nS q.num.natAbs).size := by rw [iS_l, ival_itx, nS_size]
      rw [hn]
      clear hn c
      generalize nS q.num.natAbs = s at *
      generalize iS q.num = s1 at *
      generalize nS q.den = s2 at *
      by_cases c1 : s.size ≤ 60
      · have d1 : (s.size : Int) ≤ 60 := by omega
        rw [decide_eq_true c1]
        by_cases c2 : s2.size ≤ 60
        · have d2 : (s2.size : Int) ≤ 60 := by omega
          rw [decide_eq_true c2]
          go_enter Tryz.func85, Tryz.ntmps85
          go_wp2_with (first | (go_at_call 124; (with_reducible refine (hM _ (hg.below (by repeat (first | exact Below.refl _ _ | assumption | refine b_then ?_ (by assumption) | refine b_alloc ?_ _ | refine b_drewN ?_ _ | refine Below.drew ?_ | refine b_set ?_ (by first | exact Nat.le_refl _ | (simp; done) | (simp; omega) | omega) _)))).mono ?_); rintro e w1 ⟨rfl, hb1⟩; obtain ⟨hc1, hf1⟩ := bcell hb1; have hs1 := hb1.size; (try simp at hs1); have hq1 : w.heap.size + 1 < w1.heap.size := (by omega); have hr1 : w.heap.size < w1.heap.size := (by omega)) | (go_at_call 125; (with_reducible refine (hAb _).mono ?_); rintro e w2 ⟨rfl, hb2⟩; obtain ⟨hc2, hf2⟩ := bcell hb2; have hs2 := hb2.size; (try simp at hs2); have hr2 : w.heap.size < w2.heap.size := (by omega)))
          go_ret
          exact ⟨ret_bool (by first | rfl | (simp; omega)), (by repeat (first | exact Below.refl _ _ | assumption | refine b_then ?_ (by assumption) | refine b_alloc ?_ _ | refine b_drewN ?_ _ | refine Below.drew ?_ | refine b_set ?_ (by first | exact Nat.le_refl _ | (simp; done) | (simp; omega) | omega) _))⟩
        · have d2 : ¬ (s2.size : Int) ≤ 60 := by omega
          rw [decide_eq_false c2]
          go_enter Tryz.func85, Tryz.ntmps85
          go_wp2_with (first | (go_at_call 124; (with_reducible refine (hM _ (hg.below (by repeat (first | exact Below.refl _ _ | assumption | refine b_then ?_ (by assumption) | refine b_alloc ?_ _ | refine b_drewN ?_ _ | refine Below.drew ?_ | refine b_set ?_ (by first | exact Nat.le_refl _ | (simp; done) | (simp; omega) | omega) _)))).mono ?_); rintro e w1 ⟨rfl, hb1⟩; obtain ⟨hc1, hf1⟩ := bcell hb1; have hs1 := hb1.size; (try simp at hs1); have hq1 : w.heap.size + 1 < w1.heap.size := (by omega); have hr1 : w.heap.size < w1.heap.size := (by omega)) | (go_at_call 125; (with_reducible refine (hAb _).mono ?_); rintro e w2 ⟨rfl, hb2⟩; obtain ⟨hc2, hf2⟩ := bcell hb2; have hs2 := hb2.size; (try simp at hs2); have hr2 : w.heap.size < w2.heap.size := (by omega)))
          go_ret
          exact ⟨ret_bool (by first | rfl | (simp; omega)), (by repeat (first | exact Below.refl _ _ | assumption | refine b_then ?_ (by assumption) | refine b_alloc ?_ _ | refine b_drewN ?_ _ | refine Below.drew ?_ | refine b_set ?_ (by first | exact Nat.le_refl _ | (simp; done) | (simp; omega) | omega) _))⟩
      · have d1 : ¬ (s.size : Int) ≤ 60 := by omega
        rw [decide_eq_false c1]
        go_enter Tryz.func85, Tryz.ntmps85
        go_wp2_with (first | (go_at_call 124; (with_reducible refine (hM _ (hg.below (by repeat (first | exact Below.refl _ _ | assumption | refine b_then ?_ (by assumption) | refine b_alloc ?_ _ | refine b_drewN ?_ _ | refine Below.drew ?_ | refine b_set ?_ (by first | exact Nat.le_refl _ | (simp; done) | (simp; omega) | omega) _)))).mono ?_); rintro e w1 ⟨rfl, hb1⟩; obtain ⟨hc1, hf1⟩ := bcell hb1; have hs1 := hb1.size; (try simp at hs1); have hq1 : w.heap.size + 1 < w1.heap.size := (by omega); have hr1 : w.heap.size < w1.heap.size := (by omega)) | (go_at_call 125; (with_reducible refine (hAb _).mono ?_); rintro e w2 ⟨rfl, hb2⟩; obtain ⟨hc2, hf2⟩ := bcell hb2; have hs2 := hb2.size; (try simp at hs2); have hr2 : w.heap.size < w2.heap.size := (by omega)))
        go_ret
        exact ⟨rfl, (by repeat (first | exact Below.refl _ _ | assumption | refine b_then ?_ (by assumption) | refine b_alloc ?_ _ | refine b_drewN ?_ _ | refine Below.drew ?_ | refine b_set ?_ (by first | exact Nat.le_refl _ | (simp; done) | (simp; omega) | omega) _))⟩
set_option maxRecDepth 100000 in
set_option maxHeartbeats 4000000 in
theorem p_tmay1 (a1 a2 a3 : ByteArray) (a4 a5 : Int) (w : World) (h3 : a3.size ≤ 9223372036854775807) :
    Calls Tryz.prog 85 #[.agg #[.int .i64 1, .string a1, .string a2, .string a3, .int .i64 a4, .int .i64 a5]] w fun e w' => e = .returned (.bool (nmay ⟨1, ⟨a1, a2⟩, a3, a4, a5⟩)) ∧ Below w.heap.size w w' := by
  unfold nmay
  rw [if_neg (by dsimp only; omega), if_pos rfl]
  dsimp only
  obtain ⟨E, hE⟩ : ∃ E, (rzer ⟨a1, a2⟩ && a5 == 0) = E := ⟨_, rfl⟩
  have heq : ∀ (d : Nat) (W : World), (Op.equalIn (d + 3) 41 (.agg #[.int .i64 1, .string a1, .string a2, .string a3, .int .i64 a4, .int .i64 a5]) (.agg #[.int .i64 1, .string ⟨#[]⟩, .string ⟨#[]⟩, .string a3, .int .i64 a4, .int .i64 0])).run Tryz.prog W = .ok E W := fun d W => by
    rw [eqNd, ← hE]
    simp [nil_tl, rzer]
  have hN := fun W => p_tasset a3 W h3
  have hD := fun d W => p_day d W
  rw [hE]
  clear hE
  cases E with
  | false =>
    go_enter Tryz.func85, Tryz.ntmps85
    go_wp2
    (try go_big_region)
    all_goals
      go_wp2_with (first | fail)
      all_goals
        go_ret
        exact ⟨ret_bool (by first | (simp [*]; done) | (simp; omega)), (by repeat (first | exact Below.refl _ _ | assumption | refine b_then ?_ (by assumption) | refine b_alloc ?_ _ | refine b_drewN ?_ _ | refine Below.drew ?_ | refine b_set ?_ (by first | exact Nat.le_refl _ | (simp; done) | (simp; omega) | omega) _))⟩
  | true =>
    cases c : tasset a3 with
    | false =>
      rw [c] at hN
      go_enter Tryz.func85, Tryz.ntmps85
      go_wp2
      (try go_big_region)
      all_goals
        go_wp2_with (first | (go_at_call 126; (with_reducible refine (hN _).mono ?_); rintro e w1 ⟨rfl, hb1⟩; obtain ⟨hc1, hf1⟩ := bcell hb1; have hs1 := hb1.size; (try simp at hs1); have hq1 : w.heap.size + 1 < w1.heap.size := (by omega); have hr1 : w.heap.size < w1.heap.size := (by omega)))
        all_goals
          go_ret
          exact ⟨ret_bool (by first | (simp [*]; done) | (simp; omega)), (by repeat (first | exact Below.refl _ _ | assumption | refine b_then ?_ (by assumption) | refine b_alloc ?_ _ | refine b_drewN ?_ _ | refine Below.drew ?_ | refine b_set ?_ (by first | exact Nat.le_refl _ | (simp; done) | (simp; omega) | omega) _))⟩
    | true =>
      rw [c] at hN
      clear c
      by_cases c1 : 0 ≤ a4
      · by_cases c2 : a4 ≤ 9999
        · have hDd : (decide (0 ≤ a4) && decide (a4 ≤ 9999)) = true := by simp [c1, c2]
          replace hD := fun W => hDd ▸ hD a4 W
          go_enter Tryz.func85, Tryz.ntmps85
          go_wp2
          (try go_big_region)
          all_goals
            go_wp2_with (first | (go_at_call 126; (with_reducible refine (hN _).mono ?_); rintro e w1 ⟨rfl, hb1⟩; obtain ⟨hc1, hf1⟩ := bcell hb1; have hs1 := hb1.size; (try simp at hs1); have hq1 : w.heap.size + 1 < w1.heap.size := (by omega); have hr1 : w.heap.size < w1.heap.size := (by omega)) | (go_at_call 127; (with_reducible refine (hD _).mono ?_); rintro e w' ⟨rfl, rfl⟩))
            all_goals
              go_ret
              exact ⟨ret_bool (by first | (simp [*]; done) | (simp; omega)), (by repeat (first | exact Below.refl _ _ | assumption | refine b_then ?_ (by assumption) | refine b_alloc ?_ _ | refine b_drewN ?_ _ | refine Below.drew ?_ | refine b_set ?_ (by first | exact Nat.le_refl _ | (simp; done) | (simp; omega) | omega) _))⟩
        · have hDd : (decide (0 ≤ a4) && decide (a4 ≤ 9999)) = false := by simp [c1, c2]
          replace hD := fun W => hDd ▸ hD a4 W
          go_enter Tryz.func85, Tryz.ntmps85
          go_wp2
          (try go_big_region)
          all_goals
            go_wp2_with (first | (go_at_call 126; (with_reducible refine (hN _).mono ?_); rintro e w1 ⟨rfl, hb1⟩; obtain ⟨hc1, hf1⟩ := bcell hb1; have hs1 := hb1.size; (try simp at hs1); have hq1 : w.heap.size + 1 < w1.heap.size := (by omega); have hr1 : w.heap.size < w1.heap.size := (by omega)) | (go_at_call 127; (with_reducible refine (hD _).mono ?_); rintro e w' ⟨rfl, rfl⟩))
            all_goals
              go_ret
              exact ⟨ret_bool (by first | (simp [*]; done) | (simp; omega)), (by repeat (first | exact Below.refl _ _ | assumption | refine b_then ?_ (by assumption) | refine b_alloc ?_ _ | refine b_drewN ?_ _ | refine Below.drew ?_ | refine b_set ?_ (by first | exact Nat.le_refl _ | (simp; done) | (simp; omega) | omega) _))⟩
      · have hDd : (decide (0 ≤ a4) && decide (a4 ≤ 9999)) = false := by simp [c1]
        replace hD := fun W => hDd ▸ hD a4 W
        go_enter Tryz.func85, Tryz.ntmps85
        go_wp2
        (try go_big_region)
        all_goals
          go_wp2_with (first | (go_at_call 126; (with_reducible refine (hN _).mono ?_); rintro e w1 ⟨rfl, hb1⟩; obtain ⟨hc1, hf1⟩ := bcell hb1; have hs1 := hb1.size; (try simp at hs1); have hq1 : w.heap.size + 1 < w1.heap.size := (by omega); have hr1 : w.heap.size < w1.heap.size := (by omega)) | (go_at_call 127; (with_reducible refine (hD _).mono ?_); rintro e w' ⟨rfl, rfl⟩))
          all_goals
            go_ret
            exact ⟨ret_bool (by first | (simp [*]; done) | (simp; omega)), (by repeat (first | exact Below.refl _ _ | assumption | refine b_then ?_ (by assumption) | refine b_alloc ?_ _ | refine b_drewN ?_ _ | refine Below.drew ?_ | refine b_set ?_ (by first | exact Nat.le_refl _ | (simp; done) | (simp; omega) | omega) _))⟩
set_option maxRecDepth 100000 in
set_option maxHeartbeats 8000000 in
theorem p_tmay2 (a0 : Int) (a1 a2 a3 : ByteArray) (a4 a5 : Int) (w : World) (h0 : a0 = 2 ∨ a0 = 3 ∨ a0 = 4) (h3 : a3.size ≤ 9223372036854775807) :
    Calls Tryz.prog 85 #[.agg #[.int .i64 a0, .string a1, .string a2, .string a3, .int .i64 a4, .int .i64 a5]] w fun e w' => e = .returned (.bool (nmay ⟨a0, ⟨a1, a2⟩, a3, a4, a5⟩)) ∧ Below w.heap.size w w' := by
  unfold nmay
  rw [if_neg (by dsimp only; omega), if_neg (by dsimp only; omega), if_pos (by dsimp only; omega)]
  dsimp only
  obtain ⟨E, hE⟩ : ∃ E, rzer ⟨a1, a2⟩ = E := ⟨_, rfl⟩
  have heq : ∀ (d : Nat) (W : World), (Op.equalIn (d + 3) 41 (.agg #[.int .i64 a0, .string a1, .string a2, .string a3, .int .i64 a4, .int .i64 a5]) (.agg #[.int .i64 a0, .string ⟨#[]⟩, .string ⟨#[]⟩, .string a3, .int .i64 a4, .int .i64 a5])).run Tryz.prog W = .ok E W := fun d W => by
    rw [eqNd, ← hE]
    simp [nil_tl, rzer]
  have hN := fun W => p_tasset a3 W h3
  have hD := fun d W => p_day d W
  rw [hE]
  clear hE
  have z0 : (a0 == 0) = false := by rw [beq_eq_false_iff_ne]; omega
  have z1 : (a0 == 1) = false := by rw [beq_eq_false_iff_ne]; omega
  cases E with
  | false =>
    rcases h0 with rfl | rfl | rfl
    all_goals
      go_enter Tryz.func85, Tryz.ntmps85
      go_wp2
      (try go_big_region)
    all_goals
      go_wp2_with (first | fail)
    all_goals
      go_ret
      exact ⟨ret_bool (by first | (simp [*]; done) | (simp; omega)), (by repeat (first | exact Below.refl _ _ | assumption | refine b_then ?_ (by assumption) | refine b_alloc ?_ _ | refine b_drewN ?_ _ | refine Below.drew ?_ | refine b_set ?_ (by first | exact Nat.le_refl _ | (simp; done) | (simp; omega) | omega) _))⟩
  | true =>
    cases c : tasset a3 with
    | false =>
      rw [c] at hN
      rcases h0 with rfl | rfl | rfl
      all_goals
        go_enter Tryz.func85, Tryz.ntmps85
        go_wp2
        (try go_big_region)
      all_goals
        go_wp2_with (first | (go_at_call 126; (with_reducible refine (hN _).mono ?_); rintro e w1 ⟨rfl, hb1⟩; obtain ⟨hc1, hf1⟩ := bcell hb1; have hs1 := hb1.size; (try simp at hs1); have hq1 : w.heap.size + 1 < w1.heap.size := (by omega); have hr1 : w.heap.size < w1.heap.size := (by omega)))
      all_goals
        go_ret
        exact ⟨ret_bool (by first | (simp [*]; done) | (simp; omega)), (by repeat (first | exact Below.refl _ _ | assumption | refine b_then ?_ (by assumption) | refine b_alloc ?_ _ | refine b_drewN ?_ _ | refine Below.drew ?_ | refine b_set ?_ (by first | exact Nat.le_refl _ | (simp; done) | (simp; omega) | omega) _))⟩
    | true =>
      rw [c] at hN
      clear c
      cases cA : (decide (0 ≤ a4) && decide (a4 ≤ 9999)) with
      | false =>
        have hA : (decide (0 ≤ a4) && (decide (a5 ≤ 9999) && (decide (a4 ≤ a5) && decide (a5 - a4 < 60)))) = false := by
          rw [Bool.and_eq_false_iff, decide_eq_false_iff_not, decide_eq_false_iff_not] at cA
          simp; omega
        rw [hA]
        replace hD := fun W => cA ▸ hD a4 W
        clear cA hA
        rcases h0 with rfl | rfl | rfl
        all_goals
          go_enter Tryz.func85, Tryz.ntmps85
          go_wp2
          (try go_big_region)
        all_goals
          go_wp2_with (first | (go_at_call 126; (with_reducible refine (hN _).mono ?_); rintro e w1 ⟨rfl, hb1⟩; obtain ⟨hc1, hf1⟩ := bcell hb1; have hs1 := hb1.size; (try simp at hs1); have hq1 : w.heap.size + 1 < w1.heap.size := (by omega); have hr1 : w.heap.size < w1.heap.size := (by omega)) | (go_at_call 127; (with_reducible refine (hD _).mono ?_); rintro e w' ⟨rfl, rfl⟩))
        all_goals
          go_ret
          exact ⟨ret_bool (by first | (simp [*]; done) | (simp; omega)), (by repeat (first | exact Below.refl _ _ | assumption | refine b_then ?_ (by assumption) | refine b_alloc ?_ _ | refine b_drewN ?_ _ | refine Below.drew ?_ | refine b_set ?_ (by first | exact Nat.le_refl _ | (simp; done) | (simp; omega) | omega) _))⟩
      | true =>
        have hDA := fun W => cA ▸ hD a4 W
        cases cB : (decide (0 ≤ a5) && decide (a5 ≤ 9999)) with
        | false =>
          have hB : (decide (0 ≤ a4) && (decide (a5 ≤ 9999) && (decide (a4 ≤ a5) && decide (a5 - a4 < 60)))) = false := by
            rw [Bool.and_eq_true, decide_eq_true_eq, decide_eq_true_eq] at cA
            rw [Bool.and_eq_false_iff, decide_eq_false_iff_not, decide_eq_false_iff_not] at cB
            simp; omega
          rw [hB]
          have hDB := fun W => cB ▸ hD a5 W
          clear cA hB cB hD
          rcases h0 with rfl | rfl | rfl
          all_goals
            go_enter Tryz.func85, Tryz.ntmps85
            go_wp2
            (try go_big_region)
          all_goals
            go_wp2_with (first | (go_at_call 126; (with_reducible refine (hN _).mono ?_); rintro e w1 ⟨rfl, hb1⟩; obtain ⟨hc1, hf1⟩ := bcell hb1; have hs1 := hb1.size; (try simp at hs1); have hq1 : w.heap.size + 1 < w1.heap.size := (by omega); have hr1 : w.heap.size < w1.heap.size := (by omega)) | (go_at_call 127; (with_reducible refine (hDA _).mono ?_); rintro e w' ⟨rfl, rfl⟩) | (go_at_call 127; (with_reducible refine (hDB _).mono ?_); rintro e w' ⟨rfl, rfl⟩))
          all_goals
            go_ret
            exact ⟨ret_bool (by first | (simp [*]; done) | (simp; omega)), (by repeat (first | exact Below.refl _ _ | assumption | refine b_then ?_ (by assumption) | refine b_alloc ?_ _ | refine b_drewN ?_ _ | refine Below.drew ?_ | refine b_set ?_ (by first | exact Nat.le_refl _ | (simp; done) | (simp; omega) | omega) _))⟩
        | true =>
          have hDB := fun W => cB ▸ hD a5 W
          rw [Bool.and_eq_true, decide_eq_true_eq, decide_eq_true_eq] at cA cB
          obtain ⟨k1, k2⟩ := cA
          obtain ⟨k3, k4⟩ := cB
          clear hD
          have hwr : wrap64 (a5 - a4) = a5 - a4 := by unfold wrap64; omega
          rw [decide_eq_true k1, decide_eq_true k4]
          by_cases c5 : a4 ≤ a5
          · rw [decide_eq_true c5]
            by_cases c6 : a5 - a4 < 60
            · rw [decide_eq_true c6]
              clear hwr
              rcases h0 with rfl | rfl | rfl
              all_goals
                go_enter Tryz.func85, Tryz.ntmps85
                go_wp2
                (try go_big_region)
              all_goals
                go_wp2_with (first | (go_at_call 126; (with_reducible refine (hN _).mono ?_); rintro e w1 ⟨rfl, hb1⟩; obtain ⟨hc1, hf1⟩ := bcell hb1; have hs1 := hb1.size; (try simp at hs1); have hq1 : w.heap.size + 1 < w1.heap.size := (by omega); have hr1 : w.heap.size < w1.heap.size := (by omega)) | (go_at_call 127; (with_reducible refine (hDA _).mono ?_); rintro e w' ⟨rfl, rfl⟩) | (go_at_call 127; (with_reducible refine (hDB _).mono ?_); rintro e w' ⟨rfl, rfl⟩))
              all_goals
                go_ret
                exact ⟨ret_bool (by first | (simp [*]; done) | (simp; omega)), (by repeat (first | exact Below.refl _ _ | assumption | refine b_then ?_ (by assumption) | refine b_alloc ?_ _ | refine b_drewN ?_ _ | refine Below.drew ?_ | refine b_set ?_ (by first | exact Nat.le_refl _ | (simp; done) | (simp; omega) | omega) _))⟩
            · rw [decide_eq_false c6]
              clear hwr
              rcases h0 with rfl | rfl | rfl
              all_goals
                go_enter Tryz.func85, Tryz.ntmps85
                go_wp2
                (try go_big_region)
              all_goals
                go_wp2_with (first | (go_at_call 126; (with_reducible refine (hN _).mono ?_); rintro e w1 ⟨rfl, hb1⟩; obtain ⟨hc1, hf1⟩ := bcell hb1; have hs1 := hb1.size; (try simp at hs1); have hq1 : w.heap.size + 1 < w1.heap.size := (by omega); have hr1 : w.heap.size < w1.heap.size := (by omega)) | (go_at_call 127; (with_reducible refine (hDA _).mono ?_); rintro e w' ⟨rfl, rfl⟩) | (go_at_call 127; (with_reducible refine (hDB _).mono ?_); rintro e w' ⟨rfl, rfl⟩))
              all_goals
                go_ret
                exact ⟨ret_bool (by first | (simp [*]; done) | (simp; omega)), (by repeat (first | exact Below.refl _ _ | assumption | refine b_then ?_ (by assumption) | refine b_alloc ?_ _ | refine b_drewN ?_ _ | refine Below.drew ?_ | refine b_set ?_ (by first | exact Nat.le_refl _ | (simp; done) | (simp; omega) | omega) _))⟩
          · rw [decide_eq_false c5]
            clear hwr
            rcases h0 with rfl | rfl | rfl
            all_goals
              go_enter Tryz.func85, Tryz.ntmps85
              go_wp2
              (try go_big_region)
            all_goals
              go_wp2_with (first | (go_at_call 126; (with_reducible refine (hN _).mono ?_); rintro e w1 ⟨rfl, hb1⟩; obtain ⟨hc1, hf1⟩ := bcell hb1; have hs1 := hb1.size; (try simp at hs1); have hq1 : w.heap.size + 1 < w1.heap.size := (by omega); have hr1 : w.heap.size < w1.heap.size := (by omega)) | (go_at_call 127; (with_reducible refine (hDA _).mono ?_); rintro e w' ⟨rfl, rfl⟩) | (go_at_call 127; (with_reducible refine (hDB _).mono ?_); rintro e w' ⟨rfl, rfl⟩))
            all_goals
              go_ret
              exact ⟨ret_bool (by first | (simp [*]; done) | (simp; omega)), (by repeat (first | exact Below.refl _ _ | assumption | refine b_then ?_ (by assumption) | refine b_alloc ?_ _ | refine b_drewN ?_ _ | refine Below.drew ?_ | refine b_set ?_ (by first | exact Nat.le_refl _ | (simp; done) | (simp; omega) | omega) _))⟩
set_option maxRecDepth 100000 in
set_option maxHeartbeats 4000000 in
theorem p_tmay5 (a0 : Int) (a1 a2 a3 : ByteArray) (a4 a5 : Int) (w : World) (h0 : a0 < 0 ∨ 4 < a0) :
    Calls Tryz.prog 85 #[.agg #[.int .i64 a0, .string a1, .string a2, .string a3, .int .i64 a4, .int .i64 a5]] w fun e w' => e = .returned (.bool (nmay ⟨a0, ⟨a1, a2⟩, a3, a4, a5⟩)) ∧ Below w.heap.size w w' := by
  unfold nmay
  rw [if_neg (by dsimp only; omega), if_neg (by dsimp only; omega), if_neg (by dsimp only; omega)]
  dsimp only
  obtain ⟨E, hE⟩ : ∃ E, (rzer ⟨a1, a2⟩ && (a3.toList == [] && (a4 == 0 && a5 == 0))) = E := ⟨_, rfl⟩
  have heq : ∀ (d : Nat) (W : World), (Op.equalIn (d + 3) 41 (.agg #[.int .i64 a0, .string a1, .string a2, .string a3, .int .i64 a4, .int .i64 a5]) (.agg #[.int .i64 a0, .string ⟨#[]⟩, .string ⟨#[]⟩, .string ⟨#[]⟩, .int .i64 0, .int .i64 0])).run Tryz.prog W = .ok E W := fun d W => by
    rw [eqNd, ← hE]
    simp [nil_tl, rzer]
  rw [hE]
  clear hE
  have z0 : (a0 == 0) = false := by rw [beq_eq_false_iff_ne]; omega
  have z1 : (a0 == 1) = false := by rw [beq_eq_false_iff_ne]; omega
  have z2 : (a0 == 2) = false := by rw [beq_eq_false_iff_ne]; omega
  have z3 : (a0 == 3) = false := by rw [beq_eq_false_iff_ne]; omega
  have z4 : (a0 == 4) = false := by rw [beq_eq_false_iff_ne]; omega
  rcases h0 with h0 | h0
  · have y2 : ¬ 2 ≤ a0 := by omega
    go_enter Tryz.func85, Tryz.ntmps85
    go_wp2
    go_ret
    exact ⟨rfl, (by repeat (first | exact Below.refl _ _ | assumption | refine b_then ?_ (by assumption) | refine b_alloc ?_ _ | refine b_drewN ?_ _ | refine Below.drew ?_ | refine b_set ?_ (by first | exact Nat.le_refl _ | (simp; done) | (simp; omega) | omega) _))⟩
  · have y2 : ¬ a0 ≤ 4 := by omega
    go_enter Tryz.func85, Tryz.ntmps85
    go_wp2
    go_ret
    exact ⟨rfl, (by repeat (first | exact Below.refl _ _ | assumption | refine b_then ?_ (by assumption) | refine b_alloc ?_ _ | refine b_drewN ?_ _ | refine Below.drew ?_ | refine b_set ?_ (by first | exact Nat.le_refl _ | (simp; done) | (simp; omega) | omega) _))⟩
theorem p_tmay (a0 : Int) (a1 a2 a3 : ByteArray) (a4 a5 : Int) (w : World) (hg : Glob w) (h1 : a1.size ≤ 880000000) (h2 : a2.size ≤ 880000000) (h3 : a3.size ≤ 9223372036854775807) :
    Calls Tryz.prog 85 #[.agg #[.int .i64 a0, .string a1, .string a2, .string a3, .int .i64 a4, .int .i64 a5]] w fun e w' => e = .returned (.bool (nmay ⟨a0, ⟨a1, a2⟩, a3, a4, a5⟩)) ∧ Below w.heap.size w w' := by
  by_cases k0 : a0 = 0
  · subst k0; exact p_tmay0 a1 a2 a3 a4 a5 w hg h1 h2
  by_cases k1 : a0 = 1
  · subst k1; exact p_tmay1 a1 a2 a3 a4 a5 w h3
  by_cases k2 : 2 ≤ a0 ∧ a0 ≤ 4
  · exact p_tmay2 a0 a1 a2 a3 a4 a5 w (by omega) h3
  · exact p_tmay5 a0 a1 a2 a3 a4 a5 w (by omega)
set_option maxRecDepth 100000 in
set_option maxHeartbeats 2000000 in
theorem r10_node0 (a1 a2 a3 : ByteArray) (a4 a5 : Int) (w : World) (h1 : a1.size ≤ 880000000) (h2 : a2.size ≤ 880000000) :
    Calls Tryz.prog 55 #[.agg #[.int .i64 0, .string a1, .string a2, .string a3, .int .i64 a4, .int .i64 a5]] w fun e w' => e = .returned (.bool (nmay ⟨0, ⟨a1, a2⟩, a3, a4, a5⟩)) ∧ Below w.heap.size w w' := by
  unfold nmay
  rw [if_pos rfl]
  dsimp only
  obtain ⟨E, hE⟩ : ∃ E, (a3.toList == [] && (a4 == 0 && a5 == 0)) = E := ⟨_, rfl⟩
  have heq : ∀ (d : Nat) (W : World), (Op.equalIn (d + 3) 41 (.agg #[.int .i64 0, .string a1, .string a2, .string a3, .int .i64 a4, .int .i64 a5]) (.agg #[.int .i64 0, .string a1, .string a2, .string ⟨#[]⟩, .int .i64 0, .int .i64 0])).run Tryz.prog W = .ok E W := fun d W => by
    rw [eqNd, ← hE]
    simp [nil_tl]
  have hM := fun W => r3_may a1 a2 W (by omega) (by omega)
  rw [hE]
  clear hE
  cases E with
  | false =>
    go_enter Tryz.func55, Tryz.ntmps55
    go_wp2
    go_ret
    exact ⟨rfl, (by repeat (first | exact Below.refl _ _ | assumption | refine b_then ?_ (by assumption) | refine b_alloc ?_ _ | refine b_drewN ?_ _ | refine Below.drew ?_ | refine b_set ?_ (by first | exact Nat.le_refl _ | (simp; done) | (simp; omega) | omega) _))⟩
  | true =>
    cases c : rmay ⟨a1, a2⟩ with
    | false =>
      rw [c] at hM
      go_enter Tryz.func55, Tryz.ntmps55
      go_wp2_with (go_at_call 78; (with_reducible refine (hM _).mono ?_); rintro e w1 ⟨rfl, hb1⟩; obtain ⟨hc1, hf1⟩ := bcell hb1; have hs1 := hb1.size; (try simp at hs1); have hr1 : w.heap.size < w1.heap.size := (by omega))
      go_ret
      exact ⟨rfl, (by repeat (first | exact Below.refl _ _ | assumption | refine b_then ?_ (by assumption) | refine b_alloc ?_ _ | refine b_drewN ?_ _ | refine Below.drew ?_ | refine b_set ?_ (by first | exact Nat.le_refl _ | (simp; done) | (simp; omega) | omega) _))⟩
    | true =>
      rw [c] at hM
      obtain ⟨q, hq⟩ := rmay_of c
      injection hq with e1 e2
      subst e1; subst e2
      have hAb := fun W => r2_abs q.num W (by rw [iS_size] at h1 ⊢; omega)
      have hn : ndg (ival (iS q.num).data.toList).natAbs = (nS q.num.natAbs).size := by rw [iS_l, ival_itx, nS_size]
      rw [hn]
      clear hn c
      generalize nS q.num.natAbs = s at *
      generalize iS q.num = s1 at *
      generalize nS q.den = s2 at *
      by_cases c1 : s.size ≤ 60
      · have d1 : (s.size : Int) ≤ 60 := by omega
        rw [decide_eq_true c1]
        by_cases c2 : s2.size ≤ 60
        · have d2 : (s2.size : Int) ≤ 60 := by omega
          rw [decide_eq_true c2]
          go_enter Tryz.func55, Tryz.ntmps55
          go_wp2_with (first | (go_at_call 78; (with_reducible refine (hM _).mono ?_); rintro e w1 ⟨rfl, hb1⟩; obtain ⟨hc1, hf1⟩ := bcell hb1; have hs1 := hb1.size; (try simp at hs1); have hr1 : w.heap.size < w1.heap.size := (by omega)) | (go_at_call 90; (with_reducible refine (hAb _).mono ?_); rintro e w' ⟨rfl, rfl⟩))
          go_ret
          exact ⟨ret_bool (by first | rfl | (simp; omega)), (by repeat (first | exact Below.refl _ _ | assumption | refine b_then ?_ (by assumption) | refine b_alloc ?_ _ | refine b_drewN ?_ _ | refine Below.drew ?_ | refine b_set ?_ (by first | exact Nat.le_refl _ | (simp; done) | (simp; omega) | omega) _))⟩
        · have d2 : ¬ (s2.size : Int) ≤ 60 := by omega
          rw [decide_eq_false c2]
          go_enter Tryz.func55, Tryz.ntmps55
          go_wp2_with (first | (go_at_call 78; (with_reducible refine (hM _).mono ?_); rintro e w1 ⟨rfl, hb1⟩; obtain ⟨hc1, hf1⟩ := bcell hb1; have hs1 := hb1.size; (try simp at hs1); have hr1 : w.heap.size < w1.heap.size := (by omega)) | (go_at_call 90; (with_reducible refine (hAb _).mono ?_); rintro e w' ⟨rfl, rfl⟩))
          go_ret
          exact ⟨ret_bool (by first | rfl | (simp; omega)), (by repeat (first | exact Below.refl _ _ | assumption | refine b_then ?_ (by assumption) | refine b_alloc ?_ _ | refine b_drewN ?_ _ | refine Below.drew ?_ | refine b_set ?_ (by first | exact Nat.le_refl _ | (simp; done) | (simp; omega) | omega) _))⟩
      · have d1 : ¬ (s.size : Int) ≤ 60 := by omega
        rw [decide_eq_false c1]
        go_enter Tryz.func55, Tryz.ntmps55
        go_wp2_with (first | (go_at_call 78; (with_reducible refine (hM _).mono ?_); rintro e w1 ⟨rfl, hb1⟩; obtain ⟨hc1, hf1⟩ := bcell hb1; have hs1 := hb1.size; (try simp at hs1); have hr1 : w.heap.size < w1.heap.size := (by omega)) | (go_at_call 90; (with_reducible refine (hAb _).mono ?_); rintro e w' ⟨rfl, rfl⟩))
        go_ret
        exact ⟨rfl, (by repeat (first | exact Below.refl _ _ | assumption | refine b_then ?_ (by assumption) | refine b_alloc ?_ _ | refine b_drewN ?_ _ | refine Below.drew ?_ | refine b_set ?_ (by first | exact Nat.le_refl _ | (simp; done) | (simp; omega) | omega) _))⟩
set_option maxRecDepth 100000 in
set_option maxHeartbeats 4000000 in
theorem r10_node1 (a1 a2 a3 : ByteArray) (a4 a5 : Int) (w : World) (h3 : a3.size ≤ 9223372036854775807) :
    Calls Tryz.prog 55 #[.agg #[.int .i64 1, .string a1, .string a2, .string a3, .int .i64 a4, .int .i64 a5]] w fun e w' => e = .returned (.bool (nmay ⟨1, ⟨a1, a2⟩, a3, a4, a5⟩)) ∧ Below w.heap.size w w' := by
  unfold nmay
  rw [if_neg (by dsimp only; omega), if_pos rfl]
  dsimp only
  obtain ⟨E, hE⟩ : ∃ E, (rzer ⟨a1, a2⟩ && a5 == 0) = E := ⟨_, rfl⟩
  have heq : ∀ (d : Nat) (W : World), (Op.equalIn (d + 3) 41 (.agg #[.int .i64 1, .string a1, .string a2, .string a3, .int .i64 a4, .int .i64 a5]) (.agg #[.int .i64 1, .string ⟨#[]⟩, .string ⟨#[]⟩, .string a3, .int .i64 a4, .int .i64 0])).run Tryz.prog W = .ok E W := fun d W => by
    rw [eqNd, ← hE]
    simp [nil_tl, rzer]
  have hN := fun W => r10_asset a3 W h3
  rw [hE]
  clear hE
  cases E with
  | false =>
    go_enter Tryz.func55, Tryz.ntmps55
    go_wp2_with (first | fail)
    go_ret
    exact ⟨ret_bool (by first | (simp [*]; done) | (simp; omega)), (by repeat (first | exact Below.refl _ _ | assumption | refine b_then ?_ (by assumption) | refine b_alloc ?_ _ | refine b_drewN ?_ _ | refine Below.drew ?_ | refine b_set ?_ (by first | exact Nat.le_refl _ | (simp; done) | (simp; omega) | omega) _))⟩
  | true =>
    cases c : tasset a3 with
    | false =>
      rw [c] at hN
      go_enter Tryz.func55, Tryz.ntmps55
      go_wp2_with (first | (go_at_call 91; (with_reducible refine (hN _).mono ?_); rintro e w1 ⟨rfl, hb1⟩; obtain ⟨hc1, hf1⟩ := bcell hb1; have hs1 := hb1.size; (try simp at hs1); have hr1 : w.heap.size < w1.heap.size := (by omega)))
      go_ret
      exact ⟨ret_bool (by first | (simp [*]; done) | (simp; omega)), (by repeat (first | exact Below.refl _ _ | assumption | refine b_then ?_ (by assumption) | refine b_alloc ?_ _ | refine b_drewN ?_ _ | refine Below.drew ?_ | refine b_set ?_ (by first | exact Nat.le_refl _ | (simp; done) | (simp; omega) | omega) _))⟩
    | true =>
      rw [c] at hN
      clear c
      by_cases c1 : 0 ≤ a4
      · by_cases c2 : a4 ≤ 9999
        · skip
          go_enter Tryz.func55, Tryz.ntmps55
          go_wp2_with (first | (go_at_call 91; (with_reducible refine (hN _).mono ?_); rintro e w1 ⟨rfl, hb1⟩; obtain ⟨hc1, hf1⟩ := bcell hb1; have hs1 := hb1.size; (try simp at hs1); have hr1 : w.heap.size < w1.heap.size := (by omega)))
          go_ret
          exact ⟨ret_bool (by first | (simp [*]; done) | (simp; omega)), (by repeat (first | exact Below.refl _ _ | assumption | refine b_then ?_ (by assumption) | refine b_alloc ?_ _ | refine b_drewN ?_ _ | refine Below.drew ?_ | refine b_set ?_ (by first | exact Nat.le_refl _ | (simp; done) | (simp; omega) | omega) _))⟩
        · skip
          go_enter Tryz.func55, Tryz.ntmps55
          go_wp2_with (first | (go_at_call 91; (with_reducible refine (hN _).mono ?_); rintro e w1 ⟨rfl, hb1⟩; obtain ⟨hc1, hf1⟩ := bcell hb1; have hs1 := hb1.size; (try simp at hs1); have hr1 : w.heap.size < w1.heap.size := (by omega)))
          go_ret
          exact ⟨ret_bool (by first | (simp [*]; done) | (simp; omega)), (by repeat (first | exact Below.refl _ _ | assumption | refine b_then ?_ (by assumption) | refine b_alloc ?_ _ | refine b_drewN ?_ _ | refine Below.drew ?_ | refine b_set ?_ (by first | exact Nat.le_refl _ | (simp; done) | (simp; omega) | omega) _))⟩
      · skip
        go_enter Tryz.func55, Tryz.ntmps55
        go_wp2_with (first | (go_at_call 91; (with_reducible refine (hN _).mono ?_); rintro e w1 ⟨rfl, hb1⟩; obtain ⟨hc1, hf1⟩ := bcell hb1; have hs1 := hb1.size; (try simp at hs1); have hr1 : w.heap.size < w1.heap.size := (by omega)))
        go_ret
        exact ⟨ret_bool (by first | (simp [*]; done) | (simp; omega)), (by repeat (first | exact Below.refl _ _ | assumption | refine b_then ?_ (by assumption) | refine b_alloc ?_ _ | refine b_drewN ?_ _ | refine Below.drew ?_ | refine b_set ?_ (by first | exact Nat.le_refl _ | (simp; done) | (simp; omega) | omega) _))⟩
set_option maxRecDepth 100000 in
set_option maxHeartbeats 8000000 in
theorem r10_node2 (a0 : Int) (a1 a2 a3 : ByteArray) (a4 a5 : Int) (w : World) (h0 : a0 = 2 ∨ a0 = 3 ∨ a0 = 4) (h3 : a3.size ≤ 9223372036854775807) :
    Calls Tryz.prog 55 #[.agg #[.int .i64 a0, .string a1, .string a2, .string a3, .int .i64 a4, .int .i64 a5]] w fun e w' => e = .returned (.bool (nmay ⟨a0, ⟨a1, a2⟩, a3, a4, a5⟩)) ∧ Below w.heap.size w w' := by
  unfold nmay
  rw [if_neg (by dsimp only; omega), if_neg (by dsimp only; omega), if_pos (by dsimp only; omega)]
  dsimp only
  obtain ⟨E, hE⟩ : ∃ E, rzer ⟨a1, a2⟩ = E := ⟨_, rfl⟩
  have heq : ∀ (d : Nat) (W : World), (Op.equalIn (d + 3) 41 (.agg #[.int .i64 a0, .string a1, .string a2, .string a3, .int .i64 a4, .int .i64 a5]) (.agg #[.int .i64 a0, .string ⟨#[]⟩, .string ⟨#[]⟩, .string a3, .int .i64 a4, .int .i64 a5])).run Tryz.prog W = .ok E W := fun d W => by
    rw [eqNd, ← hE]
    simp [nil_tl, rzer]
  have hN := fun W => r10_asset a3 W h3
  rw [hE]
  clear hE
  have z0 : (a0 == 0) = false := by rw [beq_eq_false_iff_ne]; omega
  have z1 : (a0 == 1) = false := by rw [beq_eq_false_iff_ne]; omega
  have z2 : 2 ≤ a0 := by omega
  have z4 : a0 ≤ 4 := by omega
  cases E with
  | false =>
    go_enter Tryz.func55, Tryz.ntmps55
    go_wp2_with (first | fail)
    go_ret
    exact ⟨ret_bool (by first | (simp [*]; done) | (simp; omega)), (by repeat (first | exact Below.refl _ _ | assumption | refine b_then ?_ (by assumption) | refine b_alloc ?_ _ | refine b_drewN ?_ _ | refine Below.drew ?_ | refine b_set ?_ (by first | exact Nat.le_refl _ | (simp; done) | (simp; omega) | omega) _))⟩
  | true =>
    cases c : tasset a3 with
    | false =>
      rw [c] at hN
      go_enter Tryz.func55, Tryz.ntmps55
      go_wp2_with (first | (go_at_call 91; (with_reducible refine (hN _).mono ?_); rintro e w1 ⟨rfl, hb1⟩; obtain ⟨hc1, hf1⟩ := bcell hb1; have hs1 := hb1.size; (try simp at hs1); have hr1 : w.heap.size < w1.heap.size := (by omega)))
      go_ret
      exact ⟨ret_bool (by first | (simp [*]; done) | (simp; omega)), (by repeat (first | exact Below.refl _ _ | assumption | refine b_then ?_ (by assumption) | refine b_alloc ?_ _ | refine b_drewN ?_ _ | refine Below.drew ?_ | refine b_set ?_ (by first | exact Nat.le_refl _ | (simp; done) | (simp; omega) | omega) _))⟩
    | true =>
      rw [c] at hN
      clear c
      by_cases c1 : 0 ≤ a4
      · by_cases c2 : a5 ≤ 9999
        · by_cases c3 : a4 ≤ a5
          · by_cases c4 : a5 - a4 < 60
            · skip
              go_enter Tryz.func55, Tryz.ntmps55
              go_wp2_with (first | (go_at_call 91; (with_reducible refine (hN _).mono ?_); rintro e w1 ⟨rfl, hb1⟩; obtain ⟨hc1, hf1⟩ := bcell hb1; have hs1 := hb1.size; (try simp at hs1); have hr1 : w.heap.size < w1.heap.size := (by omega)))
              go_ret
              exact ⟨ret_bool (by first | (simp [*]; done) | (simp; omega)), (by repeat (first | exact Below.refl _ _ | assumption | refine b_then ?_ (by assumption) | refine b_alloc ?_ _ | refine b_drewN ?_ _ | refine Below.drew ?_ | refine b_set ?_ (by first | exact Nat.le_refl _ | (simp; done) | (simp; omega) | omega) _))⟩
            · skip
              go_enter Tryz.func55, Tryz.ntmps55
              go_wp2_with (first | (go_at_call 91; (with_reducible refine (hN _).mono ?_); rintro e w1 ⟨rfl, hb1⟩; obtain ⟨hc1, hf1⟩ := bcell hb1; have hs1 := hb1.size; (try simp at hs1); have hr1 : w.heap.size < w1.heap.size := (by omega)))
              go_ret
              exact ⟨ret_bool (by first | (simp [*]; done) | (simp; omega)), (by repeat (first | exact Below.refl _ _ | assumption | refine b_then ?_ (by assumption) | refine b_alloc ?_ _ | refine b_drewN ?_ _ | refine Below.drew ?_ | refine b_set ?_ (by first | exact Nat.le_refl _ | (simp; done) | (simp; omega) | omega) _))⟩
          · skip
            go_enter Tryz.func55, Tryz.ntmps55
            go_wp2_with (first | (go_at_call 91; (with_reducible refine (hN _).mono ?_); rintro e w1 ⟨rfl, hb1⟩; obtain ⟨hc1, hf1⟩ := bcell hb1; have hs1 := hb1.size; (try simp at hs1); have hr1 : w.heap.size < w1.heap.size := (by omega)))
            go_ret
            exact ⟨ret_bool (by first | (simp [*]; done) | (simp; omega)), (by repeat (first | exact Below.refl _ _ | assumption | refine b_then ?_ (by assumption) | refine b_alloc ?_ _ | refine b_drewN ?_ _ | refine Below.drew ?_ | refine b_set ?_ (by first | exact Nat.le_refl _ | (simp; done) | (simp; omega) | omega) _))⟩
        · skip
          go_enter Tryz.func55, Tryz.ntmps55
          go_wp2_with (first | (go_at_call 91; (with_reducible refine (hN _).mono ?_); rintro e w1 ⟨rfl, hb1⟩; obtain ⟨hc1, hf1⟩ := bcell hb1; have hs1 := hb1.size; (try simp at hs1); have hr1 : w.heap.size < w1.heap.size := (by omega)))
          go_ret
          exact ⟨ret_bool (by first | (simp [*]; done) | (simp; omega)), (by repeat (first | exact Below.refl _ _ | assumption | refine b_then ?_ (by assumption) | refine b_alloc ?_ _ | refine b_drewN ?_ _ | refine Below.drew ?_ | refine b_set ?_ (by first | exact Nat.le_refl _ | (simp; done) | (simp; omega) | omega) _))⟩
      · skip
        go_enter Tryz.func55, Tryz.ntmps55
        go_wp2_with (first | (go_at_call 91; (with_reducible refine (hN _).mono ?_); rintro e w1 ⟨rfl, hb1⟩; obtain ⟨hc1, hf1⟩ := bcell hb1; have hs1 := hb1.size; (try simp at hs1); have hr1 : w.heap.size < w1.heap.size := (by omega)))
        go_ret
        exact ⟨ret_bool (by first | (simp [*]; done) | (simp; omega)), (by repeat (first | exact Below.refl _ _ | assumption | refine b_then ?_ (by assumption) | refine b_alloc ?_ _ | refine b_drewN ?_ _ | refine Below.drew ?_ | refine b_set ?_ (by first | exact Nat.le_refl _ | (simp; done) | (simp; omega) | omega) _))⟩
set_option maxRecDepth 100000 in
set_option maxHeartbeats 4000000 in
theorem r10_node5 (a0 : Int) (a1 a2 a3 : ByteArray) (a4 a5 : Int) (w : World) (h0 : a0 < 0 ∨ 4 < a0) :
    Calls Tryz.prog 55 #[.agg #[.int .i64 a0, .string a1, .string a2, .string a3, .int .i64 a4, .int .i64 a5]] w fun e w' => e = .returned (.bool (nmay ⟨a0, ⟨a1, a2⟩, a3, a4, a5⟩)) ∧ Below w.heap.size w w' := by
  unfold nmay
  rw [if_neg (by dsimp only; omega), if_neg (by dsimp only; omega), if_neg (by dsimp only; omega)]
  dsimp only
  obtain ⟨E, hE⟩ : ∃ E, (rzer ⟨a1, a2⟩ && (a3.toList == [] && (a4 == 0 && a5 == 0))) = E := ⟨_, rfl⟩
  have heq : ∀ (d : Nat) (W : World), (Op.equalIn (d + 3) 41 (.agg #[.int .i64 a0, .string a1, .string a2, .string a3, .int .i64 a4, .int .i64 a5]) (.agg #[.int .i64 a0, .string ⟨#[]⟩, .string ⟨#[]⟩, .string ⟨#[]⟩, .int .i64 0, .int .i64 0])).run Tryz.prog W = .ok E W := fun d W => by
    rw [eqNd, ← hE]
    simp [nil_tl, rzer]
  rw [hE]
  clear hE
  have z0 : (a0 == 0) = false := by rw [beq_eq_false_iff_ne]; omega
  have z1 : (a0 == 1) = false := by rw [beq_eq_false_iff_ne]; omega
  have z2 : (a0 == 2) = false := by rw [beq_eq_false_iff_ne]; omega
  have z3 : (a0 == 3) = false := by rw [beq_eq_false_iff_ne]; omega
  have z4 : (a0 == 4) = false := by rw [beq_eq_false_iff_ne]; omega
  rcases h0 with h0 | h0
  · have y2 : ¬ 2 ≤ a0 := by omega
    go_enter Tryz.func55, Tryz.ntmps55
    go_wp2
    go_ret
    exact ⟨rfl, (by repeat (first | exact Below.refl _ _ | assumption | refine b_then ?_ (by assumption) | refine b_alloc ?_ _ | refine b_drewN ?_ _ | refine Below.drew ?_ | refine b_set ?_ (by first | exact Nat.le_refl _ | (simp; done) | (simp; omega) | omega) _))⟩
  · have y2 : ¬ a0 ≤ 4 := by omega
    go_enter Tryz.func55, Tryz.ntmps55
    go_wp2
    go_ret
    exact ⟨rfl, (by repeat (first | exact Below.refl _ _ | assumption | refine b_then ?_ (by assumption) | refine b_alloc ?_ _ | refine b_drewN ?_ _ | refine Below.drew ?_ | refine b_set ?_ (by first | exact Nat.le_refl _ | (simp; done) | (simp; omega) | omega) _))⟩
theorem r10_node (a0 : Int) (a1 a2 a3 : ByteArray) (a4 a5 : Int) (w : World) (h1 : a1.size ≤ 880000000) (h2 : a2.size ≤ 880000000) (h3 : a3.size ≤ 9223372036854775807) :
    Calls Tryz.prog 55 #[.agg #[.int .i64 a0, .string a1, .string a2, .string a3, .int .i64 a4, .int .i64 a5]] w fun e w' => e = .returned (.bool (nmay ⟨a0, ⟨a1, a2⟩, a3, a4, a5⟩)) ∧ Below w.heap.size w w' := by
  by_cases k0 : a0 = 0
  · subst k0; exact r10_node0 a1 a2 a3 a4 a5 w h1 h2
  by_cases k1 : a0 = 1
  · subst k1; exact r10_node1 a1 a2 a3 a4 a5 w h3
  by_cases k2 : 2 ≤ a0 ∧ a0 ≤ 4
  · exact r10_node2 a0 a1 a2 a3 a4 a5 w (by omega) h3
  · exact r10_node5 a0 a1 a2 a3 a4 a5 w (by omega)
end Go.Proofs.YtjdofncognaaoaaGreatDoor
