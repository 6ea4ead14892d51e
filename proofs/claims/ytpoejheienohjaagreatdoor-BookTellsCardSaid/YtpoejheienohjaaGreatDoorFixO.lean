/- Walks of fixing.Get, fixing.Last. -/
import Derived.Test.YtpoejheienohjaaGreatDoorFixC
import Derived.Test.YtpoejheienohjaaGreatDoorFixF
namespace Go.Proofs.YtpoejheienohjaaGreatDoor
open Go.RowKit
set_option linter.unusedVariables false
set_option linter.unusedSimpArgs false

theorem fat_some {xs : List Fx} {t : Fx} {i : Nat} (h : fat xs t i = true) : ∃ a, xs[i]? = some a ∧ fcmp a t = 0 ∧ i < xs.length := by
  unfold fat at h
  cases hx : xs[i]? with
  | none => rw [hx] at h; cases h
  | some a => rw [hx] at h; exact ⟨a, rfl, of_decide_eq_true h, (List.getElem?_eq_some_iff.1 hx).1⟩
set_option maxHeartbeats 1000000 in
theorem p_get {A : Option Addr} {n c : Nat} {xs : List Fx} (s : ByteArray) (d : Int) (w : World) (hg : Glob w) (hx : Rd Fx.cs 4 w A n xs) (hn : n ≤ 1000000) (hz : ∀ f ∈ xs, fxq f) :
    Calls Tryz.prog 19 #[.slice A n c, .string s, .int .i64 d] w fun e w' => e = .returned (optR (fget xs s d)) ∧ Below w.heap.size w w' := by
  have hxl := hx.len
  have hB0 : Below w.heap.size w (W24 w) := b_alloc (Below.refl _ _) _
  have hF := p_find s d (W24 w) (hx.below hB0) hn (c := c)
  have hnone : Hid (optR none = .tuple #[.agg #[.string ⟨#[]⟩, .string ⟨#[]⟩], .bool false]) := rfl
  cases c3 : fmay xs with
  | false =>
    have hgn : Hid (fget xs s d = none) := by rw [Hid, fget, c3]; rfl
    go_enter Tryz.func19, Tryz.ntmps19
    go_wp2_with (go_at_call 56; (with_reducible refine hF.mono ?_); rintro e w1 ⟨i, rfl, hi, hb1⟩; revert hi)
    intro hi
    have hb1s := hb1.size
    have hBw : Below w.heap.size w w1 := b_then hB0 hb1
    obtain ⟨hc1, hf1⟩ := bcell hb1
    have hs0 : w.heap.size < w1.heap.size := Nat.lt_of_lt_of_le (by simp) hb1.size
    cases hft : fat xs ⟨s, d, rzero⟩ i with
    | false =>
      go_wp2
      refine bodyPost_ret (v := .tuple #[.agg #[.string ⟨#[]⟩, .string ⟨#[]⟩], .bool false]) ?_ rfl ⟨by rw [hgn.out, hnone.out], (by repeat (first | exact Below.refl _ _ | assumption | refine b_then ?_ (by assumption) | refine b_alloc ?_ _ | refine b_drewN ?_ _ | refine Below.drew ?_ | refine b_set ?_ (by first | exact Nat.le_refl _ | (simp; done) | (simp; omega) | omega) _))⟩
      simp [results, Tryz.results19, go_sem, hc1, hf1, hs0]
    | true =>
      have hM := p_may w1 (hg.below hBw) (hx.below hBw) hz (c := c)
      rw [c3] at hM
      go_wp2_with (go_at_call 24; (with_reducible refine (hM).mono ?_); rintro e w2 ⟨rfl, hb2⟩; obtain ⟨hc2, hf2⟩ := bcell hb2; have hs2 := hb2.size; (try simp at hs2))
      refine bodyPost_ret (v := .tuple #[.agg #[.string ⟨#[]⟩, .string ⟨#[]⟩], .bool false]) ?_ rfl ⟨by rw [hgn.out, hnone.out], (by repeat (first | exact Below.refl _ _ | assumption | refine b_then ?_ (by assumption) | refine b_alloc ?_ _ | refine b_drewN ?_ _ | refine Below.drew ?_ | refine b_set ?_ (by first | exact Nat.le_refl _ | (simp; done) | (simp; omega) | omega) _))⟩
      simp [results, Tryz.results19, go_sem, hc1, hf1, hc2, hf2, hs0, hs2]
  | true =>
    go_enter Tryz.func19, Tryz.ntmps19
    go_wp2_with (go_at_call 56; (with_reducible refine hF.mono ?_); rintro e w1 ⟨i, rfl, hi, hb1⟩; revert hi)
    intro hi
    have hb1s := hb1.size
    have hBw : Below w.heap.size w w1 := b_then hB0 hb1
    obtain ⟨hc1, hf1⟩ := bcell hb1
    have hs0 : w.heap.size < w1.heap.size := Nat.lt_of_lt_of_le (by simp) hb1.size
    have hcut := Lib.hid (fget_cut c3 hi)
    cases hft : fat xs ⟨s, d, rzero⟩ i with
    | false =>
      have hfin : Hid (fget xs s d = none) := by rw [Hid, hcut.out, hft]; rfl
      go_wp2
      refine bodyPost_ret (v := .tuple #[.agg #[.string ⟨#[]⟩, .string ⟨#[]⟩], .bool false]) ?_ rfl ⟨by rw [hfin.out, hnone.out], (by repeat (first | exact Below.refl _ _ | assumption | refine b_then ?_ (by assumption) | refine b_alloc ?_ _ | refine b_drewN ?_ _ | refine Below.drew ?_ | refine b_set ?_ (by first | exact Nat.le_refl _ | (simp; done) | (simp; omega) | omega) _))⟩
      simp [results, Tryz.results19, go_sem, hc1, hf1, hs0]
    | true =>
      have hM := p_may w1 (hg.below hBw) (hx.below hBw) hz (c := c)
      rw [c3] at hM
      obtain ⟨a, hxi, _, hil⟩ := fat_some hft
      rw [hxl] at hil
      obtain ⟨ad, a0, a1, a2, a3, rfl, hxk, hl⟩ := fx_in hx hBw hil
      have hfin : Hid (fget xs s d = some ⟨a2, a3⟩) := by rw [Hid, hcut.out, hft, hxk]; rfl
      have HL := Lib.hid hl
      clear hl hxi hxk
      go_wp2_with (go_at_call 24; (with_reducible refine (hM).mono ?_); rintro e w2 ⟨rfl, hb2⟩; obtain ⟨hc2, hf2⟩ := bcell hb2; have hs2 := hb2.size; (try simp at hs2); obtain ⟨_, _, hy2, _, hy4⟩ := HL.out w2 hb2)
      refine bodyPost_ret (v := .tuple #[.agg #[.string a2, .string a3], .bool true]) ?_ rfl ⟨by rw [hfin.out]; rfl, (by repeat (first | exact Below.refl _ _ | assumption | refine b_then ?_ (by assumption) | refine b_alloc ?_ _ | refine b_drewN ?_ _ | refine Below.drew ?_ | refine b_set ?_ (by first | exact Nat.le_refl _ | (simp; done) | (simp; omega) | omega) _))⟩
      simp [results, Tryz.results19, go_sem, hc1, hf1, hc2, hf2, hs0, hs2]
end Go.Proofs.YtpoejheienohjaaGreatDoor

/- Walk of fixing.Last. -/
namespace Go.Proofs.YtpoejheienohjaaGreatDoor
open Go.RowKit
set_option linter.unusedVariables false
set_option linter.unusedSimpArgs false

theorem filter_last {α : Type} {p : α → Bool} {l : List α} {k : Nat} {a : α} (ha : l[k]? = some a) (hp : p a = true) (h : ∀ j b, k < j → l[j]? = some b → p b = false) : (l.filter p).getLast? = some a := by
  have e : l = l.take (k + 1) ++ l.drop (k + 1) := (List.take_append_drop _ _).symm
  have h1 : (l.drop (k + 1)).filter p = [] := by
    rw [List.filter_eq_nil_iff]
    intro x hx
    obtain ⟨j, hj⟩ := List.mem_iff_getElem?.1 hx
    rw [List.getElem?_drop] at hj
    rw [h (k + 1 + j) x (by omega) hj]; simp
  rw [e, List.filter_append, h1, List.append_nil, List.take_add_one, ha, List.filter_append]
  simp [hp]
theorem filter_none {α : Type} {p : α → Bool} {l : List α} (h : ∀ (j : Nat) b, l[j]? = some b → p b = false) : (l.filter p).getLast? = none := by
  have h1 : l.filter p = [] := by
    rw [List.filter_eq_nil_iff]
    intro x hx
    obtain ⟨j, hj⟩ := List.mem_iff_getElem?.1 hx
    rw [h j x hj]; simp
  rw [h1]; rfl
theorem fupto_iff {a : ByteArray} {d : Int} {f : Fx} : fupto a d f = true ↔ f.asset = a ∧ f.day ≤ d := by
  unfold fupto
  rw [Bool.and_eq_true, beq_iff_eq, tl, tl, decide_eq_true_eq]
  exact ⟨fun h => ⟨s_ext h.1, h.2⟩, fun h => ⟨by rw [h.1], h.2⟩⟩
theorem fupto_no {a : ByteArray} {d : Int} {f : Fx} (h : ¬ (f.asset = a ∧ f.day ≤ d)) : fupto a d f = false := by
  rw [← Bool.not_eq_true, fupto_iff]; exact h
/-- Behind where the search ends there is none. -/
theorem fupto_back {l : List Fx} {a : ByteArray} {d : Int} {p : RT} {i j : Nat} {b : Fx} (hs : rises fahead l = true) (h : bsI l ⟨a, d, p⟩ i i) (hij : i < j) (hb : l[j]? = some b) : fupto a d b = false := by
  refine fupto_no fun ⟨h1, h2⟩ => ?_
  have hil : i < l.length := by have := (List.getElem?_eq_some_iff.1 hb).1; omega
  have hm : l[i]? = some l[i] := List.getElem?_eq_getElem hil
  have h3 := (bs_split hs h hm).2 (Nat.le_refl _)
  have h4 := rises_lt hs hij hm hb
  have h5 : fahead l[i] ⟨a, d, p⟩ = true := by
    rw [fahead_iff] at h4 ⊢
    rcases h4 with h4 | ⟨h4, h5⟩
    · exact .inl (by rw [← h1]; exact h4)
    · exact .inr ⟨h4.trans h1, by show l[i].day < d; omega⟩
  rw [h3] at h5; cases h5
theorem fupto_here {l : List Fx} {a : ByteArray} {d : Int} {p : RT} {i : Nat} {b : Fx} (hs : rises fahead l = true) (h : bsI l ⟨a, d, p⟩ i i) (hb : l[i]? = some b) : fupto a d b = fat l ⟨a, d, p⟩ i := by
  have h3 := (bs_split hs h hb).2 (Nat.le_refl _)
  unfold fat
  rw [hb]
  dsimp only
  rw [Bool.eq_iff_iff, fupto_iff, decide_eq_true_eq, fcmp_zero]
  constructor
  · rintro ⟨h1, h2⟩
    refine ⟨h1, ?_⟩
    show b.day = d
    have : ¬ b.day < d := fun h4 => by
      have h5 : fahead b ⟨a, d, p⟩ = true := fahead_iff _ _ |>.2 (.inr ⟨h1, h4⟩)
      rw [h3] at h5; cases h5
    omega
  · rintro ⟨h1, h2⟩
    exact ⟨h1, by have : b.day = d := h2; omega⟩
theorem flast_cut {l : List Fx} {a : ByteArray} {d : Int} {p : RT} {i : Nat} (hm : fmay l = true) (h : bsI l ⟨a, d, p⟩ i i) :
    (fat l ⟨a, d, p⟩ i = true → flast l a d = (l[i]?).map Fx.p) ∧
    (fat l ⟨a, d, p⟩ i = false → i = 0 → flast l a d = none) ∧
    (fat l ⟨a, d, p⟩ i = false → ∀ b, 0 < i → l[i - 1]? = some b → b.asset = a → flast l a d = some b.p) ∧
    (fat l ⟨a, d, p⟩ i = false → ∀ b, 0 < i → l[i - 1]? = some b → b.asset ≠ a → flast l a d = none) := by
  have hs : rises fahead l = true := by rw [fmay, Bool.and_eq_true] at hm; exact hm.2
  rw [flast, if_pos hm]
  have hge : fat l ⟨a, d, p⟩ i = false → ∀ j b, i ≤ j → l[j]? = some b → fupto a d b = false := fun hf j b hj hb => by
    by_cases e : i = j
    · subst e; rw [fupto_here hs h hb]; exact hf
    · exact fupto_back hs h (by omega) hb
  refine ⟨fun hf => ?_, fun hf h0 => ?_, fun hf b h0 hb ha => ?_, fun hf b h0 hb ha => ?_⟩
  · obtain ⟨b, hb, _, _⟩ := fat_some hf
    rw [filter_last hb (by rw [fupto_here hs h hb]; exact hf) fun j c hj hc => fupto_back hs h hj hc, hb]
  · subst h0
    rw [filter_none fun j b hb => hge hf j b (Nat.zero_le _) hb]; rfl
  · have h1 := (bs_split hs h hb).1 (by omega)
    rw [fahead_iff] at h1
    have h2 : b.day < d := by
      rcases h1 with h1 | ⟨_, h1⟩
      · rw [ha] at h1; exact absurd h1 (List.lt_irrefl _)
      · exact h1
    rw [filter_last hb (fupto_iff.2 ⟨ha, by omega⟩) fun j c hj hc => hge hf j c (by omega) hc]; rfl
  · rw [filter_none fun j c hc => ?_]
    · rfl
    · by_cases hji : i ≤ j
      · exact hge hf j c hji hc
      · refine fupto_no fun ⟨h1, h2⟩ => ha ?_
        by_cases e : j = i - 1
        · subst e; rw [hb] at hc; cases hc; exact h1
        · have h3 := rises_lt hs (show j < i - 1 by omega) hc hb
          have h4 := (bs_split hs h hb).1 (by omega)
          rw [fahead_iff] at h3 h4
          rcases h4 with h4 | ⟨h4, _⟩
          · rcases h3 with h3 | ⟨h3, _⟩
            · rw [h1] at h3
              exact absurd (List.lt_trans h3 h4) (List.lt_irrefl _)
            · rw [← h3]; exact h1
          · exact h4
theorem asset_ne {a b : ByteArray} (h : (a.toList == b.toList) = false) : a ≠ b := fun e => by rw [e] at h; simp at h
theorem asset_eq {a b : ByteArray} (h : (a.toList == b.toList) = true) : a = b := s_eq.2 (by simpa using h)
set_option maxHeartbeats 2000000 in
theorem p_last {A : Option Addr} {n c : Nat} {xs : List Fx} (s : ByteArray) (d : Int) (w : World) (hg : Glob w) (hx : Rd Fx.cs 4 w A n xs) (hn : n ≤ 1000000) (hz : ∀ f ∈ xs, fxq f) :
    Calls Tryz.prog 21 #[.slice A n c, .string s, .int .i64 d] w fun e w' => e = .returned (optR (flast xs s d)) ∧ Below w.heap.size w w' := by
  have hxl := hx.len
  have hB0 : Below w.heap.size w (W24 w) := b_alloc (Below.refl _ _) _
  have hM := p_may (W24 w) (hg.below hB0) (hx.below hB0) hz (c := c)
  have hnone : Hid (optR none = .tuple #[.agg #[.string ⟨#[]⟩, .string ⟨#[]⟩], .bool false]) := rfl
  cases c3 : fmay xs with
  | false =>
    rw [c3] at hM
    have hgn : Hid (flast xs s d = none) := by rw [Hid, flast, c3]; rfl
    go_enter Tryz.func21, Tryz.ntmps21
    go_wp2_with (go_at_call 24; (with_reducible refine (hM).mono ?_); rintro e w1 ⟨rfl, hb1⟩; obtain ⟨hc1, hf1⟩ := bcell hb1; have hs1 := hb1.size; (try simp at hs1))
    refine bodyPost_ret (v := .tuple #[.agg #[.string ⟨#[]⟩, .string ⟨#[]⟩], .bool false]) ?_ rfl ⟨by rw [hgn.out, hnone.out], (by repeat (first | exact Below.refl _ _ | assumption | refine b_then ?_ (by assumption) | refine b_alloc ?_ _ | refine b_drewN ?_ _ | refine Below.drew ?_ | refine b_set ?_ (by first | exact Nat.le_refl _ | (simp; done) | (simp; omega) | omega) _))⟩
    simp [results, Tryz.results21, go_sem, hc1, hf1, hs1]
  | true =>
    rw [c3] at hM
    go_enter Tryz.func21, Tryz.ntmps21
    go_wp2_with (first | (go_at_call 24; (with_reducible refine (hM).mono ?_); rintro e w1 ⟨rfl, hb1⟩; obtain ⟨hc1, hf1⟩ := bcell hb1; have hs1 := hb1.size; (try simp at hs1)) | (go_at_call 56; (with_reducible refine (p_find s d w1 (hx.below (b_then hB0 hb1)) hn).mono ?_); rintro e w2 ⟨i, rfl, hi, hb2⟩; revert hi))
    intro hi
    have hb2s := hb2.size
    have hBw1 : Below w.heap.size w w1 := b_then hB0 hb1
    have hBw : Below w.heap.size w w2 := b_then hBw1 hb2
    obtain ⟨hc2, hf2⟩ := bcell hb2
    have hs0 : w.heap.size < w1.heap.size := Nat.lt_of_lt_of_le (by simp) hb1.size
    have hs2 : w.heap.size < w2.heap.size := by omega
    obtain ⟨k1, k2, k3, k4⟩ := flast_cut c3 hi
    have hil' := hi.2.1
    rw [hxl] at hil'
    cases hft : fat xs ⟨s, d, rzero⟩ i with
    | true =>
      obtain ⟨a, hxi, _, hil⟩ := fat_some hft
      rw [hxl] at hil
      obtain ⟨ad, a0, a1, a2, a3, rfl, hxk, hl⟩ := fx_in hx hBw hil
      have hfin : Hid (flast xs s d = some ⟨a2, a3⟩) := by rw [Hid, k1 hft, hxk]; rfl
      obtain ⟨_, _, hy2, _, hy4⟩ := hl w2 (Below.refl _ _)
      clear hl hxi hxk k1 k2 k3 k4
      go_wp2
      refine bodyPost_ret (v := .tuple #[.agg #[.string a2, .string a3], .bool true]) ?_ rfl ⟨by rw [hfin.out]; rfl, (by repeat (first | exact Below.refl _ _ | assumption | refine b_then ?_ (by assumption) | refine b_alloc ?_ _ | refine b_drewN ?_ _ | refine Below.drew ?_ | refine b_set ?_ (by first | exact Nat.le_refl _ | (simp; done) | (simp; omega) | omega) _))⟩
      simp [results, Tryz.results21, go_sem, hc1, hf1, hc2, hf2, hs0, hs2]
    | false =>
      by_cases hi0 : i = 0
      · subst hi0
        have hfin : Hid (flast xs s d = none) := k2 hft rfl
        clear k1 k2 k3 k4
        go_wp2
        refine bodyPost_ret (v := .tuple #[.agg #[.string ⟨#[]⟩, .string ⟨#[]⟩], .bool false]) ?_ rfl ⟨by rw [hfin.out, hnone.out], (by repeat (first | exact Below.refl _ _ | assumption | refine b_then ?_ (by assumption) | refine b_alloc ?_ _ | refine b_drewN ?_ _ | refine Below.drew ?_ | refine b_set ?_ (by first | exact Nat.le_refl _ | (simp; done) | (simp; omega) | omega) _))⟩
        simp [results, Tryz.results21, go_sem, hc1, hf1, hc2, hf2, hs0, hs2]
      · obtain ⟨ad, a0, a1, a2, a3, rfl, hxk, hl⟩ := fx_in hx hBw (show i - 1 < n by omega)
        obtain ⟨hy0, _, hy2, _, hy4⟩ := hl w2 (Below.refl _ _)
        have hib : ((i : Int) == 0) = false := by simpa using hi0
        cases he : (a0.toList == s.toList) with
        | true =>
          have hfin : Hid (flast xs s d = some ⟨a2, a3⟩) := k3 hft _ (by omega) hxk (asset_eq he)
          clear k1 k2 k3 k4 hl hxk
          go_wp2
          refine bodyPost_ret (v := .tuple #[.agg #[.string a2, .string a3], .bool true]) ?_ rfl ⟨by rw [hfin.out]; rfl, (by repeat (first | exact Below.refl _ _ | assumption | refine b_then ?_ (by assumption) | refine b_alloc ?_ _ | refine b_drewN ?_ _ | refine Below.drew ?_ | refine b_set ?_ (by first | exact Nat.le_refl _ | (simp; done) | (simp; omega) | omega) _))⟩
          simp [results, Tryz.results21, go_sem, hc1, hf1, hc2, hf2, hs0, hs2]
        | false =>
          have hfin : Hid (flast xs s d = none) := k4 hft _ (by omega) hxk (asset_ne he)
          clear k1 k2 k3 k4 hl hxk
          go_wp2
          refine bodyPost_ret (v := .tuple #[.agg #[.string ⟨#[]⟩, .string ⟨#[]⟩], .bool false]) ?_ rfl ⟨by rw [hfin.out, hnone.out], (by repeat (first | exact Below.refl _ _ | assumption | refine b_then ?_ (by assumption) | refine b_alloc ?_ _ | refine b_drewN ?_ _ | refine Below.drew ?_ | refine b_set ?_ (by first | exact Nat.le_refl _ | (simp; done) | (simp; omega) | omega) _))⟩
          simp [results, Tryz.results21, go_sem, hc1, hf1, hc2, hf2, hs0, hs2]
end Go.Proofs.YtpoejheienohjaaGreatDoor
