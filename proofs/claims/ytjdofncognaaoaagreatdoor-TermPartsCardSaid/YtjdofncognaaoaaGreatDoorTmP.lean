/- Walks of decimals: how often a natural can be divided; a denominator's places; a decimal's print. -/
import Derived.Test.YtjdofncognaaoaaGreatDoorTmO
import Derived.Test.YtjdofncognaaoaaGreatDoorRatP
import Derived.Test.YtjdofncognaaoaaGreatDoorPkM
import Derived.WalkMore
import Derived.ScopeJumps
namespace Go.Proofs.YtjdofncognaaoaaGreatDoor
open Go.RowKit
set_option linter.unusedVariables false
set_option linter.unusedSimpArgs false

theorem nS_no0 {r : Nat} (h : r ≠ 0) : ((nS r).toList == [48]) = false := by rw [nS_t, beq_eq_false_iff_ne]; exact fun e => h (ntx_eq_zero.1 e)
theorem nS_is0 : ((nS 0).toList == [48]) = true := by rw [nS_t]; rfl
theorem nS_no1 {r : Nat} (h : r ≠ 1) : ((nS r).toList == [49]) = false := by rw [nS_t, beq_eq_false_iff_ne]; exact fun e => h (ntx_eq_one.1 e)
theorem nS_is1 : ((nS 1).toList == [49]) = true := by rw [nS_t]; rfl
def valN : Value → Nat
  | .string s => nval s.data.toList
  | _ => 0
theorem valN_nS (n : Nat) : valN (.string (nS n)) = n := nval_ntx n
theorem pow_ndg {k n : Nat} (h0 : 0 < n) (h : 2 ^ k ≤ n) : k ≤ 4 * ndg n := by
  have h1 := ndg_lt n
  have h2 : 10 ^ ndg n ≤ 2 ^ (4 * ndg n) := by rw [Nat.pow_mul]; exact Nat.pow_le_pow_left (by decide) _
  have h3 : 2 ^ k < 2 ^ (4 * ndg n) := by omega
  have := (Nat.pow_lt_pow_iff_right (by decide : 1 < 2)).1 h3
  omega
theorem vdiv_pow {b : Nat} (h1 : 1 < b) (n : Nat) (h0 : 0 < n) : 2 ^ (vdiv b n).1 ≤ n ∧ 0 < (vdiv b n).2 ∧ (vdiv b n).2 ≤ n := by
  obtain ⟨e, _, h3⟩ := vdiv_spec h1 n h0
  have h2 : 2 ^ (vdiv b n).1 ≤ b ^ (vdiv b n).1 := Nat.pow_le_pow_left (by omega) _
  have h4 : 0 < b ^ (vdiv b n).1 := Nat.pow_pos (by omega)
  have h5 : b ^ (vdiv b n).1 * 1 ≤ b ^ (vdiv b n).1 * (vdiv b n).2 := Nat.mul_le_mul_left _ h3
  have h6 : 1 * (vdiv b n).2 ≤ b ^ (vdiv b n).1 * (vdiv b n).2 := Nat.mul_le_mul_right _ h4
  omega
theorem vdiv_le {b : Nat} (h1 : 1 < b) (n : Nat) (h0 : 0 < n) : (vdiv b n).1 ≤ 4 * ndg n := pow_ndg h0 (vdiv_pow h1 n h0).1
/-- So many times divided, this is left. -/
structure VI (b a i x : Nat) : Prop where
  pos : 0 < x
  le : x ≤ a
  eq : vdiv b a = ((vdiv b x).1 + i, (vdiv b x).2)
theorem VI.step {b a i x : Nat} (h1 : 1 < b) (h : VI b a i x) (hx : x % b = 0) : VI b a (i + 1) (x / b) := by
  have hx0 := h.pos
  have e := vdiv_yes h1 hx0 hx
  refine ⟨?_, Nat.le_trans (Nat.div_le_self _ _) h.le, ?_⟩
  · have := Nat.div_add_mod x b
    rw [hx] at this
    rcases Nat.eq_zero_or_pos (x / b) with h2 | h2
    · rw [h2] at this; omega
    · exact h2
  · rw [h.eq, e]; ext <;> simp; omega
theorem VI.end_ {b a i x : Nat} (h : VI b a i x) (hx : x % b ≠ 0) : (vdiv b a).1 = i ∧ (vdiv b a).2 = x := by
  rw [h.eq, vdiv_no hx]; simp
theorem VI.cnt {b a i x : Nat} (h1 : 1 < b) (h : VI b a i x) (ha : 0 < a) : i ≤ 4 * ndg a := by
  have := vdiv_le h1 a ha
  rw [h.eq] at this
  dsimp only at this
  omega
set_option maxHeartbeats 1000000 in
theorem p_times (b a : Nat) (w : World) (hg : Glob w) (h1 : 1 < b) (hb : ndg b ≤ 880000000) (ha : 0 < a) (hd : ndg a ≤ 880000000) :
    Calls Tryz.prog 179 #[.string (nS a), .string (nS b)] w fun e w' => e = .returned (.tuple #[.int .i64 ((vdiv b a).1 : Nat), .string (nS (vdiv b a).2)]) ∧ Below w.heap.size w w' := by
  obtain ⟨r1, r2, hr⟩ : ∃ r1 r2, vdiv b a = (r1, r2) := ⟨_, _, rfl⟩
  have HR := Lib.hid hr
  rw [hr]
  dsimp only
  clear hr
  go_enter Tryz.func179, Tryz.ntmps179
  go_wp2
  refine wp_scope_jumps 0 (fun a' w' => Below w.heap.size w w' ∧ ∃ (i x : Nat) (u2 u3 u7 u8 u9 u10 u11 u12 u13 u14 u15 u16 u17 u18 u19 u20 u21 u22 u23 : Value), a' = { tmps := #[.string (nS x), .string (nS b), u2, u3, .int .i64 0, .string ⟨#[]⟩, .int .i64 i, u7, u8, u9, u10, u11, u12, u13, u14, u15, u16, u17, u18, u19, u20, u21, u22, u23], defers := [] } ∧ Hid (VI b a i x)) (fun a' _ => valN (a'.tmps.getD 0 undef)) rfl ?_ ?_
  · have H : Hid (VI b a 0 a) := ⟨ha, Nat.le_refl _, by rw [Nat.add_zero]⟩
    have hi := H.out.cnt h1 ha
    have hD := fun W hgw => n_Div a b W hgw (by have := ndg_mono H.out.le; omega) (by omega) (by omega)
    by_cases hx : a % b = 0
    · have HS := Lib.hid (H.out.step h1 hx)
      have hlt : Hid (a / b < a) := Nat.div_lt_self H.out.pos h1
      rw [hx] at hD
      have z0 := nS_is0
      clear hx
      generalize a / b = y at *
      go_wp2
      go_step3
      go_wp2_with (go_at_call 156; (with_reducible refine (hD _ (hg.below ((by repeat (first | exact Below.refl _ _ | assumption | refine b_then ?_ (by assumption) | refine b_alloc ?_ _ | refine b_drewN ?_ _ | refine Below.drew ?_ | refine b_set ?_ (by first | exact Nat.le_refl _ | (simp; done) | (simp; omega) | omega) _))))).mono ?_); rintro e w1 ⟨rfl, hb1⟩; obtain ⟨hc1, hf1⟩ := bcell hb1; have hs1 := hb1.size; (try simp at hs1); skip)
      go_step3
      exact ⟨rfl, hb1, 1, y, _, _, _, _, _, _, _, _, _, _, _, _, _, _, _, _, _, _, _, by first | rfl | (simp; done), HS⟩
    · have HE := Lib.hid (H.out.end_ hx)
      have z0 := nS_no0 hx
      rw [HR.out] at HE
      clear hx
      generalize a / b = y at *
      generalize a % b = r at *
      go_wp2
      go_step3
      go_wp2_with (go_at_call 156; (with_reducible refine (hD _ (hg.below ((by repeat (first | exact Below.refl _ _ | assumption | refine b_then ?_ (by assumption) | refine b_alloc ?_ _ | refine b_drewN ?_ _ | refine Below.drew ?_ | refine b_set ?_ (by first | exact Nat.le_refl _ | (simp; done) | (simp; omega) | omega) _))))).mono ?_); rintro e w1 ⟨rfl, hb1⟩; obtain ⟨hc1, hf1⟩ := bcell hb1; have hs1 := hb1.size; (try simp at hs1); skip)
      simp only [Exit.jump]
      go_ret2
      refine ⟨?_, hb1⟩
      have q1 : r1 = 0 := HE.out.1
      have q2 : r2 = a := HE.out.2
      rw [q1, q2]; rfl
  · rintro a' wr ⟨hB, i, x, u2, u3, u7, u8, u9, u10, u11, u12, u13, u14, u15, u16, u17, u18, u19, u20, u21, u22, u23, rfl, H⟩
    have hi := H.out.cnt h1 ha
    have hD := fun W hgw => n_Div x b W hgw (by have := ndg_mono H.out.le; omega) (by omega) (by omega)
    by_cases hx : x % b = 0
    · have HS := Lib.hid (H.out.step h1 hx)
      have hlt : Hid (x / b < x) := Nat.div_lt_self H.out.pos h1
      rw [hx] at hD
      have z0 := nS_is0
      clear hx
      generalize x / b = y at *
      go_wp2_with (go_at_call 156; (with_reducible refine (hD _ (hg.below (b_then hB (by repeat (first | exact Below.refl _ _ | assumption | refine b_then ?_ (by assumption) | refine b_alloc ?_ _ | refine b_drewN ?_ _ | refine Below.drew ?_ | refine b_set ?_ (by first | exact Nat.le_refl _ | (simp; done) | (simp; omega) | omega) _))))).mono ?_); rintro e w1 ⟨rfl, hb1⟩; obtain ⟨hc1, hf1⟩ := bcell hb1; have hs1 := hb1.size; (try simp at hs1); skip)
      go_step3
      refine ⟨rfl, ⟨b_then hB hb1, i + 1, y, _, _, _, _, _, _, _, _, _, _, _, _, _, _, _, _, _, _, _, by first | rfl | (simp; done), HS⟩, ?_⟩
      simpa [valN_nS] using hlt.out
    · have HE := Lib.hid (H.out.end_ hx)
      have z0 := nS_no0 hx
      rw [HR.out] at HE
      clear hx
      generalize x / b = y at *
      generalize x % b = r at *
      go_wp2_with (go_at_call 156; (with_reducible refine (hD _ (hg.below (b_then hB (by repeat (first | exact Below.refl _ _ | assumption | refine b_then ?_ (by assumption) | refine b_alloc ?_ _ | refine b_drewN ?_ _ | refine Below.drew ?_ | refine b_set ?_ (by first | exact Nat.le_refl _ | (simp; done) | (simp; omega) | omega) _))))).mono ?_); rintro e w1 ⟨rfl, hb1⟩; obtain ⟨hc1, hf1⟩ := bcell hb1; have hs1 := hb1.size; (try simp at hs1); skip)
      simp only [Exit.jump]
      go_ret2
      refine ⟨?_, b_then hB hb1⟩
      have q1 : r1 = i := HE.out.1
      have q2 : r2 = x := HE.out.2
      rw [q1, q2]; rfl
set_option maxHeartbeats 1000000 in
theorem p_places (d : Nat) (w : World) (hg : Glob w) (h0 : 0 < d) (hd : ndg d ≤ 880000000) :
    Calls Tryz.prog 155 #[.string (nS d)] w fun e w' => e = .returned (.tuple #[.int .i64 ((max (vdiv 2 d).1 (vdiv 5 (vdiv 2 d).2).1 : Nat) : Int), .bool (decide ((vdiv 5 (vdiv 2 d).2).2 = 1))]) ∧ Below w.heap.size w w' := by
  obtain ⟨p0, p1, p2⟩ := vdiv_pow (b := 2) (by omega) d h0
  have hT2 := fun W hgw => p_times 2 d W hgw (by omega) (by rw [ndg_small (by omega)]; omega) h0 hd
  have hT5 := fun W hgw => p_times 5 (vdiv 2 d).2 W hgw (by omega) (by rw [ndg_small (by omega)]; omega) p1 (by have := ndg_mono p2; omega)
  have e2 : nS 2 = ⟨#[50]⟩ := rfl
  have e5 : nS 5 = ⟨#[53]⟩ := rfl
  rw [e2] at hT2
  rw [e5] at hT5
  have b2 := vdiv_le (b := 2) (by omega) d h0
  have b5 := vdiv_le (b := 5) (by omega) (vdiv 2 d).2 p1
  have b6 := ndg_mono p2
  clear p0
  generalize (vdiv 5 (vdiv 2 d).2).1 = v1 at *
  generalize (vdiv 5 (vdiv 2 d).2).2 = v2 at *
  generalize (vdiv 2 d).1 = u1 at *
  generalize (vdiv 2 d).2 = u2 at *
  have hone : ((nS v2).toList == [49]) = decide (v2 = 1) := by
    by_cases h : v2 = 1
    · subst h; rw [nS_is1]; rfl
    · rw [nS_no1 h, decide_eq_false h]
  have hmx : max (u1 : Int) (v1 : Int) = ((max u1 v1 : Nat) : Int) := by omega
  go_enter Tryz.func155, Tryz.ntmps155
  go_wp2_with (first | (go_at_call 179; (with_reducible refine (hT2 _ (hg.below (by repeat (first | exact Below.refl _ _ | assumption | refine b_then ?_ (by assumption) | refine b_alloc ?_ _ | refine b_drewN ?_ _ | refine Below.drew ?_ | refine b_set ?_ (by first | exact Nat.le_refl _ | (simp; done) | (simp; omega) | omega) _)))).mono ?_); rintro e w1 ⟨rfl, hb1⟩; obtain ⟨hc1, hf1⟩ := bcell hb1; have hs1 := hb1.size; (try simp at hs1); skip) | (go_at_call 179; (with_reducible refine (hT5 _ (hg.below (by repeat (first | exact Below.refl _ _ | assumption | refine b_then ?_ (by assumption) | refine b_alloc ?_ _ | refine b_drewN ?_ _ | refine Below.drew ?_ | refine b_set ?_ (by first | exact Nat.le_refl _ | (simp; done) | (simp; omega) | omega) _)))).mono ?_); rintro e w2 ⟨rfl, hb2⟩; obtain ⟨hc2, hf2⟩ := bcell hb2; have hs2 := hb2.size; (try simp at hs2); skip))
  all_goals
    go_ret2
    exact ⟨by first | rfl | (simp; done) | (simp; omega), (by repeat (first | exact Below.refl _ _ | assumption | refine b_then ?_ (by assumption) | refine b_alloc ?_ _ | refine b_drewN ?_ _ | refine Below.drew ?_ | refine b_set ?_ (by first | exact Nat.le_refl _ | (simp; done) | (simp; omega) | omega) _))⟩
def optN : Option Nat → Value
  | some n => .tuple #[.int .i64 (n : Nat), .bool true]
  | none => .tuple #[.int .i64 0, .bool false]
set_option maxHeartbeats 1000000 in
theorem p_Places (q : Rat) (w : World) (hg : Glob w) (h : rsmall 880000000 q) :
    Calls Tryz.prog 128 #[.agg #[.string (iS q.num), .string (nS q.den)]] w fun e w' => e = .returned (optN (dplaces q.den)) ∧ Below w.heap.size w w' := by
  have hM := fun W hgw => p_rmayE q W hgw h
  have hP := fun W hgw => p_places q.den W hgw q.den_pos h.2
  unfold dplaces
  by_cases hc : (vdiv 5 (vdiv 2 q.den).2).2 = 1
  · rw [if_pos hc]
    rw [decide_eq_true hc] at hP
    generalize max (vdiv 2 q.den).1 (vdiv 5 (vdiv 2 q.den).2).1 = m at *
    clear hc
    go_enter Tryz.func128, Tryz.ntmps128
    go_wp2_with (first | (go_at_call 124; (with_reducible refine (hM _ (hg.below (by repeat (first | exact Below.refl _ _ | assumption | refine b_then ?_ (by assumption) | refine b_alloc ?_ _ | refine b_drewN ?_ _ | refine Below.drew ?_ | refine b_set ?_ (by first | exact Nat.le_refl _ | (simp; done) | (simp; omega) | omega) _)))).mono ?_); rintro e w1 ⟨rfl, hb1⟩; obtain ⟨hc1, hf1⟩ := bcell hb1; have hs1 := hb1.size; (try simp at hs1); have hq1 : w.heap.size < w1.heap.size := (by omega)) | (go_at_call 155; (with_reducible refine (hP _ (hg.below (by repeat (first | exact Below.refl _ _ | assumption | refine b_then ?_ (by assumption) | refine b_alloc ?_ _ | refine b_drewN ?_ _ | refine Below.drew ?_ | refine b_set ?_ (by first | exact Nat.le_refl _ | (simp; done) | (simp; omega) | omega) _)))).mono ?_); rintro e w2 ⟨rfl, hb2⟩; obtain ⟨hc2, hf2⟩ := bcell hb2; have hs2 := hb2.size; (try simp at hs2); skip))
    go_ret2
    exact ⟨rfl, (by repeat (first | exact Below.refl _ _ | assumption | refine b_then ?_ (by assumption) | refine b_alloc ?_ _ | refine b_drewN ?_ _ | refine Below.drew ?_ | refine b_set ?_ (by first | exact Nat.le_refl _ | (simp; done) | (simp; omega) | omega) _))⟩
  · rw [if_neg hc]
    rw [decide_eq_false hc] at hP
    generalize max (vdiv 2 q.den).1 (vdiv 5 (vdiv 2 q.den).2).1 = m at *
    clear hc
    go_enter Tryz.func128, Tryz.ntmps128
    go_wp2_with (first | (go_at_call 124; (with_reducible refine (hM _ (hg.below (by repeat (first | exact Below.refl _ _ | assumption | refine b_then ?_ (by assumption) | refine b_alloc ?_ _ | refine b_drewN ?_ _ | refine Below.drew ?_ | refine b_set ?_ (by first | exact Nat.le_refl _ | (simp; done) | (simp; omega) | omega) _)))).mono ?_); rintro e w1 ⟨rfl, hb1⟩; obtain ⟨hc1, hf1⟩ := bcell hb1; have hs1 := hb1.size; (try simp at hs1); have hq1 : w.heap.size < w1.heap.size := (by omega)) | (go_at_call 155; (with_reducible refine (hP _ (hg.below (by repeat (first | exact Below.refl _ _ | assumption | refine b_then ?_ (by assumption) | refine b_alloc ?_ _ | refine b_drewN ?_ _ | refine Below.drew ?_ | refine b_set ?_ (by first | exact Nat.le_refl _ | (simp; done) | (simp; omega) | omega) _)))).mono ?_); rintro e w2 ⟨rfl, hb2⟩; obtain ⟨hc2, hf2⟩ := bcell hb2; have hs2 := hb2.size; (try simp at hs2); skip))
    go_ret2
    exact ⟨rfl, (by repeat (first | exact Below.refl _ _ | assumption | refine b_then ?_ (by assumption) | refine b_alloc ?_ _ | refine b_drewN ?_ _ | refine Below.drew ?_ | refine b_set ?_ (by first | exact Nat.le_refl _ | (simp; done) | (simp; omega) | omega) _))⟩
end Go.Proofs.YtjdofncognaaoaaGreatDoor
