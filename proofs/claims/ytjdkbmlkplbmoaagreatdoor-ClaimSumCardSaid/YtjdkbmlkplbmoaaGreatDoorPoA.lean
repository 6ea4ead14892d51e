/- debentureref07: Free, sum, Balanced. -/
import Derived.Test.YtjdkbmlkplbmoaaGreatDoorBkJ
namespace Go.Proofs.YtjdkbmlkplbmoaaGreatDoor
open Go.RowKit
set_option linter.unusedVariables false
set_option linter.unusedSimpArgs false

/-- A sum of an asset's lines, so far. -/
def sumA (xs : List Ln) (a : ByteArray) (k : Nat) (z : Rat) : Prop := z = dtot (xs.take k) a ∧ rsmall (1 + k * 1000001) z
theorem sumA_zero (xs : List Ln) (a : ByteArray) : sumA xs a 0 0 := ⟨rfl, rsmall_zero _ (by omega)⟩
theorem dtot_take {xs : List Ln} {k : Nat} {x : Ln} (a : ByteArray) (hx : xs[k]? = some x) : dtot (xs.take (k + 1)) a = dtot (xs.take k) a + if a = x.asset then dec x.q else 0 := by
  rw [List.take_add_one, hx, dtot_append]
  congr 1
  exact dtot_one x a
theorem sumA_yes {xs : List Ln} {a : ByteArray} {k : Nat} {z q : Rat} {x : Ln} (h : sumA xs a k z) (hx : xs[k]? = some x) (ha : x.asset = a) (hq : dec x.q = q) (hqs : rsmall 1000000 q) : sumA xs a (k + 1) (z + q) :=
  ⟨by rw [dtot_take a hx, if_pos ha.symm, hq, h.1], rsmall_mono (rsmall_add h.2 hqs) (by omega)⟩
theorem sumA_no {xs : List Ln} {a : ByteArray} {k : Nat} {z : Rat} {x : Ln} (h : sumA xs a k z) (hx : xs[k]? = some x) (ha : ¬ x.asset = a) : sumA xs a (k + 1) z :=
  ⟨by rw [dtot_take a hx, if_neg fun e => ha e.symm, Rat.add_zero, h.1], rsmall_mono h.2 (by omega)⟩
set_option maxRecDepth 100000 in
set_option maxHeartbeats 1000000 in
theorem r7_sum {A : Option Addr} {n c : Nat} {xs : List Ln} (a : ByteArray) (w : World) (hx : Rd Ln.cs 4 w A n xs) (hn : n ≤ 300) (hz : ∀ f ∈ xs, rmay f.q = true ∧ lnS f) :
    Calls Tryz.prog 114 #[.slice A n c, .string a] w fun e w' => e = .returned (enc (dtot xs a)).v ∧ Below w.heap.size w w' := by
  have hxl := hx.len
  have hO := fun W => r3_of 0 W (by omega) (by omega)
  simp only [enc_of, RT.v] at hO
  have HXL := Lib.hid hxl
  have HMEM := Lib.hid hz
  clear hxl hz
  go_enter Tryz.func114, Tryz.ntmps114
  go_wp2_with (first
    | (go_at_call 32; (with_reducible refine (hO _).mono ?_); rintro e w2 ⟨rfl, hb2⟩; obtain ⟨hc2, hf2⟩ := bcell hb2; have hs2 := hb2.size; (try simp at hs2); have hq2 : w.heap.size < w2.heap.size := (by omega)))
  have D5 := Blk.new w2 35 #[.string (iS 0), .string (nS 1)]
  have D4 := ((Blk.new w 35 #[.string ⟨#[]⟩, .string ⟨#[]⟩]).below hb2).alloc (.cells #[.string (iS 0), .string (nS 1)] 35)
  have BB3 : Below w.heap.size w (w2.alloc (.cells #[.string (iS 0), .string (nS 1)] 35)) := (by repeat (first | exact Below.refl _ _ | assumption | refine b_then ?_ (by assumption) | refine b_alloc ?_ _ | refine b_drewN ?_ _ | refine Below.drew ?_ | refine b_set ?_ (by first | exact Nat.le_refl _ | (simp; done) | (simp; omega) | omega) _))
  obtain ⟨g5, hg5⟩ : ∃ g, w2.heap.size = g := ⟨_, rfl⟩
  rw [hg5] at D5 hq2 ⊢
  have H0 : Hid (sumA xs a 0 0) := sumA_zero xs a
  clear hg5 hO hc2 hf2 hs2
  go_loopw [6] (fun i wr => ∃ (k : Nat) (z : Rat), k ≤ n ∧ i = .int .i64 (k : Nat) ∧ Hid (sumA xs a k z) ∧ Blk wr g5 35 #[.string (iS z.num), .string (nS z.den)] ∧ Blk wr w.heap.size 35 #[.string ⟨#[]⟩, .string ⟨#[]⟩] ∧ Below w.heap.size w wr) (fun i _ => n - (intOf i).toNat)
  case atStart => exact ⟨0, 0, Nat.zero_le _, rfl, H0, D5, D4, BB3⟩
  case round =>
    clear H0 D5 D4 BB3 hb2
    obtain ⟨k, z, hk, rfl, H, D5, D4, hB⟩ := hrel
    by_cases hlt : k < n
    · obtain ⟨ad, b0, b1, b2, b3, rfl, hxk, hl⟩ := ln_in hx hB hlt
      obtain ⟨hmy, hms⟩ := HMEM.out _ (List.mem_of_getElem? hxk)
      obtain ⟨q, hq, hqd, hqs⟩ := ln_rat hmy hms
      injection hq with q1 q2
      subst q1; subst q2
      have hgl := D5.lt
      have hsw := hB.size
      cases c1 : (b1.toList == a.toList) with
      | true =>
        have hA := fun W => r3_add z q W (rsmall_mono H.out.2 (by omega)) (rsmall_mono hqs (by omega))
        simp only [enc_v] at hA
        have HS := Lib.hid (sumA_yes H.out hxk (s_eq.2 (by simpa using c1)) hqd hqs)
        generalize hzz : z + q = z2 at *
        obtain ⟨hx0, hx1, hx2, hx3, hx4⟩ := hl wr (Below.refl _ _)
        have HL := Lib.hid hl
        clear hl hzz hxk hqd hqs hmy hms
        have hy2 := fun y : After wr => (HL.out y.W y.h).c2
        have hy4 := fun y : After wr => (HL.out y.W y.h).c4
        have hz0 := fun y : After wr => (D5.below y.h).two.1
        have hz1 := fun y : After wr => (D5.below y.h).two.2.1
        obtain ⟨p0, p1, p2, p3⟩ := D5.two
        go_wp2
        (refine wp_region_ahead 7 (by kernel_rfl) (by kernel_rfl) ?_; simp only [List.take_succ_cons, List.take_zero, List.drop_succ_cons, List.drop_zero]; (repeat (first | go_big_quiet_skip | (go_big_quiet_want; go_big_quiet_op; first | go_big_quiet_on | (apply Exists.intro; refine ⟨fun _ => ?_, ?_⟩; (focus ((go_at_call 33; with_reducible exact Calls.after (hA _)))); go_big_quiet_on)))); refine wpQuiet_nil ?_; rintro ⟨w1, hb1⟩; (try dsimp only); obtain ⟨hc1, hf1⟩ := bcell hb1; have hs1 := hb1.size; (try simp at hs1))
        go_wp2
        go_roundw
        case rel => exact ⟨k + 1, z2, by omega, by go_num, HS.out, (D5.below hb1).put2 _ _, ((D4.below hb1).far (by simp; omega) _).far (by simp; omega) _, b_set (b_set (b_then hB hb1) (by simp; omega) _) (by simp; omega) _⟩
        case measure => simp [intOf]; omega
      | false =>
        have HS := Lib.hid (sumA_no H.out hxk (fun e => by rw [show b1 = a from e] at c1; simp at c1))
        obtain ⟨hx0, hx1, hx2, hx3, hx4⟩ := hl wr (Below.refl _ _)
        clear hl hxk hqd hqs hmy hms
        go_wp2
        go_roundw
        case rel => exact ⟨k + 1, z, by omega, by go_num, HS.out, D5, D4, hB⟩
        case measure => simp [intOf]; omega
    · obtain rfl : k = n := by omega
      have hfin : Hid ((enc (dtot xs a)).v = .agg #[.string (iS z.num), .string (nS z.den)]) := by
        unfold Hid
        have h := H.out.1
        rw [← HXL.out, List.take_length] at h
        rw [← h]; rfl
      obtain ⟨p0, p1, p2, p3⟩ := D5.two
      obtain ⟨k0, k1, k2, k3⟩ := D4.two
      go_wp2
      refine bodyPost_ret (v := .agg #[.string (iS z.num), .string (nS z.den)]) ?_ rfl ⟨by rw [hfin.out], (by repeat (first | exact Below.refl _ _ | assumption | refine b_then ?_ (by assumption) | refine b_alloc ?_ _ | refine b_drewN ?_ _ | refine Below.drew ?_ | refine b_set ?_ (by first | exact Nat.le_refl _ | (simp; done) | (simp; omega) | omega) _))⟩
      simp [results, Tryz.results114, go_sem, k0, k1, k2, k3]
end Go.Proofs.YtjdkbmlkplbmoaaGreatDoor

/- debentureref07: Balanced. -/
namespace Go.Proofs.YtjdkbmlkplbmoaaGreatDoor
open Go.RowKit
set_option linter.unusedVariables false
set_option linter.unusedSimpArgs false

theorem sumA_all {xs : List Ln} (a : ByteArray) (h : ∀ f ∈ xs, rmay f.q = true ∧ lnS f) : ∀ k, k ≤ xs.length → ∃ z, sumA xs a k z
  | 0, _ => ⟨0, sumA_zero xs a⟩
  | k + 1, hk => by
    obtain ⟨z, hz⟩ := sumA_all a h k (by omega)
    have hx : xs[k]? = some xs[k] := List.getElem?_eq_getElem (by omega)
    obtain ⟨hm, hS⟩ := h _ (List.mem_of_getElem? hx)
    obtain ⟨q, hq, hqd, hqs⟩ := ln_rat hm hS
    by_cases ha : xs[k].asset = a
    · exact ⟨z + q, sumA_yes hz hx ha hqd hqs⟩
    · exact ⟨z, sumA_no hz hx ha⟩
theorem dtot_rs {xs : List Ln} (a : ByteArray) (h : ∀ f ∈ xs, rmay f.q = true ∧ lnS f) (hl : xs.length ≤ 300) : rsmall 400000000 (dtot xs a) := by
  obtain ⟨z, hz1, hz2⟩ := sumA_all a h _ (Nat.le_refl _)
  rw [List.take_length] at hz1
  rw [← hz1]
  exact rsmall_mono hz2 (by omega)
/-- Lines that are balanced. -/
def lbal (l : List Ln) : Bool := l.all lone && l.all fun x => decide (dtot l x.asset = 0)
theorem all_step {α : Type} {p : α → Bool} {xs : List α} {k : Nat} {x : α} (h : (xs.take k).all p = true) (hx : xs[k]? = some x) (hp : p x = true) : (xs.take (k + 1)).all p = true := by
  rw [List.take_add_one, hx, List.all_append, h]
  simp [hp]
theorem all_bad {α : Type} {p : α → Bool} {xs : List α} {k : Nat} {x : α} (hx : xs[k]? = some x) (hp : p x = false) : xs.all p = false := by
  rw [← Bool.not_eq_true]
  intro h
  rw [List.all_eq_true] at h
  rw [h x (List.mem_of_getElem? hx)] at hp
  cases hp
theorem rsign_ne {T : Rat} (h : T ≠ 0) : rsign (enc T) ≠ 0 := by
  rw [rsign_enc]
  intro e
  exact h (Rat.num_eq_zero.1 (Int.sign_eq_zero_iff_zero.1 e))
set_option maxRecDepth 100000 in
set_option maxHeartbeats 1000000 in
theorem r7_balanced {A : Option Addr} {n c : Nat} {xs : List Ln} (w : World) (hx : Rd Ln.cs 4 w A n xs) (hn : n ≤ 300) (hz : ∀ f ∈ xs, lnS f) :
    Calls Tryz.prog 79 #[.slice A n c] w fun e w' => e = .returned (.bool (lbal xs)) ∧ Below w.heap.size w w' := by
  have hxl := hx.len
  have HXL := Lib.hid hxl
  have HZ := Lib.hid hz
  clear hxl hz
  go_enter Tryz.func79, Tryz.ntmps79
  go_wp2
  go_loopw [3] (fun i wr => ∃ k : Nat, k ≤ n ∧ i = .int .i64 (k : Nat) ∧ Hid ((xs.take k).all lone = true) ∧ Below w.heap.size w wr) (fun i _ => n - (intOf i).toNat)
  case atStart => exact ⟨0, Nat.zero_le _, rfl, by simp [Hid], Below.refl _ _⟩
  case round =>
    obtain ⟨k, hk, rfl, H, hB⟩ := hrel
    by_cases hlt : k < n
    · obtain ⟨ad, a0, a1, a2, a3, rfl, hxk, hl⟩ := ln_in hx hB hlt
      obtain ⟨z0, z1, z2, z3⟩ := HZ.out _ (List.mem_of_getElem? hxk)
      dsimp only at z0 z1 z2 z3
      have hL : ∀ W, Calls Tryz.prog 51 #[.agg #[.string a0, .string a1, .string a2, .string a3]] W fun e w' => e = .returned (.bool (lone ⟨a0, a1, ⟨a2, a3⟩⟩)) ∧ Below W.heap.size W w' := fun W => r6_line a0 a1 a2 a3 W (by omega) (by omega) (by omega) (by omega)
      have HX := Lib.hid hxk
      obtain ⟨hx0, hx1, hx2, hx3, hx4⟩ := hl wr (Below.refl _ _)
      clear hxk hl
      cases c1 : lone ⟨a0, a1, ⟨a2, a3⟩⟩ with
      | true =>
        rw [c1] at hL
        have HS := Lib.hid (all_step H.out HX.out c1)
        clear c1
        go_wp2_with (go_at_call 51; (with_reducible refine (hL _).mono ?_); rintro e w1 ⟨rfl, hb1⟩; obtain ⟨hc1, hf1⟩ := bcell hb1; have hs1 := hb1.size; (try simp at hs1))
        go_roundw
        case rel => exact ⟨k + 1, by omega, by go_num, HS.out, b_then hB hb1⟩
        case measure => simp [intOf]; omega
      | false =>
        rw [c1] at hL
        have hbad : Hid (lbal xs = false) := by unfold Hid lbal; rw [all_bad HX.out c1]; rfl
        clear c1
        go_wp2_with (go_at_call 51; (with_reducible refine (hL _).mono ?_); rintro e w1 ⟨rfl, hb1⟩; obtain ⟨hc1, hf1⟩ := bcell hb1; have hs1 := hb1.size; (try simp at hs1))
        go_ret
        exact ⟨ret_bool hbad.out.symm, b_then hB hb1⟩
    · obtain rfl : k = n := by omega
      have hall : xs.all lone = true := by have := H.out; rwa [← HXL.out, List.take_length] at this
      have hmz : ∀ f ∈ xs, rmay f.q = true ∧ lnS f := fun f hf => ⟨(lone_of (List.all_eq_true.1 hall f hf)).2.2, HZ.out f hf⟩
      have HALL := Lib.hid hall
      have HMZ := Lib.hid hmz
      clear hall hmz H
      go_wp2
      go_loopw [4] (fun i wr' => ∃ k' : Nat, k' ≤ k ∧ i = .int .i64 (k' : Nat) ∧ Hid ((xs.take k').all (fun x => decide (dtot xs x.asset = 0)) = true) ∧ Below w.heap.size w wr') (fun i _ => k - (intOf i).toNat)
      case atStart => exact ⟨0, Nat.zero_le _, rfl, by simp [Hid], hB⟩
      case round =>
        obtain ⟨j, hj, rfl, H, hB2⟩ := hrel
        by_cases hlt2 : j < k
        · obtain ⟨ad, a0, a1, a2, a3, rfl, hxk, hl⟩ := ln_in hx hB2 hlt2
          obtain ⟨T, hT⟩ : ∃ T, dtot xs a1 = T := ⟨_, rfl⟩
          have hTs := dtot_rs a1 HMZ.out (by rw [HXL.out]; omega)
          rw [hT] at hTs
          have hSum : ∀ W, Below w.heap.size w W → Calls Tryz.prog 114 #[.slice (some ad) k c, .string a1] W fun e w' => e = .returned (.agg #[.string (iS T.num), .string (nS T.den)]) ∧ Below W.heap.size W w' := fun W hW => by
            have := r7_sum (c := c) a1 W (hx.below hW) hn HMZ.out
            rw [hT] at this
            exact this
          obtain ⟨v, hv⟩ : ∃ v, rsign (enc T) = v := ⟨_, rfl⟩
          have hSg : ∀ W, Calls Tryz.prog 28 #[.agg #[.string (iS T.num), .string (nS T.den)]] W fun e w' => e = .returned (.int .i64 v) ∧ Below W.heap.size W w' := fun W => by
            have := r3_sign (iS T.num) (nS T.den) W (by have := iS_sz hTs.1; omega) (by rw [nS_size]; have := hTs.2; omega)
            rw [show rsign ⟨iS T.num, nS T.den⟩ = v from hv] at this
            exact this
          have HX := Lib.hid hxk
          obtain ⟨hx0, hx1, hx2, hx3, hx4⟩ := hl _ (Below.refl _ _)
          have KSum := Lib.hid hSum
          have KSg := Lib.hid hSg
          have HT := Lib.hid hT
          have HV := Lib.hid hv
          clear hxk hl hSum hSg hT hv hTs
          by_cases h0 : T = 0
          · have hv0 : v = 0 := by rw [← HV.out, h0, rsign_enc]; rfl
            have HS := Lib.hid (all_step (p := fun x : Ln => decide (dtot xs x.asset = 0)) H.out HX.out (by simp only; rw [HT.out, h0]; rfl))
            subst hv0
            clear h0
            go_wp2_with (first
              | (go_at_call 114; (with_reducible refine (KSum.out _ hB2).mono ?_); rintro e w1 ⟨rfl, hb1⟩; obtain ⟨hc1, hf1⟩ := bcell hb1; have hs1 := hb1.size; (try simp at hs1))
              | (go_at_call 28; (with_reducible refine (KSg.out _).mono ?_); rintro e w2 ⟨rfl, hb2⟩; obtain ⟨hc2, hf2⟩ := bcell hb2; have hs2 := hb2.size; (try simp at hs2)))
            go_roundw
            case rel => exact ⟨j + 1, by omega, by go_num, HS.out, b_then (b_then hB2 hb1) hb2⟩
            case measure => simp [intOf]; omega
          · have hv0 : ¬ v = 0 := by rw [← HV.out]; exact rsign_ne h0
            have hbad : Hid (lbal xs = false) := by
              unfold Hid lbal
              rw [all_bad (p := fun x : Ln => decide (dtot xs x.asset = 0)) HX.out (by simp only; rw [HT.out]; simp [h0]), Bool.and_false]
            go_wp2_with (first
              | (go_at_call 114; (with_reducible refine (KSum.out _ hB2).mono ?_); rintro e w1 ⟨rfl, hb1⟩; obtain ⟨hc1, hf1⟩ := bcell hb1; have hs1 := hb1.size; (try simp at hs1))
              | (go_at_call 28; (with_reducible refine (KSg.out _).mono ?_); rintro e w2 ⟨rfl, hb2⟩; obtain ⟨hc2, hf2⟩ := bcell hb2; have hs2 := hb2.size; (try simp at hs2)))
            go_ret
            exact ⟨ret_bool hbad.out.symm, b_then (b_then hB2 hb1) hb2⟩
        · obtain rfl : j = k := by omega
          have hok : Hid (lbal xs = true) := by
            have h := H.out
            rw [← HXL.out, List.take_length] at h
            unfold Hid lbal
            rw [HALL.out, h]; rfl
          go_wp2
          go_ret
          exact ⟨ret_bool hok.out.symm, hB2⟩
end Go.Proofs.YtjdkbmlkplbmoaaGreatDoor

/- Free (both), move. -/
namespace Go.Proofs.YtjdkbmlkplbmoaaGreatDoor
open Go.RowKit
set_option linter.unusedVariables false
set_option linter.unusedSimpArgs false

def pfree (s : ByteArray) : Bool := Lib.hasPrefix s.data.toList [33]
theorem p_free (s : ByteArray) (w : World) : Calls Tryz.prog 70 #[.string s] w fun e w' => e = .returned (.bool (pfree s)) ∧ w = w' := by
  have hH : ∀ W, Calls Tryz.prog 107 #[.string s, .string ⟨#[33]⟩] W fun e w' => e = .returned (.bool (pfree s)) ∧ W = w' := fun W => c_hasPrefix s ⟨#[33]⟩ W
  go_enter Tryz.func70, Tryz.ntmps70
  go_wp2_with (go_at_call 107; (with_reducible refine (hH _).mono ?_); rintro e w' ⟨rfl, rfl⟩)
  go_ret
  exact ⟨rfl, rfl⟩
theorem pfree_pos {s : ByteArray} (h : 0 < s.size) : pfree s = (s[0] == 33) := by
  unfold pfree Lib.hasPrefix
  have hd : 0 < s.data.toList.length := by rw [← sz]; exact h
  cases hl : s.data.toList with
  | nil => rw [hl] at hd; simp at hd
  | cons a t =>
    have e : s[0] = a := by
      have : s.data.toList[0]'hd = a := by simp [hl]
      exact this
    rw [e]
    show List.isPrefixOf [33] (a :: t) = _
    simp [List.isPrefixOf, BEq.comm]
theorem pfree_zero {s : ByteArray} (h : ¬ 0 < s.size) : pfree s = false := by
  have : s.data.toList = [] := List.eq_nil_of_length_eq_zero (by rw [← sz]; omega)
  unfold pfree
  rw [this]
  rfl
theorem r7_free (s : ByteArray) (w : World) (hs : s.size ≤ 9223372036854775807) : Calls Tryz.prog 80 #[.string s] w fun e w' => e = .returned (.bool (pfree s)) ∧ w = w' := by
  by_cases h : 0 < s.size
  · have hp := pfree_pos h
    cases hb : pfree s with
    | true =>
      rw [hb] at hp
      have h1 : s[0] = 33 := by simpa using hp.symm
      clear hp hb
      go_enter Tryz.func80, Tryz.ntmps80
      go_wp2
      go_ret
      exact ⟨by simp [h1], rfl⟩
    | false =>
      rw [hb] at hp
      have h1 : ¬ s[0] = 33 := by simpa using hp.symm
      clear hp hb
      go_enter Tryz.func80, Tryz.ntmps80
      go_wp2
      go_ret
      refine ⟨ret_bool ?_, rfl⟩
      rw [beq_eq_false_iff_ne]
      intro e
      exact h1 (UInt8.toNat_inj.1 (by show s[0].toNat = 33; omega))
  · have hb := pfree_zero h
    rw [hb]
    go_enter Tryz.func80, Tryz.ntmps80
    go_wp2
    go_ret
    exact ⟨rfl, rfl⟩
end Go.Proofs.YtjdkbmlkplbmoaaGreatDoor

/- Plain laws of postings: a book and many lines. -/
namespace Go.Proofs.YtjdkbmlkplbmoaaGreatDoor
open Go.RowKit
set_option linter.unusedVariables false
set_option linter.unusedSimpArgs false

/-- The book with all lines more. -/
def bposts (b : List Ln) (l : List Ln) : List Ln := l.foldl bput b
theorem posts_nil (b : List Ln) : bposts b [] = b := rfl
theorem posts_cons (b : List Ln) (x : Ln) (l : List Ln) : bposts b (x :: l) = bposts (bput b x) l := rfl
theorem posts_append (b l m : List Ln) : bposts b (l ++ m) = bposts (bposts b l) m := List.foldl_append ..
theorem posts_take {b l : List Ln} {k : Nat} {x : Ln} (hx : l[k]? = some x) : bposts b (l.take (k + 1)) = bput (bposts b (l.take k)) x := by
  rw [List.take_add_one, hx, posts_append]; rfl
theorem posts_may : ∀ {l b : List Ln}, bmay b = true → (∀ x ∈ l, lone x = true) → bmay (bposts b l) = true
  | [], _, hb, _ => hb
  | x :: l, b, hb, h => posts_may (l := l) (bput_may hb (h x (by simp))) fun y hy => h y (by simp [hy])
theorem posts_len : ∀ {l b : List Ln}, bmay b = true → (∀ x ∈ l, lone x = true) → (bposts b l).length ≤ b.length + l.length
  | [], _, _, _ => Nat.le_refl _
  | x :: l, b, hb, h => by
    have h1 := put_len hb (h x (by simp))
    have h2 := posts_len (l := l) (bput_may hb (h x (by simp))) fun y hy => h y (by simp [hy])
    rw [posts_cons, List.length_cons]
    omega
theorem posts_B {k : Nat} : ∀ {l b : List Ln} {j : Nat}, bmay b = true → (∀ x ∈ l, lone x = true) → (∀ f ∈ b, lnB j f) → 1 ≤ j → (∀ x ∈ l, lnB k x) → ∀ f ∈ bposts b l, lnB (j + l.length * (k + 2)) f
  | [], b, j, hb, _, hz, _, _ => fun f hf => lnB_mono (hz f hf) (by simp)
  | x :: l, b, j, hb, h, hz, hj, hl => fun f hf => by
    have := posts_B (l := l) (bput_may hb (h x (by simp))) (fun y hy => h y (by simp [hy])) (put_B hb (h x (by simp)) hz hj (hl x (by simp))) (by omega) (fun y hy => hl y (by simp [hy])) f hf
    exact lnB_mono this (by rw [List.length_cons, Nat.add_mul]; omega)
/-- What is posted to an account. -/
def dpost (l : List Ln) (s a : ByteArray) : Rat := dsum (l.filter (lhit s a))
theorem dpost_nil (s a : ByteArray) : dpost [] s a = 0 := rfl
theorem dpost_cons (x : Ln) (l : List Ln) (s a : ByteArray) : dpost (x :: l) s a = (if s = x.acct ∧ a = x.asset then dec x.q else 0) + dpost l s a := by
  unfold dpost
  rw [List.filter_cons]
  by_cases h : s = x.acct ∧ a = x.asset
  · rw [if_pos (lhit_iff.2 ⟨h.1.symm, h.2.symm⟩), if_pos h, dsum_cons]
  · rw [if_neg (fun e => h ⟨(lhit_iff.1 e).1.symm, (lhit_iff.1 e).2.symm⟩), if_neg h, Rat.zero_add]
theorem put_dec {b : List Ln} {x : Ln} {s a : ByteArray} (hb : bmay b = true) (hx : lone x = true) : dec (bgetL (bput b x) s a) = dec (bgetL b s a) + if s = x.acct ∧ a = x.asset then dec x.q else 0 := by
  rw [bput_get hb hx]
  by_cases h : s = x.acct ∧ a = x.asset
  · rw [if_pos h, if_pos h]
    obtain ⟨p, hp⟩ := rmay_of (bget_may hb s a)
    obtain ⟨q, hq⟩ := rmay_of (lone_of hx).2.2
    rw [hp, hq, radd_enc, dec_enc, dec_enc, dec_enc]
  · rw [if_neg h, if_neg h, Rat.add_zero]
theorem posts_dec : ∀ {l b : List Ln} {s a : ByteArray}, bmay b = true → (∀ x ∈ l, lone x = true) → dec (bgetL (bposts b l) s a) = dec (bgetL b s a) + dpost l s a
  | [], b, s, a, _, _ => by rw [dpost_nil, Rat.add_zero]; rfl
  | x :: l, b, s, a, hb, h => by
    rw [posts_cons, posts_dec (bput_may hb (h x (by simp))) fun y hy => h y (by simp [hy]), put_dec hb (h x (by simp)), dpost_cons, Rat.add_assoc]
theorem posts_get {l b : List Ln} (s a : ByteArray) (hb : bmay b = true) (h : ∀ x ∈ l, lone x = true) : bgetL (bposts b l) s a = enc (dec (bgetL b s a) + dpost l s a) := by
  rw [← posts_dec hb h, enc_dec (bget_may (posts_may hb h) s a)]
theorem posts_tot : ∀ {l b : List Ln} (a : ByteArray), bmay b = true → (∀ x ∈ l, lone x = true) → dtot (bposts b l) a = dtot b a + dtot l a
  | [], b, a, _, _ => by rw [dtot_nil, Rat.add_zero]; rfl
  | x :: l, b, a, hb, h => by
    rw [posts_cons, posts_tot a (bput_may hb (h x (by simp))) fun y hy => h y (by simp [hy]), bput_tot hb (h x (by simp)), Rat.add_assoc]
    rw [show x :: l = [x] ++ l from rfl, dtot_append]
/-- An account that has too little of an asset now. -/
def pshort (b out : List Ln) (x : Ln) : Bool := !(pfree x.acct) && (decide (dec (bgetL out x.acct x.asset) < 0) && decide (dec (bgetL out x.acct x.asset) < dec (bgetL b x.acct x.asset)))
/-- What Apply gives: a book, and an error's number. -/
def papply (b l : List Ln) (cov : Bool) : List Ln × Int :=
  if bmay b then if lbal l then if cov && l.any (pshort b (bposts b l)) then ([], 71) else (bposts b l, 0) else ([], 70) else ([], 1)
theorem lbal_lone {l : List Ln} (h : lbal l = true) : ∀ x ∈ l, lone x = true := by
  unfold lbal at h
  rw [Bool.and_eq_true, List.all_eq_true] at h
  exact h.1
end Go.Proofs.YtjdkbmlkplbmoaaGreatDoor
