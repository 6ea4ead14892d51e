/- Walks of book.Get, book.Holders, book.Total. -/
import Derived.Test.YtpoejheienohjaaGreatDoorBkG
namespace Go.Proofs.YtpoejheienohjaaGreatDoor
open Go.RowKit
set_option linter.unusedVariables false
set_option linter.unusedSimpArgs false

set_option maxHeartbeats 1000000 in
theorem b_get {A : Option Addr} {n c : Nat} {xs : List Ln} (s d : ByteArray) (w : World) (hg : Glob w) (hx : Rd Ln.cs 4 w A n xs) (hn : n ≤ 1000000) (hz : ∀ f ∈ xs, lnq f) :
    Calls Tryz.prog 37 #[.slice A n c, .string s, .string d] w fun e w' => e = .returned (bget xs s d).v ∧ Below w.heap.size w w' := by
  have hxl := hx.len
  have hB0 : Below w.heap.size w (w.alloc (.cells #[.string ⟨#[]⟩, .string ⟨#[]⟩] 24)) := b_alloc (Below.refl _ _) _
  have hM := b_may _ (hg.below hB0) (hx.below hB0) hz (c := c)
  cases c0 : bmay xs with
  | false =>
    rw [c0] at hM
    have hv : Hid ((bget xs s d).v = .agg #[.string ⟨#[]⟩, .string ⟨#[]⟩]) := by unfold Hid bget; rw [c0]; rfl
    go_enter Tryz.func37, Tryz.ntmps37
    go_wp2_with (go_at_call 33; (with_reducible refine (hM).mono ?_); rintro e w1 ⟨rfl, hb1⟩; obtain ⟨hc1, hf1⟩ := bcell hb1; have hs1 := hb1.size; (try simp at hs1); have hq1 : w.heap.size < w1.heap.size := (by omega))
    refine bodyPost_ret (v := .agg #[.string ⟨#[]⟩, .string ⟨#[]⟩]) ?_ rfl ⟨by rw [hv.out], (by repeat (first | exact Below.refl _ _ | assumption | refine b_then ?_ (by assumption) | refine b_alloc ?_ _ | refine b_drewN ?_ _ | refine Below.drew ?_ | refine b_set ?_ (by first | exact Nat.le_refl _ | (simp; done) | (simp; omega) | omega) _))⟩
    simp [results, Tryz.results37, go_sem, hc1, hf1, hq1]
  | true =>
    rw [c0] at hM
    have HV : Hid (bget xs s d = bgetL xs s d) := by unfold Hid bget; rw [c0]; rfl
    have hF := fun W (h : Below w.heap.size w W) => b_find (c := c) s d W (hx.below h) hn
    have hat := fun i => bget_at (s := s) (a := d) (i := i) c0
    unfold BFindPost at hF
    go_enter Tryz.func37, Tryz.ntmps37
    go_wp2_with (first | (go_at_call 33; (with_reducible refine (hM).mono ?_); rintro e w1 ⟨rfl, hb1⟩; obtain ⟨hc1, hf1⟩ := bcell hb1; have hs1 := hb1.size; (try simp at hs1); have hq1 : w.heap.size < w1.heap.size := (by omega)) | (go_at_call 65; (with_reducible refine (hF _ (by repeat (first | exact Below.refl _ _ | assumption | refine b_then ?_ (by assumption) | refine b_alloc ?_ _ | refine b_drewN ?_ _ | refine Below.drew ?_ | refine b_set ?_ (by first | exact Nat.le_refl _ | (simp; done) | (simp; omega) | omega) _))).mono ?_); rintro e w2 ⟨i, rfl, hi, hb2⟩; revert hi))
    intro hi
    obtain ⟨hc2, hf2⟩ := bcell hb2
    have hs2 := hb2.size
    have hq2 : w.heap.size < w2.heap.size := by omega
    have hBw2 : Below w.heap.size w w2 := (by repeat (first | exact Below.refl _ _ | assumption | refine b_then ?_ (by assumption) | refine b_alloc ?_ _ | refine b_drewN ?_ _ | refine Below.drew ?_ | refine b_set ?_ (by first | exact Nat.le_refl _ | (simp; done) | (simp; omega) | omega) _))
    cases hft : bat xs ⟨s, d, rzero⟩ i with
    | false =>
      have hv : Hid ((bget xs s d).v = .agg #[.string (iS 0), .string (nS 1)]) := by
        unfold Hid
        rw [HV.out, (hat i hi).2 hft]; rfl
      have hO := fun W hg => p_rof 0 W hg (by omega) (by omega)
      simp only [enc_of, RT.v] at hO
      go_wp2_with (go_at_call 68; (with_reducible refine (hO _ (hg.below (by repeat (first | exact Below.refl _ _ | assumption | refine b_then ?_ (by assumption) | refine b_alloc ?_ _ | refine b_drewN ?_ _ | refine Below.drew ?_ | refine b_set ?_ (by first | exact Nat.le_refl _ | (simp; done) | (simp; omega) | omega) _)))).mono ?_); rintro e w3 ⟨rfl, hb3⟩; obtain ⟨hc3, hf3⟩ := bcell hb3; have hs3 := hb3.size; (try simp at hs3); have hq3 : w.heap.size < w3.heap.size := (by omega))
      refine bodyPost_ret (v := .agg #[.string (iS 0), .string (nS 1)]) ?_ rfl ⟨by rw [hv.out], (by repeat (first | exact Below.refl _ _ | assumption | refine b_then ?_ (by assumption) | refine b_alloc ?_ _ | refine b_drewN ?_ _ | refine Below.drew ?_ | refine b_set ?_ (by first | exact Nat.le_refl _ | (simp; done) | (simp; omega) | omega) _))⟩
      simp [results, Tryz.results37, go_sem, hc1, hf1, hq1, hc2, hf2, hq2, hc3, hf3, hq3]
    | true =>
      have hxi := (hat i hi).1 hft
      have hil : i < n := by have := (List.getElem?_eq_some_iff.1 hxi).1; omega
      obtain ⟨ad, a0, a1, a2, a3, rfl, hxk, hl⟩ := ln_in hx hBw2 hil
      rw [hxi] at hxk
      injection hxk with hxk
      injection hxk with _ _ hxk
      have hv : Hid ((bget xs s d).v = .agg #[.string a2, .string a3]) := by
        unfold Hid
        rw [HV.out, hxk]; rfl
      obtain ⟨hx0, hx1, hx2, hx3, hx4⟩ := hl w2 (Below.refl _ _)
      clear hxi hxk hl
      go_wp2
      refine bodyPost_ret (v := .agg #[.string a2, .string a3]) ?_ rfl ⟨by rw [hv.out], (by repeat (first | exact Below.refl _ _ | assumption | refine b_then ?_ (by assumption) | refine b_alloc ?_ _ | refine b_drewN ?_ _ | refine Below.drew ?_ | refine b_set ?_ (by first | exact Nat.le_refl _ | (simp; done) | (simp; omega) | omega) _))⟩
      simp [results, Tryz.results37, go_sem, hc1, hf1, hq1, hc2, hf2, hq2]
set_option maxRecDepth 100000 in
set_option maxHeartbeats 1000000 in
theorem b_holders {A : Option Addr} {n c : Nat} {xs : List Ln} (a : ByteArray) (w : World) (hg : Glob w) (hx : Rd Ln.cs 4 w A n xs) (hn : n ≤ 1000000) (hz : ∀ f ∈ xs, lnq f) :
    Calls Tryz.prog 41 #[.slice A n c, .string a] w fun e w' => HoldPost xs a w e w' := by
  have hxl := hx.len
  have hM := b_may w hg hx hz (c := c)
  cases c0 : bmay xs with
  | false =>
    rw [c0] at hM
    have HN := Lib.hid (bholders_no (a := a) c0)
    go_enter Tryz.func41, Tryz.ntmps41
    go_wp2_with (go_at_call 33; (with_reducible refine (hM).mono ?_); rintro e w1 ⟨rfl, hb1⟩; obtain ⟨hc1, hf1⟩ := bcell hb1; have hs1 := hb1.size; (try simp at hs1))
    go_ret
    exact ⟨_, rfl, by rw [HN.out]; exact Own.nil, (by repeat (first | exact Below.refl _ _ | assumption | refine b_then ?_ (by assumption) | refine b_alloc ?_ _ | refine b_drewN ?_ _ | refine Below.drew ?_ | refine b_set ?_ (by first | exact Nat.le_refl _ | (simp; done) | (simp; omega) | omega) _))⟩
  | true =>
    rw [c0] at hM
    have HY0 := Lib.hid (bholders_yes (a := a) c0)
    go_enter Tryz.func41, Tryz.ntmps41
    go_wp2_with (go_at_call 33; (with_reducible refine (hM).mono ?_); rintro e w1 ⟨rfl, hb1⟩; obtain ⟨hc1, hf1⟩ := bcell hb1; have hs1 := hb1.size; (try simp at hs1))
    go_loopw [5, 13] (fun out i wr => ∃ (k : Nat) (ys : List Ln), k ≤ n ∧ i = .int .i64 (k : Nat) ∧ Hid (ys = (xs.take k).filter (ofAsset a)) ∧ Own Ln.cs 4 43 wr w.heap.size out ys ∧ Below w.heap.size w wr) (fun _ i _ => n - (intOf i).toNat)
    case atStart => exact ⟨0, [], Nat.zero_le _, rfl, by simp [Hid], Own.nil, hb1⟩
    case round =>
      obtain ⟨k, ys, hk, rfl, H, hown, hB⟩ := hrel
      have hs0 := hB.size
      have hyl : ys.length ≤ 1000000 := by
        have := List.length_filter_le (ofAsset a) (xs.take k)
        rw [← H.out, List.length_take] at this
        omega
      by_cases hlt : k < n
      · obtain ⟨ad, a0, a1, a2, a3, rfl, hxk, hl⟩ := ln_in hx hB hlt
        have HX := Lib.hid hxk
        obtain ⟨hx0, hx1, hx2, hx3, hx4⟩ := hl wr (Below.refl _ _)
        clear hxk hl
        have hown1 := hown.alloc (.cells #[.string a0, .string a1, .string a2, .string a3] 43)
        have hB1 := b_alloc hB (.cells #[.string a0, .string a1, .string a2, .string a3] 43)
        cases c1 : (a1.toList == a.toList) with
        | true =>
          have HY : Hid ((xs.take (k + 1)).filter (ofAsset a) = ys ++ [⟨a0, a1, ⟨a2, a3⟩⟩]) := by
            unfold Hid; rw [filter_take_yes HX.out (by unfold ofAsset; exact c1), H.out]
          have hnc : ∀ (i : Nat) u, (Ln.cs ⟨a0, a1, ⟨a2, a3⟩⟩)[i]? = some u → ((wr.alloc (.cells #[.string a0, .string a1, .string a2, .string a3] 43)).alloc (.cells #[.string a0, .string a1, .string a2, .string a3] 43)).cell? ((⟨wr.heap.size + 1, 0, none⟩ : Addr).add i) = some u := fun i u hu => by
            have := new_cells (wr.alloc (.cells #[.string a0, .string a1, .string a2, .string a3] 43)) 43 _ (Ln.cs ⟨a0, a1, ⟨a2, a3⟩⟩) rfl i u hu
            rwa [World.size_alloc] at this
          go_wp2_with (at_builtin; refine wpList_app (v := u5) Tryz.elemLines (by omega) Ln.cs_length Ln.cs_one rfl (.tmp 21) (.tmp 23) rfl rfl (hown1.alloc _) ⟨wr.heap.size + 1, 0, none⟩ 1 ⟨a0, a1, ⟨a2, a3⟩⟩ rfl hnc (by first | omega | (simp; omega)) (by first | omega | (simp; omega)) (by first | omega | (simp; omega)) ?_; intro v2 w2 hown2 hg2 hat2)
          go_roundw
          case rel => exact ⟨k + 1, _, by omega, by go_num, HY.out.symm, hown2, (hown1.alloc _).frame (b_alloc hB1 _) (by omega) hg2⟩
          case measure => simp [intOf]; omega
        | false =>
          have HY : Hid ((xs.take (k + 1)).filter (ofAsset a) = ys) := by
            unfold Hid; rw [filter_take_no HX.out (by unfold ofAsset; exact c1), H.out]
          go_wp2
          go_roundw
          case rel => exact ⟨k + 1, _, by omega, by go_num, HY.out.symm, hown1, hB1⟩
          case measure => simp [intOf]; omega
      · obtain rfl : k = n := by omega
        have hfin : bholders xs a = ys := by rw [HY0.out, H.out, ← hxl, List.take_length]
        have HF := Lib.hid hfin
        clear hfin
        go_wp2
        go_ret
        exact ⟨_, rfl, by rw [HF.out]; exact hown, hB⟩
set_option maxRecDepth 100000 in
set_option maxHeartbeats 1000000 in
theorem b_total {A : Option Addr} {n c : Nat} {xs : List Ln} (a : ByteArray) (w : World) (hg : Glob w) (hx : Rd Ln.cs 4 w A n xs) (hn : n ≤ 300) (hz : ∀ f ∈ xs, lnS f) :
    Calls Tryz.prog 39 #[.slice A n c, .string a] w fun e w' => e = .returned (btotal xs a).v ∧ Below w.heap.size w w' := by
  have hxl := hx.len
  have hzq : ∀ f ∈ xs, lnq f := fun f h => lnS_q (hz f h)
  have hB0 : Below w.heap.size w (w.alloc (.cells #[.string ⟨#[]⟩, .string ⟨#[]⟩] 24)) := b_alloc (Below.refl _ _) _
  have hM := b_may _ (hg.below hB0) (hx.below hB0) hzq (c := c)
  cases c0 : bmay xs with
  | false =>
    rw [c0] at hM
    have hv : Hid ((btotal xs a).v = .agg #[.string ⟨#[]⟩, .string ⟨#[]⟩]) := by unfold Hid; rw [btotal_no c0]; rfl
    go_enter Tryz.func39, Tryz.ntmps39
    go_wp2_with (go_at_call 33; (with_reducible refine (hM).mono ?_); rintro e w1 ⟨rfl, hb1⟩; obtain ⟨hc1, hf1⟩ := bcell hb1; have hs1 := hb1.size; (try simp at hs1); have hq1 : w.heap.size < w1.heap.size := (by omega))
    refine bodyPost_ret (v := .agg #[.string ⟨#[]⟩, .string ⟨#[]⟩]) ?_ rfl ⟨by rw [hv.out], (by repeat (first | exact Below.refl _ _ | assumption | refine b_then ?_ (by assumption) | refine b_alloc ?_ _ | refine b_drewN ?_ _ | refine Below.drew ?_ | refine b_set ?_ (by first | exact Nat.le_refl _ | (simp; done) | (simp; omega) | omega) _))⟩
    simp [results, Tryz.results39, go_sem, hc1, hf1, hq1]
  | true =>
    rw [c0] at hM
    have hH := fun W (h : Below w.heap.size w W) => b_holders (c := c) a W (hg.below h) (hx.below h) (by omega) hzq
    have hO := fun W hg => p_rof 0 W hg (by omega) (by omega)
    simp only [enc_of, RT.v] at hO
    have hmem := hold_mem (a := a) c0 hz
    have hlen := hold_len xs a
    have hv : Hid (btotal xs a = enc (dsum (bholders xs a))) := btotal_yes c0
    obtain ⟨hs, hhs⟩ : ∃ hs, bholders xs a = hs := ⟨_, rfl⟩
    unfold HoldPost at hH
    rw [hhs] at hH hmem hlen hv
    obtain ⟨m, hm⟩ : ∃ m, hs.length = m := ⟨_, rfl⟩
    have HM := Lib.hid hm
    have hm3 : m ≤ 300 := by omega
    clear hhs hlen hm c0
    go_enter Tryz.func39, Tryz.ntmps39
    go_wp2_with (first
      | (go_at_call 33; (with_reducible refine (hM).mono ?_); rintro e w1 ⟨rfl, hb1⟩; obtain ⟨hc1, hf1⟩ := bcell hb1; have hs1 := hb1.size; (try simp at hs1); have hq1 : w.heap.size < w1.heap.size := (by omega))
      | (go_at_call 68; (with_reducible refine (hO _ (hg.below (by repeat (first | exact Below.refl _ _ | assumption | refine b_then ?_ (by assumption) | refine b_alloc ?_ _ | refine b_drewN ?_ _ | refine Below.drew ?_ | refine b_set ?_ (by first | exact Nat.le_refl _ | (simp; done) | (simp; omega) | omega) _)))).mono ?_); rintro e w2 ⟨rfl, hb2⟩; obtain ⟨hc2, hf2⟩ := bcell hb2; have hs2 := hb2.size; (try simp at hs2); have hq2 : w.heap.size < w2.heap.size := (by omega))
      | (go_at_call 41; (with_reducible refine (hH _ (by repeat (first | exact Below.refl _ _ | assumption | refine b_then ?_ (by assumption) | refine b_alloc ?_ _ | refine b_drewN ?_ _ | refine Below.drew ?_ | refine b_set ?_ (by first | exact Nat.le_refl _ | (simp; done) | (simp; omega) | omega) _))).mono ?_); rintro e w3 ⟨v3, rfl, ho3, hb3⟩; obtain ⟨A3, c3, hv3, _⟩ := ho3.rd Ln.cs_length; rw [HM.out] at hv3; subst hv3))
    have D5 := (Blk.new w2 24 #[.string (iS 0), .string (nS 1)]).below hb3
    have D4 := ((((Blk.new w 24 #[.string ⟨#[]⟩, .string ⟨#[]⟩]).below hb1).below hb2).alloc (.cells #[.string (iS 0), .string (nS 1)] 24)).below hb3
    have BB3 : Below w.heap.size w w3 := (by repeat (first | exact Below.refl _ _ | assumption | refine b_then ?_ (by assumption) | refine b_alloc ?_ _ | refine b_drewN ?_ _ | refine Below.drew ?_ | refine b_set ?_ (by first | exact Nat.le_refl _ | (simp; done) | (simp; omega) | omega) _))
    simp only [World.size_alloc] at ho3
    obtain ⟨g5, hg5⟩ : ∃ g, w2.heap.size = g := ⟨_, rfl⟩
    rw [hg5] at D5 ho3 hq2 ⊢
    have H0 : Hid (sumI hs 0 0) := sumI_zero hs
    clear hg5 hM hO hH hc1 hf1 hs1 hc2 hf2 hs2
    go_loopw [17] (fun i wr => ∃ (k : Nat) (z : Rat), k ≤ m ∧ i = .int .i64 (k : Nat) ∧ Hid (sumI hs k z) ∧ Blk wr g5 24 #[.string (iS z.num), .string (nS z.den)] ∧ Blk wr w.heap.size 24 #[.string ⟨#[]⟩, .string ⟨#[]⟩] ∧ Own Ln.cs 4 43 wr (g5 + 1) (.slice A3 m c3) hs ∧ Below w.heap.size w wr) (fun i _ => m - (intOf i).toNat)
    case atStart => exact ⟨0, 0, Nat.zero_le _, rfl, H0, D5, D4, ho3, BB3⟩
    case round =>
      clear H0 D5 D4 ho3 BB3 hb1 hb2 hb3
      obtain ⟨k, z, hk, rfl, H, D5, D4, hown, hB⟩ := hrel
      by_cases hlt : k < m
      · obtain ⟨A', c', e, hr⟩ := hown.rd Ln.cs_length
        injection e with e1 e2 e3
        subst e1; subst e3
        clear e2
        rw [HM.out] at hr
        obtain ⟨ad, b0, b1, b2, b3, rfl, hxk, hl⟩ := ln_in hr (Below.refl _ wr) hlt
        obtain ⟨hmy, hms⟩ := hmem _ (List.mem_of_getElem? hxk)
        obtain ⟨q, hq, hqd, hqs⟩ := ln_rat hmy hms
        injection hq with q1 q2
        subst q1; subst q2
        have hA := fun W hg => p_radd z q W hg (rsmall_mono H.out.2 (by omega)) (rsmall_mono hqs (by omega))
        simp only [enc_v] at hA
        have HS := Lib.hid (sumI_step H.out hxk hqd hqs)
        generalize hzz : z + q = z2 at *
        obtain ⟨hx0, hx1, hx2, hx3, hx4⟩ := hl wr (Below.refl _ _)
        have D5a := D5.alloc (.cells #[.string b0, .string b1, .string (iS q.num), .string (nS q.den)] 43)
        have D4a := D4.alloc (.cells #[.string b0, .string b1, .string (iS q.num), .string (nS q.den)] 43)
        have hBa := b_alloc hB (.cells #[.string b0, .string b1, .string (iS q.num), .string (nS q.den)] 43)
        have howna := hown.alloc (.cells #[.string b0, .string b1, .string (iS q.num), .string (nS q.den)] 43)
        clear hl hzz hxk hqd hqs hmy hms
        obtain ⟨p0, p1, p2, p3⟩ := D5.two
        have hgl := D5.lt
        have hsw := hB.size
        go_wp2_with (go_at_call 69; (with_reducible refine (hA _ (hg.below hBa)).mono ?_); rintro e w1 ⟨rfl, hb1⟩; obtain ⟨hc1, hf1⟩ := bcell hb1; have hs1 := hb1.size; (try simp at hs1); obtain ⟨r0, r1, r2, r3⟩ := (D5a.below hb1).two)
        go_roundw
        case rel => exact ⟨k + 1, z2, by omega, by go_num, HS.out, (D5a.below hb1).put2 _ _, ((D4a.below hb1).far (by simp; omega) _).far (by simp; omega) _, ((howna.below hb1).setOld (by simp) _).setOld (by simp) _, b_set (b_set (b_then hBa hb1) (by simp; omega) _) (by simp; omega) _⟩
        case measure => simp [intOf]; omega
      · obtain rfl : k = m := by omega
        have hfin : Hid ((btotal xs a).v = .agg #[.string (iS z.num), .string (nS z.den)]) := by
          unfold Hid
          rw [hv.out, H.out.1, ← HM.out, List.take_length]; rfl
        obtain ⟨p0, p1, p2, p3⟩ := D5.two
        obtain ⟨k0, k1, k2, k3⟩ := D4.two
        go_wp2
        refine bodyPost_ret (v := .agg #[.string (iS z.num), .string (nS z.den)]) ?_ rfl ⟨by rw [hfin.out], (by repeat (first | exact Below.refl _ _ | assumption | refine b_then ?_ (by assumption) | refine b_alloc ?_ _ | refine b_drewN ?_ _ | refine Below.drew ?_ | refine b_set ?_ (by first | exact Nat.le_refl _ | (simp; done) | (simp; omega) | omega) _))⟩
        simp [results, Tryz.results39, go_sem, k0, k1, k2, k3]
end Go.Proofs.YtpoejheienohjaaGreatDoor

/- Walk of book.Add. -/
namespace Go.Proofs.YtpoejheienohjaaGreatDoor
open Go.RowKit
set_option linter.unusedVariables false
set_option linter.unusedSimpArgs false

theorem Own.elem {w : World} {base g n cap i : Nat} {xs : List Ln} {a0 a1 a2 a3 : ByteArray} (h : Own Ln.cs 4 43 w base (.slice (some ⟨g, 0, none⟩) n cap) xs) (hi : xs[i]? = some ⟨a0, a1, ⟨a2, a3⟩⟩) :
    w.cell? ⟨g, i * 4 + 2, none⟩ = some (.string a2) ∧ w.cell? ⟨g, i * 4 + 2 + 1, none⟩ = some (.string a3) ∧ w.frozen? ⟨g, i * 4 + 2, none⟩ = false ∧ w.frozen? ⟨g, i * 4 + 2 + 1, none⟩ = false ∧ g < w.heap.size ∧ base ≤ g ∧ i < n ∧ n ≤ cap := by
  obtain ⟨cur, hg, hbg, hl, hc, _⟩ := h.some_
  have hil : i < xs.length := (List.getElem?_eq_some_iff.1 hi).1
  obtain ⟨A', c', e, hr⟩ := h.rd Ln.cs_length
  injection e with e1 e2 e3
  subst e1
  obtain ⟨ad, e, _, hcell⟩ := hr.cells (by omega)
  injection e with e
  subst e
  have g2 := hcell i _ hi 2 _ rfl
  have g3 := hcell i _ hi 3 _ rfl
  rw [add_lit4] at g2 g3
  exact ⟨g2, g3, hg.frozen _, hg.frozen _, hg.lt, hbg, by omega, hc⟩
theorem Own.slice_ {w : World} {base : Nat} {v : Value} {xs : List Ln} (h : Own Ln.cs 4 43 w base v xs) (hn : 0 < xs.length) : ∃ g cap, v = .slice (some ⟨g, 0, none⟩) xs.length cap := by
  rcases h.row.2 with ⟨_, h0⟩ | ⟨g, cap, cur, hv, _⟩
  · omega
  · exact ⟨g, cap, hv⟩
theorem b_mono2 {b c : Nat} {w W : World} (h : Below b w W) (hc : c ≤ b) : Below c w W := ⟨h.os, h.tape, h.output, h.size, fun k hk => h.block k (by omega)⟩
theorem b_addE {p q : Rat} : enc (p + q) = radd (enc p) (enc q) := (radd_enc p q).symm
set_option maxRecDepth 100000 in
set_option maxHeartbeats 4000000 in
theorem b_add {A : Option Addr} {n c : Nat} {xs : List Ln} (a0 a1 a2 a3 : ByteArray) (w : World) (hg : Glob w) (hx : Rd Ln.cs 4 w A n xs) (hn : n ≤ 900000) (hz : ∀ f ∈ xs, lnq f) (hf : lnq ⟨a0, a1, ⟨a2, a3⟩⟩) :
    Calls Tryz.prog 30 #[.slice A n c, .agg #[.string a0, .string a1, .string a2, .string a3]] w fun e w' => AddPost xs ⟨a0, a1, ⟨a2, a3⟩⟩ w e w' := by
  have hxl := hx.len
  obtain ⟨z0, z1, z2, z3⟩ := hf
  dsimp only at z0 z1 z2 z3
  have hB0 : Below w.heap.size w (w.alloc (.cells #[.string a0, .string a1, .string a2, .string a3] 43)) := b_alloc (Below.refl _ _) _
  have hM := b_may _ (hg.below hB0) (hx.below hB0) hz (c := c)
  have hL : ∀ W, Glob W → Calls Tryz.prog 64 #[.agg #[.string a0, .string a1, .string a2, .string a3]] W fun e w' => e = .returned (.bool (lone ⟨a0, a1, ⟨a2, a3⟩⟩)) ∧ Below W.heap.size W w' := fun W hgw => b_line a0 a1 a2 a3 W hgw (by omega) (by omega) (by omega) (by omega)
  cases c0 : bmay xs with
  | false =>
    have hno : Hid (badd xs ⟨a0, a1, ⟨a2, a3⟩⟩ = none) := by unfold Hid badd; rw [c0]; rfl
    rw [c0] at hM
    go_enter Tryz.func30, Tryz.ntmps30
    go_wp2_with (go_at_call 33; (with_reducible refine (hM).mono ?_); rintro e w1 ⟨rfl, hb1⟩; obtain ⟨hc1, hf1⟩ := bcell hb1; have hs1 := hb1.size; (try simp at hs1))
    go_ret2
    exact addPost_no hno.out (by repeat (first | exact Below.refl _ _ | assumption | refine b_then ?_ (by assumption) | refine b_alloc ?_ _ | refine b_drewN ?_ _ | refine Below.drew ?_ | refine b_set ?_ (by first | exact Nat.le_refl _ | (simp; done) | (simp; omega) | omega) _))
  | true =>
    rw [c0] at hM
    cases c1 : lone ⟨a0, a1, ⟨a2, a3⟩⟩ with
    | false =>
      have hno : Hid (badd xs ⟨a0, a1, ⟨a2, a3⟩⟩ = none) := by unfold Hid badd; rw [c0, c1]; rfl
      rw [c1] at hL
      go_enter Tryz.func30, Tryz.ntmps30
      go_wp2_with (first | (go_at_call 33; (with_reducible refine (hM).mono ?_); rintro e w1 ⟨rfl, hb1⟩; obtain ⟨hc1, hf1⟩ := bcell hb1; have hs1 := hb1.size; (try simp at hs1); have hv1 : w.heap.size < w1.heap.size := (by omega)) | (go_at_call 64; (with_reducible refine (hL _ (hg.below (by repeat (first | exact Below.refl _ _ | assumption | refine b_then ?_ (by assumption) | refine b_alloc ?_ _ | refine b_drewN ?_ _ | refine Below.drew ?_ | refine b_set ?_ (by first | exact Nat.le_refl _ | (simp; done) | (simp; omega) | omega) _)))).mono ?_); rintro e w2 ⟨rfl, hb2⟩; obtain ⟨hc2, hf2⟩ := bcell hb2; have hs2 := hb2.size; (try simp at hs2)))
      go_ret2
      exact addPost_no hno.out (by repeat (first | exact Below.refl _ _ | assumption | refine b_then ?_ (by assumption) | refine b_alloc ?_ _ | refine b_drewN ?_ _ | refine Below.drew ?_ | refine b_set ?_ (by first | exact Nat.le_refl _ | (simp; done) | (simp; omega) | omega) _))
    | true =>
      rw [c1] at hL
      obtain ⟨p, hp, hps⟩ := bget_rat hz c0 a0 a1
      obtain ⟨q, hq⟩ := rmay_of (lone_of c1).2.2
      injection hq with e1 e2
      subst e1; subst e2
      have hqs : rsmall 400000000 q := rsmall_of z2 z3
      have hzs := rsmall_add hps hqs
      have hall := fun i (h : bbI xs ⟨a0, a1, rzero⟩ i i) => bb_all c0 c1 (bb_key (l' := ⟨a0, a1, ⟨iS q.num, nS q.den⟩⟩) h rfl rfl).1
      have hkey := fun i (h : bbI xs ⟨a0, a1, rzero⟩ i i) => (bb_key (l' := ⟨a0, a1, ⟨iS q.num, nS q.den⟩⟩) h rfl rfl).2
      dsimp only at hall
      rw [hp, show (⟨iS q.num, nS q.den⟩ : RT) = enc q from rfl, radd_enc] at hall
      have hA := fun W hg => p_radd p q W hg hps hqs
      simp only [enc_v] at hA
      have hS := fun W hg => p_rsign (iS (p + q).num) (nS (p + q).den) W hg (by have := iS_sz hzs.1; omega) (by rw [nS_size]; have := hzs.2; omega)
      have hyes : Hid (badd xs ⟨a0, a1, ⟨iS q.num, nS q.den⟩⟩ = some (bput xs ⟨a0, a1, ⟨iS q.num, nS q.den⟩⟩)) := by unfold Hid badd; rw [c0, c1]; rfl
      have hF := fun W (h : Below w.heap.size w W) => b_find (c := c) a0 a1 W (hx.below h) (by omega)
      have hC := fun W (h : Below w.heap.size w W) => b_clone (c := c) W (hx.below h) (by omega)
      have hO := fun W hg => p_rof 0 W hg (by omega) (by omega)
      simp only [enc_of, RT.v] at hO
      have hp0 : Hid (p = 0 → iS p.num = iS 0 ∧ nS p.den = nS 1) := fun e => by rw [e]; exact ⟨rfl, rfl⟩
      have HP0 : Hid (enc p = enc 0 → p = 0) := enc_inj
      have hpe : Hid (enc p = ⟨iS p.num, nS p.den⟩) := rfl
      have hze : Hid (enc (p + q) = ⟨iS (p + q).num, nS (p + q).den⟩) := rfl
      generalize p + q = z at *
      obtain ⟨s, hs⟩ : ∃ s, rsign ⟨iS z.num, nS z.den⟩ = s := ⟨_, rfl⟩
      rw [hze.out] at hall
      rw [hs] at hS
      simp only [hs] at hall
      unfold BFindPost at hF
      obtain ⟨y0, hy0⟩ : ∃ b, iS z.num = b := ⟨_, rfl⟩
      obtain ⟨y1, hy1⟩ : ∃ b, nS z.den = b := ⟨_, rfl⟩
      rw [hy0, hy1] at hA hS hall
      clear hps hqs hzs hp hs hze hy0 hy1 z2 z3
      go_enter Tryz.func30, Tryz.ntmps30
      go_wp2_with (first
        | (go_at_call 33; (with_reducible refine (hM).mono ?_); rintro e w1 ⟨rfl, hb1⟩; obtain ⟨hc1, hf1⟩ := bcell hb1; have hs1 := hb1.size; (try simp at hs1); have hv1 : w.heap.size < w1.heap.size := (by omega))
        | (go_at_call 64; (with_reducible refine (hL _ (hg.below (by repeat (first | exact Below.refl _ _ | assumption | refine b_then ?_ (by assumption) | refine b_alloc ?_ _ | refine b_drewN ?_ _ | refine Below.drew ?_ | refine b_set ?_ (by first | exact Nat.le_refl _ | (simp; done) | (simp; omega) | omega) _)))).mono ?_); rintro e w2 ⟨rfl, hb2⟩; obtain ⟨hc2, hf2⟩ := bcell hb2; have hs2 := hb2.size; (try simp at hs2); have hv2 : w.heap.size < w2.heap.size := (by omega))
        | (go_at_call 65; (with_reducible refine (hF _ (by repeat (first | exact Below.refl _ _ | assumption | refine b_then ?_ (by assumption) | refine b_alloc ?_ _ | refine b_drewN ?_ _ | refine Below.drew ?_ | refine b_set ?_ (by first | exact Nat.le_refl _ | (simp; done) | (simp; omega) | omega) _))).mono ?_); rintro e w3 ⟨i, rfl, hi, hb3⟩; revert hi))
      intro hi
      obtain ⟨zz, hzm, hyesb, hnob, hput⟩ := hall i hi
      have hkb := hkey i hi
      have hil : i ≤ n := by have := hi.2.1; omega
      have BB3 : Below w.heap.size w w3 := b_then (b_then (b_then hB0 hb1) hb2) hb3
      have K3 := (((Blk.new w 43 #[.string a0, .string a1, .string (iS q.num), .string (nS q.den)]).below hb1).below hb2).below hb3
      have hs3 := hb3.size
      have hv3 : w.heap.size < w3.heap.size := by omega
      clear hall hkey hF hM hL
      have hkb2 : bat xs ⟨a0, a1, enc q⟩ i = bat xs ⟨a0, a1, rzero⟩ i := hkb.symm
      cases hft : bat xs ⟨a0, a1, rzero⟩ i with
      | true =>
        rw [hkb2, hft] at hyesb
        obtain ⟨hxs, hzz, hxi⟩ := hyesb rfl
        rw [hpe.out] at hxs hxi
        have hin : i < n := by have := (List.getElem?_eq_some_iff.1 hxi).1; omega
        have hti : (xs.take i).length = i := by rw [List.length_take]; omega
        obtain ⟨f0, f1, f2, f3⟩ := K3.four_
        have HXS := Lib.hid hxs
        clear hxs hzz hyesb hnob hkb hkb2
        go_wp2_with (go_at_call 66; (with_reducible refine (hC _ BB3).mono ?_); rintro e w4 ⟨v4, rfl, ho4, hb4⟩; revert ho4)
        intro ho4
        obtain ⟨g, cap, rfl⟩ := ho4.slice_ (by omega)
        rw [hxl] at ho4 ⊢
        have K4 := K3.below hb4
        have BB4 := b_then BB3 hb4
        clear f0 f1 f2 f3 hC hO hp0 HP0 hpe K3 BB3 hc1 hf1 hs1 hc2 hf2 hs2 hs3 hb1 hb2 hb3 hb4
        go_wp2_with fail
        have hgW : Glob w4 := hg.below BB4
        have e2 := fun y : After w4 => (Own.elem (ho4.below y.h) hxi).1
        have e3 := fun y : After w4 => (Own.elem (ho4.below y.h) hxi).2.1
        have k2 := fun y : After w4 => (K4.below y.h).four_.2.2.1
        have k3 := fun y : After w4 => (K4.below y.h).four_.2.2.2
        obtain ⟨_, _, _, _, hgl, hgb, hinl, hnc⟩ := Own.elem ho4 hxi
        have hsW := BB4.size
        have hkl := K4.lt
        (refine wp_region_ahead 12 (by kernel_rfl) (by kernel_rfl) ?_; simp only [List.take_succ_cons, List.take_zero, List.drop_succ_cons, List.drop_zero]; (repeat (first | go_big_quiet_skip | (go_big_quiet_want; go_big_quiet_op; first | go_big_quiet_on | (apply Exists.intro; refine ⟨fun _ => ?_, ?_⟩; (focus ((go_at_call 69; with_reducible exact Calls.after (hA _ (hgW.below (After.h _)))))); go_big_quiet_on)))); refine wpQuiet_nil ?_; rintro ⟨w7, hb7⟩; (try dsimp only); obtain ⟨hc7, hf7⟩ := bcell hb7; have hs7 := hb7.size; (try simp at hs7))
        have own7 := ho4.below hb7
        obtain ⟨r0, r1, r2, r3, hgl7, _⟩ := Own.elem own7 hxi
        have own8 := own7.setQ y0 y1 hxi
        have hB8 : Below w.heap.size w ((w7.setCell ⟨g, i * 4 + 2, none⟩ (.string y0)).setCell ⟨g, i * 4 + 3, none⟩ (.string y1)) := b_set (b_set (b_then BB4 hb7) (by simp; omega) _) (by simp; omega) _
        have hne : (⟨g, i * 4 + 2, none⟩ : Addr) ≠ ⟨g, i * 4 + 2 + 1, none⟩ := by intro e; injection e with _ e _; omega
        clear e2 e3 k2 k3
        cases hL : (s == 0) with
        | true =>
          rw [hL] at hput
          go_wp2_with (first
            | (go_at_call 70; (with_reducible refine (hS _ (hg.below hB8)).mono ?_); rintro e w9 ⟨rfl, hb9⟩; have own9 := own8.below hb9; have hs9 := hb9.size)
            | (go_at_call 71; (with_reducible refine (b_del w9 own9 (by omega) (by omega)).mono ?_); rintro e w10 ⟨v10, rfl, ho10, hb10⟩))
          go_ret2
          rw [HXS.out, set_mid (by exact hti), del_mid (by exact hti)] at ho10
          exact addPost_yes (by rw [hyes.out]; exact congrArg some hput) ho10 (by omega) ((b_then hB8 hb9).trans (b_mono2 hb10 (by omega)))
        | false =>
          rw [hL] at hput
          go_wp2_with (go_at_call 70; (with_reducible refine (hS _ (hg.below hB8)).mono ?_); rintro e w9 ⟨rfl, hb9⟩; have own9 := own8.below hb9)
          go_ret2
          rw [HXS.out, set_mid (by exact hti)] at own9
          exact addPost_yes (by rw [hyes.out]; exact congrArg some hput) own9 (by omega) (b_then hB8 hb9)
      | false =>
        rw [hkb2, hft] at hnob
        obtain ⟨hzz, hpz⟩ := hnob rfl
        obtain ⟨n1, n2⟩ := hp0.out (HP0.out hpz)
        rw [n1, n2] at hA
        clear hyesb hnob hkb hkb2
        have hti : (xs.take i).length = i := by rw [List.length_take]; omega
        obtain ⟨f0, f1, f2, f3⟩ := K3.four_
        go_wp2_with (go_at_call 66; (with_reducible refine (hC _ BB3).mono ?_); rintro e w4 ⟨v4, rfl, ho4, hb4⟩; revert ho4)
        intro ho4
        have K4 := K3.below hb4
        have BB4 := b_then BB3 hb4
        have hs4 := BB4.size
        have hl4 := K4.lt
        have hg4 : Glob w4 := hg.below BB4
        clear f0 f1 f2 f3 hC hp0 HP0 hpe n1 n2 hpz K3 hc1 hf1 hs1 hc2 hf2 hs2 hb1 hb2 hb3
        go_wp2_with fail
        have HZZ := Lib.hid hzz
        clear hzz
        obtain ⟨f0, f1, f2, f3⟩ := K4.four_
        have hlx : xs.length ≤ 1000000 := by omega
        have hilx : i ≤ xs.length := by omega
        go_region_with (first
          | (go_at_call 68; (with_reducible refine (hO w4.drew (hg4.below (Below.refl _ _).drew)).mono ?_); rintro e w5 ⟨rfl, hb5⟩; have K5 := (K4.drewN 1).below hb5; obtain ⟨m0, m1, m2, m3⟩ := K5.four_; have hl5 := K5.lt; have hs5 := hb5.size; have ho5 := ((ho4.drewN 1).below hb5).alloc (.cells #[.string a0, .string a1, .string (iS 0), .string (nS 1)] 43); have hne5 : v4.ownBlock ≠ some w5.heap.size := (fun e => Nat.lt_irrefl _ (((ho4.drewN 1).below hb5).lt _ e)); have B5 : Blk (w5.alloc (.cells #[.string a0, .string a1, .string (iS 0), .string (nS 1)] 43)) w5.heap.size 43 (Ln.cs ⟨a0, a1, ⟨iS 0, nS 1⟩⟩).toArray := Blk.new w5 _ _; have hq5 : w3.heap.size ≤ (w5.alloc (.cells #[.string a0, .string a1, .string (iS 0), .string (nS 1)] 43)).heap.size := (by have := hb4.size; simp; simp at hs5; omega); have K5a := K5.alloc (.cells #[.string a0, .string a1, .string (iS 0), .string (nS 1)] 43); have BB5 : Below w.heap.size w (w5.alloc (.cells #[.string a0, .string a1, .string (iS 0), .string (nS 1)] 43)) := b_alloc (b_then BB4.drew hb5) _)
          | (go_at_call 67; (with_reducible refine (b_ins _ ho5 hlx hq5 B5 hne5 hilx).mono ?_); rintro e w6 ⟨v6, rfl, ho6, hb6⟩))
        all_goals
          obtain ⟨g, cap, rfl⟩ := ho6.slice_ (by rw [List.length_append, List.length_cons]; omega)
          have hl6 : (xs.take i ++ ⟨a0, a1, ⟨iS 0, nS 1⟩⟩ :: xs.drop i).length = n + 1 := by simp; omega
          rw [hl6] at ho6 ⊢
          have K6 : Blk w6 w.heap.size 43 #[.string a0, .string a1, .string (iS q.num), .string (nS q.den)] := (hb6.block _ (by omega)).trans K5a
          have BB6 : Below w.heap.size w w6 := BB5.trans (b_mono2 hb6 (by omega))
          have hxi : (xs.take i ++ ⟨a0, a1, ⟨iS 0, nS 1⟩⟩ :: xs.drop i)[i]? = some ⟨a0, a1, ⟨iS 0, nS 1⟩⟩ := by rw [List.getElem?_append_right (by omega), hti, Nat.sub_self]; rfl
          have hb36 : w3.heap.size ≤ w6.heap.size := by have := hb6.size; omega
          clear K5 K5a m0 m1 m2 m3 ho5 hne5 B5 hq5 BB5 hl5 hs5 hb5 hb6 ho4 hO f0 f1 f2 f3 K4 BB4 hs4 hl4 hg4 hb4 hl6
          go_simp
          go_wp2_with fail
          have hgW : Glob w6 := hg.below BB6
          have e2 := fun y : After w6 => (Own.elem (ho6.below y.h) hxi).1
          have e3 := fun y : After w6 => (Own.elem (ho6.below y.h) hxi).2.1
          have k2 := fun y : After w6 => (K6.below y.h).four_.2.2.1
          have k3 := fun y : After w6 => (K6.below y.h).four_.2.2.2
          obtain ⟨_, _, _, _, hgl, hgb, hinl, hnc⟩ := Own.elem ho6 hxi
          have hsW := BB6.size
          have hkl := K6.lt
          (refine wp_region_ahead 12 (by kernel_rfl) (by kernel_rfl) ?_; simp only [List.take_succ_cons, List.take_zero, List.drop_succ_cons, List.drop_zero]; (repeat (first | go_big_quiet_skip | (go_big_quiet_want; go_big_quiet_op; first | go_big_quiet_on | (apply Exists.intro; refine ⟨fun _ => ?_, ?_⟩; (focus ((go_at_call 69; with_reducible exact Calls.after (hA _ (hgW.below (After.h _)))))); go_big_quiet_on)))); refine wpQuiet_nil ?_; rintro ⟨w7, hb7⟩; (try dsimp only); obtain ⟨hc7, hf7⟩ := bcell hb7; have hs7 := hb7.size; (try simp at hs7))
          have own7 := ho6.below hb7
          obtain ⟨r0, r1, r2, r3, hgl7, _⟩ := Own.elem own7 hxi
          have own8 := own7.setQ y0 y1 hxi
          have hB8 : Below w.heap.size w ((w7.setCell ⟨g, i * 4 + 2, none⟩ (.string y0)).setCell ⟨g, i * 4 + 3, none⟩ (.string y1)) := b_set (b_set (b_then BB6 hb7) (by simp; omega) _) (by simp; omega) _
          have hne : (⟨g, i * 4 + 2, none⟩ : Addr) ≠ ⟨g, i * 4 + 2 + 1, none⟩ := by intro e; injection e with _ e _; omega
          clear e2 e3 k2 k3
          cases hL : (s == 0) with
          | true =>
            rw [hL] at hput
            go_wp2_with (first
              | (go_at_call 70; (with_reducible refine (hS _ (hg.below hB8)).mono ?_); rintro e w9 ⟨rfl, hb9⟩; have own9 := own8.below hb9; have hs9 := hb9.size)
              | (go_at_call 71; (with_reducible refine (b_del w9 own9 (by omega) (by omega)).mono ?_); rintro e w10 ⟨v10, rfl, ho10, hb10⟩))
            go_ret2
            rw [set_mid (by exact hti), del_mid (by exact hti)] at ho10
            rw [← HZZ.out] at ho10; exact addPost_yes (by rw [hyes.out]; exact congrArg some hput) ho10 (by omega) ((b_then hB8 hb9).trans (b_mono2 hb10 (by omega)))
          | false =>
            rw [hL] at hput
            go_wp2_with (go_at_call 70; (with_reducible refine (hS _ (hg.below hB8)).mono ?_); rintro e w9 ⟨rfl, hb9⟩; have own9 := own8.below hb9)
            go_ret2
            rw [set_mid (by exact hti)] at own9
            rw [← HZZ.out] at own9; exact addPost_yes (by rw [hyes.out]; exact congrArg some hput) own9 (by omega) (b_then hB8 hb9)
end Go.Proofs.YtpoejheienohjaaGreatDoor
