/- Walks of book.Get, book.Holders, book.Total. -/
import Derived.Test.YtjdkbmlkplbmoaaGreatDoorBkC
import Derived.Test.YtjdkbmlkplbmoaaGreatDoorRefK
namespace Go.Proofs.YtjdkbmlkplbmoaaGreatDoor
open Go.RowKit
set_option linter.unusedVariables false
set_option linter.unusedSimpArgs false

set_option maxHeartbeats 1000000 in
theorem b_get {A : Option Addr} {n c : Nat} {xs : List Ln} (s d : ByteArray) (w : World) (hg : Glob w) (hx : Rd Ln.cs 4 w A n xs) (hn : n ≤ 1000000) (hz : ∀ f ∈ xs, lnq f) :
    Calls Tryz.prog 69 #[.slice A n c, .string s, .string d] w fun e w' => e = .returned (bget xs s d).v ∧ Below w.heap.size w w' := by
  have hxl := hx.len
  have hB0 : Below w.heap.size w (w.alloc (.cells #[.string ⟨#[]⟩, .string ⟨#[]⟩] 35)) := b_alloc (Below.refl _ _) _
  have hM := b_may _ (hg.below hB0) (hx.below hB0) hz (c := c)
  cases c0 : bmay xs with
  | false =>
    rw [c0] at hM
    have hv : Hid ((bget xs s d).v = .agg #[.string ⟨#[]⟩, .string ⟨#[]⟩]) := by unfold Hid bget; rw [c0]; rfl
    go_enter Tryz.func69, Tryz.ntmps69
    go_wp2_with (go_at_call 42; (with_reducible refine (hM).mono ?_); rintro e w1 ⟨rfl, hb1⟩; obtain ⟨hc1, hf1⟩ := bcell hb1; have hs1 := hb1.size; (try simp at hs1); have hq1 : w.heap.size < w1.heap.size := (by omega))
    refine bodyPost_ret (v := .agg #[.string ⟨#[]⟩, .string ⟨#[]⟩]) ?_ rfl ⟨by rw [hv.out], (by repeat (first | exact Below.refl _ _ | assumption | refine b_then ?_ (by assumption) | refine b_alloc ?_ _ | refine b_drewN ?_ _ | refine Below.drew ?_ | refine b_set ?_ (by first | exact Nat.le_refl _ | (simp; done) | (simp; omega) | omega) _))⟩
    simp [results, Tryz.results69, go_sem, hc1, hf1, hq1]
  | true =>
    rw [c0] at hM
    have HV : Hid (bget xs s d = bgetL xs s d) := by unfold Hid bget; rw [c0]; rfl
    have hF := fun W (h : Below w.heap.size w W) => b_find (c := c) s d W (hx.below h) hn
    have hat := fun i => bget_at (s := s) (a := d) (i := i) c0
    unfold BFindPost at hF
    go_enter Tryz.func69, Tryz.ntmps69
    go_wp2_with (first | (go_at_call 42; (with_reducible refine (hM).mono ?_); rintro e w1 ⟨rfl, hb1⟩; obtain ⟨hc1, hf1⟩ := bcell hb1; have hs1 := hb1.size; (try simp at hs1); have hq1 : w.heap.size < w1.heap.size := (by omega)) | (go_at_call 106; (with_reducible refine (hF _ (by repeat (first | exact Below.refl _ _ | assumption | refine b_then ?_ (by assumption) | refine b_alloc ?_ _ | refine b_drewN ?_ _ | refine Below.drew ?_ | refine b_set ?_ (by first | exact Nat.le_refl _ | (simp; done) | (simp; omega) | omega) _))).mono ?_); rintro e w2 ⟨i, rfl, hi, hb2⟩; revert hi))
    intro hi
    obtain ⟨hc2, hf2⟩ := bcell hb2
    have hs2 := hb2.size
    have hq2 : w.heap.size < w2.heap.size := by omega
    have hBw2 : Below w.heap.size w w2 := (by repeat (first | exact Below.refl _ _ | assumption | refine b_then ?_ (by assumption) | refine b_alloc ?_ _ | refine b_drewN ?_ _ | refine Below.drew ?_ | refine b_set ?_ (by first | exact Nat.le_refl _ | (simp; done) | (simp; omega) | omega) _))
    cases hft : bat xs ⟨s, d, rzero⟩ i with
    | false =>
      have hv : Hid ((bget xs s d).v = .agg #[.string (iS 0), .string (nS 1)]) := by
        unfold Hid
        rw [HV.out, (hat i hi).2 hft]; rfl
      have hO := fun W hg => p_rof 0 W hg (by omega) (by omega)
      simp only [enc_of, RT.v] at hO
      go_wp2_with (go_at_call 71; (with_reducible refine (hO _ (hg.below (by repeat (first | exact Below.refl _ _ | assumption | refine b_then ?_ (by assumption) | refine b_alloc ?_ _ | refine b_drewN ?_ _ | refine Below.drew ?_ | refine b_set ?_ (by first | exact Nat.le_refl _ | (simp; done) | (simp; omega) | omega) _)))).mono ?_); rintro e w3 ⟨rfl, hb3⟩; obtain ⟨hc3, hf3⟩ := bcell hb3; have hs3 := hb3.size; (try simp at hs3); have hq3 : w.heap.size < w3.heap.size := (by omega))
      refine bodyPost_ret (v := .agg #[.string (iS 0), .string (nS 1)]) ?_ rfl ⟨by rw [hv.out], (by repeat (first | exact Below.refl _ _ | assumption | refine b_then ?_ (by assumption) | refine b_alloc ?_ _ | refine b_drewN ?_ _ | refine Below.drew ?_ | refine b_set ?_ (by first | exact Nat.le_refl _ | (simp; done) | (simp; omega) | omega) _))⟩
      simp [results, Tryz.results69, go_sem, hc1, hf1, hq1, hc2, hf2, hq2, hc3, hf3, hq3]
    | true =>
      have hxi := (hat i hi).1 hft
      have hil : i < n := by have := (List.getElem?_eq_some_iff.1 hxi).1; omega
      obtain ⟨ad, a0, a1, a2, a3, rfl, hxk, hl⟩ := ln_in hx hBw2 hil
      rw [hxi] at hxk
      injection hxk with hxk
      injection hxk with _ _ hxk
      have hv : Hid ((bget xs s d).v = .agg #[.string a2, .string a3]) := by
        unfold Hid
        rw [HV.out, hxk]; rfl
      obtain ⟨hx0, hx1, hx2, hx3, hx4⟩ := hl w2 (Below.refl _ _)
      clear hxi hxk hl
      go_wp2
      refine bodyPost_ret (v := .agg #[.string a2, .string a3]) ?_ rfl ⟨by rw [hv.out], (by repeat (first | exact Below.refl _ _ | assumption | refine b_then ?_ (by assumption) | refine b_alloc ?_ _ | refine b_drewN ?_ _ | refine Below.drew ?_ | refine b_set ?_ (by first | exact Nat.le_refl _ | (simp; done) | (simp; omega) | omega) _))⟩
      simp [results, Tryz.results69, go_sem, hc1, hf1, hq1, hc2, hf2, hq2]
set_option maxRecDepth 100000 in
set_option maxHeartbeats 1000000 in
theorem b_holders {A : Option Addr} {n c : Nat} {xs : List Ln} (a : ByteArray) (w : World) (hg : Glob w) (hx : Rd Ln.cs 4 w A n xs) (hn : n ≤ 1000000) (hz : ∀ f ∈ xs, lnq f) :
    Calls Tryz.prog 64 #[.slice A n c, .string a] w fun e w' => HoldPost xs a w e w' := by
  have hxl := hx.len
  have hM := b_may w hg hx hz (c := c)
  cases c0 : bmay xs with
  | false =>
    rw [c0] at hM
    have HN := Lib.hid (bholders_no (a := a) c0)
    go_enter Tryz.func64, Tryz.ntmps64
    go_wp2_with (go_at_call 42; (with_reducible refine (hM).mono ?_); rintro e w1 ⟨rfl, hb1⟩; obtain ⟨hc1, hf1⟩ := bcell hb1; have hs1 := hb1.size; (try simp at hs1))
    go_ret
    exact ⟨_, rfl, by rw [HN.out]; exact Own.nil, (by repeat (first | exact Below.refl _ _ | assumption | refine b_then ?_ (by assumption) | refine b_alloc ?_ _ | refine b_drewN ?_ _ | refine Below.drew ?_ | refine b_set ?_ (by first | exact Nat.le_refl _ | (simp; done) | (simp; omega) | omega) _))⟩
  | true =>
    rw [c0] at hM
    have HY0 := Lib.hid (bholders_yes (a := a) c0)
    go_enter Tryz.func64, Tryz.ntmps64
    go_wp2_with (go_at_call 42; (with_reducible refine (hM).mono ?_); rintro e w1 ⟨rfl, hb1⟩; obtain ⟨hc1, hf1⟩ := bcell hb1; have hs1 := hb1.size; (try simp at hs1))
    go_loopw [5, 13] (fun out i wr => ∃ (k : Nat) (ys : List Ln), k ≤ n ∧ i = .int .i64 (k : Nat) ∧ Hid (ys = (xs.take k).filter (ofAsset a)) ∧ Own Ln.cs 4 46 wr w.heap.size out ys ∧ Below w.heap.size w wr) (fun _ i _ => n - (intOf i).toNat)
    case atStart => exact ⟨0, [], Nat.zero_le _, rfl, by simp [Hid], Own.nil, hb1⟩
    case round =>
      obtain ⟨k, ys, hk, rfl, H, hown, hB⟩ := hrel
      have hs0 := hB.size
      have hyl : ys.length ≤ 1000000 := by
        have := List.length_filter_le (ofAsset a) (xs.take k)
        rw [← H.out, List.length_take] at this
        omega
      by_cases hlt : k < n
      · obtain ⟨ad, a0, a1, a2, a3, rfl, hxk, hl⟩ := ln_in hx hB hlt
        have HX := Lib.hid hxk
        obtain ⟨hx0, hx1, hx2, hx3, hx4⟩ := hl wr (Below.refl _ _)
        clear hxk hl
        have hown1 := hown.alloc (.cells #[.string a0, .string a1, .string a2, .string a3] 46)
        have hB1 := b_alloc hB (.cells #[.string a0, .string a1, .string a2, .string a3] 46)
        cases c1 : (a1.toList == a.toList) with
        | true =>
          have HY : Hid ((xs.take (k + 1)).filter (ofAsset a) = ys ++ [⟨a0, a1, ⟨a2, a3⟩⟩]) := by
            unfold Hid; rw [filter_take_yes HX.out (by unfold ofAsset; exact c1), H.out]
          have hnc : ∀ (i : Nat) u, (Ln.cs ⟨a0, a1, ⟨a2, a3⟩⟩)[i]? = some u → ((wr.alloc (.cells #[.string a0, .string a1, .string a2, .string a3] 46)).alloc (.cells #[.string a0, .string a1, .string a2, .string a3] 46)).cell? ((⟨wr.heap.size + 1, 0, none⟩ : Addr).add i) = some u := fun i u hu => by
            have := new_cells (wr.alloc (.cells #[.string a0, .string a1, .string a2, .string a3] 46)) 46 _ (Ln.cs ⟨a0, a1, ⟨a2, a3⟩⟩) rfl i u hu
            rwa [World.size_alloc] at this
          go_wp2_with (at_builtin; refine wpList_app (v := u5) Tryz.elemLines (by omega) Ln.cs_length Ln.cs_one rfl (.tmp 21) (.tmp 23) rfl rfl (hown1.alloc _) ⟨wr.heap.size + 1, 0, none⟩ 1 ⟨a0, a1, ⟨a2, a3⟩⟩ rfl hnc (by first | omega | (simp; omega)) (by first | omega | (simp; omega)) (by first | omega | (simp; omega)) ?_; intro v2 w2 hown2 hg2 hat2)
          go_roundw
          case rel => exact ⟨k + 1, _, by omega, by go_num, HY.out.symm, hown2, (hown1.alloc _).frame (b_alloc hB1 _) (by omega) hg2⟩
          case measure => simp [intOf]; omega
        | false =>
          have HY : Hid ((xs.take (k + 1)).filter (ofAsset a) = ys) := by
            unfold Hid; rw [filter_take_no HX.out (by unfold ofAsset; exact c1), H.out]
          go_wp2
          go_roundw
          case rel => exact ⟨k + 1, _, by omega, by go_num, HY.out.symm, hown1, hB1⟩
          case measure => simp [intOf]; omega
      · obtain rfl : k = n := by omega
        have hfin : bholders xs a = ys := by rw [HY0.out, H.out, ← hxl, List.take_length]
        have HF := Lib.hid hfin
        clear hfin
        go_wp2
        go_ret
        exact ⟨_, rfl, by rw [HF.out]; exact hown, hB⟩
end Go.Proofs.YtjdkbmlkplbmoaaGreatDoor

/- Walk of book.Add. -/
namespace Go.Proofs.YtjdkbmlkplbmoaaGreatDoor
open Go.RowKit
set_option linter.unusedVariables false
set_option linter.unusedSimpArgs false

theorem Own.elem {w : World} {base g n cap i : Nat} {xs : List Ln} {a0 a1 a2 a3 : ByteArray} (h : Own Ln.cs 4 46 w base (.slice (some ⟨g, 0, none⟩) n cap) xs) (hi : xs[i]? = some ⟨a0, a1, ⟨a2, a3⟩⟩) :
    w.cell? ⟨g, i * 4 + 2, none⟩ = some (.string a2) ∧ w.cell? ⟨g, i * 4 + 2 + 1, none⟩ = some (.string a3) ∧ w.frozen? ⟨g, i * 4 + 2, none⟩ = false ∧ w.frozen? ⟨g, i * 4 + 2 + 1, none⟩ = false ∧ g < w.heap.size ∧ base ≤ g ∧ i < n ∧ n ≤ cap := by
  obtain ⟨cur, hg, hbg, hl, hc, _⟩ := h.some_
  have hil : i < xs.length := (List.getElem?_eq_some_iff.1 hi).1
  obtain ⟨A', c', e, hr⟩ := h.rd Ln.cs_length
  injection e with e1 e2 e3
  subst e1
  obtain ⟨ad, e, _, hcell⟩ := hr.cells (by omega)
  injection e with e
  subst e
  have g2 := hcell i _ hi 2 _ rfl
  have g3 := hcell i _ hi 3 _ rfl
  rw [add_lit4] at g2 g3
  exact ⟨g2, g3, hg.frozen _, hg.frozen _, hg.lt, hbg, by omega, hc⟩
theorem Own.slice_ {w : World} {base : Nat} {v : Value} {xs : List Ln} (h : Own Ln.cs 4 46 w base v xs) (hn : 0 < xs.length) : ∃ g cap, v = .slice (some ⟨g, 0, none⟩) xs.length cap := by
  rcases h.row.2 with ⟨_, h0⟩ | ⟨g, cap, cur, hv, _⟩
  · omega
  · exact ⟨g, cap, hv⟩
theorem b_mono2 {b c : Nat} {w W : World} (h : Below b w W) (hc : c ≤ b) : Below c w W := ⟨h.os, h.tape, h.output, h.size, fun k hk => h.block k (by omega)⟩
theorem b_addE {p q : Rat} : enc (p + q) = radd (enc p) (enc q) := (radd_enc p q).symm
set_option maxRecDepth 100000 in
set_option maxHeartbeats 4000000 in
theorem b_add {A : Option Addr} {n c : Nat} {xs : List Ln} (a0 a1 a2 a3 : ByteArray) (w : World) (hg : Glob w) (hx : Rd Ln.cs 4 w A n xs) (hn : n ≤ 900000) (hz : ∀ f ∈ xs, lnq f) (hf : lnq ⟨a0, a1, ⟨a2, a3⟩⟩) :
    Calls Tryz.prog 77 #[.slice A n c, .agg #[.string a0, .string a1, .string a2, .string a3]] w fun e w' => AddPost xs ⟨a0, a1, ⟨a2, a3⟩⟩ w e w' := by
  have hxl := hx.len
  obtain ⟨z0, z1, z2, z3⟩ := hf
  dsimp only at z0 z1 z2 z3
  have hB0 : Below w.heap.size w (w.alloc (.cells #[.string a0, .string a1, .string a2, .string a3] 46)) := b_alloc (Below.refl _ _) _
  have hM := b_may _ (hg.below hB0) (hx.below hB0) hz (c := c)
  have hL : ∀ W, Glob W → Calls Tryz.prog 74 #[.agg #[.string a0, .string a1, .string a2, .string a3]] W fun e w' => e = .returned (.bool (lone ⟨a0, a1, ⟨a2, a3⟩⟩)) ∧ Below W.heap.size W w' := fun W hgw => b_line a0 a1 a2 a3 W hgw (by omega) (by omega) (by omega) (by omega)
  cases c0 : bmay xs with
  | false =>
    have hno : Hid (badd xs ⟨a0, a1, ⟨a2, a3⟩⟩ = none) := by unfold Hid badd; rw [c0]; rfl
    rw [c0] at hM
    go_enter Tryz.func77, Tryz.ntmps77
    go_wp2_with (go_at_call 42; (with_reducible refine (hM).mono ?_); rintro e w1 ⟨rfl, hb1⟩; obtain ⟨hc1, hf1⟩ := bcell hb1; have hs1 := hb1.size; (try simp at hs1))
    go_ret2
    exact addPost_no hno.out (by repeat (first | exact Below.refl _ _ | assumption | refine b_then ?_ (by assumption) | refine b_alloc ?_ _ | refine b_drewN ?_ _ | refine Below.drew ?_ | refine b_set ?_ (by first | exact Nat.le_refl _ | (simp; done) | (simp; omega) | omega) _))
  | true =>
    rw [c0] at hM
    cases c1 : lone ⟨a0, a1, ⟨a2, a3⟩⟩ with
    | false =>
      have hno : Hid (badd xs ⟨a0, a1, ⟨a2, a3⟩⟩ = none) := by unfold Hid badd; rw [c0, c1]; rfl
      rw [c1] at hL
      go_enter Tryz.func77, Tryz.ntmps77
      go_wp2_with (first | (go_at_call 42; (with_reducible refine (hM).mono ?_); rintro e w1 ⟨rfl, hb1⟩; obtain ⟨hc1, hf1⟩ := bcell hb1; have hs1 := hb1.size; (try simp at hs1); have hv1 : w.heap.size < w1.heap.size := (by omega)) | (go_at_call 74; (with_reducible refine (hL _ (hg.below (by repeat (first | exact Below.refl _ _ | assumption | refine b_then ?_ (by assumption) | refine b_alloc ?_ _ | refine b_drewN ?_ _ | refine Below.drew ?_ | refine b_set ?_ (by first | exact Nat.le_refl _ | (simp; done) | (simp; omega) | omega) _)))).mono ?_); rintro e w2 ⟨rfl, hb2⟩; obtain ⟨hc2, hf2⟩ := bcell hb2; have hs2 := hb2.size; (try simp at hs2)))
      go_ret2
      exact addPost_no hno.out (by repeat (first | exact Below.refl _ _ | assumption | refine b_then ?_ (by assumption) | refine b_alloc ?_ _ | refine b_drewN ?_ _ | refine Below.drew ?_ | refine b_set ?_ (by first | exact Nat.le_refl _ | (simp; done) | (simp; omega) | omega) _))
    | true =>
      rw [c1] at hL
      obtain ⟨p, hp, hps⟩ := bget_rat hz c0 a0 a1
      obtain ⟨q, hq⟩ := rmay_of (lone_of c1).2.2
      injection hq with e1 e2
      subst e1; subst e2
      have hqs : rsmall 400000000 q := rsmall_of z2 z3
      have hzs := rsmall_add hps hqs
      have hall := fun i (h : bbI xs ⟨a0, a1, rzero⟩ i i) => bb_all c0 c1 (bb_key (l' := ⟨a0, a1, ⟨iS q.num, nS q.den⟩⟩) h rfl rfl).1
      have hkey := fun i (h : bbI xs ⟨a0, a1, rzero⟩ i i) => (bb_key (l' := ⟨a0, a1, ⟨iS q.num, nS q.den⟩⟩) h rfl rfl).2
      dsimp only at hall
      rw [hp, show (⟨iS q.num, nS q.den⟩ : RT) = enc q from rfl, radd_enc] at hall
      have hA := fun W hg => p_radd p q W hg hps hqs
      simp only [enc_v] at hA
      have hS := fun W hg => p_rsign (iS (p + q).num) (nS (p + q).den) W hg (by have := iS_sz hzs.1; omega) (by rw [nS_size]; have := hzs.2; omega)
      have hyes : Hid (badd xs ⟨a0, a1, ⟨iS q.num, nS q.den⟩⟩ = some (bput xs ⟨a0, a1, ⟨iS q.num, nS q.den⟩⟩)) := by unfold Hid badd; rw [c0, c1]; rfl
      have hF := fun W (h : Below w.heap.size w W) => b_find (c := c) a0 a1 W (hx.below h) (by omega)
      have hC := fun W (h : Below w.heap.size w W) => b_clone (c := c) W (hx.below h) (by omega)
      have hO := fun W hg => p_rof 0 W hg (by omega) (by omega)
      simp only [enc_of, RT.v] at hO
      have hp0 : Hid (p = 0 → iS p.num = iS 0 ∧ nS p.den = nS 1) := fun e => by rw [e]; exact ⟨rfl, rfl⟩
      have HP0 : Hid (enc p = enc 0 → p = 0) := enc_inj
      have hpe : Hid (enc p = ⟨iS p.num, nS p.den⟩) := rfl
      have hze : Hid (enc (p + q) = ⟨iS (p + q).num, nS (p + q).den⟩) := rfl
      generalize p + q = z at *
      obtain ⟨s, hs⟩ : ∃ s, rsign ⟨iS z.num, nS z.den⟩ = s := ⟨_, rfl⟩
      rw [hze.out] at hall
      rw [hs] at hS
      simp only [hs] at hall
      unfold BFindPost at hF
      obtain ⟨y0, hy0⟩ : ∃ b, iS z.num = b := ⟨_, rfl⟩
      obtain ⟨y1, hy1⟩ : ∃ b, nS z.den = b := ⟨_, rfl⟩
      rw [hy0, hy1] at hA hS hall
      clear hps hqs hzs hp hs hze hy0 hy1 z2 z3
      go_enter Tryz.func77, Tryz.ntmps77
      go_wp2_with (first
        | (go_at_call 42; (with_reducible refine (hM).mono ?_); rintro e w1 ⟨rfl, hb1⟩; obtain ⟨hc1, hf1⟩ := bcell hb1; have hs1 := hb1.size; (try simp at hs1); have hv1 : w.heap.size < w1.heap.size := (by omega))
        | (go_at_call 74; (with_reducible refine (hL _ (hg.below (by repeat (first | exact Below.refl _ _ | assumption | refine b_then ?_ (by assumption) | refine b_alloc ?_ _ | refine b_drewN ?_ _ | refine Below.drew ?_ | refine b_set ?_ (by first | exact Nat.le_refl _ | (simp; done) | (simp; omega) | omega) _)))).mono ?_); rintro e w2 ⟨rfl, hb2⟩; obtain ⟨hc2, hf2⟩ := bcell hb2; have hs2 := hb2.size; (try simp at hs2); have hv2 : w.heap.size < w2.heap.size := (by omega))
        | (go_at_call 106; (with_reducible refine (hF _ (by repeat (first | exact Below.refl _ _ | assumption | refine b_then ?_ (by assumption) | refine b_alloc ?_ _ | refine b_drewN ?_ _ | refine Below.drew ?_ | refine b_set ?_ (by first | exact Nat.le_refl _ | (simp; done) | (simp; omega) | omega) _))).mono ?_); rintro e w3 ⟨i, rfl, hi, hb3⟩; revert hi))
      intro hi
      obtain ⟨zz, hzm, hyesb, hnob, hput⟩ := hall i hi
      have hkb := hkey i hi
      have hil : i ≤ n := by have := hi.2.1; omega
      have BB3 : Below w.heap.size w w3 := b_then (b_then (b_then hB0 hb1) hb2) hb3
      have K3 := (((Blk.new w 46 #[.string a0, .string a1, .string (iS q.num), .string (nS q.den)]).below hb1).below hb2).below hb3
      have hs3 := hb3.size
      have hv3 : w.heap.size < w3.heap.size := by omega
      clear hall hkey hF hM hL
      have hkb2 : bat xs ⟨a0, a1, enc q⟩ i = bat xs ⟨a0, a1, rzero⟩ i := hkb.symm
      cases hft : bat xs ⟨a0, a1, rzero⟩ i with
      | true =>
        rw [hkb2, hft] at hyesb
        obtain ⟨hxs, hzz, hxi⟩ := hyesb rfl
        rw [hpe.out] at hxs hxi
        have hin : i < n := by have := (List.getElem?_eq_some_iff.1 hxi).1; omega
        have hti : (xs.take i).length = i := by rw [List.length_take]; omega
        obtain ⟨f0, f1, f2, f3⟩ := K3.four_
        have HXS := Lib.hid hxs
        clear hxs hzz hyesb hnob hkb hkb2
        go_wp2_with (go_at_call 43; (with_reducible refine (hC _ BB3).mono ?_); rintro e w4 ⟨v4, rfl, ho4, hb4⟩; revert ho4)
        intro ho4
        obtain ⟨g, cap, rfl⟩ := ho4.slice_ (by omega)
        rw [hxl] at ho4 ⊢
        have K4 := K3.below hb4
        have BB4 := b_then BB3 hb4
        clear f0 f1 f2 f3 hC hO hp0 HP0 hpe K3 BB3 hc1 hf1 hs1 hc2 hf2 hs2 hs3 hb1 hb2 hb3 hb4
        go_wp2_with fail
        have hgW : Glob w4 := hg.below BB4
        have e2 := fun y : After w4 => (Own.elem (ho4.below y.h) hxi).1
        have e3 := fun y : After w4 => (Own.elem (ho4.below y.h) hxi).2.1
        have k2 := fun y : After w4 => (K4.below y.h).four_.2.2.1
        have k3 := fun y : After w4 => (K4.below y.h).four_.2.2.2
        obtain ⟨_, _, _, _, hgl, hgb, hinl, hnc⟩ := Own.elem ho4 hxi
        have hsW := BB4.size
        have hkl := K4.lt
        (refine wp_region_ahead 12 (by kernel_rfl) (by kernel_rfl) ?_; simp only [List.take_succ_cons, List.take_zero, List.drop_succ_cons, List.drop_zero]; (repeat (first | go_big_quiet_skip | (go_big_quiet_want; go_big_quiet_op; first | go_big_quiet_on | (apply Exists.intro; refine ⟨fun _ => ?_, ?_⟩; (focus ((go_at_call 68; with_reducible exact Calls.after (hA _ (hgW.below (After.h _)))))); go_big_quiet_on)))); refine wpQuiet_nil ?_; rintro ⟨w7, hb7⟩; (try dsimp only); obtain ⟨hc7, hf7⟩ := bcell hb7; have hs7 := hb7.size; (try simp at hs7))
        have own7 := ho4.below hb7
        obtain ⟨r0, r1, r2, r3, hgl7, _⟩ := Own.elem own7 hxi
        have own8 := own7.setQ y0 y1 hxi
        have hB8 : Below w.heap.size w ((w7.setCell ⟨g, i * 4 + 2, none⟩ (.string y0)).setCell ⟨g, i * 4 + 3, none⟩ (.string y1)) := b_set (b_set (b_then BB4 hb7) (by simp; omega) _) (by simp; omega) _
        have hne : (⟨g, i * 4 + 2, none⟩ : Addr) ≠ ⟨g, i * 4 + 2 + 1, none⟩ := by intro e; injection e with _ e _; omega
        clear e2 e3 k2 k3
        cases hL : (s == 0) with
        | true =>
          rw [hL] at hput
          go_wp2_with (first
            | (go_at_call 48; (with_reducible refine (hS _ (hg.below hB8)).mono ?_); rintro e w9 ⟨rfl, hb9⟩; have own9 := own8.below hb9; have hs9 := hb9.size)
            | (go_at_call 112; (with_reducible refine (b_del w9 own9 (by omega) (by omega)).mono ?_); rintro e w10 ⟨v10, rfl, ho10, hb10⟩))
          go_ret2
          rw [HXS.out, set_mid (by exact hti), del_mid (by exact hti)] at ho10
          exact addPost_yes (by rw [hyes.out]; exact congrArg some hput) ho10 (by omega) ((b_then hB8 hb9).trans (b_mono2 hb10 (by omega)))
        | false =>
          rw [hL] at hput
          go_wp2_with (go_at_call 48; (with_reducible refine (hS _ (hg.below hB8)).mono ?_); rintro e w9 ⟨rfl, hb9⟩; have own9 := own8.below hb9)
          go_ret2
          rw [HXS.out, set_mid (by exact hti)] at own9
          exact addPost_yes (by rw [hyes.out]; exact congrArg some hput) own9 (by omega) (b_then hB8 hb9)
      | false =>
        rw [hkb2, hft] at hnob
        obtain ⟨hzz, hpz⟩ := hnob rfl
        obtain ⟨n1, n2⟩ := hp0.out (HP0.out hpz)
        rw [n1, n2] at hA
        clear hyesb hnob hkb hkb2
        have hti : (xs.take i).length = i := by rw [List.length_take]; omega
        obtain ⟨f0, f1, f2, f3⟩ := K3.four_
        go_wp2_with (go_at_call 43; (with_reducible refine (hC _ BB3).mono ?_); rintro e w4 ⟨v4, rfl, ho4, hb4⟩; revert ho4)
        intro ho4
        have K4 := K3.below hb4
        have BB4 := b_then BB3 hb4
        have hs4 := BB4.size
        have hl4 := K4.lt
        have hg4 : Glob w4 := hg.below BB4
        clear f0 f1 f2 f3 hC hp0 HP0 hpe n1 n2 hpz K3 hc1 hf1 hs1 hc2 hf2 hs2 hb1 hb2 hb3
        go_wp2_with fail
        have HZZ := Lib.hid hzz
        clear hzz
        obtain ⟨f0, f1, f2, f3⟩ := K4.four_
        have hlx : xs.length ≤ 1000000 := by omega
        have hilx : i ≤ xs.length := by omega
        go_region_with (first
          | (go_at_call 71; (with_reducible refine (hO w4.drew (hg4.below (Below.refl _ _).drew)).mono ?_); rintro e w5 ⟨rfl, hb5⟩; have K5 := (K4.drewN 1).below hb5; obtain ⟨m0, m1, m2, m3⟩ := K5.four_; have hl5 := K5.lt; have hs5 := hb5.size; have ho5 := ((ho4.drewN 1).below hb5).alloc (.cells #[.string a0, .string a1, .string (iS 0), .string (nS 1)] 46); have hne5 : v4.ownBlock ≠ some w5.heap.size := (fun e => Nat.lt_irrefl _ (((ho4.drewN 1).below hb5).lt _ e)); have B5 : Blk (w5.alloc (.cells #[.string a0, .string a1, .string (iS 0), .string (nS 1)] 46)) w5.heap.size 46 (Ln.cs ⟨a0, a1, ⟨iS 0, nS 1⟩⟩).toArray := Blk.new w5 _ _; have hq5 : w3.heap.size ≤ (w5.alloc (.cells #[.string a0, .string a1, .string (iS 0), .string (nS 1)] 46)).heap.size := (by have := hb4.size; simp; simp at hs5; omega); have K5a := K5.alloc (.cells #[.string a0, .string a1, .string (iS 0), .string (nS 1)] 46); have BB5 : Below w.heap.size w (w5.alloc (.cells #[.string a0, .string a1, .string (iS 0), .string (nS 1)] 46)) := b_alloc (b_then BB4.drew hb5) _)
          | (go_at_call 111; (with_reducible refine (b_ins _ ho5 hlx hq5 B5 hne5 hilx).mono ?_); rintro e w6 ⟨v6, rfl, ho6, hb6⟩))
        all_goals
          obtain ⟨g, cap, rfl⟩ := ho6.slice_ (by rw [List.length_append, List.length_cons]; omega)
          have hl6 : (xs.take i ++ ⟨a0, a1, ⟨iS 0, nS 1⟩⟩ :: xs.drop i).length = n + 1 := by simp; omega
          rw [hl6] at ho6 ⊢
          have K6 : Blk w6 w.heap.size 46 #[.string a0, .string a1, .string (iS q.num), .string (nS q.den)] := (hb6.block _ (by omega)).trans K5a
          have BB6 : Below w.heap.size w w6 := BB5.trans (b_mono2 hb6 (by omega))
          have hxi : (xs.take i ++ ⟨a0, a1, ⟨iS 0, nS 1⟩⟩ :: xs.drop i)[i]? = some ⟨a0, a1, ⟨iS 0, nS 1⟩⟩ := by rw [List.getElem?_append_right (by omega), hti, Nat.sub_self]; rfl
          have hb36 : w3.heap.size ≤ w6.heap.size := by have := hb6.size; omega
          clear K5 K5a m0 m1 m2 m3 ho5 hne5 B5 hq5 BB5 hl5 hs5 hb5 hb6 ho4 hO f0 f1 f2 f3 K4 BB4 hs4 hl4 hg4 hb4 hl6
          go_simp
          go_wp2_with fail
          have hgW : Glob w6 := hg.below BB6
          have e2 := fun y : After w6 => (Own.elem (ho6.below y.h) hxi).1
          have e3 := fun y : After w6 => (Own.elem (ho6.below y.h) hxi).2.1
          have k2 := fun y : After w6 => (K6.below y.h).four_.2.2.1
          have k3 := fun y : After w6 => (K6.below y.h).four_.2.2.2
          obtain ⟨_, _, _, _, hgl, hgb, hinl, hnc⟩ := Own.elem ho6 hxi
          have hsW := BB6.size
          have hkl := K6.lt
          (refine wp_region_ahead 12 (by kernel_rfl) (by kernel_rfl) ?_; simp only [List.take_succ_cons, List.take_zero, List.drop_succ_cons, List.drop_zero]; (repeat (first | go_big_quiet_skip | (go_big_quiet_want; go_big_quiet_op; first | go_big_quiet_on | (apply Exists.intro; refine ⟨fun _ => ?_, ?_⟩; (focus ((go_at_call 68; with_reducible exact Calls.after (hA _ (hgW.below (After.h _)))))); go_big_quiet_on)))); refine wpQuiet_nil ?_; rintro ⟨w7, hb7⟩; (try dsimp only); obtain ⟨hc7, hf7⟩ := bcell hb7; have hs7 := hb7.size; (try simp at hs7))
          have own7 := ho6.below hb7
          obtain ⟨r0, r1, r2, r3, hgl7, _⟩ := Own.elem own7 hxi
          have own8 := own7.setQ y0 y1 hxi
          have hB8 : Below w.heap.size w ((w7.setCell ⟨g, i * 4 + 2, none⟩ (.string y0)).setCell ⟨g, i * 4 + 3, none⟩ (.string y1)) := b_set (b_set (b_then BB6 hb7) (by simp; omega) _) (by simp; omega) _
          have hne : (⟨g, i * 4 + 2, none⟩ : Addr) ≠ ⟨g, i * 4 + 2 + 1, none⟩ := by intro e; injection e with _ e _; omega
          clear e2 e3 k2 k3
          cases hL : (s == 0) with
          | true =>
            rw [hL] at hput
            go_wp2_with (first
              | (go_at_call 48; (with_reducible refine (hS _ (hg.below hB8)).mono ?_); rintro e w9 ⟨rfl, hb9⟩; have own9 := own8.below hb9; have hs9 := hb9.size)
              | (go_at_call 112; (with_reducible refine (b_del w9 own9 (by omega) (by omega)).mono ?_); rintro e w10 ⟨v10, rfl, ho10, hb10⟩))
            go_ret2
            rw [set_mid (by exact hti), del_mid (by exact hti)] at ho10
            rw [← HZZ.out] at ho10; exact addPost_yes (by rw [hyes.out]; exact congrArg some hput) ho10 (by omega) ((b_then hB8 hb9).trans (b_mono2 hb10 (by omega)))
          | false =>
            rw [hL] at hput
            go_wp2_with (go_at_call 48; (with_reducible refine (hS _ (hg.below hB8)).mono ?_); rintro e w9 ⟨rfl, hb9⟩; have own9 := own8.below hb9)
            go_ret2
            rw [set_mid (by exact hti)] at own9
            rw [← HZZ.out] at own9; exact addPost_yes (by rw [hyes.out]; exact congrArg some hput) own9 (by omega) (b_then hB8 hb9)
end Go.Proofs.YtjdkbmlkplbmoaaGreatDoor

/- Walk of the fixed calls of the book's laws. -/
namespace Go.Proofs.YtjdkbmlkplbmoaaGreatDoor
open Go.RowKit
set_option linter.unusedVariables false
set_option linter.unusedSimpArgs false

theorem AddPost.rd {xs ys : List Ln} {l : Ln} {w w' : World} {e : Ending} (h : AddPost xs l w e w') (hb : badd xs l = some ys) {m : Nat} (hm : ys.length = m) : ∃ A c, e = .returned (.tuple #[.slice A m c, .bool true]) ∧ Rd Ln.cs 4 w' A m ys ∧ Below w.heap.size w w' := by
  obtain ⟨v, he, ho, hB⟩ := h
  rw [hb] at he ho
  obtain ⟨A, c, hv, hr⟩ := ho.rd Ln.cs_length
  subst hv
  rw [show (Option.getD (some ys) []) = ys from rfl, hm] at he hr
  exact ⟨A, c, he, hr, hB⟩
theorem AddPost.no {xs : List Ln} {l : Ln} {w w' : World} {e : Ending} (h : AddPost xs l w e w') (hb : badd xs l = none) : ∃ A c, e = .returned (.tuple #[.slice A 0 c, .bool false]) ∧ Below w.heap.size w w' := by
  obtain ⟨v, he, ho, hB⟩ := h
  rw [hb] at he ho
  obtain ⟨A, c, hv, hr⟩ := ho.rd Ln.cs_length
  subst hv
  exact ⟨A, c, he, hB⟩
def sAnn : ByteArray := ⟨#[97, 110, 110]⟩
def sX : ByteArray := ⟨#[120]⟩
def sIss : ByteArray := ⟨#[33, 105, 115, 115, 117, 101, 114]⟩
def sBob : ByteArray := ⟨#[98, 111, 98]⟩
def sAB : ByteArray := ⟨#[97, 32, 98]⟩
def lAnn : Ln := ⟨sAnn, sX, ⟨iS 3, nS 1⟩⟩
def lIss : Ln := ⟨sIss, sX, ⟨iS (-3), nS 1⟩⟩
theorem f6_add1 : badd [] lAnn = some [lAnn] := by decide +kernel
theorem f6_add2 : badd [lAnn] ⟨sAnn, sX, ⟨iS (-3), nS 1⟩⟩ = some [] := by decide +kernel
theorem f6_add3 : badd [lAnn] lIss = some [lIss, lAnn] := by decide +kernel
theorem f6_add4 : badd [lAnn] ⟨sAB, sX, ⟨iS 1, nS 1⟩⟩ = none := by decide +kernel
theorem f6_get1 : bget [lAnn] sAnn sX = ⟨iS 3, nS 1⟩ := by decide +kernel
theorem f6_get2 : bget [lAnn] sBob sX = ⟨iS 0, nS 1⟩ := by decide +kernel
theorem f6_tot : btotal [lIss, lAnn] sX = ⟨iS 0, nS 1⟩ := by decide +kernel
theorem f6_hold : (bholders [lIss, lAnn] sX).length = 2 := by decide +kernel
theorem f6_may : bmay [lIss, lAnn] = true := by decide +kernel
theorem f6_may0 : bmay [⟨⟨#[]⟩, ⟨#[]⟩, rzero⟩] = false := by decide +kernel
theorem f6_n1 : isName ⟨#[97, 49]⟩ = true := by decide +kernel
theorem f6_n2 : isName ⟨#[]⟩ = false := by decide +kernel
theorem f6_n3 : isName ⟨#[97, 33]⟩ = false := by decide +kernel
theorem f6_q (l : Ln) (h : l = lAnn ∨ l = lIss) : lnS l := by
  rcases h with rfl | rfl <;> exact ⟨by decide +kernel, by decide +kernel, by decide +kernel, by decide +kernel⟩
theorem f6_lq {l : Ln} (h : l = lAnn ∨ l = lIss) : lnq l := lnS_q (f6_q l h)
theorem f6_qs {xs : List Ln} (h : ∀ l ∈ xs, l = lAnn ∨ l = lIss) : ∀ l ∈ xs, lnq l := fun l hl => f6_lq (h l hl)
theorem iss_at {w wr : World} {A : Option Addr} (h : Rd Ln.cs 4 w A 2 [lIss, lAnn]) (hB : Below w.heap.size w wr) : ∃ ad, A = some ad ∧ wr.cell? ad = some (.string ⟨#[33, 105, 115, 115, 117, 101, 114]⟩) := by
  obtain ⟨ad, a0, a1, a2, a3, e, hx, hc⟩ := ln_at h hB (k := 0) (by omega)
  have := (hc ⟨wr, Below.refl _ _⟩).1
  obtain rfl : sIss = a0 := by simp [lIss] at hx; exact hx.1
  refine ⟨ad, e, ?_⟩
  simp [Addr.add] at this
  exact this
end Go.Proofs.YtjdkbmlkplbmoaaGreatDoor

/- Plain laws of books: what is added and taken again, two lines in any order, sizes, holders. -/
namespace Go.Proofs.YtjdkbmlkplbmoaaGreatDoor
open Go.RowKit
set_option linter.unusedVariables false
set_option linter.unusedSimpArgs false

theorem badd_yes {xs : List Ln} {l : Ln} (h : bmay xs = true) (hl : lone l = true) : badd xs l = some (bput xs l) := by unfold badd; rw [h, hl]; rfl
theorem bget_yes {xs : List Ln} {s a : ByteArray} (h : bmay xs = true) : bget xs s a = bgetL xs s a := by unfold bget; rw [h]; rfl
def lneg (l : Ln) : Ln := ⟨l.acct, l.asset, enc (-(dec l.q))⟩
theorem lone_neg {l : Ln} (h : lone l = true) : lone (lneg l) = true := by
  obtain ⟨h1, h2, _⟩ := lone_of h
  unfold lone lneg
  simp only [h1, h2, rmay_enc, Bool.and_self]
theorem radd_back {g q : RT} (hg : rmay g = true) (hq : rmay q = true) : radd (radd g q) (enc (-(dec q))) = g := by
  obtain ⟨x, rfl⟩ := rmay_of hg
  obtain ⟨y, rfl⟩ := rmay_of hq
  rw [dec_enc, radd_enc, radd_enc, Rat.add_assoc, Rat.add_neg_cancel, Rat.add_zero]
theorem radd_swap {g x y : RT} (hg : rmay g = true) (hx : rmay x = true) (hy : rmay y = true) : radd (radd g x) y = radd (radd g y) x := by
  obtain ⟨p, rfl⟩ := rmay_of hg
  obtain ⟨q, rfl⟩ := rmay_of hx
  obtain ⟨r, rfl⟩ := rmay_of hy
  rw [radd_enc, radd_enc, radd_enc, radd_enc, Rat.add_assoc, Rat.add_assoc, Rat.add_comm q r]
theorem back_same {xs : List Ln} {l : Ln} (hx : bmay xs = true) (hl : lone l = true) : bput (bput xs l) (lneg l) = xs :=
  bext (bput_may (bput_may hx hl) (lone_neg hl)) hx fun s a => by
    rw [bput_get (bput_may hx hl) (lone_neg hl), bput_get hx hl]
    show (if s = l.acct ∧ a = l.asset then _ else _) = _
    split
    · exact radd_back (bget_may hx _ _) (lone_of hl).2.2
    · rfl
theorem both_same {xs : List Ln} {l m : Ln} (hx : bmay xs = true) (hl : lone l = true) (hm : lone m = true) : bput (bput xs l) m = bput (bput xs m) l :=
  bext (bput_may (bput_may hx hl) hm) (bput_may (bput_may hx hm) hl) fun s a => by
    rw [bput_get (bput_may hx hl) hm, bput_get hx hl, bput_get (bput_may hx hm) hl, bput_get hx hm]
    by_cases h1 : s = l.acct ∧ a = l.asset
    · by_cases h2 : s = m.acct ∧ a = m.asset
      · rw [if_pos h1, if_pos h2, if_pos h1, if_pos h2]
        exact radd_swap (bget_may hx _ _) (lone_of hl).2.2 (lone_of hm).2.2
      · rw [if_pos h1, if_neg h2, if_pos h1, if_neg h2]
    · by_cases h2 : s = m.acct ∧ a = m.asset
      · simp only [if_neg h1, if_pos h2]
      · simp only [if_neg h1, if_neg h2]
theorem put_total {xs : List Ln} {l : Ln} (hx : bmay xs = true) (hl : lone l = true) : btotal (bput xs l) l.asset = enc (dtot xs l.asset + dec l.q) := by
  rw [btotal_enc (bput_may hx hl), bput_tot hx hl, dtot_one, if_pos rfl]
/-! ### Sizes -/
def lnB (k : Nat) (l : Ln) : Prop := l.acct.size ≤ 9000000000 ∧ l.asset.size ≤ 9000000000 ∧ l.q.num.size ≤ k ∧ l.q.den.size ≤ k
theorem lnB_mono {j k : Nat} {l : Ln} (h : lnB j l) (hk : j ≤ k) : lnB k l := ⟨h.1, h.2.1, Nat.le_trans h.2.2.1 hk, Nat.le_trans h.2.2.2 hk⟩
theorem lnB_S {k : Nat} {l : Ln} (h : lnB k l) (hk : k ≤ 1000000) : lnS l := lnB_mono h hk
theorem lnB_q {k : Nat} {l : Ln} (h : lnB k l) (hk : k ≤ 400000000) : lnq l := lnB_mono h hk
theorem lsmall_B {l : List Ln} (h : lsmall l = true) : (∀ f ∈ l, lnB 100 f) ∧ l.length ≤ 40 := by
  unfold lsmall at h
  rw [Bool.and_eq_true, List.all_eq_true, decide_eq_true_eq] at h
  refine ⟨fun f hf => ?_, h.2⟩
  have := h.1 f hf
  unfold lnsm at this
  simp only [Bool.and_eq_true, decide_eq_true_eq] at this
  exact ⟨by omega, by omega, by omega, by omega⟩
theorem rat_of {x : RT} {k : Nat} (h : rmay x = true) (h1 : x.num.size ≤ k) (h2 : x.den.size ≤ k) : ∃ p : Rat, x = enc p ∧ dec x = p ∧ rsmall k p := by
  obtain ⟨p, rfl⟩ := rmay_of h
  exact ⟨p, rfl, dec_enc p, rsmall_of h1 h2⟩
theorem enc_size {k : Nat} {p : Rat} (h : rsmall k p) : (enc p).num.size ≤ k + 1 ∧ (enc p).den.size ≤ k + 1 :=
  ⟨iS_sz h.1, by show (nS p.den).size ≤ _; rw [nS_size]; exact Nat.le_succ_of_le h.2⟩
theorem get_rat {k : Nat} {xs : List Ln} (hz : ∀ f ∈ xs, lnB k f) (hk : 1 ≤ k) (hm : bmay xs = true) (s a : ByteArray) : ∃ p : Rat, bgetL xs s a = enc p ∧ rsmall k p := by
  obtain ⟨p, hp⟩ := rmay_of (bget_may hm s a)
  refine ⟨p, hp, ?_⟩
  cases hf : xs.find? (lhit s a) with
  | none =>
    rw [bget_none hf] at hp
    rw [← enc_inj hp]
    exact rsmall_zero _ hk
  | some x =>
    obtain ⟨_, _, h1, h2⟩ := hz x (List.mem_of_find?_eq_some hf)
    rw [bget_some hf] at hp
    rw [hp] at h1 h2
    exact rsmall_of h1 h2
theorem put_B {j k : Nat} {xs : List Ln} {l : Ln} (hx : bmay xs = true) (hl : lone l = true) (hz : ∀ f ∈ xs, lnB j f) (hj : 1 ≤ j) (hf : lnB k l) : ∀ f ∈ bput xs l, lnB (j + k + 2) f := by
  obtain ⟨x, m, z, hb, _, _, _, hp⟩ := bput_cut hx hl
  intro f hm
  rw [hp, List.mem_append, List.mem_append] at hm
  have hxs : ∀ g ∈ xs, lnB (j + k + 2) g := fun g hg => lnB_mono (hz g hg) (by omega)
  rcases hm with hm | hm | hm
  · exact hxs f (by rw [hb]; simp [hm])
  · obtain ⟨p, h1, h2⟩ := get_rat hz hj hx l.acct l.asset
    obtain ⟨q, h3, _, h4⟩ := rat_of (lone_of hl).2.2 hf.2.2.1 hf.2.2.2
    rw [h1, h3, radd_enc] at hm
    split at hm
    · cases hm
    · rw [List.mem_singleton.1 hm]
      have := enc_size (rsmall_add h2 h4)
      exact ⟨hf.1, hf.2.1, this.1, this.2⟩
  · exact hxs f (by rw [hb]; simp [hm])
theorem put_len {xs : List Ln} {l : Ln} (hx : bmay xs = true) (hl : lone l = true) : (bput xs l).length ≤ xs.length + 1 := by
  obtain ⟨x, m, z, hb, _, _, _, hp⟩ := bput_cut hx hl
  rw [hp, hb]
  simp only [List.length_append]
  split
  · simp; omega
  · simp only [List.length_singleton]; omega
/-! ### Holders -/
theorem hold_get {xs : List Ln} {a : ByteArray} {x : Ln} (hm : bmay xs = true) (h : x ∈ bholders xs a) : bgetL xs x.acct a = x.q ∧ x.asset = a := by
  rw [bholders_yes hm] at h
  obtain ⟨h1, h2⟩ := List.mem_filter.1 h
  have h3 := ofAsset_iff.1 h2
  rw [← h3]
  exact ⟨bget_mem hm h1, rfl⟩
theorem hold_rise {xs : List Ln} {a : ByteArray} {x y : Ln} {i : Nat} (hm : bmay xs = true) (hx : (bholders xs a)[i]? = some x) (hy : (bholders xs a)[i + 1]? = some y) : slt x.acct y.acct = true := by
  have h1 := (hold_get hm (List.mem_of_getElem? hx)).2
  have h2 := (hold_get hm (List.mem_of_getElem? hy)).2
  have hp := (rises_pw.1 (bmay_rises hm)).filter (ofAsset a)
  rw [← bholders_yes hm] at hp
  obtain ⟨hi, rfl⟩ := List.getElem?_eq_some_iff.1 hx
  obtain ⟨hj, rfl⟩ := List.getElem?_eq_some_iff.1 hy
  have := List.pairwise_iff_getElem.1 hp i (i + 1) hi hj (by omega)
  rw [lahead_iff, h1, h2] at this
  rw [slt_iff]
  rcases this with h | ⟨_, h⟩
  · exact h
  · exact absurd h (List.lt_irrefl _)
/-- So many ones more for an account. -/
def ones (xs : List Ln) (l : Ln) : Nat → List Ln
  | 0 => xs
  | n + 1 => bput (ones xs l n) l
theorem ones_may {xs : List Ln} {l : Ln} (hx : bmay xs = true) (hl : lone l = true) : ∀ n, bmay (ones xs l n) = true
  | 0 => hx
  | n + 1 => bput_may (ones_may hx hl n) hl
theorem ones_len {xs : List Ln} {l : Ln} (hx : bmay xs = true) (hl : lone l = true) : ∀ n, (ones xs l n).length ≤ xs.length + n
  | 0 => Nat.le_refl _
  | n + 1 => by
    have h1 := put_len (ones_may hx hl n) hl
    have h2 := ones_len hx hl n
    show (bput (ones xs l n) l).length ≤ _
    omega
theorem ones_B {xs : List Ln} {l : Ln} {j k : Nat} (hx : bmay xs = true) (hl : lone l = true) (hz : ∀ f ∈ xs, lnB j f) (hj : 1 ≤ j) (hf : lnB k l) : ∀ n, ∀ f ∈ ones xs l n, lnB (j + n * (k + 2)) f
  | 0 => fun f h => lnB_mono (hz f h) (by omega)
  | n + 1 => fun f h => by
    have := put_B (ones_may hx hl n) hl (ones_B hx hl hz hj hf n) (by omega) hf f h
    exact lnB_mono this (by rw [Nat.add_mul]; omega)
theorem ones_get {xs : List Ln} {l : Ln} {p q : Rat} (hx : bmay xs = true) (hl : lone l = true) (hp : bgetL xs l.acct l.asset = enc p) (hq : l.q = enc q) : ∀ n, bgetL (ones xs l n) l.acct l.asset = enc (p + (n : Rat) * q)
  | 0 => by show bgetL xs l.acct l.asset = _; rw [hp]; congr 1; simp [Rat.zero_mul, Rat.add_zero]
  | n + 1 => by
    show bgetL (bput (ones xs l n) l) l.acct l.asset = _
    rw [bput_get (ones_may hx hl n) hl, if_pos ⟨rfl, rfl⟩, ones_get hx hl hp hq n, hq, radd_enc]
    congr 1
    rw [show ((n + 1 : Nat) : Rat) = (n : Rat) + 1 by simp, Rat.add_mul, Rat.one_mul, Rat.add_assoc]
end Go.Proofs.YtjdkbmlkplbmoaaGreatDoor

/- What the laws of books take: one line, Add and Holders in their words. -/
namespace Go.Proofs.YtjdkbmlkplbmoaaGreatDoor
open Go.RowKit
set_option linter.unusedVariables false
set_option linter.unusedSimpArgs false

theorem ln1_at {a b : Ln} {i : Nat} (h : [a][i]? = some b) : i = 0 ∧ a = b := by
  cases i with
  | zero => exact ⟨rfl, by simpa using h⟩
  | succ i => simp at h
theorem ln_one (w : World) (f : Ln) : Rd Ln.cs 4 (w.alloc (.cells (Ln.cs f).toArray 46)) (some ⟨w.heap.size, 0, none⟩) 1 [f] :=
  ⟨rfl, by omega, fun _ => ⟨_, rfl, by simp, fun j x hj i u hu => by
    obtain ⟨rfl, rfl⟩ := ln1_at hj
    rw [Nat.zero_mul, Nat.zero_add, add_lit4]
    exact (Blk.cell (Blk.new w _ _) _).trans (by simpa using hu)⟩⟩
/-- What Add gives, in the law's words. -/
def AddIs (ys : List Ln) (m : Nat) (b : Bool) (w : World) (e : Ending) (w' : World) : Prop := ∃ B k, e = .returned (.tuple #[.slice B m k, .bool b]) ∧ Rd Ln.cs 4 w' B m ys ∧ Below w.heap.size w w'
theorem AddPost.is_ {xs : List Ln} {f : Ln} {w w' : World} {e : Ending} {ys : List Ln} {m : Nat} {b : Bool} (h : AddPost xs f w e w') (hy : (badd xs f).getD [] = ys) (hm : ys.length = m) (hb : (badd xs f).isSome = b) : AddIs ys m b w e w' := by
  obtain ⟨v, he, ho, hB⟩ := h
  rw [hy] at ho
  rw [hb] at he
  obtain ⟨B, k, hv, hr⟩ := ho.rd Ln.cs_length
  subst hm
  subst hv
  exact ⟨B, k, he, hr, hB⟩
def HoldIs (ys : List Ln) (m : Nat) (w : World) (e : Ending) (w' : World) : Prop := ∃ B k, e = .returned (.slice B m k) ∧ Rd Ln.cs 4 w' B m ys ∧ Below w.heap.size w w'
theorem HoldPost.is_ {xs : List Ln} {a : ByteArray} {w w' : World} {e : Ending} {ys : List Ln} {m : Nat} (h : HoldPost xs a w e w') (hy : bholders xs a = ys) (hm : ys.length = m) : HoldIs ys m w e w' := by
  obtain ⟨v, he, ho, hB⟩ := h
  rw [hy] at ho
  obtain ⟨B, k, hv, hr⟩ := ho.rd Ln.cs_length
  subst hm
  subst hv
  exact ⟨B, k, he, hr, hB⟩
theorem lsmall_S {l : List Ln} (h : lsmall l = true) : (∀ f ∈ l, lnS f) ∧ l.length ≤ 40 := by
  unfold lsmall at h
  rw [Bool.and_eq_true, List.all_eq_true, decide_eq_true_eq] at h
  refine ⟨fun f hf => ?_, h.2⟩
  have := h.1 f hf
  unfold lnsm at this
  simp only [Bool.and_eq_true, decide_eq_true_eq] at this
  exact ⟨by omega, by omega, by omega, by omega⟩
end Go.Proofs.YtjdkbmlkplbmoaaGreatDoor
