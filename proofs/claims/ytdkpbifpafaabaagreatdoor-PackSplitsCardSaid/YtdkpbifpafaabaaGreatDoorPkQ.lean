/- PackSplits: the walk (given the fixed calls). -/
import Derived.Test.YtdkpbifpafaabaaGreatDoorPkN
namespace Go.Proofs.YtdkpbifpafaabaaGreatDoor
open Go.RowKit
set_option linter.unusedVariables false
set_option linter.unusedSimpArgs false

def a1S : ByteArray := ⟨#[97, 49]⟩
def sNo : ByteArray := ⟨#[]⟩
def spA (r : RT) : Ac := ⟨a1S, 0, xS, sNo, r, enc 0, 0, 0, 0⟩
def spB (r : RT) : Ac := ⟨a1S, 1, xS, sNo, r, enc 0, 0, 0, 0⟩
def spC (r : RT) : Ac := ⟨a1S, 2, xS, sNo, enc 0, r, 0, 0, 0⟩
theorem a1_name : isName a1S = true := by decide +kernel
theorem x_asset : aasset xS = true := by decide +kernel
theorem zero_no (least : Int) : anum (enc 0) false least = true := by unfold anum; rw [if_neg (by simp)]; decide +kernel
theorem aother_no {a : Ac} (h : a.kind < 3) (ho : a.other = sNo) : aother a = true := by
  unfold aother
  rw [if_neg (by unfold aoth; simpa using h), ho]
  decide +kernel
structure Sp (r : Rat) : Prop where
  pos : 0 < r
  num : (iS r.num).size ≤ 20
  den : (nS r.den).size ≤ 20
theorem Sp.anum {r : Rat} (h : Sp r) : anum (enc r) true 1 = true := anum_mk (rmay_enc r) (by have := rsign_of_pos h.pos; omega) h.num h.den
theorem spA_may {r : Rat} (h : Sp r) : amay (spA (enc r)) = true := amay_mk ⟨by show (0 : Int) ≤ 0; decide, by show (0 : Int) ≤ 4; decide, a1_name, x_asset, rfl, aother_no (by show (0 : Int) < 3; decide) rfl, h.anum, zero_no _⟩
theorem spB_may {r : Rat} (h : Sp r) : amay (spB (enc r)) = true := amay_mk ⟨by show (0 : Int) ≤ 1; decide, by show (1 : Int) ≤ 4; decide, a1_name, x_asset, rfl, aother_no (by show (1 : Int) < 3; decide) rfl, h.anum, zero_no _⟩
theorem spC_may {r : Rat} (h : Sp r) : amay (spC (enc r)) = true := amay_mk ⟨by show (0 : Int) ≤ 2; decide, by show (2 : Int) ≤ 4; decide, a1_name, x_asset, rfl, aother_no (by show (2 : Int) < 3; decide) rfl, zero_no _, h.anum⟩
theorem spA_L {r : Rat} (h : Sp r) : pofL (spA (enc r)) = [⟨xS, enc r⟩] := pofL_0 (spA_may h) rfl
theorem spB_L {r : Rat} (h : Sp r) : pofL (spB (enc r)) = [⟨xS, enc (1 + r)⟩] := by rw [pofL_1 (spB_may h) rfl]; show [(⟨xS, radd (enc 1) (enc r)⟩ : Pt)] = _; rw [radd_enc]
theorem spC_L {r : Rat} (h : Sp r) : pofL (spC (enc r)) = [⟨xS, enc 1⟩] := pofL_2 (spC_may h) rfl
theorem sp_one {a c p : Rat} (ha : 0 < a) : pval [⟨xS, enc a⟩] (enc c) [⟨xS, 0, enc p⟩] 0 = some (enc (c + a * p)) := by
  have hk : pkmay [⟨xS, enc a⟩] (enc c) = true := pkmay_one (pone_mk (show isName xS = true by decide +kernel) (rmay_enc a) (by dsimp only; rw [dec_enc]; exact ha)) (rmay_enc c)
  have h := pval_tab (m := [enc p]) hk rfl (fun q hq => by rw [List.mem_singleton.1 hq]; exact rmay_enc p)
  have e1 : ptab [⟨xS, enc a⟩] [enc p] = [⟨xS, 0, enc p⟩] := by unfold ptab; unfold ptab; rfl
  have e2 : dotq [⟨xS, enc a⟩] [enc p] = a * p := by show dec (enc a) * dec (enc p) + 0 = a * p; rw [dec_enc, dec_enc]; grind
  rw [e1, e2] at h
  exact h
theorem Sp.small {r : Rat} (h : Sp r) : rsmall 20 r := rsmall_of (q := r) h.num h.den
theorem one_small : rsmall 1 (1 : Rat) := ⟨by show ndg (1 : Int).natAbs ≤ _; rw [show (1 : Int).natAbs = 1 from rfl, ndg_small (by omega)]; omega, by show ndg 1 ≤ _; rw [ndg_small (by omega)]; omega⟩
theorem rsmall_sz {k : Nat} {q : Rat} (h : rsmall k q) : (iS q.num).size ≤ k + 1 ∧ (nS q.den).size ≤ k := ⟨iS_sz h.1, by rw [nS_size]; exact h.2⟩
theorem act_size (W : World) : (Go.sizeOf 25).run Tryz.prog W = .ok 11 W := Tryz.sizeOf25 W
theorem act_one {n k a o r0 r1 c0 c1 : Value} {x y z : Value} (h : n.oneCell' = true ∧ k.oneCell' = true ∧ a.oneCell' = true ∧ o.oneCell' = true ∧ r0.oneCell' = true ∧ r1.oneCell' = true ∧ c0.oneCell' = true ∧ c1.oneCell' = true ∧ x.oneCell' = true ∧ y.oneCell' = true ∧ z.oneCell' = true) : ∀ v ∈ [n, k, a, o, r0, r1, c0, c1, x, y, z], v.oneCell' = true := by
  intro v hv
  simp only [List.mem_cons, List.not_mem_nil, or_false] at hv
  obtain ⟨h1, h2, h3, h4, h5, h6, h7, h8, h9, h10, h11⟩ := h
  rcases hv with rfl | rfl | rfl | rfl | rfl | rfl | rfl | rfl | rfl | rfl | rfl <;> assumption
set_option maxRecDepth 100000 in
set_option maxHeartbeats 4000000 in
theorem l_splits_no (HF : Fixed16Ok) (x0 x1 y0 y1 : ByteArray) (w : World) (hg : Glob w) (hbad : ¬ (x0.size ≤ 20 ∧ x1.size ≤ 20 ∧ y0.size ≤ 20 ∧ y1.size ≤ 20 ∧ rmay ⟨y0, y1⟩ = true ∧ rmay ⟨x0, x1⟩ = true ∧ 0 < rsign ⟨x0, x1⟩)) :
    Calls Tryz.prog 6 #[.agg #[.string x0, .string x1], .agg #[.string y0, .string y1]] w fun e w' => e = .returned (.bool true) ∧ Below w.heap.size w w' := by
  have hF := fun W (h : Below w.heap.size w W) => HF W (hg.below h)
  have hM2 := fun W (h1 : y0.size ≤ 900000000) (h2 : y1.size ≤ 900000000) => r3_may y0 y1 W h1 h2
  have hM1 := fun W (h1 : x0.size ≤ 900000000) (h2 : x1.size ≤ 900000000) => r3_may x0 x1 W h1 h2
  have hS := fun W (h1 : x0.size ≤ 900000000) (h2 : x1.size ≤ 900000000) => r3_sign x0 x1 W h1 h2
  have HB := Lib.hid hbad
  clear hbad
  go_enter Tryz.func6, Tryz.ntmps6
  go_wp2_with (first
    | (go_at_call 16; (with_reducible refine (hF w5 (by repeat (first | exact Below.refl _ _ | assumption | refine b_then ?_ (by assumption) | refine b_alloc ?_ _ | refine b_drewN ?_ _ | refine Below.drew ?_ | refine b_set ?_ (by first | exact Nat.le_refl _ | (simp; done) | (simp; omega) | omega) _))).mono ?_); rintro e w6 ⟨rfl, hb6⟩)
    | (go_at_call 16; (with_reducible refine (hF w4 (by repeat (first | exact Below.refl _ _ | assumption | refine b_then ?_ (by assumption) | refine b_alloc ?_ _ | refine b_drewN ?_ _ | refine Below.drew ?_ | refine b_set ?_ (by first | exact Nat.le_refl _ | (simp; done) | (simp; omega) | omega) _))).mono ?_); rintro e w6 ⟨rfl, hb6⟩)
    | (go_at_call 16; (with_reducible refine (hF w3 (by repeat (first | exact Below.refl _ _ | assumption | refine b_then ?_ (by assumption) | refine b_alloc ?_ _ | refine b_drewN ?_ _ | refine Below.drew ?_ | refine b_set ?_ (by first | exact Nat.le_refl _ | (simp; done) | (simp; omega) | omega) _))).mono ?_); rintro e w6 ⟨rfl, hb6⟩)
    | (go_at_call 16; (with_reducible refine (hF w1 (by repeat (first | exact Below.refl _ _ | assumption | refine b_then ?_ (by assumption) | refine b_alloc ?_ _ | refine b_drewN ?_ _ | refine Below.drew ?_ | refine b_set ?_ (by first | exact Nat.le_refl _ | (simp; done) | (simp; omega) | omega) _))).mono ?_); rintro e w6 ⟨rfl, hb6⟩)
    | (go_at_call 16; (with_reducible refine (hF _ (by repeat (first | exact Below.refl _ _ | assumption | refine b_then ?_ (by assumption) | refine b_alloc ?_ _ | refine b_drewN ?_ _ | refine Below.drew ?_ | refine b_set ?_ (by first | exact Nat.le_refl _ | (simp; done) | (simp; omega) | omega) _))).mono ?_); rintro e w1 ⟨rfl, hb1⟩; obtain ⟨hc1, hf1⟩ := bcell hb1; have hs1 := hb1.size; (try simp at hs1); have hq1 : w.heap.size + 1 < w1.heap.size := (by omega); have hv1 : w.heap.size < w1.heap.size := (by omega))
    | (go_at_call 26; (with_reducible refine (hM2 _ (by omega) (by omega)).mono ?_); rintro e w3 ⟨rfl, hb3⟩; obtain ⟨hc3, hf3⟩ := bcell hb3; have hs3 := hb3.size; (try simp at hs3); have hq3 : w.heap.size + 1 < w3.heap.size := (by omega); have hv3 : w.heap.size < w3.heap.size := (by omega))
    | (go_at_call 26; (with_reducible refine (hM1 _ (by omega) (by omega)).mono ?_); rintro e w4 ⟨rfl, hb4⟩; obtain ⟨hc4, hf4⟩ := bcell hb4; have hs4 := hb4.size; (try simp at hs4); have hq4 : w.heap.size + 1 < w4.heap.size := (by omega); have hv4 : w.heap.size < w4.heap.size := (by omega))
    | (go_at_call 30; (with_reducible refine (hS _ (by omega) (by omega)).mono ?_); rintro e w5 ⟨rfl, hb5⟩; obtain ⟨hc5, hf5⟩ := bcell hb5; have hs5 := hb5.size; (try simp at hs5); have hq5 : w.heap.size + 1 < w5.heap.size := (by omega); have hv5 : w.heap.size < w5.heap.size := (by omega)))
  all_goals first
    | (go_ret; exact ⟨rfl, (by repeat (first | exact Below.refl _ _ | assumption | refine b_then ?_ (by assumption) | refine b_alloc ?_ _ | refine b_drewN ?_ _ | refine Below.drew ?_ | refine b_set ?_ (by first | exact Nat.le_refl _ | (simp; done) | (simp; omega) | omega) _))⟩)
    | (exfalso; exact HB.out ⟨by omega, by omega, by omega, by omega, by assumption, by assumption, by omega⟩)
def ValIs (z : Rat) (w : World) (e : Ending) (w' : World) : Prop := e = .returned (.tuple #[.agg #[.string (iS z.num), .string (nS z.den)], .bool true]) ∧ Below w.heap.size w w'
theorem of_sp {a : Ac} {L : List Pt} {c0 c1 : ByteArray} (hm : amay a = true) (hL : pofL a = L) (hl : L.length = 1) (hc : a.cash = ⟨c0, c1⟩) (hsz : a.name.size ≤ 100 ∧ a.asset.size ≤ 100 ∧ a.other.size ≤ 100 ∧ a.ratio.num.size ≤ 100 ∧ a.ratio.den.size ≤ 100 ∧ a.cash.num.size ≤ 100 ∧ a.cash.den.size ≤ 100) (W : World) (hg : Glob W) :
    Calls Tryz.prog 20 #[.agg (Ac.cs a).toArray] W (PackOf L 1 c0 c1 W) :=
  (p_of a.name a.kind a.asset a.other a.ratio.num a.ratio.den a.cash.num a.cash.den a.ex a.rcd a.pay W hg (by omega) (by omega) (by omega) (by omega) (by omega) (by omega) (by omega)).mono fun e w' he => by
    have h' : PackIs (pofL a) (pofC a) W e w' := he
    rw [hL] at h'
    exact h'.of hl ((pofC_yes hm).trans hc)
theorem val_sp {a c p z : Rat} (ha : 0 < a) (hz : c + a * p = z) (ha2 : rsmall 100 a) (hc2 : rsmall 100 c) (hp2 : rsmall 100 p) (B : Option Addr) (k g : Nat) (W : World) (hg : Glob W) (hr : Rd Pt.cs 3 W B 1 [⟨xS, enc a⟩]) (hf : Rd Fx.cs 4 W (some ⟨g, 0, none⟩) 1 [⟨xS, 0, enc p⟩]) :
    Calls Tryz.prog 17 #[.agg #[.slice B 1 k, .string (iS c.num), .string (nS c.den)], .slice (some ⟨g, 0, none⟩) 1 1, .int .i64 0] W (ValIs z W) :=
  (p_value (cf := 1) (iS c.num) (nS c.den) 0 W hg hr (by omega) (fun x hx => by
      rw [List.mem_singleton.1 hx]
      have := rsmall_sz ha2
      exact ⟨by show xS.size ≤ _; decide, by show (iS a.num).size ≤ _; omega, by show (nS a.den).size ≤ _; omega⟩) (by have := (rsmall_sz hc2).1; omega) (by have := (rsmall_sz hc2).2; omega) hf (by omega) (fun x hx => by
      rw [List.mem_singleton.1 hx]
      have := rsmall_sz hp2
      exact ⟨by show xS.size ≤ _; decide, by show (iS p.num).size ≤ _; omega, by show (nS p.den).size ≤ _; omega⟩)).mono fun e w' he => by
    have hv : pval [⟨xS, enc a⟩] ⟨iS c.num, nS c.den⟩ [⟨xS, 0, enc p⟩] 0 = some (enc z) := by rw [← hz]; exact sp_one ha
    rw [hv] at he
    exact he
set_option maxRecDepth 100000 in
set_option maxHeartbeats 8000000 in
theorem l_splits_yes (HF : Fixed16Ok) (r p : Rat) (w : World) (hg : Glob w) (hs : Sp r) (hp1 : (iS p.num).size ≤ 20) (hp2 : (nS p.den).size ≤ 20) :
    Calls Tryz.prog 6 #[.agg #[.string (iS r.num), .string (nS r.den)], .agg #[.string (iS p.num), .string (nS p.den)]] w fun e w' => e = .returned (.bool true) ∧ Below w.heap.size w w' := by
  have hF := fun W (h : Below w.heap.size w W) => HF W (hg.below h)
  have hr1 := hs.num
  have hr2 := hs.den
  have hrs := hs.small
  have hps : rsmall 20 p := rsmall_of (q := p) hp1 hp2
  have hM2 := fun W => r3_may (iS p.num) (nS p.den) W (by omega) (by omega)
  rw [show rmay ⟨iS p.num, nS p.den⟩ = true from rmay_enc p] at hM2
  have hM1 := fun W => r3_may (iS r.num) (nS r.den) W (by omega) (by omega)
  rw [show rmay ⟨iS r.num, nS r.den⟩ = true from rmay_enc r] at hM1
  have hS := fun W => r3_sign (iS r.num) (nS r.den) W (by omega) (by omega)
  rw [show rsign ⟨iS r.num, nS r.den⟩ = 1 from (rsign_enc r).trans (Int.sign_eq_one_of_pos (num_pos_iff.2 hs.pos))] at hS
  have h0 : ∀ W, Calls Tryz.prog 28 #[.int .i64 0] W fun e w' => e = .returned (.agg #[.string ⟨#[48]⟩, .string ⟨#[49]⟩]) ∧ Below W.heap.size W w' := fun W => r3_of 0 W (by omega) (by omega)
  have z100 : rsmall 100 (0 : Rat) := ⟨by show ndg (0 : Int).natAbs ≤ _; rw [show (0 : Int).natAbs = 0 from rfl, ndg_small (by omega)]; omega, by show ndg 1 ≤ _; rw [ndg_small (by omega)]; omega⟩
  have e1s : (enc 1).num.size ≤ 100 ∧ (enc 1).den.size ≤ 100 := ⟨by decide, by decide⟩
  have e0s : (enc 0).num.size ≤ 100 ∧ (enc 0).den.size ≤ 100 := ⟨by decide, by decide⟩
  have er : (enc r).num.size ≤ 100 ∧ (enc r).den.size ≤ 100 := ⟨by show (iS r.num).size ≤ _; omega, by show (nS r.den).size ≤ _; omega⟩
  have hOA : ∀ W, Below w.heap.size w W → Calls Tryz.prog 20 #[.agg #[.string ⟨#[97, 49]⟩, .int .i64 0, .string ⟨#[120]⟩, .string ⟨#[]⟩, .string (iS r.num), .string (nS r.den), .string ⟨#[48]⟩, .string ⟨#[49]⟩, .int .i64 0, .int .i64 0, .int .i64 0]] W (PackOf [⟨xS, enc r⟩] 1 ⟨#[48]⟩ ⟨#[49]⟩ W) := fun W h => of_sp (a := spA (enc r)) (spA_may hs) (spA_L hs) rfl rfl ⟨by show a1S.size ≤ 100; decide, by show xS.size ≤ 100; decide, by show sNo.size ≤ 100; decide, er.1, er.2, e0s.1, e0s.2⟩ W (hg.below h)
  have hOB : ∀ W, Below w.heap.size w W → Calls Tryz.prog 20 #[.agg #[.string ⟨#[97, 49]⟩, .int .i64 1, .string ⟨#[120]⟩, .string ⟨#[]⟩, .string (iS r.num), .string (nS r.den), .string ⟨#[48]⟩, .string ⟨#[49]⟩, .int .i64 0, .int .i64 0, .int .i64 0]] W (PackOf [⟨xS, enc (1 + r)⟩] 1 ⟨#[48]⟩ ⟨#[49]⟩ W) := fun W h => of_sp (a := spB (enc r)) (spB_may hs) (spB_L hs) rfl rfl ⟨by show a1S.size ≤ 100; decide, by show xS.size ≤ 100; decide, by show sNo.size ≤ 100; decide, er.1, er.2, e0s.1, e0s.2⟩ W (hg.below h)
  have hOC : ∀ W, Below w.heap.size w W → Calls Tryz.prog 20 #[.agg #[.string ⟨#[97, 49]⟩, .int .i64 2, .string ⟨#[120]⟩, .string ⟨#[]⟩, .string ⟨#[48]⟩, .string ⟨#[49]⟩, .string (iS r.num), .string (nS r.den), .int .i64 0, .int .i64 0, .int .i64 0]] W (PackOf [⟨xS, enc 1⟩] 1 (iS r.num) (nS r.den) W) := fun W h => of_sp (a := spC (enc r)) (spC_may hs) (spC_L hs) rfl rfl ⟨by show a1S.size ≤ 100; decide, by show xS.size ≤ 100; decide, by show sNo.size ≤ 100; decide, e0s.1, e0s.2, er.1, er.2⟩ W (hg.below h)
  have r100 := rsmall_mono hrs (show 20 ≤ 100 by omega)
  have p100 := rsmall_mono hps (show 20 ≤ 100 by omega)
  have q100 : rsmall 100 (1 + r) := rsmall_mono (rsmall_add one_small hrs) (by omega)
  have hVA : ∀ B k g W, Below w.heap.size w W → Rd Pt.cs 3 W B 1 [⟨xS, enc r⟩] → Rd Fx.cs 4 W (some ⟨g, 0, none⟩) 1 [⟨xS, 0, enc p⟩] → Calls Tryz.prog 17 #[.agg #[.slice B 1 k, .string ⟨#[48]⟩, .string ⟨#[49]⟩], .slice (some ⟨g, 0, none⟩) 1 1, .int .i64 0] W (ValIs (r * p) W) := fun B k g W h hr hf => val_sp (c := 0) (z := r * p) hs.pos (by grind) r100 z100 p100 B k g W (hg.below h) hr hf
  have hVB : ∀ B k g W, Below w.heap.size w W → Rd Pt.cs 3 W B 1 [⟨xS, enc (1 + r)⟩] → Rd Fx.cs 4 W (some ⟨g, 0, none⟩) 1 [⟨xS, 0, enc p⟩] → Calls Tryz.prog 17 #[.agg #[.slice B 1 k, .string ⟨#[48]⟩, .string ⟨#[49]⟩], .slice (some ⟨g, 0, none⟩) 1 1, .int .i64 0] W (ValIs (r * p + p) W) := fun B k g W h hr hf => val_sp (c := 0) (z := r * p + p) (add_pos_one hs.pos) (by grind) q100 z100 p100 B k g W (hg.below h) hr hf
  have hVC : ∀ B k g W, Below w.heap.size w W → Rd Pt.cs 3 W B 1 [⟨xS, enc 1⟩] → Rd Fx.cs 4 W (some ⟨g, 0, none⟩) 1 [⟨xS, 0, enc p⟩] → Calls Tryz.prog 17 #[.agg #[.slice B 1 k, .string (iS r.num), .string (nS r.den)], .slice (some ⟨g, 0, none⟩) 1 1, .int .i64 0] W (ValIs (p + r) W) := fun B k g W h hr hf => val_sp (c := r) (a := 1) (z := p + r) (by decide +kernel) (by grind) (rsmall_mono one_small (by omega)) r100 p100 B k g W (hg.below h) hr hf
  have hMu := fun W => r3_mul r p W (rsmall_mono hrs (by omega)) (rsmall_mono hps (by omega))
  have hA1 := fun W => r3_add (r * p) p W (rsmall_mono (rsmall_mul hrs hps) (by omega)) (rsmall_mono hps (by omega))
  have hA2 := fun W => r3_add p r W (rsmall_mono hps (by omega)) (rsmall_mono hrs (by omega))
  simp only [enc_v] at hMu hA1 hA2
  unfold ValIs at hVA hVB hVC
  generalize p + r = t at *
  generalize r * p + p = v at *
  generalize r * p = u at *
  have g1 : ¬ (20 : Int) < ((iS r.num).size : Int) := by omega
  have g2 : ¬ (20 : Int) < ((nS r.den).size : Int) := by omega
  have g3 : ¬ (20 : Int) < ((iS p.num).size : Int) := by omega
  have g4 : ¬ (20 : Int) < ((nS p.den).size : Int) := by omega
  clear hs hr1 hr2 hrs hps r100 p100 q100 z100 e1s e0s er
  go_enter Tryz.func6, Tryz.ntmps6
  have bR0 : Blk ((w.alloc (.cells #[.string (iS r.num), .string (nS r.den)] 23)).alloc (.cells #[.string (iS p.num), .string (nS p.den)] 23)) w.heap.size 23 #[.string (iS r.num), .string (nS r.den)] := (Blk.new w _ _).alloc _
  have bP0 : Blk ((w.alloc (.cells #[.string (iS r.num), .string (nS r.den)] 23)).alloc (.cells #[.string (iS p.num), .string (nS p.den)] 23)) (w.heap.size + 1) 23 #[.string (iS p.num), .string (nS p.den)] := Blk.new2 w _ _ _
  have BR := Lib.hid bR0
  have BP := Lib.hid bP0
  clear bR0 bP0
  go_wp2_with (first
    | (go_at_call 16; (with_reducible refine (hF _ (by repeat (first | exact Below.refl _ _ | assumption | refine b_then ?_ (by assumption) | refine b_alloc ?_ _ | refine b_drewN ?_ _ | refine Below.drew ?_ | refine b_set ?_ (by first | exact Nat.le_refl _ | (simp; done) | (simp; omega) | omega) _))).mono ?_); rintro e w1 ⟨rfl, hb1⟩; obtain ⟨hc1, hf1⟩ := bcell hb1; have hs1 := hb1.size; (try simp at hs1); have hq1 : w.heap.size + 1 < w1.heap.size := (by omega); have hv1 : w.heap.size < w1.heap.size := (by omega))
    | (go_at_call 26; (with_reducible refine (hM2 _).mono ?_); rintro e w3 ⟨rfl, hb3⟩; obtain ⟨hc3, hf3⟩ := bcell hb3; have hs3 := hb3.size; (try simp at hs3); have hq3 : w.heap.size + 1 < w3.heap.size := (by omega); have hv3 : w.heap.size < w3.heap.size := (by omega))
    | (go_at_call 26; (with_reducible refine (hM1 _).mono ?_); rintro e w4 ⟨rfl, hb4⟩; obtain ⟨hc4, hf4⟩ := bcell hb4; have hs4 := hb4.size; (try simp at hs4); have hq4 : w.heap.size + 1 < w4.heap.size := (by omega); have hv4 : w.heap.size < w4.heap.size := (by omega))
    | (go_at_call 30; (with_reducible refine (hS _).mono ?_); rintro e w5 ⟨rfl, hb5⟩; obtain ⟨hc5, hf5⟩ := bcell hb5; have hs5 := hb5.size; (try simp at hs5)))
  have hB5 : Below w.heap.size w w5 := b_then (b_then (b_then (b_then (b_alloc (b_alloc (Below.refl _ _) _) _) hb1) hb3) hb4) hb5
  have bR := (((BR.out.below hb1).below hb3).below hb4).below hb5
  have bP := (((BP.out.below hb1).below hb3).below hb4).below hb5
  clear hb1 hc1 hf1 hs1 hq1 hv1 hb3 hc3 hf3 hs3 hq3 hv3 hb4 hc4 hf4 hs4 hq4 hv4 hb5 hc5 hf5 hs5 BR BP hF hM1 hM2 hS
  have k0 := fun (x : After w5) (y : After x.W) => (bR.below (b_then x.h y.h)).cell 0
  have k1 := fun (x : After w5) (y : After x.W) => (bR.below (b_then x.h y.h)).cell 1
  simp at k0 k1
  (refine wp_region_srcv 4 3 5 (fun p => .pointer p.1) (fun B k W => ∃ g, B = some ⟨g, 0, none⟩ ∧ Blk W g 25 #[.string ⟨#[]⟩, .int .i64 0, .string ⟨#[]⟩, .string ⟨#[]⟩, .string ⟨#[]⟩, .string ⟨#[]⟩, .string ⟨#[]⟩, .string ⟨#[]⟩, .int .i64 0, .int .i64 0, .int .i64 0] ∧ w5.heap.size ≤ g) ?srcA6 (by kernel_rfl) (fun pp => by kernel_rfl) (fun pp x => ?srcH6) ⟨by kernel_rfl, by kernel_rfl, by decide, by decide, ?srcK6, ?srcS6, ?srcG6, ?srcQ6⟩; (case srcH6 => (simp only [srcl, List.modify_succ_cons, List.modify_zero_cons, repV, List.take_succ_cons, List.take_zero]; (have hxs := x.h.size); (try simp at hxs); (repeat (first | go_big_quiet_skip | (go_big_quiet_want; go_big_quiet_op; first | go_big_quiet_on | (apply Exists.intro; refine ⟨fun _ => ?_, ?_⟩; (focus ((go_at_call 28; with_reducible exact Calls.after (h0 _)))); go_big_quiet_on)))); refine wpQuiet_nil ?_; rfl)); (case srcK6 => (intro pp; refine ⟨_, rfl, rfl, fun a W hW hgv => ?_⟩; exact srcv_alloc rfl rfl rfl (by simp [execOp, go_sem]) hW.size)); (case srcS6 => (intro B k W W' h hb; first | exact h.below hb | (obtain ⟨g, e, h1, h2⟩ := h; exact ⟨g, e, h1.below hb, h2⟩))); (case srcG6 => (intro pp; first | rfl | (simp; exact ⟨rfl, rfl⟩))); rintro ⟨B6, k6⟩ w6 R6 hb6; (try dsimp only at R6); simp only [List.drop_succ_cons, List.drop_zero]; obtain ⟨hc6, hf6⟩ := bcell hb6; have hs6 := hb6.size; (try simp at hs6))
  obtain ⟨gA, rfl, hgA, hlA⟩ := R6
  refine wpList_plain rfl fun K hK => wp_of_run (run_store_row (L := [.string ⟨#[97, 49]⟩, .int .i64 0, .string ⟨#[120]⟩, .string ⟨#[]⟩, .string (iS r.num), .string (nS r.den), .string ⟨#[48]⟩, .string ⟨#[49]⟩, .int .i64 0, .int .i64 0, .int .i64 0]) rfl rfl rfl act_size rfl (act_one ⟨rfl, rfl, rfl, rfl, rfl, rfl, rfl, rfl, rfl, rfl, rfl⟩) hgA rfl) (hK _ _ (wpList_nil ?_))
  have hwA : w.heap.size ≤ gA := Nat.le_trans hB5.size hlA
  refine hide3 (K := fun W' => _) (fun W' => Below w.heap.size w W' ∧ Blk W' w.heap.size 23 #[.string (iS r.num), .string (nS r.den)] ∧ Blk W' (w.heap.size + 1) 23 #[.string (iS p.num), .string (nS p.den)] ∧ Blk W' gA 25 #[.string ⟨#[97, 49]⟩, .int .i64 0, .string ⟨#[120]⟩, .string ⟨#[]⟩, .string (iS r.num), .string (nS r.den), .string ⟨#[48]⟩, .string ⟨#[49]⟩, .int .i64 0, .int .i64 0, .int .i64 0]) ⟨below_row (b_then hB5 hb6) hwA _, bR.below (below_row hb6 hlA _), bP.below (below_row hb6 hlA _), hgA.row _⟩ ?_
  rintro X ⟨hBX, bRX, bPX, bAX⟩
  clear hgA hlA hb6 hc6 hf6 hs6 bR bP hB5 k0 k1
  have m0 := bPX.cell 0
  have m1 := bPX.cell 1
  have a0 := bAX.cell 0
  have a1 := bAX.cell 1
  have a2 := bAX.cell 2
  have a3 := bAX.cell 3
  have a4 := bAX.cell 4
  have a5 := bAX.cell 5
  have a6 := bAX.cell 6
  have a7 := bAX.cell 7
  have a8 := bAX.cell 8
  have a9 := bAX.cell 9
  have a10 := bAX.cell 10
  simp at m0 m1 a0 a1 a2 a3 a4 a5 a6 a7 a8 a9 a10
  have hlA := bAX.lt
  have hlP := bPX.lt
  go_wp2
  refine hide3 (K := fun W' => _) (fun W' => Below w.heap.size w W' ∧ Blk W' w.heap.size 23 #[.string (iS r.num), .string (nS r.den)] ∧ Blk W' (w.heap.size + 1) 23 #[.string (iS p.num), .string (nS p.den)] ∧ Blk W' gA 25 #[.string ⟨#[97, 49]⟩, .int .i64 0, .string ⟨#[120]⟩, .string ⟨#[]⟩, .string (iS r.num), .string (nS r.den), .string ⟨#[48]⟩, .string ⟨#[49]⟩, .int .i64 0, .int .i64 0, .int .i64 0] ∧ Blk W' X.heap.size 47 #[.string ⟨#[120]⟩, .int .i64 0, .string (iS p.num), .string (nS p.den)] ∧ Blk W' (X.heap.size + 1) 25 #[.string ⟨#[97, 49]⟩, .int .i64 1, .string ⟨#[120]⟩, .string ⟨#[]⟩, .string (iS r.num), .string (nS r.den), .string ⟨#[48]⟩, .string ⟨#[49]⟩, .int .i64 0, .int .i64 0, .int .i64 0]) ⟨b_alloc (b_alloc hBX _) _, (bRX.alloc _).alloc _, (bPX.alloc _).alloc _, (bAX.alloc _).alloc _, (Blk.new X _ _).alloc _, Blk.new2 X _ _ _⟩ ?_
  rintro Y ⟨hBY, bRY, bPY, bAY, bFY, bBY⟩
  have hlf := bFY.lt
  have hlb := bBY.lt
  have hlA' := bAY.lt
  clear hBX bRX bPX bAX m0 m1 a0 a1 a2 a3 a4 a5 a6 a7 a8 a9 a10 hlA hlP
  have k0 := fun (x : After Y) (y : After x.W) => (bRY.below (b_then x.h y.h)).cell 0
  have k1 := fun (x : After Y) (y : After x.W) => (bRY.below (b_then x.h y.h)).cell 1
  simp at k0 k1
  (refine wp_region_srcv 4 3 8 (fun p => .pointer p.1) (fun B k W => ∃ g, B = some ⟨g, 0, none⟩ ∧ Blk W g 25 #[.string ⟨#[]⟩, .int .i64 0, .string ⟨#[]⟩, .string ⟨#[]⟩, .string ⟨#[]⟩, .string ⟨#[]⟩, .string ⟨#[]⟩, .string ⟨#[]⟩, .int .i64 0, .int .i64 0, .int .i64 0] ∧ Y.heap.size ≤ g) ?srcA26 (by kernel_rfl) (fun pp => by kernel_rfl) (fun pp x => ?srcH26) ⟨by kernel_rfl, by kernel_rfl, by decide, by decide, ?srcK26, ?srcS26, ?srcG26, ?srcQ26⟩; (case srcH26 => (simp only [srcl, List.modify_succ_cons, List.modify_zero_cons, repV, List.take_succ_cons, List.take_zero]; (have hxs := x.h.size); (try simp at hxs); (repeat (first | go_big_quiet_skip | (go_big_quiet_want; go_big_quiet_op; first | go_big_quiet_on | (apply Exists.intro; refine ⟨fun _ => ?_, ?_⟩; (focus ((go_at_call 28; with_reducible exact Calls.after (h0 _)))); go_big_quiet_on)))); refine wpQuiet_nil ?_; rfl)); (case srcK26 => (intro pp; refine ⟨_, rfl, rfl, fun a W hW hgv => ?_⟩; exact srcv_alloc rfl rfl rfl (by simp [execOp, go_sem]) hW.size)); (case srcS26 => (intro B k W W' h hb; first | exact h.below hb | (obtain ⟨g, e, h1, h2⟩ := h; exact ⟨g, e, h1.below hb, h2⟩))); (case srcG26 => (intro pp; first | rfl | (simp; exact ⟨rfl, rfl⟩))); rintro ⟨B26, k26⟩ w26 R26 hb26; (try dsimp only at R26); simp only [List.drop_succ_cons, List.drop_zero]; obtain ⟨hc26, hf26⟩ := bcell hb26; have hs26 := hb26.size; (try simp at hs26))
  obtain ⟨gC, rfl, hgC, hlC⟩ := R26
  refine wpList_plain rfl fun K hK => wp_of_run (run_store_row (L := [.string ⟨#[97, 49]⟩, .int .i64 2, .string ⟨#[120]⟩, .string ⟨#[]⟩, .string ⟨#[48]⟩, .string ⟨#[49]⟩, .string (iS r.num), .string (nS r.den), .int .i64 0, .int .i64 0, .int .i64 0]) rfl rfl rfl act_size rfl (act_one ⟨rfl, rfl, rfl, rfl, rfl, rfl, rfl, rfl, rfl, rfl, rfl⟩) hgC rfl) (hK _ _ (wpList_nil ?_))
  have hwC : w.heap.size ≤ gC := Nat.le_trans hBY.size hlC
  refine hide3 (K := fun W' => _) (fun W' => Below w.heap.size w W' ∧ Blk W' w.heap.size 23 #[.string (iS r.num), .string (nS r.den)] ∧ Blk W' (w.heap.size + 1) 23 #[.string (iS p.num), .string (nS p.den)] ∧ Blk W' gA 25 #[.string ⟨#[97, 49]⟩, .int .i64 0, .string ⟨#[120]⟩, .string ⟨#[]⟩, .string (iS r.num), .string (nS r.den), .string ⟨#[48]⟩, .string ⟨#[49]⟩, .int .i64 0, .int .i64 0, .int .i64 0] ∧ Blk W' X.heap.size 47 #[.string ⟨#[120]⟩, .int .i64 0, .string (iS p.num), .string (nS p.den)] ∧ Blk W' (X.heap.size + 1) 25 #[.string ⟨#[97, 49]⟩, .int .i64 1, .string ⟨#[120]⟩, .string ⟨#[]⟩, .string (iS r.num), .string (nS r.den), .string ⟨#[48]⟩, .string ⟨#[49]⟩, .int .i64 0, .int .i64 0, .int .i64 0] ∧ Blk W' gC 25 #[.string ⟨#[97, 49]⟩, .int .i64 2, .string ⟨#[120]⟩, .string ⟨#[]⟩, .string ⟨#[48]⟩, .string ⟨#[49]⟩, .string (iS r.num), .string (nS r.den), .int .i64 0, .int .i64 0, .int .i64 0]) ⟨below_row (b_then hBY hb26) hwC _, bRY.below (below_row hb26 hlC _), bPY.below (below_row hb26 hlC _), bAY.below (below_row hb26 hlC _), bFY.below (below_row hb26 hlC _), bBY.below (below_row hb26 hlC _), hgC.row _⟩ ?_
  rintro Z ⟨hBZ, bRZ, bPZ, bAZ, bFZ, bBZ, bCZ⟩
  clear hgC hlC hb26 hc26 hf26 hs26 bRY bPY bAY bFY bBY hBY k0 k1
  have hFZ : Rd Fx.cs 4 Z (some ⟨X.heap.size, 0, none⟩) 1 [⟨xS, 0, enc p⟩] := rd_blk (z := 4) (n := 1) (by omega) Fx.cs_length bFZ rfl rfl (by omega)
  have a0 := bAZ.cell 0
  have a1 := bAZ.cell 1
  have a2 := bAZ.cell 2
  have a3 := bAZ.cell 3
  have a4 := bAZ.cell 4
  have a5 := bAZ.cell 5
  have a6 := bAZ.cell 6
  have a7 := bAZ.cell 7
  have a8 := bAZ.cell 8
  have a9 := bAZ.cell 9
  have a10 := bAZ.cell 10
  simp at a0 a1 a2 a3 a4 a5 a6 a7 a8 a9 a10
  have BRZ := Lib.hid bRZ
  have BPZ := Lib.hid bPZ
  have BBZ := Lib.hid bBZ
  have BCZ := Lib.hid bCZ
  clear bRZ bPZ bAZ bFZ bBZ bCZ
  go_wp2_with (first
    | (go_at_call 20; (with_reducible refine (hOA _ hBZ).mono ?_); rintro e w7 ⟨B7, j7, rfl, hR7, hb7⟩)
    | (go_at_call 17; (with_reducible refine (hVA B7 j7 X.heap.size _ ?_ ?_ ?_).mono ?_); (· exact b_then hBZ hb7); (· exact hR7); (· exact hFZ.below hb7); rintro e w8 ⟨rfl, hb8⟩; revert hb8))
  intro hb8
  have hB8 : Below w.heap.size w w8 := b_then (b_then hBZ hb7) hb8
  have hZ8 : Below Z.heap.size Z w8 := b_then hb7 hb8
  have bB8 := BBZ.out.below hZ8
  have b0 := bB8.cell 0
  have b1 := bB8.cell 1
  have b2 := bB8.cell 2
  have b3 := bB8.cell 3
  have b4 := bB8.cell 4
  have b5 := bB8.cell 5
  have b6 := bB8.cell 6
  have b7 := bB8.cell 7
  have b8 := bB8.cell 8
  have b9 := bB8.cell 9
  have b10 := bB8.cell 10
  simp at b0 b1 b2 b3 b4 b5 b6 b7 b8 b9 b10
  have hlb8 := bB8.lt
  clear hb7 hb8 hR7 bB8 a0 a1 a2 a3 a4 a5 a6 a7 a8 a9 a10
  go_wp2_with (first
    | (go_at_call 20; (with_reducible refine (hOB _ (b_alloc hB8 _)).mono ?_); rintro e w9 ⟨B9, j9, rfl, hR9, hb9⟩)
    | (go_at_call 17; (with_reducible refine (hVB B9 j9 X.heap.size _ ?_ ?_ ?_).mono ?_); (· exact b_then (b_alloc hB8 _) hb9); (· exact hR9); (· exact (hFZ.below (b_alloc hZ8 _)).below hb9); rintro e w10 ⟨rfl, hb10⟩; revert hb10))
  intro hb10
  have hB10 : Below w.heap.size w w10 := b_then (b_then (b_alloc hB8 _) hb9) hb10
  have hZ10 : Below Z.heap.size Z w10 := b_then (b_then (b_alloc hZ8 _) hb9) hb10
  have uU := ((Blk.new w8 23 #[.string (iS u.num), .string (nS u.den)]).below hb9).below hb10
  have UU := Lib.hid uU
  have bC10 := BCZ.out.below hZ10
  have c0 := bC10.cell 0
  have c1 := bC10.cell 1
  have c2 := bC10.cell 2
  have c3 := bC10.cell 3
  have c4 := bC10.cell 4
  have c5 := bC10.cell 5
  have c6 := bC10.cell 6
  have c7 := bC10.cell 7
  have c8 := bC10.cell 8
  have c9 := bC10.cell 9
  have c10 := bC10.cell 10
  simp at c0 c1 c2 c3 c4 c5 c6 c7 c8 c9 c10
  have hlc10 := bC10.lt
  clear hb9 hb10 hR9 bC10 uU b0 b1 b2 b3 b4 b5 b6 b7 b8 b9 b10
  go_wp2_with (first
    | (go_at_call 20; (with_reducible refine (hOC _ (b_alloc hB10 _)).mono ?_); rintro e w11 ⟨B11, j11, rfl, hR11, hb11⟩)
    | (go_at_call 17; (with_reducible refine (hVC B11 j11 X.heap.size _ ?_ ?_ ?_).mono ?_); (· exact b_then (b_alloc hB10 _) hb11); (· exact hR11); (· exact (hFZ.below (b_alloc hZ10 _)).below hb11); rintro e w12 ⟨rfl, hb12⟩; revert hb12))
  intro hb12
  have hB12 : Below w.heap.size w w12 := b_then (b_then (b_alloc hB10 _) hb11) hb12
  have hZ12 : Below Z.heap.size Z w12 := b_then (b_then (b_alloc hZ10 _) hb11) hb12
  have uU := ((UU.out.alloc _).below hb11).below hb12
  have vV := ((Blk.new w10 23 #[.string (iS v.num), .string (nS v.den)]).below hb11).below hb12
  have bR12 := BRZ.out.below hZ12
  have bP12 := BPZ.out.below hZ12
  clear hb11 hb12 hR11 UU BRZ BPZ BBZ BCZ hFZ c0 c1 c2 c3 c4 c5 c6 c7 c8 c9 c10
  go_wp2
  refine hide3 (K := fun W' => _) (fun W' => Below w.heap.size w W' ∧ Blk W' w.heap.size 23 #[.string (iS r.num), .string (nS r.den)] ∧ Blk W' (w.heap.size + 1) 23 #[.string (iS p.num), .string (nS p.den)] ∧ Blk W' w8.heap.size 23 #[.string (iS u.num), .string (nS u.den)] ∧ Blk W' w10.heap.size 23 #[.string (iS v.num), .string (nS v.den)] ∧ Blk W' w12.heap.size 23 #[.string (iS t.num), .string (nS t.den)]) ⟨b_alloc hB12 _, bR12.alloc _, bP12.alloc _, uU.alloc _, vV.alloc _, Blk.new _ _ _⟩ ?_
  rintro T ⟨hBT, bRT, bPT, uT, vT, tT⟩
  clear hB12 bR12 bP12 uU vV hZ12
  have r0 := fun (y : After T) => (bRT.below y.h).cell 0
  have r1 := fun (y : After T) => (bRT.below y.h).cell 1
  have p0 := fun (y : After T) => (bPT.below y.h).cell 0
  have p1 := fun (y : After T) => (bPT.below y.h).cell 1
  have u0 := fun (y : After T) => (uT.below y.h).cell 0
  have u1 := fun (y : After T) => (uT.below y.h).cell 1
  have v0 := fun (y : After T) => (vT.below y.h).cell 0
  have v1 := fun (y : After T) => (vT.below y.h).cell 1
  have t0 := fun (y : After T) => (tT.below y.h).cell 0
  have t1 := fun (y : After T) => (tT.below y.h).cell 1
  simp at r0 r1 p0 p1 u0 u1 v0 v1 t0 t1
  have heq := eqRat
  clear bRT bPT uT vT tT
  (refine wp_region_after (by kernel_rfl) (by kernel_rfl) ?_; (repeat (first | go_big_quiet_skip | (go_big_quiet_want; go_big_quiet_op; first | go_big_quiet_on | (apply Exists.intro; refine ⟨fun _ => ?_, ?_⟩; (focus (first | (go_at_call 31; with_reducible exact Calls.after (hMu _)) | (go_at_call 27; with_reducible exact Calls.after (hA1 _)) | (go_at_call 27; with_reducible exact Calls.after (hA2 _)))); go_big_quiet_on)))); refine wpQuiet_nil ?_; rintro w30 ⟨⟨_, hb30⟩, rfl⟩; (try dsimp only); obtain ⟨hc30, hf30⟩ := bcell hb30; have hs30 := hb30.size; (try simp at hs30))
  go_wp2
  go_ret
  exact ⟨ret_bool (by simp), b_then hBT hb30⟩
theorem l_splits (HF : Fixed16Ok) (x0 x1 y0 y1 : ByteArray) (w : World) (hg : Glob w) :
    Calls Tryz.prog 6 #[.agg #[.string x0, .string x1], .agg #[.string y0, .string y1]] w fun e w' => e = .returned (.bool true) ∧ Below w.heap.size w w' := by
  by_cases h : x0.size ≤ 20 ∧ x1.size ≤ 20 ∧ y0.size ≤ 20 ∧ y1.size ≤ 20 ∧ rmay ⟨y0, y1⟩ = true ∧ rmay ⟨x0, x1⟩ = true ∧ 0 < rsign ⟨x0, x1⟩
  · obtain ⟨h1, h2, h3, h4, h5, h6, h7⟩ := h
    obtain ⟨r, hr⟩ := rmay_of h6
    obtain ⟨p, hp⟩ := rmay_of h5
    injection hr with e1 e2
    injection hp with e3 e4
    subst e1; subst e2; subst e3; subst e4
    have h8 := (rsign_pos (x := enc r) h7).2
    rw [dec_enc] at h8
    exact l_splits_yes HF r p w hg ⟨h8, h1, h2⟩ h3 h4
  · exact l_splits_no HF x0 x1 y0 y1 w hg h
end Go.Proofs.YtdkpbifpafaabaaGreatDoor
