/- InstructLines: the walk (given the fixed calls). -/
import Derived.Test.YtjdkbmlkplbmoaaGreatDoorInP
import Derived.Test.YtjdkbmlkplbmoaaGreatDoorInT
namespace Go.Proofs.YtjdkbmlkplbmoaaGreatDoor
open Go.RowKit
set_option linter.unusedVariables false
set_option linter.unusedSimpArgs false

theorem ione_turn {a0 a1 a2 : Int} {a3 a4 a5 : ByteArray} {q p : RT} (h : ione ⟨a0, a1, a2, a3, a4, a5, q, p⟩ = true) : ione ⟨a0, a1, a2, a4, a3, a5, q, enc 0⟩ = true := by
  unfold ione at h ⊢
  dsimp only at h ⊢
  simp only [Bool.and_eq_true, decide_eq_true_eq, Bool.not_eq_true', beq_eq_false_iff_ne] at h ⊢
  obtain ⟨h1, h2, h3, h4, h5, h6, h7, h8, h9, h10⟩ := h
  exact ⟨h1, h2, h3, h5, h4, h6, fun e => h7 e.symm, h8, rmay_enc 0, by rw [rsign_enc]; decide⟩
theorem ilines_turn {a0 a1 a2 : Int} {a3 a4 a5 : ByteArray} {q p : RT} (h : ione ⟨a0, a1, a2, a3, a4, a5, q, p⟩ = true) : ilines ⟨a0, a1, a2, a4, a3, a5, q, enc 0⟩ = [⟨a4, a5, enc (-(dec q))⟩, ⟨a3, a5, q⟩] := by
  rw [ilines_yes (ione_turn h)]
  unfold ilinesU
  dsimp only
  rw [rsign_enc, if_neg (by decide), List.append_nil]
/-- The sum so far. -/
def sumU (us : List Ln) (i : Nat) (z : Rat) : Prop := z = dsum ((us.take i).drop 2) ∧ rsmall (1 + i * 202) z
theorem sumU_two (us : List Ln) : sumU us 2 0 := ⟨by rw [List.drop_eq_nil_of_le (by rw [List.length_take]; omega)]; rfl, rsmall_zero _ (by omega)⟩
theorem sumU_step {us : List Ln} {i : Nat} {z q : Rat} {x : Ln} (h : sumU us i z) (hi : 2 ≤ i) (hx : us[i]? = some x) (hq : dec x.q = q) (hqs : rsmall 200 q) : sumU us (i + 1) (z + q) := by
  have hl := (List.getElem?_eq_some_iff.1 hx).1
  refine ⟨?_, rsmall_mono (rsmall_add h.2 hqs) (by omega)⟩
  rw [List.take_add_one, hx, List.drop_append_of_le_length (by rw [List.length_take]; omega), dsum_append, ← h.1]
  show _ = _ + (dec x.q + 0)
  rw [Rat.add_zero, hq]
theorem ismall_one {x : In} (h : ismall [x] = true) : inB 100 x := (ismall_B h).1 x (by simp)
set_option maxRecDepth 100000 in
set_option maxHeartbeats 4000000 in
theorem l_ilines (HF : Fixed8Ok) (f : In) (w : World) (hg : Glob w) (hf : inok f) :
    Calls Tryz.prog 6 #[f.v] w fun e w' => e = .returned (.bool true) ∧ Below w.heap.size w w' := by
  have HFX := Lib.hid HF
  clear HF
  obtain ⟨a0, a1, a2, a3, a4, a5, ⟨a6, a7⟩, ⟨a8, a9⟩⟩ := f
  unfold In.v
  dsimp only
  have hB0 : Below w.heap.size w (w.alloc (.cells #[.int .i64 a0, .int .i64 a1, .int .i64 a2, .string a3, .string a4, .string a5, .string a6, .string a7, .string a8, .string a9] 37)) := b_alloc (Below.refl _ _) _
  have bx0 : Blk (w.alloc (.cells #[.int .i64 a0, .int .i64 a1, .int .i64 a2, .string a3, .string a4, .string a5, .string a6, .string a7, .string a8, .string a9] 37)) w.heap.size 37 #[.int .i64 a0, .int .i64 a1, .int .i64 a2, .string a3, .string a4, .string a5, .string a6, .string a7, .string a8, .string a9] := Blk.new w _ _
  have hS : ∀ W : World, Calls Tryz.prog 13 #[.slice (some ⟨W.heap.size, 0, none⟩) 1 1] (W.alloc (.cells #[.int .i64 a0, .int .i64 a1, .int .i64 a2, .string a3, .string a4, .string a5, .string a6, .string a7, .string a8, .string a9] 37)) fun e w' => e = .returned (.bool (ismall [⟨a0, a1, a2, a3, a4, a5, ⟨a6, a7⟩, ⟨a8, a9⟩⟩])) ∧ Below W.heap.size W w' := fun W =>
    (r8_small (c := 1) (W.alloc (.cells #[.int .i64 a0, .int .i64 a1, .int .i64 a2, .string a3, .string a4, .string a5, .string a6, .string a7, .string a8, .string a9] 37)) (Rd.of_newAt In.cs_length W 37 [⟨a0, a1, a2, a3, a4, a5, ⟨a6, a7⟩, ⟨a8, a9⟩⟩] (by simp) rfl rfl rfl) (fun f h => by rw [List.mem_singleton.1 h]; exact hf)).mono fun e w' h => ⟨h.1, b_then (b_alloc (Below.refl _ _) _) h.2⟩
  cases d1 : ismall [⟨a0, a1, a2, a3, a4, a5, ⟨a6, a7⟩, ⟨a8, a9⟩⟩] with
  | false =>
    rw [d1] at hS
    clear d1
    go_enter Tryz.func6, Tryz.ntmps6
    go_wp2_with (first
      | (go_at_call 13; (with_reducible refine (hS w1).mono ?_); rintro e w2 ⟨rfl, hb2⟩; obtain ⟨hc2, hf2⟩ := bcell hb2; have hs2 := hb2.size; (try simp at hs2))
      | (go_at_call 14; (with_reducible refine (HFX.out w2 (hg.below (by repeat (first | exact Below.refl _ _ | assumption | refine b_then ?_ (by assumption) | refine b_alloc ?_ _ | refine b_drewN ?_ _ | refine Below.drew ?_ | refine b_set ?_ (by first | exact Nat.le_refl _ | (simp; done) | (simp; omega) | omega) _)))).mono ?_); rintro e w3 ⟨rfl, hb3⟩; obtain ⟨hc3, hf3⟩ := bcell hb3; have hs3 := hb3.size; (try simp at hs3))
      | (go_at_call 14; (with_reducible refine (HFX.out _ (hg.below hB0)).mono ?_); rintro e w1 ⟨rfl, hb1⟩; obtain ⟨hc1, hf1⟩ := bcell hb1; have hs1 := hb1.size; (try simp at hs1); have hq1 : w.heap.size < w1.heap.size := (by omega)))
    go_ret
    exact ⟨rfl, (by repeat (first | exact Below.refl _ _ | assumption | refine b_then ?_ (by assumption) | refine b_alloc ?_ _ | refine b_drewN ?_ _ | refine Below.drew ?_ | refine b_set ?_ (by first | exact Nat.le_refl _ | (simp; done) | (simp; omega) | omega) _))⟩
  | true =>
  rw [d1] at hS
  have hB := ismall_one d1
  obtain ⟨z0, z1, z2, z3, z4, z5, z6⟩ := hB
  dsimp only at z0 z1 z2 z3 z4 z5 z6
  have hO := fun W => r8_one a0 a1 a2 a3 a4 a5 a6 a7 a8 a9 W (by omega) (by omega) (by omega) (by omega) (by omega) (by omega) (by omega)
  cases d2 : ione ⟨a0, a1, a2, a3, a4, a5, ⟨a6, a7⟩, ⟨a8, a9⟩⟩ with
  | false =>
    rw [d2] at hO
    clear d1 d2 z0 z1 z2 z3 z4 z5 z6
    go_enter Tryz.func6, Tryz.ntmps6
    go_wp2_with (first
      | (go_at_call 13; (with_reducible refine (hS w1).mono ?_); rintro e w2 ⟨rfl, hb2⟩; obtain ⟨hc2, hf2⟩ := bcell hb2; have hs2 := hb2.size; (try simp at hs2); have hq2 : w.heap.size < w2.heap.size := (by omega))
      | (go_at_call 31; (with_reducible refine (hO w2).mono ?_); rintro e w3 ⟨rfl, hb3⟩; obtain ⟨hc3, hf3⟩ := bcell hb3; have hs3 := hb3.size; (try simp at hs3))
      | (go_at_call 14; (with_reducible refine (HFX.out w3 (hg.below (by repeat (first | exact Below.refl _ _ | assumption | refine b_then ?_ (by assumption) | refine b_alloc ?_ _ | refine b_drewN ?_ _ | refine Below.drew ?_ | refine b_set ?_ (by first | exact Nat.le_refl _ | (simp; done) | (simp; omega) | omega) _)))).mono ?_); rintro e w4 ⟨rfl, hb4⟩; obtain ⟨hc4, hf4⟩ := bcell hb4; have hs4 := hb4.size; (try simp at hs4))
      | (go_at_call 14; (with_reducible refine (HFX.out _ (hg.below hB0)).mono ?_); rintro e w1 ⟨rfl, hb1⟩; obtain ⟨hc1, hf1⟩ := bcell hb1; have hs1 := hb1.size; (try simp at hs1); have hq1 : w.heap.size < w1.heap.size := (by omega)))
    go_ret
    exact ⟨rfl, (by repeat (first | exact Below.refl _ _ | assumption | refine b_then ?_ (by assumption) | refine b_alloc ?_ _ | refine b_drewN ?_ _ | refine Below.drew ?_ | refine b_set ?_ (by first | exact Nat.le_refl _ | (simp; done) | (simp; omega) | omega) _))⟩
  | true =>
  rw [d2] at hO
  have o := ione_of d2
  have hly := ilines_turn d2
  obtain ⟨q, hq, hqd, hqs⟩ := rat_of (x := ⟨a6, a7⟩) o.mayq z3 z4
  obtain ⟨p, hp, hpd, hps⟩ := rat_of (x := ⟨a8, a9⟩) o.mayp z5 z6
  injection hq with q1 q2
  subst q1; subst q2
  injection hp with p1 p2
  subst p1; subst p2
  have hl := ilines_yes d2
  unfold ilinesU at hl
  dsimp only at hl
  rw [hqd, hpd] at hl
  rw [hqd] at hly
  have hrs : rsign ⟨iS p.num, nS p.den⟩ = p.num.sign := rsign_enc p
  rw [hrs] at hl
  obtain ⟨u, hu⟩ : ∃ u, iS (-q).num = u := ⟨_, rfl⟩
  obtain ⟨v, hv⟩ : ∃ v, nS (-q).den = v := ⟨_, rfl⟩
  obtain ⟨u2, hu2⟩ : ∃ u, iS (-p).num = u := ⟨_, rfl⟩
  obtain ⟨v2, hv2⟩ : ∃ v, nS (-p).den = v := ⟨_, rfl⟩
  obtain ⟨t0, ht0⟩ : ∃ t, iS 0 = t := ⟨_, rfl⟩
  obtain ⟨t1, ht1⟩ : ∃ t, nS 1 = t := ⟨_, rfl⟩
  have hOf := fun W => r3_of 0 W (by omega) (by omega)
  simp only [enc_of, RT.v] at hOf
  rw [ht0, ht1] at hOf
  rw [show (enc 0 : RT) = ⟨t0, t1⟩ by rw [← ht0, ← ht1]; rfl] at hly
  rw [show (enc (-q)) = ⟨u, v⟩ by rw [← hu, ← hv]; rfl] at hl hly
  obtain ⟨us, hus⟩ : ∃ us, ilines ⟨a0, a1, a2, a3, a4, a5, ⟨iS q.num, nS q.den⟩, ⟨iS p.num, nS p.den⟩⟩ = us := ⟨_, rfl⟩
  obtain ⟨mu, hmu⟩ : ∃ mu, us.length = mu := ⟨_, rfl⟩
  have KLx := fun W (h : Below w.heap.size w W) => (p_lines a0 a1 a2 a3 a4 a5 (iS q.num) (nS q.den) (iS p.num) (nS p.den) W (hg.below h) (by omega) (by omega) (by omega) (by omega) (by omega) (by omega) (by omega)).mono fun e w' h => by rw [hus] at h; exact h.is_ hmu
  have KLy := fun W (h : Below w.heap.size w W) => (p_lines a0 a1 a2 a4 a3 a5 (iS q.num) (nS q.den) t0 t1 W (hg.below h) (by omega) (by omega) (by omega) (by omega) (by omega) (by rw [← ht0]; decide +kernel) (by rw [← ht1]; decide +kernel)).mono fun e w' h => by rw [hly] at h; exact h.is_ (m := 2) rfl
  go_enter Tryz.func6, Tryz.ntmps6
  go_wp2_with (first
    | (go_at_call 18; (with_reducible refine (KLx w3 (b_then (b_then (b_then hB0 hb1) hb2) hb3)).mono ?_); rintro e w4 ⟨B4, c4, rfl, R4, hb4⟩; obtain ⟨hc4, hf4⟩ := bcell hb4; have hs4 := hb4.size; have hq4 : w.heap.size < w4.heap.size := (by omega))
    | (go_at_call 13; (with_reducible refine (hS w1).mono ?_); rintro e w2 ⟨rfl, hb2⟩; obtain ⟨hc2, hf2⟩ := bcell hb2; have hs2 := hb2.size; (try simp at hs2); have hq2 : w.heap.size < w2.heap.size := (by omega))
    | (go_at_call 31; (with_reducible refine (hO w2).mono ?_); rintro e w3 ⟨rfl, hb3⟩; obtain ⟨hc3, hf3⟩ := bcell hb3; have hs3 := hb3.size; (try simp at hs3); have hq3 : w.heap.size < w3.heap.size := (by omega))
    | (go_at_call 14; (with_reducible refine (HFX.out _ (hg.below hB0)).mono ?_); rintro e w1 ⟨rfl, hb1⟩; obtain ⟨hc1, hf1⟩ := bcell hb1; have hs1 := hb1.size; (try simp at hs1); have hq1 : w.heap.size < w1.heap.size := (by omega)))
  have hB0x : Below (w.heap.size + 1) (w.alloc (.cells #[.int .i64 a0, .int .i64 a1, .int .i64 a2, .string a3, .string a4, .string a5, .string (iS q.num), .string (nS q.den), .string (iS p.num), .string (nS p.den)] 37)) (w.alloc (.cells #[.int .i64 a0, .int .i64 a1, .int .i64 a2, .string a3, .string a4, .string a5, .string (iS q.num), .string (nS q.den), .string (iS p.num), .string (nS p.den)] 37)) := Below.refl _ _
  have hB4 : Below w.heap.size w w4 := b_then (b_then (b_then (b_then hB0 hb1) hb2) hb3) hb4
  have bx4 := (((bx0.below hb1).below hb2).below hb3).below hb4
  have hB4y : Below w.heap.size w (w4.alloc (.cells #[.int .i64 a0, .int .i64 a1, .int .i64 a2, .string a4, .string a3, .string a5, .string (iS q.num), .string (nS q.den), .string (iS p.num), .string (nS p.den)] 37)) := b_alloc hB4 _
  have by4 := Blk.new w4 37 #[.int .i64 a0, .int .i64 a1, .int .i64 a2, .string a4, .string a3, .string a5, .string (iS q.num), .string (nS q.den), .string (iS p.num), .string (nS p.den)]
  have bx4y := bx4.alloc (.cells #[.int .i64 a0, .int .i64 a1, .int .i64 a2, .string a4, .string a3, .string a5, .string (iS q.num), .string (nS q.den), .string (iS p.num), .string (nS p.den)] 37)
  have hB44 := (b_alloc (Below.refl w4.heap.size w4) (.cells #[.int .i64 a0, .int .i64 a1, .int .i64 a2, .string a4, .string a3, .string a5, .string (iS q.num), .string (nS q.den), .string (iS p.num), .string (nS p.den)] 37))
  obtain ⟨g4, hg4⟩ : ∃ g, w4.heap.size = g := ⟨_, rfl⟩
  have hg4y : g4 < (w4.alloc (.cells #[.int .i64 a0, .int .i64 a1, .int .i64 a2, .string a4, .string a3, .string a5, .string (iS q.num), .string (nS q.den), .string (iS p.num), .string (nS p.den)] 37)).heap.size := by simp; omega
  have hgx : w.heap.size < g4 := by omega
  rw [hg4] at by4 ⊢
  have HG4 := Lib.hid hg4
  generalize hw4y : w4.alloc (.cells #[.int .i64 a0, .int .i64 a1, .int .i64 a2, .string a4, .string a3, .string a5, .string (iS q.num), .string (nS q.den), .string (iS p.num), .string (nS p.den)] 37) = wy at *
  clear hw4y hg4 hb1 hc1 hf1 hs1 hb2 hc2 hf2 hs2 hb3 hc3 hf3 hs3 hb4 hc4 hf4 hs4 hq1 hq2 hq3 hq4 hS hO HFX bx0 bx4 hB0x KLx
  have hmu2 : 2 ≤ mu := by rw [← hmu, ← hus, hl]; simp
  go_wp2_with (first
    | (go_at_call 32; (with_reducible refine (hOf w6).mono ?_); rintro e w7 ⟨rfl, hb7⟩; obtain ⟨hc7, hf7⟩ := bcell hb7; have hs7 := hb7.size)
    | (go_at_call 32; (with_reducible refine (hOf wy).mono ?_); rintro e w5 ⟨rfl, hb5⟩; have by5 := by4.below hb5; obtain ⟨i0, i1, i2, i3, i4, i5, i6, i7, i8, i9⟩ := in_bx by5; have k8 := by5.frozen 8; have k9 := by5.frozen 9; have hs5 := hb5.size)
    | (go_at_call 18; (with_reducible refine (KLy _ (b_set (b_set (b_then hB4y hb5) (by simp; omega) _) (by simp; omega) _)).mono ?_); rintro e w6 ⟨B6, c6, rfl, R6, hb6⟩; have hs6 := hb6.size; (try simp at hs6)))
  have hW5 := b_set (b_set (b_then hB4y hb5) (p := ⟨g4, 8, none⟩) (by simp; omega) (.string t0)) (p := ⟨g4, 9, none⟩) (by simp; omega) (.string t1)
  have hB7 := b_then (b_then hW5 hb6) hb7
  have bx7 := ((((bx4y.below hb5).far (p := ⟨g4, 8, none⟩) (by simp; omega) (.string t0)).far (p := ⟨g4, 9, none⟩) (by simp; omega) (.string t1)).below hb6).below hb7
  obtain ⟨g6, hg6⟩ : ∃ g, w7.heap.size = g := ⟨_, rfl⟩
  have D6 : Blk (w7.alloc (.cells #[.string t0, .string t1] 35)) w7.heap.size 35 #[.string (iS (0 : Rat).num), .string (nS (0 : Rat).den)] := by
    rw [show iS (0 : Rat).num = t0 from ht0, show nS (0 : Rat).den = t1 from ht1]; exact Blk.new w7 _ _
  have R7 := R4.below (b_then (b_then (b_set (b_set (b_then hB44 hb5) (p := ⟨g4, 8, none⟩) (by rw [← HG4.out]; exact Nat.le_refl _) (.string t0)) (p := ⟨g4, 9, none⟩) (by rw [← HG4.out]; exact Nat.le_refl _) (.string t1)) hb6) hb7)
  have S7 := R6.below hb7
  have H0 : Hid (sumU us 2 0) := sumU_two us
  have HUS := Lib.hid (hus.symm.trans hl)
  have HMU := Lib.hid hmu
  have hrm : ∀ f ∈ us, rmay f.q = true ∧ f.q.num.size ≤ 101 ∧ f.q.den.size ≤ 101 := fun f hf => by
    have h1 := ilines_lone (x := ⟨a0, a1, a2, a3, a4, a5, ⟨iS q.num, nS q.den⟩, ⟨iS p.num, nS p.den⟩⟩) f (by rw [hus]; exact hf)
    have h2 := ilines_B (ismall_one d1) f (by rw [hus]; exact hf)
    exact ⟨(lone_of h1).2.2, h2.2.2.1, h2.2.2.2⟩
  have HRM := Lib.hid hrm
  have HU := Lib.hid hu
  have HV := Lib.hid hv
  have HT0 := Lib.hid ht0
  have HT1 := Lib.hid ht1
  have HQS := Lib.hid hqs
  have HPS := Lib.hid hps
  have HRS := Lib.hid hrs
  have HO := Lib.hid o
  rw [hg6] at D6 ⊢
  clear d1 d2 o hly hl hus hmu hqd hpd hqs hps hrs hrm hu hv hu2 hv2 ht0 ht1 hb5 hs5 hb6 hs6 hc7 hf7 hs7 KLy i0 i1 i2 i3 i4 i5 i6 i7 i8 i9 k8 k9 by4 by5 bx4y R4 R6 hW5 hB44 HG4 hgx hg4y hB4y hB4 hB0
  have hmu4 : mu ≤ 4 := by rw [← HMU.out, HUS.out]; split <;> simp
  go_loopw [7] (fun iv wr => ∃ (i : Nat) (z : Rat), 2 ≤ i ∧ i ≤ mu ∧ iv = .int .i64 (i : Nat) ∧ Hid (sumU us i z) ∧ Blk wr g6 35 #[.string (iS z.num), .string (nS z.den)] ∧ Below w7.heap.size w7 wr) (fun i _ => mu - (intOf i).toNat)
  case atStart => exact ⟨2, 0, Nat.le_refl _, hmu2, rfl, H0, D6, b_alloc (Below.refl _ _) _⟩
  case round =>
    clear H0 D6
    obtain ⟨i, z, hi2, hi, rfl, H, D6, hB⟩ := hrel
    have hg7 : w7.heap.size ≤ g6 := by omega
    have hgl := D6.lt
    by_cases hlt : i < mu
    · obtain ⟨ad, b0, b1, b2, b3, rfl, hxj, hlj⟩ := ln_in R7 hB hlt
      obtain ⟨r1, r2, r3⟩ := HRM.out _ (List.mem_of_getElem? hxj)
      obtain ⟨y, hy, hyd, hys⟩ := rat_of (x := ⟨b2, b3⟩) r1 r2 r3
      injection hy with y1 y2
      subst y1; subst y2
      have hA := fun W => r3_add z y W (rsmall_mono H.out.2 (by omega)) (rsmall_mono hys (by omega))
      simp only [enc_v] at hA
      have HS := Lib.hid (sumU_step H.out hi2 hxj hyd (rsmall_mono hys (by omega)))
      generalize hzz : z + y = zz at *
      have x2 := fun y : After wr => (hlj y.W y.h).c2
      have x4 := fun y : After wr => (hlj y.W y.h).c4
      have v0 := fun y : After wr => (D6.below y.h).two.1
      have v1 := fun y : After wr => (D6.below y.h).two.2.1
      obtain ⟨p0, p1, p2, p3⟩ := D6.two
      clear hlj hzz hxj hyd hys r1 r2 r3
      go_wp2
      (refine wp_region_ahead 7 (by kernel_rfl) (by kernel_rfl) ?_; simp only [List.take_succ_cons, List.take_zero, List.drop_succ_cons, List.drop_zero]; (repeat (first | go_big_quiet_skip | (go_big_quiet_want; go_big_quiet_op; first | go_big_quiet_on | (apply Exists.intro; refine ⟨fun _ => ?_, ?_⟩; (focus ((go_at_call 33; with_reducible exact Calls.after (hA _)))); go_big_quiet_on)))); refine wpQuiet_nil ?_; rintro ⟨w8, hb8⟩; (try dsimp only); obtain ⟨hc8, hf8⟩ := bcell hb8; have hs8 := hb8.size; (try simp at hs8))
      go_wp2
      go_roundw
      case rel => exact ⟨i + 1, zz, by omega, by omega, by go_num, HS.out, (D6.below hb8).put2 _ _, b_set (b_set (b_then hB hb8) (by simp; omega) _) (by simp; omega) _⟩
      case measure => simp [intOf]; omega
    · obtain rfl : i = mu := by omega
      have hz0 : z = 0 := by
        have h1 := H.out.1
        rw [← HMU.out, List.take_length, HUS.out] at h1
        rw [h1]
        split
        · show dec (enc (-p)) + (dec (⟨iS p.num, nS p.den⟩ : RT) + 0) = 0
          rw [dec_enc, show (⟨iS p.num, nS p.den⟩ : RT) = enc p from rfl, dec_enc]
          grind
        · rfl
      have hzs : rsmall 2000 z := rsmall_mono H.out.2 (by omega)
      have hS1 := fun W => r3_sign (iS z.num) (nS z.den) W (by have := iS_sz hzs.1; omega) (by rw [nS_size]; have := hzs.2; omega)
      rw [show rsign ⟨iS z.num, nS z.den⟩ = 0 by rw [show (⟨iS z.num, nS z.den⟩ : RT) = enc z from rfl, rsign_enc, hz0]; rfl] at hS1
      have hS2 := fun W => r3_sign (iS p.num) (nS p.den) W (by omega) (by omega)
      rw [HRS.out] at hS2
      have hs0 := HO.out.pay
      dsimp only at hs0
      rw [HRS.out] at hs0
      obtain ⟨s, hs⟩ : ∃ s, p.num.sign = s := ⟨_, rfl⟩
      rw [hs] at hS2 hs0
      have hus2 := HUS.out
      rw [hs] at hus2
      have bxr := bx7.below hB
      obtain ⟨j0, j1, j2, j3, j4, j5, j6, j7, j8, j9⟩ := in_bx bxr
      obtain ⟨p0, p1, p2, p3⟩ := D6.two
      have hgx := bxr.lt
      have RR := R7.below hB
      have SR := S7.below hB
      obtain ⟨u2n, hu2n⟩ : ∃ x, iS z.num = x := ⟨_, rfl⟩
      obtain ⟨u2d, hu2d⟩ : ∃ x, nS z.den = x := ⟨_, rfl⟩
      rw [hu2n, hu2d] at hS1
      rw [hu2n] at p0
      rw [hu2d] at p1
      have hA : ∀ W, Calls Tryz.prog 33 #[.agg #[.string u, .string v], .agg #[.string (iS q.num), .string (nS q.den)]] W fun e w' => e = .returned (.agg #[.string t0, .string t1]) ∧ Below W.heap.size W w' := fun W => by
        have := r3_add (-q) q W (rsmall_neg (rsmall_mono HQS.out (by omega))) (rsmall_mono HQS.out (by omega))
        rw [HU.out, HV.out, show -q + q = 0 by grind, show (enc 0).v = .agg #[.string (iS 0), .string (nS 1)] from rfl, HT0.out, HT1.out] at this
        exact this
      have hN : ∀ W, Calls Tryz.prog 34 #[.agg #[.string (iS q.num), .string (nS q.den)]] W fun e w' => e = .returned (.agg #[.string u, .string v]) ∧ Below W.heap.size W w' := fun W => by
        have := r3_neg q W (rsmall_mono HQS.out (by omega))
        rw [show (enc (-q)).v = .agg #[.string (iS (-q).num), .string (nS (-q).den)] from rfl, HU.out, HV.out] at this
        exact this
      have heq := eqRat
      obtain ⟨rest, hrest⟩ : ∃ rest, us = ⟨a3, a5, ⟨u, v⟩⟩ :: ⟨a4, a5, ⟨iS q.num, nS q.den⟩⟩ :: rest := ⟨_, hus2⟩
      have hu0 : us[0]? = some ⟨a3, a5, ⟨u, v⟩⟩ := by rw [hrest]; rfl
      have hu1 : us[1]? = some ⟨a4, a5, ⟨iS q.num, nS q.den⟩⟩ := by rw [hrest]; rfl
      obtain ⟨ad, _, _, _, _, e4, _, _⟩ := ln_in RR (Below.refl _ _) (k := 0) (by omega)
      obtain ⟨ae, _, _, _, _, e6, _, _⟩ := ln_in SR (Below.refl _ _) (k := 0) (by omega)
      subst e4; subst e6
      have l0 := fun W (h : Below wr.heap.size wr W) => ln_get RR h (k := 0) (by omega) hu0
      have l1 := fun W (h : Below wr.heap.size wr W) => ln_get RR h (k := 1) (by omega) hu1
      have m0 := fun W (h : Below wr.heap.size wr W) => ln_get SR h (k := 0) (by omega) (show [(⟨a4, a5, ⟨u, v⟩⟩ : Ln), ⟨a3, a5, ⟨iS q.num, nS q.den⟩⟩][0]? = some ⟨a4, a5, ⟨u, v⟩⟩ from rfl)
      have m1 := fun W (h : Below wr.heap.size wr W) => ln_get SR h (k := 1) (by omega) (show [(⟨a4, a5, ⟨u, v⟩⟩ : Ln), ⟨a3, a5, ⟨iS q.num, nS q.den⟩⟩][1]? = some ⟨a3, a5, ⟨iS q.num, nS q.den⟩⟩ from rfl)
      rw [show ad.add (0 * 4) = ad from by first | rfl | simp] at l0
      rw [show ae.add (0 * 4) = ae from by first | rfl | simp] at m0
      have hml := hrest
      have hq0 : (i = 4 ∧ 0 < s) ∨ (i = 2 ∧ s = 0) := by
        rw [← HMU.out, hus2]
        by_cases h : 0 < s
        · rw [if_pos h]; exact .inl ⟨rfl, h⟩
        · rw [if_neg h]; exact .inr ⟨rfl, by omega⟩
      have HB7 := Lib.hid (b_then hB7 hB)
      rw [show ad.add (1 * 4) = ⟨ad.block, ad.off + 4, none⟩ by first | rfl | simp [Addr.add] | exact add_lit4 _ _] at l1
      rw [show ae.add (1 * 4) = ⟨ae.block, ae.off + 4, none⟩ by first | rfl | simp [Addr.add]] at m1
      clear hml hrest hus2 hz0 hzs hu2n hu2d hs hu0 hu1 RR SR H HRM HU HV HQS HPS HRS HO HUS HMU hgl hi2 hlt hi hmu2 hmu4
      rcases hq0 with ⟨rfl, hsp⟩ | ⟨rfl, rfl⟩
      · have hsn : ¬ s = 0 := by omega
        go_wp2_with (first
          | (go_at_call 28; (with_reducible refine (hS2 w8).mono ?_); rintro e w9 ⟨rfl, hb9⟩; obtain ⟨hc9, hf9⟩ := bcell hb9; have hs9 := hb9.size)
          | (go_at_call 28; (with_reducible refine (hS1 wr).mono ?_); rintro e w8 ⟨rfl, hb8⟩; obtain ⟨hc8, hf8⟩ := bcell hb8; have hs8 := hb8.size; (try simp at hs8); obtain ⟨n0, n1, n2, n3, n4, n5, n6, n7, n8, n9⟩ := in_bx (bxr.below hb8)))
        have hB89 := b_then hb8 hb9
        have x00 := fun y : After w9 => (l0 y.W (b_then hB89 y.h)).c0
        have x02 := fun y : After w9 => (l0 y.W (b_then hB89 y.h)).c2
        have x04 := fun y : After w9 => (l0 y.W (b_then hB89 y.h)).c4
        have x10 := fun y : After w9 => (l1 y.W (b_then hB89 y.h)).c0
        have x12 := fun y : After w9 => (l1 y.W (b_then hB89 y.h)).c2
        have x14 := fun y : After w9 => (l1 y.W (b_then hB89 y.h)).c4
        have y00 := fun y : After w9 => (m0 y.W (b_then hB89 y.h)).c0
        have y10 := fun y : After w9 => (m1 y.W (b_then hB89 y.h)).c0
        have y12 := fun y : After w9 => (m1 y.W (b_then hB89 y.h)).c2
        have y14 := fun y : After w9 => (m1 y.W (b_then hB89 y.h)).c4
        dsimp only at x10 x12 x14 y10 y12 y14
        clear l0 l1 m0 m1
        (refine wp_region_after (by kernel_rfl) (by kernel_rfl) ?_; (repeat (first | go_big_quiet_skip | (go_big_quiet_want; go_big_quiet_op; first | go_big_quiet_on | (apply Exists.intro; refine ⟨fun _ => ?_, ?_⟩; (focus (first | (go_at_call 33; with_reducible exact Calls.after (hA _)) | (go_at_call 32; with_reducible exact Calls.after (hOf _)) | (go_at_call 34; with_reducible exact Calls.after (hN _)))); go_big_quiet_on)))); refine wpQuiet_nil ?_; rintro w20 ⟨⟨_, hb20⟩, rfl⟩; (try dsimp only); obtain ⟨hc20, hf20⟩ := bcell hb20; have hs20 := hb20.size; (try simp at hs20))
        go_wp2
        go_ret
        exact ⟨ret_bool (by simp), b_then (b_then HB7.out hB89) hb20⟩
      · skip
        go_wp2_with (first
          | (go_at_call 28; (with_reducible refine (hS2 w8).mono ?_); rintro e w9 ⟨rfl, hb9⟩; obtain ⟨hc9, hf9⟩ := bcell hb9; have hs9 := hb9.size)
          | (go_at_call 28; (with_reducible refine (hS1 wr).mono ?_); rintro e w8 ⟨rfl, hb8⟩; obtain ⟨hc8, hf8⟩ := bcell hb8; have hs8 := hb8.size; (try simp at hs8); obtain ⟨n0, n1, n2, n3, n4, n5, n6, n7, n8, n9⟩ := in_bx (bxr.below hb8)))
        have hB89 := b_then hb8 hb9
        have x00 := fun y : After w9 => (l0 y.W (b_then hB89 y.h)).c0
        have x02 := fun y : After w9 => (l0 y.W (b_then hB89 y.h)).c2
        have x04 := fun y : After w9 => (l0 y.W (b_then hB89 y.h)).c4
        have x10 := fun y : After w9 => (l1 y.W (b_then hB89 y.h)).c0
        have x12 := fun y : After w9 => (l1 y.W (b_then hB89 y.h)).c2
        have x14 := fun y : After w9 => (l1 y.W (b_then hB89 y.h)).c4
        have y00 := fun y : After w9 => (m0 y.W (b_then hB89 y.h)).c0
        have y10 := fun y : After w9 => (m1 y.W (b_then hB89 y.h)).c0
        have y12 := fun y : After w9 => (m1 y.W (b_then hB89 y.h)).c2
        have y14 := fun y : After w9 => (m1 y.W (b_then hB89 y.h)).c4
        dsimp only at x10 x12 x14 y10 y12 y14
        clear l0 l1 m0 m1
        (refine wp_region_after (by kernel_rfl) (by kernel_rfl) ?_; (repeat (first | go_big_quiet_skip | (go_big_quiet_want; go_big_quiet_op; first | go_big_quiet_on | (apply Exists.intro; refine ⟨fun _ => ?_, ?_⟩; (focus (first | (go_at_call 33; with_reducible exact Calls.after (hA _)) | (go_at_call 32; with_reducible exact Calls.after (hOf _)) | (go_at_call 34; with_reducible exact Calls.after (hN _)))); go_big_quiet_on)))); refine wpQuiet_nil ?_; rintro w20 ⟨⟨_, hb20⟩, rfl⟩; (try dsimp only); obtain ⟨hc20, hf20⟩ := bcell hb20; have hs20 := hb20.size; (try simp at hs20))
        go_wp2
        go_ret
        exact ⟨ret_bool (by simp), b_then (b_then HB7.out hB89) hb20⟩
end Go.Proofs.YtjdkbmlkplbmoaaGreatDoor
