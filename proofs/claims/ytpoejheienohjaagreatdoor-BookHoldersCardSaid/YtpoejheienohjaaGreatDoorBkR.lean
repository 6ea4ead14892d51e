/- BookHolders: the walk (given the fixed calls). -/
import Derived.Test.YtpoejheienohjaaGreatDoorBkL
import Derived.Test.YtpoejheienohjaaGreatDoorBkP
namespace Go.Proofs.YtpoejheienohjaaGreatDoor
open Go.RowKit
set_option linter.unusedVariables false
set_option linter.unusedSimpArgs false

theorem g_then {b : Nat} {w w1 w2 : World} (h : Below b w w1) (k : Below w1.heap.size w1 w2) (hb : b ≤ w1.heap.size) : Below b w w2 := h.trans (k.mono hb)
theorem g_set {b : Nat} {w W : World} (h : Below b w W) {p : Addr} (hp : b ≤ p.block) (u : Value) : Below b w (W.setCell p u) := h.setCell hp u
theorem slt_back {a b : ByteArray} (h : slt a b = true) : Op.bytesLess b.toList a.toList = false ∧ (b.toList == a.toList) = false := by
  rw [slt_iff] at h
  constructor
  · have : ¬ slt b a = true := fun k => List.lt_irrefl _ (List.lt_trans h (slt_iff b a |>.1 k))
    simpa [slt] using this
  · rw [beq_eq_false_iff_ne]
    intro e
    rw [s_eq.2 e] at h
    exact List.lt_irrefl _ h
theorem Blk.aft {w : World} {g : Nat} {t : TypeId} {a b : Value} (h : Blk w g t #[a, b]) : (∀ y : After w, y.W.cell? ⟨g, 0, none⟩ = some a) ∧ (∀ y : After w, y.W.cell? ⟨g, 1, none⟩ = some b) :=
  ⟨fun y => (h.below y.h).two.1, fun y => (h.below y.h).two.2.1⟩
/-- Holders, in the law's words. -/
def HoldsIs (ys : List Ln) (m : Nat) (w : World) (e : Ending) (w' : World) : Prop := ∃ B k, e = .returned (.slice B m k) ∧ Rd Ln.cs 4 w' B m ys ∧ Below w.heap.size w w'
theorem HoldPost.holds {xs : List Ln} {a : ByteArray} {w w' : World} {e : Ending} {ys : List Ln} {m : Nat} (h : HoldPost xs a w e w') (hy : bholders xs a = ys) (hm : ys.length = m) : HoldsIs ys m w e w' := by
  obtain ⟨v, he, ho, hB⟩ := h
  rw [hy] at ho
  obtain ⟨B, k, hv, hr⟩ := ho.rd Ln.cs_length
  subst hm
  subst hv
  exact ⟨B, k, he, hr, hB⟩
/-- So many ones, Add's own words. -/
def OnesIs (ys : List Ln) (w : World) (e : Ending) (w' : World) : Prop := ∃ B m k, e = .returned (.tuple #[.slice B m k, .bool true]) ∧ Rd Ln.cs 4 w' B m ys ∧ Below w.heap.size w w'
theorem AddPost.ones {xs ys : List Ln} {f : Ln} {w w' : World} {e : Ending} (h : AddPost xs f w e w') (hy : badd xs f = some ys) : OnesIs ys w e w' := by
  obtain ⟨v, he, ho, hB⟩ := h
  rw [hy] at ho he
  obtain ⟨B, k, hv, hr⟩ := ho.rd Ln.cs_length
  subst hv
  exact ⟨B, _, k, he, hr, hB⟩
set_option maxRecDepth 100000 in
set_option maxHeartbeats 4000000 in
theorem l_holders (HF : Fixed6Ok) {A : Option Addr} {n c : Nat} {xs : List Ln} (s : ByteArray) (z : Int) (w : World) (hg : Glob w) (hx : Rd Ln.cs 4 w A n xs) (hz : ∀ f ∈ xs, lnok f) (hs : s.size ≤ 9223372036854775807) (hz0 : -9223372036854775808 ≤ z) (hz1 : z ≤ 9223372036854775807) :
    Calls Tryz.prog 9 #[.slice A n c, .string s, .int .i64 z] w fun e w' => e = .returned (.bool true) ∧ Below w.heap.size w w' := by
  have hxl := hx.len
  have HFX := Lib.hid HF
  clear HF
  have hS : ∀ W, Below w.heap.size w W → Calls Tryz.prog 28 #[.slice A n c] W fun e w' => e = .returned (.bool (lsmall xs)) ∧ Below W.heap.size W w' := fun W hW => r6_small (c := c) W (hx.below hW) hz
  have hN := fun W => r6_name s W hs
  cases c1 : lsmall xs with
  | false =>
    rw [c1] at hS
    clear hN
    go_enter Tryz.func9, Tryz.ntmps9
    go_wp2_with (first
      | (go_at_call 29; (with_reducible refine (HFX.out w hg).mono ?_); rintro e w1 ⟨rfl, hb1⟩; obtain ⟨hc1, hf1⟩ := bcell hb1; have hs1 := hb1.size; (try simp at hs1))
      | (go_at_call 28; (with_reducible refine (hS w1 hb1).mono ?_); rintro e w2 ⟨rfl, hb2⟩; obtain ⟨hc2, hf2⟩ := bcell hb2; have hs2 := hb2.size; (try simp at hs2))
      | (go_at_call 29; (with_reducible refine (HFX.out w2 (hg.below (b_then hb1 hb2))).mono ?_); rintro e w3 ⟨rfl, hb3⟩; obtain ⟨hc3, hf3⟩ := bcell hb3; have hs3 := hb3.size; (try simp at hs3)))
    go_ret
    exact ⟨rfl, (by repeat (first | exact Below.refl _ _ | assumption | refine b_then ?_ (by assumption) | refine b_alloc ?_ _ | refine b_drewN ?_ _ | refine Below.drew ?_ | refine b_set ?_ (by first | exact Nat.le_refl _ | (simp; done) | (simp; omega) | omega) _))⟩
  | true =>
  rw [c1] at hS
  obtain ⟨hzB, hn40⟩ := lsmall_B c1
  have hzq : ∀ f ∈ xs, lnq f := fun f h => lnB_q (hzB f h) (by omega)
  have hM : ∀ W, Below w.heap.size w W → Calls Tryz.prog 34 #[.slice A n c] W fun e w' => e = .returned (.bool (bmay xs)) ∧ Below W.heap.size W w' := fun W hW => r6_may (c := c) W (hx.below hW) hzq
  cases c3 : bmay xs with
  | false =>
    rw [c3] at hM
    clear hN
    go_enter Tryz.func9, Tryz.ntmps9
    go_wp2_with (first
      | (go_at_call 29; (with_reducible refine (HFX.out w hg).mono ?_); rintro e w1 ⟨rfl, hb1⟩; obtain ⟨hc1, hf1⟩ := bcell hb1; have hs1 := hb1.size; (try simp at hs1))
      | (go_at_call 28; (with_reducible refine (hS w1 hb1).mono ?_); rintro e w2 ⟨rfl, hb2⟩; obtain ⟨hc2, hf2⟩ := bcell hb2; have hs2 := hb2.size; (try simp at hs2))
      | (go_at_call 34; (with_reducible refine (hM w2 (b_then hb1 hb2)).mono ?_); rintro e w3 ⟨rfl, hb3⟩; obtain ⟨hc3, hf3⟩ := bcell hb3; have hs3 := hb3.size; (try simp at hs3))
      | (go_at_call 29; (with_reducible refine (HFX.out w3 (hg.below (b_then (b_then hb1 hb2) hb3))).mono ?_); rintro e w4 ⟨rfl, hb4⟩; obtain ⟨hc4, hf4⟩ := bcell hb4; have hs4 := hb4.size; (try simp at hs4)))
    go_ret
    exact ⟨rfl, (by repeat (first | exact Below.refl _ _ | assumption | refine b_then ?_ (by assumption) | refine b_alloc ?_ _ | refine b_drewN ?_ _ | refine Below.drew ?_ | refine b_set ?_ (by first | exact Nat.le_refl _ | (simp; done) | (simp; omega) | omega) _))⟩
  | true =>
  rw [c3] at hM
  cases c4 : isName s with
  | false =>
    rw [c4] at hN
    go_enter Tryz.func9, Tryz.ntmps9
    go_wp2_with (first
      | (go_at_call 29; (with_reducible refine (HFX.out w hg).mono ?_); rintro e w1 ⟨rfl, hb1⟩; obtain ⟨hc1, hf1⟩ := bcell hb1; have hs1 := hb1.size; (try simp at hs1))
      | (go_at_call 28; (with_reducible refine (hS w1 hb1).mono ?_); rintro e w2 ⟨rfl, hb2⟩; obtain ⟨hc2, hf2⟩ := bcell hb2; have hs2 := hb2.size; (try simp at hs2))
      | (go_at_call 34; (with_reducible refine (hM w2 (b_then hb1 hb2)).mono ?_); rintro e w3 ⟨rfl, hb3⟩; obtain ⟨hc3, hf3⟩ := bcell hb3; have hs3 := hb3.size; (try simp at hs3))
      | (go_at_call 36; (with_reducible refine (hN _).mono ?_); rintro e w' ⟨rfl, rfl⟩)
      | (go_at_call 29; (with_reducible refine (HFX.out w3 (hg.below (b_then (b_then hb1 hb2) hb3))).mono ?_); rintro e w4 ⟨rfl, hb4⟩; obtain ⟨hc4, hf4⟩ := bcell hb4; have hs4 := hb4.size; (try simp at hs4)))
    go_ret
    exact ⟨rfl, (by repeat (first | exact Below.refl _ _ | assumption | refine b_then ?_ (by assumption) | refine b_alloc ?_ _ | refine b_drewN ?_ _ | refine Below.drew ?_ | refine b_set ?_ (by first | exact Nat.le_refl _ | (simp; done) | (simp; omega) | omega) _))⟩
  | true =>
  rw [c4] at hN
  by_cases d0 : z < 0
  · go_enter Tryz.func9, Tryz.ntmps9
    go_wp2_with (first
      | (go_at_call 29; (with_reducible refine (HFX.out w hg).mono ?_); rintro e w1 ⟨rfl, hb1⟩; obtain ⟨hc1, hf1⟩ := bcell hb1; have hs1 := hb1.size; (try simp at hs1))
      | (go_at_call 28; (with_reducible refine (hS w1 hb1).mono ?_); rintro e w2 ⟨rfl, hb2⟩; obtain ⟨hc2, hf2⟩ := bcell hb2; have hs2 := hb2.size; (try simp at hs2))
      | (go_at_call 34; (with_reducible refine (hM w2 (b_then hb1 hb2)).mono ?_); rintro e w3 ⟨rfl, hb3⟩; obtain ⟨hc3, hf3⟩ := bcell hb3; have hs3 := hb3.size; (try simp at hs3))
      | (go_at_call 36; (with_reducible refine (hN _).mono ?_); rintro e w' ⟨rfl, rfl⟩)
      | (go_at_call 29; (with_reducible refine (HFX.out w3 (hg.below (b_then (b_then hb1 hb2) hb3))).mono ?_); rintro e w4 ⟨rfl, hb4⟩; obtain ⟨hc4, hf4⟩ := bcell hb4; have hs4 := hb4.size; (try simp at hs4)))
    go_ret
    exact ⟨rfl, (by repeat (first | exact Below.refl _ _ | assumption | refine b_then ?_ (by assumption) | refine b_alloc ?_ _ | refine b_drewN ?_ _ | refine Below.drew ?_ | refine b_set ?_ (by first | exact Nat.le_refl _ | (simp; done) | (simp; omega) | omega) _))⟩
  by_cases d1 : 30 < z
  · go_enter Tryz.func9, Tryz.ntmps9
    go_wp2_with (first
      | (go_at_call 29; (with_reducible refine (HFX.out w hg).mono ?_); rintro e w1 ⟨rfl, hb1⟩; obtain ⟨hc1, hf1⟩ := bcell hb1; have hs1 := hb1.size; (try simp at hs1))
      | (go_at_call 28; (with_reducible refine (hS w1 hb1).mono ?_); rintro e w2 ⟨rfl, hb2⟩; obtain ⟨hc2, hf2⟩ := bcell hb2; have hs2 := hb2.size; (try simp at hs2))
      | (go_at_call 34; (with_reducible refine (hM w2 (b_then hb1 hb2)).mono ?_); rintro e w3 ⟨rfl, hb3⟩; obtain ⟨hc3, hf3⟩ := bcell hb3; have hs3 := hb3.size; (try simp at hs3))
      | (go_at_call 36; (with_reducible refine (hN _).mono ?_); rintro e w' ⟨rfl, rfl⟩)
      | (go_at_call 29; (with_reducible refine (HFX.out w3 (hg.below (b_then (b_then hb1 hb2) hb3))).mono ?_); rintro e w4 ⟨rfl, hb4⟩; obtain ⟨hc4, hf4⟩ := bcell hb4; have hs4 := hb4.size; (try simp at hs4)))
    go_ret
    exact ⟨rfl, (by repeat (first | exact Below.refl _ _ | assumption | refine b_then ?_ (by assumption) | refine b_alloc ?_ _ | refine b_drewN ?_ _ | refine Below.drew ?_ | refine b_set ?_ (by first | exact Nat.le_refl _ | (simp; done) | (simp; omega) | omega) _))⟩
  obtain ⟨N, rfl⟩ : ∃ N : Nat, z = (N : Int) := ⟨z.toNat, by omega⟩
  have hN30 : N ≤ 30 := by omega
  have hzS : ∀ f ∈ xs, lnS f := fun f h => lnB_S (hzB f h) (by omega)
  obtain ⟨hs', hhs⟩ : ∃ hs, bholders xs s = hs := ⟨_, rfl⟩
  obtain ⟨m, hm⟩ : ∃ m, hs'.length = m := ⟨_, rfl⟩
  have hmem := hold_mem (a := s) c3 hzS
  have hlen := hold_len xs s
  have hget := fun x => hold_get (xs := xs) (a := s) (x := x) c3
  have hrise := fun i x y => hold_rise (xs := xs) (a := s) (x := x) (y := y) (i := i) c3
  rw [hhs] at hmem hlen hget hrise
  have hm40 : m ≤ 40 := by omega
  have hv : btotal xs s = enc (dsum hs') := by rw [btotal_yes c3, hhs]
  have KH := Lib.hid (fun W (hW : Below w.heap.size w W) => ((b_holders (c := c) s W (hg.below hW) (hx.below hW) (by omega) hzq).mono fun e w' h => h.holds hhs hm : Calls Tryz.prog 41 #[.slice A n c, .string s] W fun e w' => HoldsIs hs' m W e w'))
  have hO := fun (z : Int) W (h0 : -9223372036854775808 ≤ z) (h1 : z ≤ 9223372036854775807) => r3_of z W h0 h1
  simp only [enc_of, RT.v] at hO
  have hO0 := fun W => hO 0 W (by omega) (by omega)
  have hO1 := fun W => hO 1 W (by omega) (by omega)
  have KO := Lib.hid hO
  have HMM := Lib.hid hm
  have HMEM := Lib.hid hmem
  have HGET := Lib.hid hget
  have HRI := Lib.hid hrise
  have HV := Lib.hid hv
  have H0 : Hid (sumI hs' 0 0) := sumI_zero hs'
  have HC1 := Lib.hid c1
  have HC3 := Lib.hid c3
  have HZB := Lib.hid hzB
  have HZQ := Lib.hid hzq
  have HZS := Lib.hid hzS
  have HXL := Lib.hid hxl
  clear hO hm hmem hget hrise hv c1 c3 hzB hzq hzS hhs hlen hz hxl hz0 hz1
  have heq := eqRat
  go_enter Tryz.func9, Tryz.ntmps9
  go_wp2_with (first
    | (go_at_call 29; (with_reducible refine (HFX.out w hg).mono ?_); rintro e w1 ⟨rfl, hb1⟩; obtain ⟨hc1, hf1⟩ := bcell hb1; have hs1 := hb1.size; (try simp at hs1))
    | (go_at_call 28; (with_reducible refine (hS w1 hb1).mono ?_); rintro e w2 ⟨rfl, hb2⟩; obtain ⟨hc2, hf2⟩ := bcell hb2; have hs2 := hb2.size; (try simp at hs2))
    | (go_at_call 34; (with_reducible refine (hM w2 (b_then hb1 hb2)).mono ?_); rintro e w3 ⟨rfl, hb3⟩; obtain ⟨hc3, hf3⟩ := bcell hb3; have hs3 := hb3.size; (try simp at hs3))
    | (go_at_call 36; (with_reducible refine (hN _).mono ?_); rintro e w' ⟨rfl, rfl⟩)
    | (go_at_call 41; (with_reducible refine (KH.out w3 (b_then (b_then hb1 hb2) hb3)).mono ?_); rintro e w4 ⟨B4, k4, rfl, rd4, hb4⟩)
    | (go_at_call 27; (with_reducible refine (hO0 w4).mono ?_); rintro e w5 ⟨rfl, hb5⟩; obtain ⟨hc5, hf5⟩ := bcell hb5; have hs5 := hb5.size; (try simp at hs5)))
  have D5 := Blk.new w5 24 #[.string (iS 0), .string (nS 1)]
  have BB5 : Below w.heap.size w w5 := (by repeat (first | exact Below.refl _ _ | assumption | refine b_then ?_ (by assumption) | refine b_alloc ?_ _ | refine b_drewN ?_ _ | refine Below.drew ?_ | refine b_set ?_ (by first | exact Nat.le_refl _ | (simp; done) | (simp; omega) | omega) _))
  have BS : Below w5.heap.size w5 (w5.alloc (.cells #[.string (iS 0), .string (nS 1)] 24)) := b_alloc (Below.refl _ _) _
  have RR : ∀ W, Below w5.heap.size w5 W → Rd Ln.cs 4 W B4 m hs' := fun W h => rd4.below (b_then hb5 h)
  have BW : ∀ W, Below w5.heap.size w5 W → Below w.heap.size w W := fun W h => b_then BB5 h
  obtain ⟨g5, hg5⟩ : ∃ g, w5.heap.size = g := ⟨_, rfl⟩
  rw [hg5] at D5 BS RR BW ⊢
  have HRR := Lib.hid RR
  have HBW := Lib.hid BW
  clear RR BW rd4 hb1 hb2 hb3 hb4 hb5 hc1 hf1 hs1 hc2 hf2 hs2 hc3 hf3 hs3 hc5 hf5 hs5 BB5
  go_loopw [9] (fun i wr => ∃ (k : Nat) (z : Rat), k ≤ m ∧ i = .int .i64 (k : Nat) ∧ Hid (sumI hs' k z) ∧ Blk wr g5 24 #[.string (iS z.num), .string (nS z.den)] ∧ Below g5 w5 wr) (fun i _ => m - (intOf i).toNat)
  case atStart => exact ⟨0, 0, Nat.zero_le _, rfl, H0, D5, BS⟩
  case round =>
    clear H0 D5 BS
    obtain ⟨k, z, hk, rfl, H, D5, hB⟩ := hrel
    by_cases hlt : k < m
    · obtain ⟨ad, b0, b1, b2, b3, rfl, hxk, hl⟩ := ln_in (HRR.out wr hB) (Below.refl _ wr) hlt
      obtain ⟨hmy, hms⟩ := HMEM.out _ (List.mem_of_getElem? hxk)
      obtain ⟨q, hq, hqd, hqs⟩ := ln_rat hmy hms
      injection hq with q1 q2
      subst q1; subst q2
      have hA := fun W => r3_add z q W (rsmall_mono H.out.2 (by omega)) (rsmall_mono hqs (by omega))
      simp only [enc_v] at hA
      have HS := Lib.hid (sumI_step H.out hxk hqd hqs)
      obtain ⟨hgv, hga⟩ := HGET.out _ (List.mem_of_getElem? hxk)
      have hG : ∀ W, Below w.heap.size w W → Calls Tryz.prog 37 #[.slice A n c, .string b0, .string s] W fun e w' => e = .returned (.agg #[.string (iS q.num), .string (nS q.den)]) ∧ Below W.heap.size W w' := fun W hW => by
        have := b_get (c := c) b0 s W (hg.below hW) (hx.below hW) (by have := HXL.out; omega) HZQ.out
        rw [bget_yes HC3.out] at this
        rw [show bgetL xs b0 s = _ from hgv] at this
        exact this
      have KG := Lib.hid hG
      have HXK := Lib.hid hxk
      generalize hzz : z + q = z2 at *
      have HL := Lib.hid hl
      clear hl hzz hxk hqd hqs hmy hms hG hgv hga
      have hy2 := fun y : After wr => (HL.out y.W y.h).c2
      have hy4 := fun y : After wr => (HL.out y.W y.h).c4
      have hz0 := fun y : After wr => (D5.below y.h).two.1
      have hz1 := fun y : After wr => (D5.below y.h).two.2.1
      obtain ⟨p0, p1, p2, p3⟩ := D5.two
      have hgl := D5.lt
      have hsw := hB.size
      go_wp2
      (refine wp_region_ahead 7 (by kernel_rfl) (by kernel_rfl) ?_; simp only [List.take_succ_cons, List.take_zero, List.drop_succ_cons, List.drop_zero]; (repeat (first | go_big_quiet_skip | (go_big_quiet_want; go_big_quiet_op; first | go_big_quiet_on | (apply Exists.intro; refine ⟨fun _ => ?_, ?_⟩; (focus ((go_at_call 45; with_reducible exact Calls.after (hA _)))); go_big_quiet_on)))); refine wpQuiet_nil ?_; rintro ⟨w1, hb1⟩; (try dsimp only); obtain ⟨hc1, hf1⟩ := bcell hb1; have hs1 := hb1.size; (try simp at hs1))
      go_wp2
      have D2 := (D5.below hb1).put2 (.string (iS z2.num)) (.string (nS z2.den))
      have hB2 : Below g5 w5 ((w1.setCell ⟨g5, 0, none⟩ (.string (iS z2.num))).setCell ⟨g5, 1, none⟩ (.string (nS z2.den))) := g_set (g_set (g_then hB hb1 (Nat.le_of_lt hgl)) (Nat.le_refl _) _) (Nat.le_refl _) _
      obtain ⟨w2, hw2⟩ : ∃ w2, (w1.setCell ⟨g5, 0, none⟩ (.string (iS z2.num))).setCell ⟨g5, 1, none⟩ (.string (nS z2.den)) = w2 := ⟨_, rfl⟩
      rw [hw2] at D2 hB2 ⊢
      clear hw2 hy2 hy4 hz0 hz1 p0 p1 p2 p3 hb1 hc1 hf1 hs1 hA D5 HL
      have hBw2 := HBW.out w2 hB2
      obtain ⟨ad', d0', d1', d2', d3', e', hxk', hc'⟩ := ln_at (HRR.out w2 hB2) (Below.refl _ w2) hlt
      obtain rfl : ad = ad' := Option.some.inj e'
      rw [HXK.out] at hxk'
      injection hxk' with hxk'
      injection hxk' with e0 e1 e2
      injection e2 with e2 e3
      subst e0; subst e1; subst e2; subst e3
      have ho0 := fun y => (hc' y).1
      have ho2 := fun y => (hc' y).2.2.1
      have ho4 : ∀ y : After w2, y.W.cell? ⟨(ad.add (k * 4)).block, (ad.add (k * 4)).off + 2 + 1, none⟩ = some (.string (nS q.den)) := fun y => (hc' y).2.2.2
      have HC' := Lib.hid hc'
      clear hc' e'
      by_cases hk0 : 0 < k
      · obtain ⟨ad', f0, f1, f2, f3, e, hxp, hcp⟩ := ln_at (HRR.out w2 hB2) (Below.refl _ w2) (show k - 1 < m by omega)
        obtain rfl : ad = ad' := Option.some.inj e
        have hlts := HRI.out (k - 1) _ _ hxp (by rw [show k - 1 + 1 = k by omega]; exact HXK.out)
        dsimp only at hlts
        obtain ⟨hl1, hl2⟩ := slt_back hlts
        clear hlts
        have hp0 := fun y => (hcp y).1
        have HCP := Lib.hid hcp
        have HXP := Lib.hid hxp
        clear hcp hxp e
        go_wp2
        (refine wp_region_after (by kernel_rfl) (by kernel_rfl) ?_; (repeat (first | go_big_quiet_skip | (go_big_quiet_want; go_big_quiet_op; first | go_big_quiet_on | (apply Exists.intro; refine ⟨fun _ => ?_, ?_⟩; (focus ((go_at_call 37; with_reducible exact Calls.after (KG.out _ (b_then hBw2 (After.h _)))))); go_big_quiet_on)))); refine wpQuiet_nil ?_; rintro w3 ⟨⟨_, hb3⟩, rfl⟩; (try dsimp only); obtain ⟨hc3, hf3⟩ := bcell hb3; have hs3 := hb3.size; (try simp at hs3))
        go_wp2
        go_roundw
        case rel => exact ⟨k + 1, z2, by omega, by go_num, HS.out, D2.below hb3, g_then hB2 hb3 (Nat.le_of_lt D2.lt)⟩
        case measure => simp [intOf]; omega
      · go_wp2
        (refine wp_region_after (by kernel_rfl) (by kernel_rfl) ?_; (repeat (first | go_big_quiet_skip | (go_big_quiet_want; go_big_quiet_op; first | go_big_quiet_on | (apply Exists.intro; refine ⟨fun _ => ?_, ?_⟩; (focus ((go_at_call 37; with_reducible exact Calls.after (KG.out _ (b_then hBw2 (After.h _)))))); go_big_quiet_on)))); refine wpQuiet_nil ?_; rintro w3 ⟨⟨_, hb3⟩, rfl⟩; (try dsimp only); obtain ⟨hc3, hf3⟩ := bcell hb3; have hs3 := hb3.size; (try simp at hs3))
        go_wp2
        go_roundw
        case rel => exact ⟨k + 1, z2, by omega, by go_num, HS.out, D2.below hb3, g_then hB2 hb3 (Nat.le_of_lt D2.lt)⟩
        case measure => simp [intOf]; omega
    · obtain rfl : k = m := by omega
      have hsum : Hid (btotal xs s = enc z) := by unfold Hid; rw [HV.out, H.out.1, ← HMM.out, List.take_length]
      have hla : lone ⟨⟨#[97, 110, 110]⟩, s, ⟨iS 1, nS 1⟩⟩ = true := by
        have e : rmay (⟨iS 1, nS 1⟩ : RT) = true := by decide +kernel
        have e2 : isName (⟨#[97, 110, 110]⟩ : ByteArray) = true := by decide +kernel
        unfold lone; dsimp only; rw [e2, c4, e]; rfl
      have HLA := Lib.hid hla
      have hlb : lnB 100 ⟨⟨#[97, 110, 110]⟩, s, ⟨iS 1, nS 1⟩⟩ := ⟨by show (⟨#[97, 110, 110]⟩ : ByteArray).size ≤ _; decide, by have := (isName_size c4).2; show s.size ≤ _; omega, by show (iS 1).size ≤ 100; decide +kernel, by show (nS 1).size ≤ 100; decide +kernel⟩
      have HLB := Lib.hid hlb
      have HL1 := fun j => ones_may HC3.out hla j
      have HL2 := fun j => ones_len HC3.out hla j
      have HL3 := fun j => ones_B HC3.out hla HZB.out (by omega) hlb j
      have HK1 := Lib.hid HL1
      have HK2 := Lib.hid HL2
      have HK3 := Lib.hid HL3
      have hAd : ∀ (j : Nat) (B : Option Addr) (mm kk : Nat) W, j ≤ N → Glob W → Rd Ln.cs 4 W B mm (ones xs ⟨⟨#[97, 110, 110]⟩, s, ⟨iS 1, nS 1⟩⟩ j) → Calls Tryz.prog 30 #[.slice B mm kk, .agg #[.string ⟨#[97, 110, 110]⟩, .string s, .string (iS 1), .string (nS 1)]] W fun e w' => OnesIs (ones xs ⟨⟨#[97, 110, 110]⟩, s, ⟨iS 1, nS 1⟩⟩ (j + 1)) W e w' := fun j B mm kk W hj hW hr =>
        (b_add (c := kk) ⟨#[97, 110, 110]⟩ s (iS 1) (nS 1) W hW hr (by have := HL2 j; have := hr.len; have := HXL.out; omega) (fun f hf => lnB_q (HL3 j f hf) (by omega)) (lnB_q hlb (by omega))).mono fun e w' h => h.ones (badd_yes (HL1 j) hla)
      have KAD := Lib.hid hAd
      clear HL1 HL2 HL3 hla hlb hAd H
      have RX := hx.below (HBW.out wr hB)
      go_wp2
      go_loopw [10, 11] (fun cv iv wr' => ∃ (k : Nat) (B : Option Addr) (mm kk : Nat), k ≤ N ∧ iv = .int .i64 (k : Nat) ∧ cv = .slice B mm kk ∧ Rd Ln.cs 4 wr' B mm (ones xs ⟨⟨#[97, 110, 110]⟩, s, ⟨iS 1, nS 1⟩⟩ k) ∧ Blk wr' g5 24 #[.string (iS z.num), .string (nS z.den)] ∧ Below g5 w5 wr') (fun _ i _ => N - (intOf i).toNat)
      case atStart => exact ⟨0, A, n, c, Nat.zero_le _, rfl, rfl, RX, D5, hB⟩
      case round =>
        clear D5 RX
        obtain ⟨j, B, mm, kk, hj, rfl, rfl, RB, D6, hB6⟩ := hrel
        have hgl := D6.lt
        by_cases hlt2 : j < N
        · go_wp2_with (first
            | (go_at_call 27; (with_reducible refine (hO1 _).mono ?_); rintro e w6 ⟨rfl, hb6⟩; obtain ⟨hc6, hf6⟩ := bcell hb6; have hs6 := hb6.size; (try simp at hs6))
            | (go_at_call 30; (with_reducible refine (KAD.out j B mm kk w6 (by omega) (hg.below (HBW.out w6 (g_then hB6 hb6 (Nat.le_of_lt hgl)))) (RB.below hb6)).mono ?_); rintro e w7 ⟨B7, m7, k7, rfl, rd7, hb7⟩))
          go_roundw
          case rel => exact ⟨j + 1, B7, m7, k7, by omega, by go_num, rfl, rd7, (D6.below hb6).below hb7, g_then hB6 (b_then hb6 hb7) (Nat.le_of_lt hgl)⟩
          case measure => simp [intOf]; omega
        · obtain rfl : j = N := by omega
          obtain ⟨p, hp1, hp2⟩ := get_rat HZB.out (by omega) HC3.out ⟨#[97, 110, 110]⟩ s
          have hend := ones_get (l := ⟨⟨#[97, 110, 110]⟩, s, ⟨iS 1, nS 1⟩⟩) (q := 1) HC3.out HLA.out hp1 rfl j
          rw [Rat.mul_one] at hend
          have hT : ∀ W, Below w.heap.size w W → Calls Tryz.prog 39 #[.slice A n c, .string s] W fun e w' => e = .returned (.agg #[.string (iS z.num), .string (nS z.den)]) ∧ Below W.heap.size W w' := fun W hW => by
            have := b_total (c := c) s W (hg.below hW) (hx.below hW) (by have := HXL.out; omega) HZS.out
            rw [hsum.out] at this
            exact this
          have hG : ∀ W, Below w.heap.size w W → Calls Tryz.prog 37 #[.slice A n c, .string ⟨#[97, 110, 110]⟩, .string s] W fun e w' => e = .returned (.agg #[.string (iS p.num), .string (nS p.den)]) ∧ Below W.heap.size W w' := fun W hW => by
            have := b_get (c := c) ⟨#[97, 110, 110]⟩ s W (hg.below hW) (hx.below hW) (by have := HXL.out; omega) HZQ.out
            rw [bget_yes HC3.out, hp1] at this
            exact this
          obtain ⟨q, hq⟩ : ∃ q : Rat, p + (j : Rat) = q := ⟨_, rfl⟩
          rw [hq] at hend
          have hGe : ∀ W, Glob W → Rd Ln.cs 4 W B mm (ones xs ⟨⟨#[97, 110, 110]⟩, s, ⟨iS 1, nS 1⟩⟩ j) → Calls Tryz.prog 37 #[.slice B mm kk, .string ⟨#[97, 110, 110]⟩, .string s] W fun e w' => e = .returned (.agg #[.string (iS q.num), .string (nS q.den)]) ∧ Below W.heap.size W w' := fun W hW hr => by
            have := b_get (c := kk) ⟨#[97, 110, 110]⟩ s W hW hr (by have := HK2.out j; have := hr.len; have := HXL.out; omega) (fun f hf => lnB_q (HK3.out j f hf) (by omega))
            rw [bget_yes (HK1.out j), hend] at this
            exact this
          have hOj := fun W => KO.out (j : Int) W (by omega) (by omega)
          have hAj : ∀ W, Calls Tryz.prog 45 #[.agg #[.string (iS p.num), .string (nS p.den)], .agg #[.string (iS (j : Int)), .string (nS 1)]] W fun e w' => e = .returned (.agg #[.string (iS q.num), .string (nS q.den)]) ∧ Below W.heap.size W w' := fun W => by
            have := r3_add p (j : Rat) W (rsmall_mono hp2 (by omega)) ⟨by show ndg (j : Int).natAbs ≤ _; exact Nat.le_trans (ndg_mono (show (j : Int).natAbs ≤ 30 by omega)) (by decide +kernel), by show ndg 1 ≤ _; rw [ndg_small (by omega)]; omega⟩
            rw [hq] at this
            exact this
          have HGE := Lib.hid hGe
          have hBw6 := HBW.out _ hB6
          obtain ⟨hz0, hz1⟩ := D6.aft
          have hGL := hg.below hBw6
          clear hGe hend hq hp1 hp2 hN30 hj
          go_wp2
          (refine wp_region_after (by kernel_rfl) (by kernel_rfl) ?_; (repeat (first | go_big_quiet_skip | (go_big_quiet_want; go_big_quiet_op; first | go_big_quiet_on | (apply Exists.intro; refine ⟨fun _ => ?_, ?_⟩; (focus (first | (go_at_call 39; with_reducible exact Calls.after (hT _ (b_then hBw6 (After.h _)))) | (go_at_call 37; with_reducible exact Calls.after (hG _ (b_then hBw6 (After.h _)))) | (go_at_call 37; with_reducible exact Calls.after (HGE.out _ (hGL.below (After.h _)) (RB.below (After.h _)))) | (go_at_call 27; with_reducible exact Calls.after (hOj _)) | (go_at_call 45; with_reducible exact Calls.after (hAj _)))); go_big_quiet_on)))); refine wpQuiet_nil ?_; rintro w8 ⟨⟨_, hb8⟩, rfl⟩; (try dsimp only); obtain ⟨hc8, hf8⟩ := bcell hb8; have hs8 := hb8.size; (try simp at hs8))
          go_wp2
          go_ret
          exact ⟨rfl, b_then hBw6 hb8⟩
end Go.Proofs.YtpoejheienohjaaGreatDoor
