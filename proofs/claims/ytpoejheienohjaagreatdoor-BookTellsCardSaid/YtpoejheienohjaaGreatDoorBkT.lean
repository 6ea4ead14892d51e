/- BookTells: the walk (given the fixed calls). -/
import Derived.Test.YtpoejheienohjaaGreatDoorBkP
import Derived.Test.YtpoejheienohjaaGreatDoorGhost
namespace Go.Proofs.YtpoejheienohjaaGreatDoor
open Go.RowKit
set_option linter.unusedVariables false
set_option linter.unusedSimpArgs false

set_option maxRecDepth 100000 in
set_option maxHeartbeats 4000000 in
theorem l_btells (HF : Fixed6Ok) {A : Option Addr} {n c : Nat} {xs : List Ln} (a0 a1 a2 a3 : ByteArray) (w : World) (hg : Glob w) (hx : Rd Ln.cs 4 w A n xs) (hz : ∀ f ∈ xs, lnok f) (hf : lnok ⟨a0, a1, ⟨a2, a3⟩⟩) :
    Calls Tryz.prog 7 #[.slice A n c, .agg #[.string a0, .string a1, .string a2, .string a3]] w fun e w' => e = .returned (.bool true) ∧ Below w.heap.size w w' := by
  have hxl := hx.len
  have hB0 : Below w.heap.size w (w.alloc (.cells #[.string a0, .string a1, .string a2, .string a3] 43)) := b_alloc (Below.refl _ _) _
  have hR0 := hx.below hB0
  have bx0 : Blk (w.alloc (.cells #[.string a0, .string a1, .string a2, .string a3] 43)) w.heap.size 43 #[.string a0, .string a1, .string a2, .string a3] := Blk.new w _ _
  have HFX := Lib.hid HF
  clear HF
  have hS := r6_small (c := c) _ hR0 hz
  have hS3 : ∀ W : World, Calls Tryz.prog 28 #[.slice (some ⟨W.heap.size, 0, none⟩) 1 1] (W.alloc (.cells #[.string a0, .string a1, .string a2, .string a3] 43)) fun e w' => e = .returned (.bool (lsmall [⟨a0, a1, ⟨a2, a3⟩⟩])) ∧ Below (W.alloc (.cells #[.string a0, .string a1, .string a2, .string a3] 43)).heap.size (W.alloc (.cells #[.string a0, .string a1, .string a2, .string a3] 43)) w' :=
    fun W => r6_small (c := 1) _ (ln_one W ⟨a0, a1, ⟨a2, a3⟩⟩) (fun f h => by rw [List.mem_singleton.1 h]; exact hf)
  cases c1 : lsmall xs with
  | false =>
    rw [c1] at hS
    go_enter Tryz.func7, Tryz.ntmps7
    go_wp2_with (first | (go_at_call 28; (with_reducible refine (hS).mono ?_); rintro e w1 ⟨rfl, hb1⟩; obtain ⟨hc1, hf1⟩ := bcell hb1; have hs1 := hb1.size; (try simp at hs1)) | (go_at_call 29; (with_reducible refine (HFX.out w1 (hg.below (by repeat (first | exact Below.refl _ _ | assumption | refine b_then ?_ (by assumption) | refine b_alloc ?_ _ | refine b_drewN ?_ _ | refine Below.drew ?_ | refine b_set ?_ (by first | exact Nat.le_refl _ | (simp; done) | (simp; omega) | omega) _)))).mono ?_); rintro e w2 ⟨rfl, hb2⟩; obtain ⟨hc2, hf2⟩ := bcell hb2; have hs2 := hb2.size; (try simp at hs2)))
    go_ret
    exact ⟨rfl, (by repeat (first | exact Below.refl _ _ | assumption | refine b_then ?_ (by assumption) | refine b_alloc ?_ _ | refine b_drewN ?_ _ | refine Below.drew ?_ | refine b_set ?_ (by first | exact Nat.le_refl _ | (simp; done) | (simp; omega) | omega) _))⟩
  | true =>
    rw [c1] at hS
    cases c2 : lsmall [⟨a0, a1, ⟨a2, a3⟩⟩] with
    | false =>
      rw [c2] at hS3
      go_enter Tryz.func7, Tryz.ntmps7
      go_wp2_with (first
        | (go_at_call 28; (with_reducible refine hS.mono ?_); rintro e w1 ⟨rfl, hb1⟩; have hB1 := b_then hB0 hb1; have bx1 := bx0.below hb1; obtain ⟨x10, x11, x12, x13⟩ := bx1.four; have q1 := bx1.lt; have hB1a := b_alloc hB1 (.cells #[.string a0, .string a1, .string a2, .string a3] 43); have bx1a := bx1.alloc (.cells #[.string a0, .string a1, .string a2, .string a3] 43))
        | (go_at_call 28; (with_reducible refine (hS3 w1).mono ?_); rintro e w2 ⟨rfl, hb2⟩; have hB2 := b_then hB1a hb2; have bx2 := bx1a.below hb2; obtain ⟨x20, x21, x22, x23⟩ := bx2.four; have q2 := bx2.lt)
        | (go_at_call 29; (with_reducible refine (HFX.out w2 (hg.below hB2)).mono ?_); rintro e w3 ⟨rfl, hb3⟩; obtain ⟨hc3, hf3⟩ := bcell hb3; have hs3 := hb3.size; (try simp at hs3)))
      go_ret
      exact ⟨rfl, b_then hB2 hb3⟩
    | true =>
      rw [c2] at hS3
      obtain ⟨hzS, hn40⟩ := lsmall_S c1
      have hfS : lnS ⟨a0, a1, ⟨a2, a3⟩⟩ := (lsmall_S c2).1 _ (by simp)
      have hzq : ∀ f ∈ xs, lnq f := fun f h => lnS_q (hzS f h)
      have hfq := lnS_q hfS
      obtain ⟨ys, hys⟩ : ∃ ys, (badd xs ⟨a0, a1, ⟨a2, a3⟩⟩).getD [] = ys := ⟨_, rfl⟩
      obtain ⟨m, hm⟩ : ∃ m, ys.length = m := ⟨_, rfl⟩
      obtain ⟨b, hb⟩ : ∃ b, (badd xs ⟨a0, a1, ⟨a2, a3⟩⟩).isSome = b := ⟨_, rfl⟩
      obtain ⟨p0, p1, hp⟩ : ∃ p0 p1, (bget xs a0 a1).v = .agg #[.string p0, .string p1] := ⟨_, _, rfl⟩
      obtain ⟨t0, t1, ht⟩ : ∃ t0 t1, (btotal xs a1).v = .agg #[.string t0, .string t1] := ⟨_, _, rfl⟩
      obtain ⟨hs, hhs⟩ : ∃ hs, bholders xs a1 = hs := ⟨_, rfl⟩
      obtain ⟨mh, hmh⟩ : ∃ mh, hs.length = mh := ⟨_, rfl⟩
      obtain ⟨bm, hbm⟩ : ∃ bm, bmay xs = bm := ⟨_, rfl⟩
      obtain ⟨bn, hbn⟩ : ∃ bn, isName a0 = bn := ⟨_, rfl⟩
      have KA := Lib.hid (fun W (hW : Below w.heap.size w W) => ((b_add (c := c) a0 a1 a2 a3 W (hg.below hW) (hx.below hW) (by omega) hzq hfq).mono fun e w' h => h.is_ hys hm hb : Calls Tryz.prog 30 #[.slice A n c, .agg #[.string a0, .string a1, .string a2, .string a3]] W fun e w' => AddIs ys m b W e w'))
      have KAR := Lib.hid (fun W (hW : Below w.heap.size w W) => ((r6_add (c := c) a0 a1 a2 a3 W (hx.below hW) (by omega) hzq hfq).mono fun e w' h => h.is_ hys hm hb : Calls Tryz.prog 31 #[.slice A n c, .agg #[.string a0, .string a1, .string a2, .string a3]] W fun e w' => AddIs ys m b W e w'))
      have cG : ∀ W, Below w.heap.size w W → Calls Tryz.prog 37 #[.slice A n c, .string a0, .string a1] W fun e w' => e = .returned (.agg #[.string p0, .string p1]) ∧ Below W.heap.size W w' := fun W hW => by have := b_get (c := c) a0 a1 W (hg.below hW) (hx.below hW) (by omega) hzq; rw [hp] at this; exact this
      have cGR : ∀ W, Below w.heap.size w W → Calls Tryz.prog 38 #[.slice A n c, .string a0, .string a1] W fun e w' => e = .returned (.agg #[.string p0, .string p1]) ∧ Below W.heap.size W w' := fun W hW => by have := r6_get (c := c) a0 a1 W (hx.below hW) hzq; rw [hp] at this; exact this
      have cT : ∀ W, Below w.heap.size w W → Calls Tryz.prog 39 #[.slice A n c, .string a1] W fun e w' => e = .returned (.agg #[.string t0, .string t1]) ∧ Below W.heap.size W w' := fun W hW => by have := b_total (c := c) a1 W (hg.below hW) (hx.below hW) (by omega) hzS; rw [ht] at this; exact this
      have cTR : ∀ W, Below w.heap.size w W → Calls Tryz.prog 40 #[.slice A n c, .string a1] W fun e w' => e = .returned (.agg #[.string t0, .string t1]) ∧ Below W.heap.size W w' := fun W hW => by have := r6_total (c := c) a1 W (hx.below hW) (by omega) hzS; rw [ht] at this; exact this
      have KH := Lib.hid (fun W (hW : Below w.heap.size w W) => ((b_holders (c := c) a1 W (hg.below hW) (hx.below hW) (by omega) hzq).mono fun e w' h => h.is_ hhs hmh : Calls Tryz.prog 41 #[.slice A n c, .string a1] W fun e w' => HoldIs hs mh W e w'))
      have KHR := Lib.hid (fun W (hW : Below w.heap.size w W) => ((r6_holders (c := c) a1 W (hx.below hW) (by omega) hzq).mono fun e w' h => h.is_ hhs hmh : Calls Tryz.prog 42 #[.slice A n c, .string a1] W fun e w' => HoldIs hs mh W e w'))
      have cM : ∀ W, Below w.heap.size w W → Calls Tryz.prog 33 #[.slice A n c] W fun e w' => e = .returned (.bool bm) ∧ Below W.heap.size W w' := fun W hW => by have := b_may (c := c) W (hg.below hW) (hx.below hW) hzq; rw [hbm] at this; exact this
      have cMR : ∀ W, Below w.heap.size w W → Calls Tryz.prog 34 #[.slice A n c] W fun e w' => e = .returned (.bool bm) ∧ Below W.heap.size W w' := fun W hW => by have := r6_may (c := c) W (hx.below hW) hzq; rw [hbm] at this; exact this
      have cN := fun W => p_name a0 W hf.1
      have cNR := fun W => r6_name a0 W hf.1
      rw [hbn] at cN cNR
      have KG := Lib.hid cG
      have KGR := Lib.hid cGR
      have KT := Lib.hid cT
      have KTR := Lib.hid cTR
      have KM := Lib.hid cM
      have KMR := Lib.hid cMR
      have KN := Lib.hid cN
      have KNR := Lib.hid cNR
      have heq := eqRat
      clear cG cGR cT cTR cM cMR cN cNR hys hb hp ht hhs hmh hbm hbn hm hzS hzq hfS hfq hz hf c1 c2 hR0
      go_enter Tryz.func7, Tryz.ntmps7
      go_wp2_with (first
        | (go_at_call 28; (with_reducible refine hS.mono ?_); rintro e w1 ⟨rfl, hb1⟩; have hB1 := b_then hB0 hb1; have bx1 := bx0.below hb1; obtain ⟨x10, x11, x12, x13⟩ := bx1.four; have q1 := bx1.lt; have hB1a := b_alloc hB1 (.cells #[.string a0, .string a1, .string a2, .string a3] 43); have bx1a := bx1.alloc (.cells #[.string a0, .string a1, .string a2, .string a3] 43))
        | (go_at_call 28; (with_reducible refine (hS3 w1).mono ?_); rintro e w2 ⟨rfl, hb2⟩; have hB2 := b_then hB1a hb2; have bx2 := bx1a.below hb2; obtain ⟨x20, x21, x22, x23⟩ := bx2.four; have q2 := bx2.lt)
        | (go_at_call 30; (with_reducible refine (KA.out _ hB2).mono ?_); rintro e w3 ⟨B3, k3, rfl, rd3, hb3⟩; have hB3 := b_then hB2 hb3; have bx3 := bx2.below hb3; obtain ⟨x30, x31, x32, x33⟩ := bx3.four; have q3 := bx3.lt)
        | (go_at_call 31; (with_reducible refine (KAR.out _ hB3).mono ?_); rintro e w4 ⟨B4, k4, rfl, rd4, hb4⟩; have hB4 := b_then hB3 hb4; have bx4 := bx3.below hb4; obtain ⟨x40, x41, x42, x43⟩ := bx4.four; have q4 := bx4.lt; have rd34 := rd3.below hb4))
      have hg4 := hg.below hB4
      have KSM := Lib.hid (fun W (h : Rd Ln.cs 4 W B3 m ys) (h' : Rd Ln.cs 4 W B4 m ys) => ((r6_same (c := k3) (d := k4) W h h').mono fun e w' he => ⟨by rw [he.1]; simp, he.2⟩ : Calls Tryz.prog 32 #[.slice B3 m k3, .slice B4 m k4] W fun e w' => e = .returned (.bool true) ∧ Below W.heap.size W w'))
      refine wp_region_pair (m := mh) (f1 := 41) (f2 := 42) (f3 := 32) (a1 := #[.slice A n c, .string a1]) (a2 := #[.slice A n c, .string a1]) (R := fun B W => Rd Ln.cs 4 W B mh hs) (A := ?bA) 57 61 62 88 92 93 (by kernel_rfl) (fun p => by kernel_rfl) (fun p x => ?bH)
        ⟨by kernel_rfl, by kernel_rfl, by decide, by decide, by decide, by kernel_rfl, by kernel_rfl, ?k1, ?k2, ?k3,
          fun W hW => KH.out W (b_then hB4 hW), fun W hW => KHR.out W (b_then hB4 hW), fun B k B' k' W h h' => (r6_same W h h').mono fun e w' he => ⟨by rw [he.1]; simp, he.2⟩, fun B W W' h hb => h.below hb, ?bhA, ?bQ⟩ (by decide) (by decide)
      case bH =>
        simp only [pairl, List.append_eq, List.cons_append, List.nil_append, List.modify_succ_cons, List.modify_zero_cons, repV, repS]
        have hxs := x.h.size
        (try simp at hxs)
        (repeat (first | go_big_quiet_skip | (go_big_quiet_want; go_big_quiet_op; first | go_big_quiet_on | (apply Exists.intro; refine ⟨fun _ => ?_, ?_⟩; (focus (first
          | (go_at_call 29; with_reducible exact Calls.after (HFX.out _ (hg4.below (b_then x.h (After.h _)))))
          | (go_at_call 32; with_reducible exact Calls.after (KSM.out _ (rd34.below (b_then x.h (After.h _))) (rd4.below (b_then x.h (After.h _)))))
          | (go_at_call 33; with_reducible exact Calls.after (KM.out _ (b_then hB4 (b_then x.h (After.h _)))))
          | (go_at_call 34; with_reducible exact Calls.after (KMR.out _ (b_then hB4 (b_then x.h (After.h _)))))
          | (go_at_call 35; with_reducible exact Calls.after (KN.out _))
          | (go_at_call 36; with_reducible exact Calls.after_same ((KNR.out _).mono fun e w' h => ⟨h.1, h.2⟩))
          | (go_at_call 37; with_reducible exact Calls.after (KG.out _ (b_then hB4 (b_then x.h (After.h _)))))
          | (go_at_call 38; with_reducible exact Calls.after (KGR.out _ (b_then hB4 (b_then x.h (After.h _)))))
          | (go_at_call 39; with_reducible exact Calls.after (KT.out _ (b_then hB4 (b_then x.h (After.h _)))))
          | (go_at_call 40; with_reducible exact Calls.after (KTR.out _ (b_then hB4 (b_then x.h (After.h _))))))); go_big_quiet_on))))
        refine wpQuiet_nil ?_
        rfl
      case k1 =>
        intro p
        refine ⟨⟨_, rfl, rfl, fun a W h => ?_⟩⟩
        have g0 : a.tmps[84]? = some (.bool true) := (h 53 _ 84 rfl rfl (by kernel_rfl)).trans rfl
        have g1 : a.tmps[85]? = some (.slice A n c) := (h 54 _ 85 rfl rfl (by kernel_rfl)).trans rfl
        have g2 : a.tmps[87]? = some (.string a1) := (h 56 _ 87 rfl rfl (by kernel_rfl)).trans rfl
        exact ⟨by simp [Region.wanted, yielded, g0], by simp [execOp, go_sem, g1, g2]⟩
      case k2 =>
        intro p
        refine ⟨⟨_, rfl, rfl, fun a W h => ?_⟩⟩
        have g0 : a.tmps[84]? = some (.bool true) := (h 53 _ 84 rfl rfl (by kernel_rfl)).trans rfl
        have g1 : a.tmps[89]? = some (.slice A n c) := (h 58 _ 89 rfl rfl (by kernel_rfl)).trans rfl
        have g2 : a.tmps[91]? = some (.string a1) := (h 60 _ 91 rfl rfl (by kernel_rfl)).trans rfl
        exact ⟨by simp [Region.wanted, yielded, g0], by simp [execOp, go_sem, g1, g2]⟩
      case k3 =>
        intro p
        refine ⟨⟨_, rfl, rfl, fun a W h => ?_⟩⟩
        have g0 : a.tmps[84]? = some (.bool true) := (h 53 _ 84 rfl rfl (by kernel_rfl)).trans rfl
        have g1 : a.tmps[88]? = some (.slice p.1.1 mh p.1.2) := (h 57 _ 88 rfl rfl (by kernel_rfl)).trans rfl
        have g2 : a.tmps[92]? = some (.slice p.2.1 mh p.2.2) := (h 61 _ 92 rfl rfl (by kernel_rfl)).trans rfl
        exact ⟨by simp [Region.wanted, yielded, g0], by simp [execOp, go_sem, g1, g2, Sl.v]⟩
      case bhA => exact fun p => rfl
      rintro p w9 hb9
      go_wp2
      go_ret
      exact ⟨rfl, b_then hB4 hb9⟩
end Go.Proofs.YtpoejheienohjaaGreatDoor
