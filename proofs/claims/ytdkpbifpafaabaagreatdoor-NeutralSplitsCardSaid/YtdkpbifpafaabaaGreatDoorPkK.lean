/- Walks of pack.Keeps: slices.Index, slices.Contains at a part. -/
import Derived.Test.YtdkpbifpafaabaaGreatDoorPkF
namespace Go.Proofs.YtdkpbifpafaabaaGreatDoor
open Go.RowKit
set_option linter.unusedVariables false
set_option linter.unusedSimpArgs false

def IdxPost (xs : List Pt) (v : Pt) (w : World) (e : Ending) (w' : World) : Prop := ∃ z : Int, e = .returned (.int .i64 z) ∧ decide (0 ≤ z) = xs.any (fun y => decide (v = y)) ∧ Below w.heap.size w w'
theorem any_next {l : List Pt} {k : Nat} {v a : Pt} (h : (l.take k).any (fun y => decide (v = y)) = false) (ha : l[k]? = some a) (hn : decide (v = a) = false) : (l.take (k + 1)).any (fun y => decide (v = y)) = false := by
  rw [List.take_add_one, ha, List.any_append, h]; simpa using hn
theorem any_hit {l : List Pt} {k : Nat} {v a : Pt} (ha : l[k]? = some a) (hn : decide (v = a) = true) : l.any (fun y => decide (v = y)) = true :=
  List.any_eq_true.2 ⟨a, List.mem_of_getElem? ha, hn⟩
abbrev WPt (w : World) (v0 v1 v2 : ByteArray) : World := w.alloc (.cells #[.string v0, .string v1, .string v2] 45)
set_option maxHeartbeats 1000000 in
theorem p_pidx {A : Option Addr} {n c : Nat} {xs : List Pt} (v0 v1 v2 : ByteArray) (w : World) (hx : Rd Pt.cs 3 w A n xs) :
    Calls Tryz.prog 98 #[.slice A n c, .agg #[.string v0, .string v1, .string v2]] w (IdxPost xs ⟨v0, ⟨v1, v2⟩⟩ w) := by
  have hbig := hx.big
  have hB0 : Below w.heap.size w (WPt w v0 v1 v2) := b_alloc (Below.refl _ _) _
  have pb : Blk (WPt w v0 v1 v2) w.heap.size 45 #[.string v0, .string v1, .string v2] := Blk.new w _ _
  have PB := Lib.hid pb
  clear pb
  go_enter Tryz.func98, Tryz.ntmps98
  go_wp2
  go_loopw [8] (fun i wr => ∃ k : Nat, k ≤ n ∧ i = .int .i64 k ∧ Hid ((xs.take k).any (fun y => decide ((⟨v0, ⟨v1, v2⟩⟩ : Pt) = y)) = false) ∧ Below (WPt w v0 v1 v2).heap.size (WPt w v0 v1 v2) wr) (fun i _ => n - (intOf i).toNat)
  case atStart => exact ⟨0, Nat.zero_le _, rfl, by simp [Hid], Below.refl _ _⟩
  case round =>
    obtain ⟨k, hk, rfl, H, hB⟩ := hrel
    have hBw : Below w.heap.size w wr := b_then hB0 hB
    have pr := PB.out.below hB
    have hsl : w.heap.size < wr.heap.size := pr.lt
    by_cases hlt : k < n
    · obtain ⟨ad, a0, a1, a2, rfl, hxk, hl⟩ := pt_in hx hBw hlt
      have HX := Lib.hid hxk
      have e0 := fun (y : After wr) => (hl y.W y.h).c0
      have e1 := fun (y : After wr) => (hl y.W y.h).c1
      have e2 := fun (y : After wr) => (hl y.W y.h).c2
      have e3 := fun (y : After wr) => (hl y.W y.h).d2
      have p0 := fun (y : After wr) => (pr.below y.h).cell 0
      have p1 := fun (y : After wr) => (pr.below y.h).cell 1
      have p2 := fun (y : After wr) => (pr.below y.h).cell 2
      simp at p0 p1 p2
      have heq := fun d W => eqPt d W v0 a0 v1 a1 v2 a2
      have hbq := pt_beq v0 a0 v1 a1 v2 a2
      clear hxk hl pr
      cases hE : (v0.toList == a0.toList && ((v1.toList == a1.toList && (v2.toList == a2.toList)))) with
      | true =>
        rw [hE] at hbq
        have HQ := Lib.hid hbq.symm
        simp only [hE] at heq
        clear hE hbq
        go_wp2
        (refine wp_region_after (by kernel_rfl) (by kernel_rfl) ?_; (repeat (first | go_big_quiet_skip | (go_big_quiet_want; go_big_quiet_op; first | go_big_quiet_on | (apply Exists.intro; refine ⟨fun _ => ?_, ?_⟩; (focus (fail)); go_big_quiet_on)))); refine wpQuiet_nil ?_; rintro w1 ⟨⟨_, hb1⟩, rfl⟩; (try dsimp only); obtain ⟨hc1, hf1⟩ := bcell hb1; have hs1 := hb1.size; (try simp at hs1))
        go_wp2
        go_ret
        exact ⟨_, rfl, by rw [any_hit HX.out HQ.out]; simp, (by repeat (first | exact Below.refl _ _ | assumption | refine b_then ?_ (by assumption) | refine b_alloc ?_ _ | refine b_drewN ?_ _ | refine Below.drew ?_ | refine b_set ?_ (by first | exact Nat.le_refl _ | (simp; done) | (simp; omega) | omega) _))⟩
      | false =>
        rw [hE] at hbq
        have HQ := Lib.hid hbq.symm
        simp only [hE] at heq
        clear hE hbq
        go_wp2
        (refine wp_region_after (by kernel_rfl) (by kernel_rfl) ?_; (repeat (first | go_big_quiet_skip | (go_big_quiet_want; go_big_quiet_op; first | go_big_quiet_on | (apply Exists.intro; refine ⟨fun _ => ?_, ?_⟩; (focus (fail)); go_big_quiet_on)))); refine wpQuiet_nil ?_; rintro w1 ⟨⟨_, hb1⟩, rfl⟩; (try dsimp only); obtain ⟨hc1, hf1⟩ := bcell hb1; have hs1 := hb1.size; (try simp at hs1))
        go_wp2
        go_roundw
        case rel => exact ⟨k + 1, by omega, by go_num, any_next H.out HX.out HQ.out, hB.trans (hb1.mono hB.size)⟩
        case measure => simp [intOf]; omega
    · obtain rfl : k = n := by omega
      have H2 := H.out
      rw [← hx.len, List.take_length] at H2
      have H3 := Lib.hid H2
      clear H2
      go_wp2
      go_ret
      exact ⟨_, rfl, by rw [H3.out]; simp, (by repeat (first | exact Below.refl _ _ | assumption | refine b_then ?_ (by assumption) | refine b_alloc ?_ _ | refine b_drewN ?_ _ | refine Below.drew ?_ | refine b_set ?_ (by first | exact Nat.le_refl _ | (simp; done) | (simp; omega) | omega) _))⟩
set_option maxHeartbeats 400000 in
theorem p_pcontains {A : Option Addr} {n c : Nat} {xs : List Pt} (v0 v1 v2 : ByteArray) (w : World) (hx : Rd Pt.cs 3 w A n xs) :
    Calls Tryz.prog 54 #[.slice A n c, .agg #[.string v0, .string v1, .string v2]] w fun e w' => e = .returned (.bool (xs.any (fun y => decide ((⟨v0, ⟨v1, v2⟩⟩ : Pt) = y)))) ∧ Below w.heap.size w w' := by
  have hB0 : Below w.heap.size w (WPt w v0 v1 v2) := b_alloc (Below.refl _ _) _
  have hI := p_pidx (c := c) v0 v1 v2 (WPt w v0 v1 v2) (hx.below hB0)
  obtain ⟨r, hr⟩ : ∃ r, xs.any (fun y => decide ((⟨v0, ⟨v1, v2⟩⟩ : Pt) = y)) = r := ⟨_, rfl⟩
  rw [hr]
  have HR := Lib.hid hr
  clear hr
  go_enter Tryz.func54, Tryz.ntmps54
  go_wp2_with (go_at_call 98; (with_reducible refine hI.mono ?_); rintro e w1 ⟨z, rfl, hz, hb1⟩)
  go_ret
  exact ⟨ret_bool HR.out, (by repeat (first | exact Below.refl _ _ | assumption | refine b_then ?_ (by assumption) | refine b_alloc ?_ _ | refine b_drewN ?_ _ | refine Below.drew ?_ | refine b_set ?_ (by first | exact Nat.le_refl _ | (simp; done) | (simp; omega) | omega) _))⟩
theorem pkeeps_any (xs : List Pt) (s : ByteArray) : pkeeps xs s = xs.any (fun y => decide ((⟨s, enc 1⟩ : Pt) = y)) := by
  unfold pkeeps
  congr 1
  funext y
  rw [phit_eq, Bool.eq_iff_iff]
  obtain ⟨a, r⟩ := y
  simp only [Bool.and_eq_true, decide_eq_true_eq, Pt.mk.injEq]
  exact ⟨fun h => ⟨h.1.symm, h.2.symm⟩, fun h => ⟨h.1.symm, h.2.symm⟩⟩
theorem enc_one_v' : (enc ((1 : Int) : Rat)).v = .agg #[.string ⟨#[49]⟩, .string ⟨#[49]⟩] := rfl
set_option maxHeartbeats 400000 in
theorem p_keeps {A : Option Addr} {n c : Nat} {xs : List Pt} (c0 c1 s : ByteArray) (w : World) (hg : Glob w) (hx : Rd Pt.cs 3 w A n xs) :
    Calls Tryz.prog 24 #[.agg #[.slice A n c, .string c0, .string c1], .string s] w fun e w' => e = .returned (.bool (pkeeps xs s)) ∧ Below w.heap.size w w' := by
  have hB0 : Below w.heap.size w (WPk w A n c c0 c1) := b_alloc (Below.refl _ _) _
  have hO := fun W (h : Below w.heap.size w W) => p_rof 1 W (hg.below h) (by omega) (by omega)
  rw [enc_one_v'] at hO
  have hC := fun W (h : Below w.heap.size w W) => p_pcontains (c := c) s ⟨#[49]⟩ ⟨#[49]⟩ W (hx.below h)
  have he := pkeeps_any xs s
  have he' : pkeeps xs s = xs.any (fun y => decide ((⟨s, ⟨⟨#[49]⟩, ⟨#[49]⟩⟩⟩ : Pt) = y)) := he
  rw [← he'] at hC
  generalize pkeeps xs s = r at *
  clear he he'
  go_enter Tryz.func24, Tryz.ntmps24
  go_wp2
  (refine wp_region_after (by kernel_rfl) (by kernel_rfl) ?_; (repeat (first | go_big_quiet_skip | (go_big_quiet_want; go_big_quiet_op; first | go_big_quiet_on | (apply Exists.intro; refine ⟨fun _ => ?_, ?_⟩; (focus (first | (go_at_call 48; with_reducible exact Calls.after (hO _ (b_then hB0 (After.h _)))) | (go_at_call 54; with_reducible exact Calls.after (hC _ (b_then hB0 (After.h _)))))); go_big_quiet_on)))); refine wpQuiet_nil ?_; rintro w1 ⟨⟨_, hb1⟩, rfl⟩; (try dsimp only); obtain ⟨hc1, hf1⟩ := bcell hb1; have hs1 := hb1.size; (try simp at hs1))
  go_wp2
  go_ret
  exact ⟨rfl, (by repeat (first | exact Below.refl _ _ | assumption | refine b_then ?_ (by assumption) | refine b_alloc ?_ _ | refine b_drewN ?_ _ | refine Below.drew ?_ | refine b_set ?_ (by first | exact Nat.le_refl _ | (simp; done) | (simp; omega) | omega) _))⟩
end Go.Proofs.YtdkpbifpafaabaaGreatDoor
