/- Walks of an instruction's lines, both sides. -/
import Derived.Test.YtjdkbmlkplbmoaaGreatDoorInC
import Derived.Test.YtjdkbmlkplbmoaaGreatDoorGhA
namespace Go.Proofs.YtjdkbmlkplbmoaaGreatDoor
open Go.RowKit
set_option linter.unusedVariables false
set_option linter.unusedSimpArgs false

theorem Own.of_new {α : Type} {e : α → List Value} {z : Nat} {T : TypeId} (he : ∀ x, (e x).length = z) (w : World) (xs : List α) (hm : xs.length ≤ maxLen) {arr : Array Value} (ha : arr = (xs.flatMap e).toArray) : Own e z T (w.alloc (.cells arr T)) w.heap.size (.slice (some ⟨w.heap.size, 0, none⟩) xs.length xs.length) xs := by
  subst ha
  refine ⟨⟨flat_len he xs, .inr ⟨w.heap.size, xs.length, _, rfl, Nat.le_refl _, heap_alloc_new w _, Nat.le_refl _, hm, ?_, ?_⟩⟩⟩
  · simp [flat_len he]
  · rw [List.take_of_length_le]
    rw [← flat_len he xs]; simp
/-- What Lines gives. -/
def LinesIs (ys : List Ln) (w : World) (e : Ending) (w' : World) : Prop := ∃ B m k, e = .returned (.slice B m k) ∧ Rd Ln.cs 4 w' B m ys ∧ Below w.heap.size w w'
theorem LinesIs.nil {w w' : World} (h : Below w.heap.size w w') : LinesIs [] w (.returned (.slice none 0 0)) w' := ⟨_, _, _, rfl, Rd.nil, h⟩
theorem LinesIs.own {w w' : World} {base : Nat} {v : Value} {ys : List Ln} (ho : Own Ln.cs 4 46 w' base v ys) (h : Below w.heap.size w w') : LinesIs ys w (.returned v) w' := by
  obtain ⟨B, k, hv, hr⟩ := ho.rd Ln.cs_length
  subst hv
  exact ⟨_, _, _, rfl, hr, h⟩
set_option maxHeartbeats 400000 in
theorem p_rneg (x : Rat) (w : World) (hg : Glob w) (hx : rsmall 800000000 x) :
    Calls Tryz.prog 47 #[.agg #[.string (iS x.num), .string (nS x.den)]] w fun e w' => e = .returned (enc (-x)).v ∧ Below w.heap.size w w' := by
  have hX := fun W hg => p_rmayE x W hg (rsmall_mono hx (by omega))
  have hN := fun W => w_neg x.num W (by have := hx.1; omega)
  rw [enc_v, Rat.neg_num, Rat.neg_den]
  go_enter Tryz.func47, Tryz.ntmps47
  go_wp2_with (go_at_call 83; (with_reducible refine (hX _ (hg.below (by repeat (first | exact Below.refl _ _ | assumption | refine b_then ?_ (by assumption) | refine b_alloc ?_ _ | refine b_drewN ?_ _ | refine Below.drew ?_ | refine b_set ?_ (by first | exact Nat.le_refl _ | (simp; done) | (simp; omega) | omega) _)))).mono ?_); rintro e w1 ⟨rfl, hb1⟩; obtain ⟨hc1, hf1⟩ := bcell hb1; have hs1 := hb1.size; (try simp at hs1); have hq1 : w.heap.size + 1 < w1.heap.size := (by omega); have hv1 : w.heap.size < w1.heap.size := (by omega))
  (refine wp_region_ahead 6 (by kernel_rfl) (by kernel_rfl) ?_; simp only [List.take_succ_cons, List.take_zero, List.drop_succ_cons, List.drop_zero]; (repeat (first | go_big_quiet_skip | (go_big_quiet_want; go_big_quiet_op; first | go_big_quiet_on | (apply Exists.intro; refine ⟨fun _ => ?_, ?_⟩; (focus ((go_at_call 84; with_reducible exact Calls.after (hN _)))); go_big_quiet_on)))); refine wpQuiet_nil ?_; rintro ⟨w3, hb3⟩; (try dsimp only); obtain ⟨hc3, hf3⟩ := bcell hb3; have hs3 := hb3.size; (try simp at hs3))
  have hq3 : w.heap.size + 1 < w3.heap.size := by omega
  go_wp2
  refine bodyPost_ret (v := .agg #[.string (iS (-x.num)), .string (nS x.den)]) ?_ rfl ⟨rfl, (by repeat (first | exact Below.refl _ _ | assumption | refine b_then ?_ (by assumption) | refine b_alloc ?_ _ | refine b_drewN ?_ _ | refine Below.drew ?_ | refine b_set ?_ (by first | exact Nat.le_refl _ | (simp; done) | (simp; omega) | omega) _))⟩
  simp [results, Tryz.results47, go_sem, hc1, hf1, hc3, hf3, hq1, hv1, hq3]
set_option maxRecDepth 100000 in
set_option maxHeartbeats 4000000 in
theorem r8_lines (a0 a1 a2 : Int) (a3 a4 a5 a6 a7 a8 a9 : ByteArray) (w : World) (h3 : a3.size ≤ 9000000000) (h4 : a4.size ≤ 9000000000) (h5 : a5.size ≤ 9000000000) (h6 : a6.size ≤ 1000000) (h7 : a7.size ≤ 1000000) (h8 : a8.size ≤ 1000000) (h9 : a9.size ≤ 1000000) :
    Calls Tryz.prog 19 #[.agg #[.int .i64 a0, .int .i64 a1, .int .i64 a2, .string a3, .string a4, .string a5, .string a6, .string a7, .string a8, .string a9]] w fun e w' => LinesIs (ilines ⟨a0, a1, a2, a3, a4, a5, ⟨a6, a7⟩, ⟨a8, a9⟩⟩) w e w' := by
  have hB0 : Below w.heap.size w (w.alloc (.cells #[.int .i64 a0, .int .i64 a1, .int .i64 a2, .string a3, .string a4, .string a5, .string a6, .string a7, .string a8, .string a9] 37)) := b_alloc (Below.refl _ _) _
  have bx0 : Blk (w.alloc (.cells #[.int .i64 a0, .int .i64 a1, .int .i64 a2, .string a3, .string a4, .string a5, .string a6, .string a7, .string a8, .string a9] 37)) w.heap.size 37 #[.int .i64 a0, .int .i64 a1, .int .i64 a2, .string a3, .string a4, .string a5, .string a6, .string a7, .string a8, .string a9] := Blk.new w _ _
  have hO := fun W => r8_one a0 a1 a2 a3 a4 a5 a6 a7 a8 a9 W (by omega) (by omega) (by omega) (by omega) (by omega) (by omega) (by omega)
  cases c1 : ione ⟨a0, a1, a2, a3, a4, a5, ⟨a6, a7⟩, ⟨a8, a9⟩⟩ with
  | false =>
    rw [c1] at hO
    have hl := Lib.hid (ilines_no c1)
    clear c1
    go_enter Tryz.func19, Tryz.ntmps19
    go_wp2_with (go_at_call 31; (with_reducible refine (hO _ ).mono ?_); rintro e w1 ⟨rfl, hb1⟩; obtain ⟨hc1, hf1⟩ := bcell hb1; have hs1 := hb1.size; (try simp at hs1))
    go_ret
    rw [hl.out]
    exact LinesIs.nil (b_then hB0 hb1)
  | true =>
    rw [c1] at hO
    have o := ione_of c1
    obtain ⟨q, hq, hqd, hqs⟩ := rat_of (x := ⟨a6, a7⟩) o.mayq h6 h7
    obtain ⟨p, hp, hpd, hps⟩ := rat_of (x := ⟨a8, a9⟩) o.mayp h8 h9
    injection hq with q1 q2
    subst q1; subst q2
    injection hp with p1 p2
    subst p1; subst p2
    have hNq := fun W => r3_neg q W (rsmall_mono hqs (by omega))
    have hNp := fun W => r3_neg p W (rsmall_mono hps (by omega))
    simp only [enc_v] at hNq hNp
    have hS := fun W => r3_sign (iS p.num) (nS p.den) W (by omega) (by omega)
    have hl := ilines_yes c1
    unfold ilinesU at hl
    dsimp only at hl
    rw [hqd, hpd] at hl
    have hrs : rsign ⟨iS p.num, nS p.den⟩ = p.num.sign := rsign_enc p
    have hs0 := o.pay
    dsimp only at hs0
    rw [hrs] at hl hS hs0
    obtain ⟨s, hs⟩ : ∃ s, p.num.sign = s := ⟨_, rfl⟩
    rw [hs] at hl hS hs0
    obtain ⟨u, hu⟩ : ∃ u, iS (-q).num = u := ⟨_, rfl⟩
    obtain ⟨v, hv⟩ : ∃ v, nS (-q).den = v := ⟨_, rfl⟩
    obtain ⟨u2, hu2⟩ : ∃ u, iS (-p).num = u := ⟨_, rfl⟩
    obtain ⟨v2, hv2⟩ : ∃ v, nS (-p).den = v := ⟨_, rfl⟩
    rw [hu, hv] at hNq
    rw [hu2, hv2] at hNp
    rw [show (enc (-q)) = ⟨u, v⟩ by rw [← hu, ← hv]; rfl, show (enc (-p)) = ⟨u2, v2⟩ by rw [← hu2, ← hv2]; rfl] at hl
    clear hrs hs hu hv hu2 hv2 hqd hpd hqs hps c1 o
    by_cases hs1 : 0 < s
    · rw [if_pos hs1] at hl
      have HLL := Lib.hid hl
      clear hl
      have hs2 : ¬ s = 0 := by omega
      go_enter Tryz.func19, Tryz.ntmps19
      go_wp2_with (go_at_call 31; (with_reducible refine (hO _ ).mono ?_); rintro e w1 ⟨rfl, hb1⟩; obtain ⟨hc1, hf1⟩ := bcell hb1; have hs1 := hb1.size; (try simp at hs1))
      have bx1 := bx0.below hb1
      have hB1 := b_then hB0 hb1
      have hz1 := hB1.size
      have hq1 := bx1.lt
      have y3 := fun (x : After w1) (y : After x.W) => (in_bx (bx1.below (b_then x.h y.h))).c3
      have y4 := fun (x : After w1) (y : After x.W) => (in_bx (bx1.below (b_then x.h y.h))).c4
      have y5 := fun (x : After w1) (y : After x.W) => (in_bx (bx1.below (b_then x.h y.h))).c5
      have y6 := fun (x : After w1) (y : After x.W) => (in_bx (bx1.below (b_then x.h y.h))).c6
      have y7 := fun (x : After w1) (y : After x.W) => (in_bx (bx1.below (b_then x.h y.h))).c7
      (refine wp_region_src 16 15 22 2 (fun B k W => Own Ln.cs 4 46 W (w.heap.size + 1) (.slice B 2 k) [⟨a3, a5, ⟨u, v⟩⟩, ⟨a4, a5, ⟨iS q.num, nS q.den⟩⟩]) ?srcA2 (by kernel_rfl) (fun pp => by kernel_rfl) (fun pp x => ?srcH2) ⟨by kernel_rfl, by kernel_rfl, by decide, by decide, ?srcK2, fun B k W W' h hb => h.below hb, ?srcG2, ?srcQ2⟩; (case srcH2 => (simp only [srcl, List.modify_succ_cons, List.modify_zero_cons, repV, List.take_succ_cons, List.take_zero]; (have hxs := x.h.size); (try simp at hxs); (repeat (first | go_big_quiet_skip | (go_big_quiet_want; go_big_quiet_op; first | go_big_quiet_on | (apply Exists.intro; refine ⟨fun _ => ?_, ?_⟩; (focus ((go_at_call 34; with_reducible exact Calls.after (hNq _ )))); go_big_quiet_on)))); refine wpQuiet_nil ?_; rfl)); (case srcK2 => (intro pp; refine ⟨_, rfl, rfl, fun a W hW hgv => ?_⟩; have g1 := (hgv 7 _ 14 rfl rfl (by kernel_rfl)).trans rfl; have g2 := (hgv 14 _ 21 rfl rfl (by kernel_rfl)).trans rfl; exact src_built (b := .cells #[.string a3, .string a5, .string u, .string v, .string a4, .string a5, .string (iS q.num), .string (nS q.den)] 46) (k := 2) rfl rfl rfl (by simp [execOp, go_sem, g1, g2]) ((Own.of_new Ln.cs_length W [⟨a3, a5, ⟨u, v⟩⟩, ⟨a4, a5, ⟨iS q.num, nS q.den⟩⟩] (by simp [maxLen]) rfl).lower (by have := hW.size; omega)))); (case srcG2 => (intro pp; first | rfl | (simp; exact ⟨rfl, rfl⟩))); rintro ⟨B2, k2⟩ w2 R2 hb2; (try dsimp only at R2); simp only [List.drop_succ_cons, List.drop_zero, Sl.v]; obtain ⟨hc2, hf2⟩ := bcell hb2; have hs2 := hb2.size; (try simp at hs2))
      have bx2 := bx1.below hb2
      have hB2 := b_then hB1 hb2
      have hq2 := bx2.lt
      go_wp2_with (go_at_call 28; (with_reducible refine (hS _ ).mono ?_); rintro e w3 ⟨rfl, hb3⟩; obtain ⟨hc3, hf3⟩ := bcell hb3; have hs3 := hb3.size; (try simp at hs3))
      have bx3 := bx2.below hb3
      have hB3 := b_then hB2 hb3
      have R3 := R2.below hb3
      have hq3 := bx3.lt
      have x4 := fun (x : After w3) (y : After x.W) => (in_bx (bx3.below (b_then x.h y.h))).c4
      have x8 := fun (x : After w3) (y : After x.W) => (in_bx (bx3.below (b_then x.h y.h))).c8
      have x9 := fun (x : After w3) (y : After x.W) => (in_bx (bx3.below (b_then x.h y.h))).c9
      clear y3 y4 y5 y6 y7
      (refine wp_region_src 8 7 34 1 (fun B k W => Rd Ln.cs 4 W B 1 [⟨a4, sCash, ⟨u2, v2⟩⟩]) ?srcA4 (by kernel_rfl) (fun pp => by kernel_rfl) (fun pp x => ?srcH4) ⟨by kernel_rfl, by kernel_rfl, by decide, by decide, ?srcK4, fun B k W W' h hb => h.below hb, ?srcG4, ?srcQ4⟩; (case srcH4 => (simp only [srcl, List.modify_succ_cons, List.modify_zero_cons, repV, List.take_succ_cons, List.take_zero]; (have hxs := x.h.size); (try simp at hxs); (repeat (first | go_big_quiet_skip | (go_big_quiet_want; go_big_quiet_op; first | go_big_quiet_on | (apply Exists.intro; refine ⟨fun _ => ?_, ?_⟩; (focus ((go_at_call 34; with_reducible exact Calls.after (hNp _)))); go_big_quiet_on)))); refine wpQuiet_nil ?_; rfl)); (case srcK4 => (intro pp; refine ⟨_, rfl, rfl, fun a W hW hgv => ?_⟩; have g := (hgv 6 _ 33 rfl rfl (by kernel_rfl)).trans rfl; exact src_built (b := .cells #[.string a4, .string ⟨#[99, 97, 115, 104]⟩, .string u2, .string v2] 46) (k := 1) rfl rfl rfl (by simp [execOp, go_sem, g]) (Rd.of_new Ln.cs_length _ 46 [⟨a4, sCash, ⟨u2, v2⟩⟩] (by simp) rfl))); (case srcG4 => (intro pp; first | rfl | (simp; exact ⟨rfl, rfl⟩))); rintro ⟨B4, k4⟩ w4 R4 hb4; (try dsimp only at R4); simp only [List.drop_succ_cons, List.drop_zero, Sl.v]; obtain ⟨hc4, hf4⟩ := bcell hb4; have hs4 := hb4.size; (try simp at hs4))
      have R4o := R3.below hb4
      have bx4 := bx3.below hb4
      have hB4 := b_then hB3 hb4
      have hz4 := hB4.size
      go_wp2_with (first
        | (at_builtin; refine wpList_apps0 (v := .slice B2 2 k2) Tryz.elemLines (by omega) Ln.cs_length Ln.cs_one rfl (.tmp 27) (.tmp 34) rfl rfl R4o B4 1 k4 [⟨a4, sCash, ⟨u2, v2⟩⟩] rfl R4 (by simp) (by simp) (by have := bx4.lt; omega) ?_; intro v5 w5 hown5 hg5 hat5; obtain ⟨k0, k1, k2', k3, k4', k5, k6, k7, k8, k9⟩ := in_bx (bx4.grown hg5 (R4o.apart (by omega))); have hB5 := R4o.frame hB4 (by omega) hg5; have hz5 := hB5.size; have hq5 := (bx4.grown hg5 (R4o.apart (by omega))).lt)
        | (at_builtin; refine wpList_apps0 (v := v5) Tryz.elemLines (by omega) Ln.cs_length Ln.cs_one rfl (.tmp 36) (.tmp 42) rfl rfl (hown5.alloc _) (some ⟨w5.heap.size, 0, none⟩) 1 1 [⟨a3, sCash, ⟨iS p.num, nS p.den⟩⟩] rfl (Rd.of_new Ln.cs_length w5 46 [⟨a3, sCash, ⟨iS p.num, nS p.den⟩⟩] (by simp) rfl) (by simp) (by simp) (by simp; omega) ?_; intro v6 w6 hown6 hg6 hat6))
      go_ret
      rw [HLL.out]
      exact LinesIs.own (by simpa using hown6) ((hown5.alloc _).frame (b_alloc hB5 _) (by omega) hg6)
    · rw [if_neg hs1, List.append_nil] at hl
      have HLL := Lib.hid hl
      clear hl
      have hs2 : s = 0 := by omega
      subst hs2
      go_enter Tryz.func19, Tryz.ntmps19
      go_wp2_with (go_at_call 31; (with_reducible refine (hO _ ).mono ?_); rintro e w1 ⟨rfl, hb1⟩; obtain ⟨hc1, hf1⟩ := bcell hb1; have hs1 := hb1.size; (try simp at hs1))
      have bx1 := bx0.below hb1
      have hB1 := b_then hB0 hb1
      have hz1 := hB1.size
      have hq1 := bx1.lt
      have y3 := fun (x : After w1) (y : After x.W) => (in_bx (bx1.below (b_then x.h y.h))).c3
      have y4 := fun (x : After w1) (y : After x.W) => (in_bx (bx1.below (b_then x.h y.h))).c4
      have y5 := fun (x : After w1) (y : After x.W) => (in_bx (bx1.below (b_then x.h y.h))).c5
      have y6 := fun (x : After w1) (y : After x.W) => (in_bx (bx1.below (b_then x.h y.h))).c6
      have y7 := fun (x : After w1) (y : After x.W) => (in_bx (bx1.below (b_then x.h y.h))).c7
      (refine wp_region_src 16 15 22 2 (fun B k W => Own Ln.cs 4 46 W (w.heap.size + 1) (.slice B 2 k) [⟨a3, a5, ⟨u, v⟩⟩, ⟨a4, a5, ⟨iS q.num, nS q.den⟩⟩]) ?srcA12 (by kernel_rfl) (fun pp => by kernel_rfl) (fun pp x => ?srcH12) ⟨by kernel_rfl, by kernel_rfl, by decide, by decide, ?srcK12, fun B k W W' h hb => h.below hb, ?srcG12, ?srcQ12⟩; (case srcH12 => (simp only [srcl, List.modify_succ_cons, List.modify_zero_cons, repV, List.take_succ_cons, List.take_zero]; (have hxs := x.h.size); (try simp at hxs); (repeat (first | go_big_quiet_skip | (go_big_quiet_want; go_big_quiet_op; first | go_big_quiet_on | (apply Exists.intro; refine ⟨fun _ => ?_, ?_⟩; (focus ((go_at_call 34; with_reducible exact Calls.after (hNq _ )))); go_big_quiet_on)))); refine wpQuiet_nil ?_; rfl)); (case srcK12 => (intro pp; refine ⟨_, rfl, rfl, fun a W hW hgv => ?_⟩; have g1 := (hgv 7 _ 14 rfl rfl (by kernel_rfl)).trans rfl; have g2 := (hgv 14 _ 21 rfl rfl (by kernel_rfl)).trans rfl; exact src_built (b := .cells #[.string a3, .string a5, .string u, .string v, .string a4, .string a5, .string (iS q.num), .string (nS q.den)] 46) (k := 2) rfl rfl rfl (by simp [execOp, go_sem, g1, g2]) ((Own.of_new Ln.cs_length W [⟨a3, a5, ⟨u, v⟩⟩, ⟨a4, a5, ⟨iS q.num, nS q.den⟩⟩] (by simp [maxLen]) rfl).lower (by have := hW.size; omega)))); (case srcG12 => (intro pp; first | rfl | (simp; exact ⟨rfl, rfl⟩))); rintro ⟨B12, k12⟩ w12 R12 hb12; (try dsimp only at R12); simp only [List.drop_succ_cons, List.drop_zero, Sl.v]; obtain ⟨hc12, hf12⟩ := bcell hb12; have hs12 := hb12.size; (try simp at hs12))
      have bx2 := bx1.below hb12
      have hB2 := b_then hB1 hb12
      have hq2 := bx2.lt
      go_wp2_with (go_at_call 28; (with_reducible refine (hS _ ).mono ?_); rintro e w3 ⟨rfl, hb3⟩; obtain ⟨hc3, hf3⟩ := bcell hb3; have hs3 := hb3.size; (try simp at hs3))
      go_ret
      rw [HLL.out]
      exact LinesIs.own (R12.below hb3) (b_then hB2 hb3)
set_option maxRecDepth 100000 in
set_option maxHeartbeats 4000000 in
theorem p_lines (a0 a1 a2 : Int) (a3 a4 a5 a6 a7 a8 a9 : ByteArray) (w : World) (hg : Glob w) (h3 : a3.size ≤ 9000000000) (h4 : a4.size ≤ 9000000000) (h5 : a5.size ≤ 9000000000) (h6 : a6.size ≤ 1000000) (h7 : a7.size ≤ 1000000) (h8 : a8.size ≤ 1000000) (h9 : a9.size ≤ 1000000) :
    Calls Tryz.prog 18 #[.agg #[.int .i64 a0, .int .i64 a1, .int .i64 a2, .string a3, .string a4, .string a5, .string a6, .string a7, .string a8, .string a9]] w fun e w' => LinesIs (ilines ⟨a0, a1, a2, a3, a4, a5, ⟨a6, a7⟩, ⟨a8, a9⟩⟩) w e w' := by
  have hB0 : Below w.heap.size w (w.alloc (.cells #[.int .i64 a0, .int .i64 a1, .int .i64 a2, .string a3, .string a4, .string a5, .string a6, .string a7, .string a8, .string a9] 37)) := b_alloc (Below.refl _ _) _
  have bx0 : Blk (w.alloc (.cells #[.int .i64 a0, .int .i64 a1, .int .i64 a2, .string a3, .string a4, .string a5, .string a6, .string a7, .string a8, .string a9] 37)) w.heap.size 37 #[.int .i64 a0, .int .i64 a1, .int .i64 a2, .string a3, .string a4, .string a5, .string a6, .string a7, .string a8, .string a9] := Blk.new w _ _
  have hO := fun W hg => p_ione a0 a1 a2 a3 a4 a5 a6 a7 a8 a9 W hg (by omega) (by omega) (by omega) (by omega) (by omega) (by omega) (by omega)
  cases c1 : ione ⟨a0, a1, a2, a3, a4, a5, ⟨a6, a7⟩, ⟨a8, a9⟩⟩ with
  | false =>
    rw [c1] at hO
    have hl := Lib.hid (ilines_no c1)
    clear c1
    go_enter Tryz.func18, Tryz.ntmps18
    go_wp2_with (go_at_call 46; (with_reducible refine (hO _ (hg.below hB0)).mono ?_); rintro e w1 ⟨rfl, hb1⟩; obtain ⟨hc1, hf1⟩ := bcell hb1; have hs1 := hb1.size; (try simp at hs1))
    go_ret
    rw [hl.out]
    exact LinesIs.nil (b_then hB0 hb1)
  | true =>
    rw [c1] at hO
    have o := ione_of c1
    obtain ⟨q, hq, hqd, hqs⟩ := rat_of (x := ⟨a6, a7⟩) o.mayq h6 h7
    obtain ⟨p, hp, hpd, hps⟩ := rat_of (x := ⟨a8, a9⟩) o.mayp h8 h9
    injection hq with q1 q2
    subst q1; subst q2
    injection hp with p1 p2
    subst p1; subst p2
    have hNq := fun W hg => p_rneg q W hg (rsmall_mono hqs (by omega))
    have hNp := fun W hg => p_rneg p W hg (rsmall_mono hps (by omega))
    simp only [enc_v] at hNq hNp
    have hS := fun W hg => p_rsign (iS p.num) (nS p.den) W hg (by omega) (by omega)
    have hl := ilines_yes c1
    unfold ilinesU at hl
    dsimp only at hl
    rw [hqd, hpd] at hl
    have hrs : rsign ⟨iS p.num, nS p.den⟩ = p.num.sign := rsign_enc p
    have hs0 := o.pay
    dsimp only at hs0
    rw [hrs] at hl hS hs0
    obtain ⟨s, hs⟩ : ∃ s, p.num.sign = s := ⟨_, rfl⟩
    rw [hs] at hl hS hs0
    obtain ⟨u, hu⟩ : ∃ u, iS (-q).num = u := ⟨_, rfl⟩
    obtain ⟨v, hv⟩ : ∃ v, nS (-q).den = v := ⟨_, rfl⟩
    obtain ⟨u2, hu2⟩ : ∃ u, iS (-p).num = u := ⟨_, rfl⟩
    obtain ⟨v2, hv2⟩ : ∃ v, nS (-p).den = v := ⟨_, rfl⟩
    rw [hu, hv] at hNq
    rw [hu2, hv2] at hNp
    rw [show (enc (-q)) = ⟨u, v⟩ by rw [← hu, ← hv]; rfl, show (enc (-p)) = ⟨u2, v2⟩ by rw [← hu2, ← hv2]; rfl] at hl
    clear hrs hs hu hv hu2 hv2 hqd hpd hqs hps c1 o
    by_cases hs1 : 0 < s
    · rw [if_pos hs1] at hl
      have HLL := Lib.hid hl
      clear hl
      have hs2 : ¬ s = 0 := by omega
      go_enter Tryz.func18, Tryz.ntmps18
      go_wp2_with (go_at_call 46; (with_reducible refine (hO _ (hg.below hB0)).mono ?_); rintro e w1 ⟨rfl, hb1⟩; obtain ⟨hc1, hf1⟩ := bcell hb1; have hs1 := hb1.size; (try simp at hs1))
      have bx1 := bx0.below hb1
      have hB1 := b_then hB0 hb1
      have hz1 := hB1.size
      have hq1 := bx1.lt
      have y3 := fun (x : After w1) (y : After x.W) => (in_bx (bx1.below (b_then x.h y.h))).c3
      have y4 := fun (x : After w1) (y : After x.W) => (in_bx (bx1.below (b_then x.h y.h))).c4
      have y5 := fun (x : After w1) (y : After x.W) => (in_bx (bx1.below (b_then x.h y.h))).c5
      have y6 := fun (x : After w1) (y : After x.W) => (in_bx (bx1.below (b_then x.h y.h))).c6
      have y7 := fun (x : After w1) (y : After x.W) => (in_bx (bx1.below (b_then x.h y.h))).c7
      (refine wp_region_src 16 15 22 2 (fun B k W => Own Ln.cs 4 46 W (w.heap.size + 1) (.slice B 2 k) [⟨a3, a5, ⟨u, v⟩⟩, ⟨a4, a5, ⟨iS q.num, nS q.den⟩⟩]) ?srcA2 (by kernel_rfl) (fun pp => by kernel_rfl) (fun pp x => ?srcH2) ⟨by kernel_rfl, by kernel_rfl, by decide, by decide, ?srcK2, fun B k W W' h hb => h.below hb, ?srcG2, ?srcQ2⟩; (case srcH2 => (simp only [srcl, List.modify_succ_cons, List.modify_zero_cons, repV, List.take_succ_cons, List.take_zero]; (have hxs := x.h.size); (try simp at hxs); (repeat (first | go_big_quiet_skip | (go_big_quiet_want; go_big_quiet_op; first | go_big_quiet_on | (apply Exists.intro; refine ⟨fun _ => ?_, ?_⟩; (focus ((go_at_call 47; with_reducible exact Calls.after (hNq _ (hg.below (b_then hB1 (b_then x.h (After.h _)))))))); go_big_quiet_on)))); refine wpQuiet_nil ?_; rfl)); (case srcK2 => (intro pp; refine ⟨_, rfl, rfl, fun a W hW hgv => ?_⟩; have g1 := (hgv 7 _ 14 rfl rfl (by kernel_rfl)).trans rfl; have g2 := (hgv 14 _ 21 rfl rfl (by kernel_rfl)).trans rfl; exact src_built (b := .cells #[.string a3, .string a5, .string u, .string v, .string a4, .string a5, .string (iS q.num), .string (nS q.den)] 46) (k := 2) rfl rfl rfl (by simp [execOp, go_sem, g1, g2]) ((Own.of_new Ln.cs_length W [⟨a3, a5, ⟨u, v⟩⟩, ⟨a4, a5, ⟨iS q.num, nS q.den⟩⟩] (by simp [maxLen]) rfl).lower (by have := hW.size; omega)))); (case srcG2 => (intro pp; first | rfl | (simp; exact ⟨rfl, rfl⟩))); rintro ⟨B2, k2⟩ w2 R2 hb2; (try dsimp only at R2); simp only [List.drop_succ_cons, List.drop_zero, Sl.v]; obtain ⟨hc2, hf2⟩ := bcell hb2; have hs2 := hb2.size; (try simp at hs2))
      have bx2 := bx1.below hb2
      have hB2 := b_then hB1 hb2
      have hq2 := bx2.lt
      go_wp2_with (go_at_call 48; (with_reducible refine (hS _ (hg.below hB2)).mono ?_); rintro e w3 ⟨rfl, hb3⟩; obtain ⟨hc3, hf3⟩ := bcell hb3; have hs3 := hb3.size; (try simp at hs3))
      have bx3 := bx2.below hb3
      have hB3 := b_then hB2 hb3
      have R3 := R2.below hb3
      have hq3 := bx3.lt
      have x3 := fun (x : After w3) (y : After x.W) => (in_bx (bx3.below (b_then x.h y.h))).c3
      have x4 := fun (x : After w3) (y : After x.W) => (in_bx (bx3.below (b_then x.h y.h))).c4
      have x8 := fun (x : After w3) (y : After x.W) => (in_bx (bx3.below (b_then x.h y.h))).c8
      have x9 := fun (x : After w3) (y : After x.W) => (in_bx (bx3.below (b_then x.h y.h))).c9
      clear y3 y4 y5 y6 y7
      (refine wp_region_src 13 12 40 2 (fun B k W => Rd Ln.cs 4 W B 2 [⟨a4, sCash, ⟨u2, v2⟩⟩, ⟨a3, sCash, ⟨iS p.num, nS p.den⟩⟩]) ?srcA4 (by kernel_rfl) (fun pp => by kernel_rfl) (fun pp x => ?srcH4) ⟨by kernel_rfl, by kernel_rfl, by decide, by decide, ?srcK4, fun B k W W' h hb => h.below hb, ?srcG4, ?srcQ4⟩; (case srcH4 => (simp only [srcl, List.modify_succ_cons, List.modify_zero_cons, repV, List.take_succ_cons, List.take_zero]; (have hxs := x.h.size); (try simp at hxs); (repeat (first | go_big_quiet_skip | (go_big_quiet_want; go_big_quiet_op; first | go_big_quiet_on | (apply Exists.intro; refine ⟨fun _ => ?_, ?_⟩; (focus ((go_at_call 47; with_reducible exact Calls.after (hNp _ (hg.below (b_then hB3 (b_then x.h (After.h _)))))))); go_big_quiet_on)))); refine wpQuiet_nil ?_; rfl)); (case srcK4 => (intro pp; refine ⟨_, rfl, rfl, fun a W hW hgv => ?_⟩; have g1 := (hgv 6 _ 34 rfl rfl (by kernel_rfl)).trans rfl; have g2 := (hgv 11 _ 39 rfl rfl (by kernel_rfl)).trans rfl; exact src_built (b := .cells #[.string a4, .string ⟨#[99, 97, 115, 104]⟩, .string u2, .string v2, .string a3, .string ⟨#[99, 97, 115, 104]⟩, .string (iS p.num), .string (nS p.den)] 46) (k := 2) rfl rfl rfl (by simp [execOp, go_sem, g1, g2]) (Rd.of_new Ln.cs_length _ 46 [⟨a4, sCash, ⟨u2, v2⟩⟩, ⟨a3, sCash, ⟨iS p.num, nS p.den⟩⟩] (by simp) rfl))); (case srcG4 => (intro pp; first | rfl | (simp; exact ⟨rfl, rfl⟩))); rintro ⟨B4, k4⟩ w4 R4 hb4; (try dsimp only at R4); simp only [List.drop_succ_cons, List.drop_zero, Sl.v]; obtain ⟨hc4, hf4⟩ := bcell hb4; have hs4 := hb4.size; (try simp at hs4))
      have R4o := R3.below hb4
      have hB4 := b_then hB3 hb4
      have hz4 := hB4.size
      go_wp2_with (at_builtin; refine wpList_apps0 (v := .slice B2 2 k2) Tryz.elemLines (by omega) Ln.cs_length Ln.cs_one rfl (.tmp 28) (.tmp 40) rfl rfl R4o B4 2 k4 [⟨a4, sCash, ⟨u2, v2⟩⟩, ⟨a3, sCash, ⟨iS p.num, nS p.den⟩⟩] rfl R4 (by simp) (by simp) (by have := (bx3.below hb4).lt; omega) ?_; intro v5 w5 hown5 hg5 hat5)
      go_ret
      rw [HLL.out]
      exact LinesIs.own (by simpa using hown5) (R4o.frame hB4 (by omega) hg5)
    · rw [if_neg hs1, List.append_nil] at hl
      have HLL := Lib.hid hl
      clear hl
      have hs2 : s = 0 := by omega
      subst hs2
      go_enter Tryz.func18, Tryz.ntmps18
      go_wp2_with (go_at_call 46; (with_reducible refine (hO _ (hg.below hB0)).mono ?_); rintro e w1 ⟨rfl, hb1⟩; obtain ⟨hc1, hf1⟩ := bcell hb1; have hs1 := hb1.size; (try simp at hs1))
      have bx1 := bx0.below hb1
      have hB1 := b_then hB0 hb1
      have hz1 := hB1.size
      have hq1 := bx1.lt
      have y3 := fun (x : After w1) (y : After x.W) => (in_bx (bx1.below (b_then x.h y.h))).c3
      have y4 := fun (x : After w1) (y : After x.W) => (in_bx (bx1.below (b_then x.h y.h))).c4
      have y5 := fun (x : After w1) (y : After x.W) => (in_bx (bx1.below (b_then x.h y.h))).c5
      have y6 := fun (x : After w1) (y : After x.W) => (in_bx (bx1.below (b_then x.h y.h))).c6
      have y7 := fun (x : After w1) (y : After x.W) => (in_bx (bx1.below (b_then x.h y.h))).c7
      (refine wp_region_src 16 15 22 2 (fun B k W => Own Ln.cs 4 46 W (w.heap.size + 1) (.slice B 2 k) [⟨a3, a5, ⟨u, v⟩⟩, ⟨a4, a5, ⟨iS q.num, nS q.den⟩⟩]) ?srcA12 (by kernel_rfl) (fun pp => by kernel_rfl) (fun pp x => ?srcH12) ⟨by kernel_rfl, by kernel_rfl, by decide, by decide, ?srcK12, fun B k W W' h hb => h.below hb, ?srcG12, ?srcQ12⟩; (case srcH12 => (simp only [srcl, List.modify_succ_cons, List.modify_zero_cons, repV, List.take_succ_cons, List.take_zero]; (have hxs := x.h.size); (try simp at hxs); (repeat (first | go_big_quiet_skip | (go_big_quiet_want; go_big_quiet_op; first | go_big_quiet_on | (apply Exists.intro; refine ⟨fun _ => ?_, ?_⟩; (focus ((go_at_call 47; with_reducible exact Calls.after (hNq _ (hg.below (b_then hB1 (b_then x.h (After.h _)))))))); go_big_quiet_on)))); refine wpQuiet_nil ?_; rfl)); (case srcK12 => (intro pp; refine ⟨_, rfl, rfl, fun a W hW hgv => ?_⟩; have g1 := (hgv 7 _ 14 rfl rfl (by kernel_rfl)).trans rfl; have g2 := (hgv 14 _ 21 rfl rfl (by kernel_rfl)).trans rfl; exact src_built (b := .cells #[.string a3, .string a5, .string u, .string v, .string a4, .string a5, .string (iS q.num), .string (nS q.den)] 46) (k := 2) rfl rfl rfl (by simp [execOp, go_sem, g1, g2]) ((Own.of_new Ln.cs_length W [⟨a3, a5, ⟨u, v⟩⟩, ⟨a4, a5, ⟨iS q.num, nS q.den⟩⟩] (by simp [maxLen]) rfl).lower (by have := hW.size; omega)))); (case srcG12 => (intro pp; first | rfl | (simp; exact ⟨rfl, rfl⟩))); rintro ⟨B12, k12⟩ w12 R12 hb12; (try dsimp only at R12); simp only [List.drop_succ_cons, List.drop_zero, Sl.v]; obtain ⟨hc12, hf12⟩ := bcell hb12; have hs12 := hb12.size; (try simp at hs12))
      have bx2 := bx1.below hb12
      have hB2 := b_then hB1 hb12
      have hq2 := bx2.lt
      go_wp2_with (go_at_call 48; (with_reducible refine (hS _ (hg.below hB2)).mono ?_); rintro e w3 ⟨rfl, hb3⟩; obtain ⟨hc3, hf3⟩ := bcell hb3; have hs3 := hb3.size; (try simp at hs3))
      go_ret
      rw [HLL.out]
      exact LinesIs.own (R12.below hb3) (b_then hB2 hb3)
end Go.Proofs.YtjdkbmlkplbmoaaGreatDoor
