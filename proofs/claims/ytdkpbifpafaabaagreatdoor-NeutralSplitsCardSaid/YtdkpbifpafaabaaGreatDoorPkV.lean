/- Walks of packs: Value of both. -/
import Derived.Test.YtdkpbifpafaabaaGreatDoorPkF
namespace Go.Proofs.YtdkpbifpafaabaaGreatDoor
open Go.RowKit
set_option linter.unusedVariables false
set_option linter.unusedSimpArgs false

theorem pvalU_step {l : List Pt} {c s : RT} {fs : List Fx} {d : Int} {k : Nat} {x : Pt} (h : pvalU (l.take k) c fs d = some s) (hx : l[k]? = some x) : pvalU (l.take (k + 1)) c fs d = pstep fs d (some s) x := by
  unfold pvalU at h ⊢
  rw [List.take_add_one, hx, List.foldl_append, h]; rfl
theorem pvalU_stop {l : List Pt} {c s : RT} {fs : List Fx} {d : Int} {k : Nat} {x : Pt} (h : pvalU (l.take k) c fs d = some s) (hx : l[k]? = some x) (hg : fget fs x.asset d = none) : pvalU l c fs d = none := by
  obtain ⟨hk, e⟩ := List.getElem?_eq_some_iff.1 hx
  have : l = l.take k ++ x :: l.drop (k + 1) := by rw [← e, List.getElem_cons_drop, List.take_append_drop]
  unfold pvalU at h ⊢
  rw [this, List.foldl_append, h, List.foldl_cons]
  have : pstep fs d (some s) x = none := by unfold pstep; rw [Option.bind_some, hg]; rfl
  rw [this, pvalU_none]
def fxr (k : Nat) (f : Fx) : Prop := f.asset.size ≤ 9000000000 ∧ f.p.num.size ≤ k ∧ f.p.den.size ≤ k
theorem fxr_q {f : Fx} {k : Nat} (h : fxr k f) (hk : k ≤ 890000000) : fxq f := ⟨h.1, Nat.le_trans h.2.1 hk, Nat.le_trans h.2.2 hk⟩
theorem rsmall_of {q : Rat} {k : Nat} (h1 : (enc q).num.size ≤ k) (h2 : (enc q).den.size ≤ k) : rsmall k q := by
  have e1 : (enc q).num = iS q.num := rfl
  have e2 : (enc q).den = nS q.den := rfl
  rw [e1, iS_size] at h1
  rw [e2, nS_size] at h2
  exact ⟨by omega, h2⟩
theorem fget_enc {fs : List Fx} {k : Nat} (hz : ∀ f ∈ fs, fxr k f) {s : ByteArray} {d : Int} {q : RT} (h : fget fs s d = some q) : ∃ p, q = enc p ∧ rsmall k p := by
  obtain ⟨p, rfl⟩ := rmay_of (fget_may h)
  refine ⟨p, rfl, ?_⟩
  unfold fget at h
  split at h
  · cases hf : fs.find? (fhit s d) with
    | none => rw [hf] at h; cases h
    | some f =>
      rw [hf] at h
      have e : f.p = enc p := by simpa using h
      obtain ⟨_, z1, z2⟩ := hz f (List.mem_of_find?_eq_some hf)
      rw [e] at z1 z2
      exact rsmall_of z1 z2
  · cases h
theorem pone_enc {a0 a1 a2 : ByteArray} (h : pone ⟨a0, ⟨a1, a2⟩⟩ = true) (h1 : a1.size ≤ 1000) (h2 : a2.size ≤ 1000) : ∃ r, (⟨a1, a2⟩ : RT) = enc r ∧ rsmall 1000 r := by
  obtain ⟨r, hr⟩ := rmay_of (pone_of h).may
  dsimp only at hr
  refine ⟨r, hr, rsmall_of ?_ ?_⟩
  · rw [← hr]; exact h1
  · rw [← hr]; exact h2
theorem pstep_enc {fs : List Fx} {d : Int} {a0 : ByteArray} {q r p : Rat} (h : fget fs a0 d = some (enc p)) : pstep fs d (some (enc q)) ⟨a0, enc r⟩ = some (enc (q + r * p)) := by
  unfold pstep
  rw [Option.bind_some, h]
  show some (radd (enc q) (rmul (enc r) (enc p))) = _
  rw [rmul_enc, radd_enc]
theorem optR_none : optR none = .tuple #[.agg #[.string ⟨#[]⟩, .string ⟨#[]⟩], .bool false] := rfl
theorem optR_enc (p : Rat) : optR (some (enc p)) = .tuple #[.agg #[.string (iS p.num), .string (nS p.den)], .bool true] := rfl
abbrev WV (w : World) (A : Option Addr) (n c : Nat) (c0 c1 : ByteArray) : World := (WPk w A n c c0 c1).alloc (.cells #[.string ⟨#[]⟩, .string ⟨#[]⟩] 23)
theorem b_put2 {w W : World} (h : Below w.heap.size w W) {g : Nat} (hg : w.heap.size ≤ g) (u v : Value) : Below w.heap.size w ((W.setCell ⟨g, 0, none⟩ u).setCell ⟨g, 1, none⟩ v) := b_set (b_set h hg _) hg _

set_option maxRecDepth 100000 in
set_option maxHeartbeats 4000000 in
theorem p_value {A Af : Option Addr} {n c nf cf : Nat} {xs : List Pt} {fs : List Fx} (c0 c1 : ByteArray) (d : Int) (w : World) (hg : Glob w) (hx : Rd Pt.cs 3 w A n xs) (hn : n ≤ 100) (hz : ∀ x ∈ xs, ptq 1000 x) (hc0 : c0.size ≤ 1000) (hc1 : c1.size ≤ 1000)
    (hf : Rd Fx.cs 4 w Af nf fs) (hnf : nf ≤ 1000000) (hzf : ∀ f ∈ fs, fxr 1000000 f) :
    Calls Tryz.prog 17 #[.agg #[.slice A n c, .string c0, .string c1], .slice Af nf cf, .int .i64 d] w fun e w' => e = .returned (optR (pval xs ⟨c0, c1⟩ fs d)) ∧ Below w.heap.size w w' := by
  have hbig := hx.big
  have hz' : ∀ x ∈ xs, ptq 880000000 x := fun x hx => ⟨(hz x hx).1, Nat.le_trans (hz x hx).2.1 (by omega), Nat.le_trans (hz x hx).2.2 (by omega)⟩
  have hzq : ∀ f ∈ fs, fxq f := fun f hf => fxr_q (hzf f hf) (by omega)
  have hzs : ∀ f ∈ fs, fxsz f := fun f hf => fxq_sz (hzq f hf)
  have hB0 : Below w.heap.size w (WV w A n c c0 c1) := b_alloc (b_alloc (Below.refl _ _) _) _
  have pb : Blk (WV w A n c c0 c1) w.heap.size 28 #[.slice A n c, .string c0, .string c1] := (Blk.new w _ _).alloc _
  have rb0 : Blk (WV w A n c c0 c1) (w.heap.size + 1) 23 #[.string ⟨#[]⟩, .string ⟨#[]⟩] := Blk.new2 w _ _ _
  have PB := Lib.hid pb
  have RB := Lib.hid rb0
  clear pb rb0
  have hP := fun W (h : Below w.heap.size w W) => p_pkmay (c := c) c0 c1 W (hg.below h) (hx.below h) hz' (by omega) (by omega)
  have hF := fun W (h : Below w.heap.size w W) => p_may (c := cf) W (hg.below h) (hf.below h) hzq
  cases m1 : pkmay xs ⟨c0, c1⟩ with
  | false =>
    rw [m1] at hP
    have HV : Hid (pval xs ⟨c0, c1⟩ fs d = none) := by unfold Hid pval; rw [m1]; rfl
    clear m1
    go_enter Tryz.func17, Tryz.ntmps17
    go_wp2_with (go_at_call 22; (with_reducible refine (hP _ hB0).mono ?_); rintro e w1 ⟨rfl, hb1⟩; obtain ⟨hc1, hf1⟩ := bcell hb1; have hs1 := hb1.size; (try simp at hs1); have hq1 : w.heap.size + 1 < w1.heap.size := (by omega); have hv1 : w.heap.size < w1.heap.size := (by omega))
    refine bodyPost_ret (v := .tuple #[.agg #[.string ⟨#[]⟩, .string ⟨#[]⟩], .bool false]) ?_ rfl ⟨by rw [HV.out]; rfl, (by repeat (first | exact Below.refl _ _ | assumption | refine b_then ?_ (by assumption) | refine b_alloc ?_ _ | refine b_drewN ?_ _ | refine Below.drew ?_ | refine b_set ?_ (by first | exact Nat.le_refl _ | (simp; done) | (simp; omega) | omega) _))⟩
    simp [results, Tryz.results17, go_sem, hc1, hf1, hq1]
  | true =>
  rw [m1] at hP
  cases m2 : fmay fs with
  | false =>
    rw [m2] at hF
    have HV : Hid (pval xs ⟨c0, c1⟩ fs d = none) := by unfold Hid pval; rw [m1, m2]; rfl
    clear m1 m2
    go_enter Tryz.func17, Tryz.ntmps17
    go_wp2_with (first | (go_at_call 22; (with_reducible refine (hP _ hB0).mono ?_); rintro e w1 ⟨rfl, hb1⟩; obtain ⟨hc1, hf1⟩ := bcell hb1; have hs1 := hb1.size; (try simp at hs1); have hq1 : w.heap.size + 1 < w1.heap.size := (by omega); have hv1 : w.heap.size < w1.heap.size := (by omega)) | (go_at_call 43; (with_reducible refine (hF _ (by repeat (first | exact Below.refl _ _ | assumption | refine b_then ?_ (by assumption) | refine b_alloc ?_ _ | refine b_drewN ?_ _ | refine Below.drew ?_ | refine b_set ?_ (by first | exact Nat.le_refl _ | (simp; done) | (simp; omega) | omega) _))).mono ?_); rintro e w2 ⟨rfl, hb2⟩; obtain ⟨hc2, hf2⟩ := bcell hb2; have hs2 := hb2.size; (try simp at hs2); have hq2 : w.heap.size + 1 < w2.heap.size := (by omega); have hv2 : w.heap.size < w2.heap.size := (by omega)))
    refine bodyPost_ret (v := .tuple #[.agg #[.string ⟨#[]⟩, .string ⟨#[]⟩], .bool false]) ?_ rfl ⟨by rw [HV.out]; rfl, (by repeat (first | exact Below.refl _ _ | assumption | refine b_then ?_ (by assumption) | refine b_alloc ?_ _ | refine b_drewN ?_ _ | refine Below.drew ?_ | refine b_set ?_ (by first | exact Nat.le_refl _ | (simp; done) | (simp; omega) | omega) _))⟩
    simp [results, Tryz.results17, go_sem, hc1, hf1, hq1, hc2, hf2, hq2]
  | true =>
  rw [m2] at hF
  have HV : Hid (pval xs ⟨c0, c1⟩ fs d = pvalU xs ⟨c0, c1⟩ fs d) := by unfold Hid pval; rw [m1, m2]; rfl
  obtain ⟨M1, _, M3⟩ := pkmay_of m1
  have M1' : ∀ x ∈ xs, pone x = true := by
    unfold pkmay pparts at m1
    simp only [Bool.and_eq_true, List.all_eq_true] at m1
    exact m1.1.1
  obtain ⟨qc, hqc⟩ := rmay_of M3
  have hqs : rsmall 1000 qc := rsmall_of (by rw [← hqc]; exact hc0) (by rw [← hqc]; exact hc1)
  injection hqc with e1 e2
  subst e1; subst e2
  have MX := Lib.hid M1'
  clear m1 m2 M1 M3 M1'
  go_enter Tryz.func17, Tryz.ntmps17
  go_wp2_with (first | (go_at_call 22; (with_reducible refine (hP _ hB0).mono ?_); rintro e w1 ⟨rfl, hb1⟩; obtain ⟨hc1, hf1⟩ := bcell hb1; have hs1 := hb1.size; (try simp at hs1); have hq1 : w.heap.size + 1 < w1.heap.size := (by omega); have hv1 : w.heap.size < w1.heap.size := (by omega)) | (go_at_call 43; (with_reducible refine (hF _ (by repeat (first | exact Below.refl _ _ | assumption | refine b_then ?_ (by assumption) | refine b_alloc ?_ _ | refine b_drewN ?_ _ | refine Below.drew ?_ | refine b_set ?_ (by first | exact Nat.le_refl _ | (simp; done) | (simp; omega) | omega) _))).mono ?_); rintro e w2 ⟨rfl, hb2⟩; obtain ⟨hc2, hf2⟩ := bcell hb2; have hs2 := hb2.size; (try simp at hs2); have hq2 : w.heap.size + 1 < w2.heap.size := (by omega); have hv2 : w.heap.size < w2.heap.size := (by omega)))
  have hB2 : Below w.heap.size w w2 := b_then (b_then hB0 hb1) hb2
  have pb2 := (PB.out.below hb1).below hb2
  have rb2 := (RB.out.below hb1).below hb2
  have PB2 := Lib.hid pb2
  have RB2 := Lib.hid rb2
  clear pb2 rb2 hb1 hb2 hc1 hf1 hs1 hq1 hc2 hf2 hs2 PB RB hP hF
  go_loopw [27] (fun i wr => ∃ (k : Nat) (q : Rat), k ≤ n ∧ i = .int .i64 k ∧ rsmall (1000 + k * 1001001) q ∧ Hid (pvalU (xs.take k) (enc qc) fs d = some (enc q)) ∧ Blk wr w2.heap.size 23 #[.string (iS q.num), .string (nS q.den)] ∧ Below w2.heap.size w2 wr) (fun i _ => n - (intOf i).toNat)
  case atStart => exact ⟨0, qc, Nat.zero_le _, rfl, by simpa using hqs, rfl, Blk.new w2 _ _, b_alloc (Below.refl _ _) _⟩
  case round =>
    obtain ⟨k, q, hk, rfl, hq, H, sb, hB⟩ := hrel
    have hBw : Below w.heap.size w wr := b_then hB2 hB
    have pr := PB2.out.below hB
    have rb := RB2.out.below hB
    have hsl : w.heap.size < wr.heap.size := pr.lt
    have hsr : w.heap.size + 1 < wr.heap.size := rb.lt
    have hss : w2.heap.size < wr.heap.size := sb.lt
    have q0 := pr.cell 0
    simp at q0
    obtain ⟨s0, s1, s2, s3⟩ := sb.two
    obtain ⟨r0, r1, r2, r3⟩ := rb.two
    have hne : w2.heap.size ≠ w.heap.size + 1 := by omega
    have hne' : w.heap.size + 1 ≠ w2.heap.size := by omega
    by_cases hlt : k < n
    · obtain ⟨ad, a0, a1, a2, rfl, hxk, hl⟩ := pt_in hx hBw hlt
      obtain ⟨z1, z2, z3⟩ := hz _ (List.mem_of_getElem? hxk)
      dsimp only at z1 z2 z3
      obtain ⟨r, hrr, hr⟩ := pone_enc (MX.out _ (List.mem_of_getElem? hxk)) z2 z3
      injection hrr with e1 e2
      subst e1; subst e2
      have HX := Lib.hid hxk
      obtain ⟨hx0, hx1, hx2, hx2'⟩ := hl wr (Below.refl _ _)
      have HL := Lib.hid hl
      have hG := fun W (h : Below w.heap.size w W) => p_get (c := cf) a0 d W (hg.below h) (hf.below h) hnf hzq
      clear hxk hl
      cases g1 : fget fs a0 d with
      | none =>
        rw [g1, optR_none] at hG
        have H2 : Hid (optR (pval xs ⟨iS qc.num, nS qc.den⟩ fs d) = .tuple #[.agg #[.string ⟨#[]⟩, .string ⟨#[]⟩], .bool false]) := by
          rw [Hid, HV.out]
          exact (congrArg optR (pvalU_stop (c := enc qc) H.out HX.out g1)).trans rfl
        clear g1
        go_wp2_with (go_at_call 44; (with_reducible refine (hG _ (b_alloc hBw _)).mono ?_); rintro e w5 ⟨rfl, hb5⟩; obtain ⟨hc5, hf5⟩ := bcell hb5; have hs5 := hb5.size; (try simp at hs5); have hq5 : w.heap.size + 1 < w5.heap.size := (by omega); have hv5 : w.heap.size < w5.heap.size := (by omega))
        obtain ⟨t0, t1, t2, t3⟩ := Blk.two ((rb.alloc _).below hb5)
        have hB5 : Below w.heap.size w w5 := b_then (b_alloc hBw _) hb5
        clear hb5
        refine bodyPost_ret (v := .tuple #[.agg #[.string ⟨#[]⟩, .string ⟨#[]⟩], .bool false]) ?_ rfl ⟨by rw [H2.out], by repeat (first | exact hB5 | refine b_alloc ?_ _ | refine b_set ?_ (by simp) _)⟩
        simp [results, Tryz.results17, go_sem, t0, t1, t2, t3, hq5]
      | some pp =>
        obtain ⟨p, rfl, hp⟩ := fget_enc hzf g1
        rw [g1, optR_enc] at hG
        have H2 : Hid (pvalU (xs.take (k + 1)) (enc qc) fs d = some (enc (q + r * p))) := by
          rw [Hid, pvalU_step H.out HX.out]; exact pstep_enc g1
        have hq' : rsmall (1000 + (k + 1) * 1001001) (q + r * p) := rsmall_mono (rsmall_add hq (rsmall_mul hr hp)) (by omega)
        have hM := fun W (h : Below w.heap.size w W) => p_rmul r p W (hg.below h) (rsmall_mono hr (by omega)) (rsmall_mono hp (by omega))
        have hA := fun W (h : Below w.heap.size w W) => p_radd q (r * p) W (hg.below h) (rsmall_mono hq (by omega)) (rsmall_mono (rsmall_mul hr hp) (by omega))
        simp only [enc_v] at hM hA
        generalize q + r * p = q' at *
        generalize r * p = m at *
        clear g1
        go_wp2_with (go_at_call 44; (with_reducible refine (hG _ (b_alloc hBw _)).mono ?_); rintro e w5 ⟨rfl, hb5⟩; obtain ⟨hc5, hf5⟩ := bcell hb5; have hs5 := hb5.size; (try simp at hs5); have hq5 : w.heap.size + 1 < w5.heap.size := (by omega); have hv5 : w.heap.size < w5.heap.size := (by omega); have ht5 : w2.heap.size < w5.heap.size := (by omega))
        have sb5 := ((sb.alloc _).below hb5)
        have pr5 := ((pr.alloc _).below hb5)
        have hB5 : Below w.heap.size w (w5.alloc (.cells #[.string (iS p.num), .string (nS p.den)] 23)) := b_alloc (b_then (b_alloc hBw _) hb5) _
        have hW5 : Below w2.heap.size w2 (w5.alloc (.cells #[.string (iS p.num), .string (nS p.den)] 23)) := b_alloc (b_then (b_alloc hB _) hb5) _
        have y0 := fun (y : After (w5.alloc (.cells #[.string (iS p.num), .string (nS p.den)] 23))) => ((sb5.alloc _).below y.h).cell 0
        have y1 := fun (y : After (w5.alloc (.cells #[.string (iS p.num), .string (nS p.den)] 23))) => ((sb5.alloc _).below y.h).cell 1
        simp at y0 y1
        have bx5 := (Blk.new wr 45 #[.string a0, .string (iS r.num), .string (nS r.den)]).below hb5
        have x1 := fun (y : After (w5.alloc (.cells #[.string (iS p.num), .string (nS p.den)] 23))) => ((bx5.alloc (.cells #[.string (iS p.num), .string (nS p.den)] 23)).below y.h).cell 1
        have x2 := fun (y : After (w5.alloc (.cells #[.string (iS p.num), .string (nS p.den)] 23))) => ((bx5.alloc (.cells #[.string (iS p.num), .string (nS p.den)] 23)).below y.h).cell 2
        simp at x1 x2

        have SB := Lib.hid (sb5.alloc (.cells #[.string (iS p.num), .string (nS p.den)] 23))
        clear sb5 pr5 sb pr rb
        (refine wp_region_ahead 6 (by kernel_rfl) (by kernel_rfl) ?_; simp only [List.take_succ_cons, List.take_zero, List.drop_succ_cons, List.drop_zero]; (repeat (first | go_big_quiet_skip | (go_big_quiet_want; go_big_quiet_op; first | go_big_quiet_on | (apply Exists.intro; refine ⟨fun _ => ?_, ?_⟩; (focus (first | (go_at_call 46; with_reducible exact Calls.after (hM _ (b_then hB5 (After.h _)))) | (go_at_call 45; with_reducible exact Calls.after (hA _ (b_then hB5 (After.h _)))))); go_big_quiet_on)))); refine wpQuiet_nil ?_; rintro ⟨w7, hb7⟩; (try dsimp only); obtain ⟨hc7, hf7⟩ := bcell hb7; have hs7 := hb7.size; (try simp at hs7))
        have sb7 := SB.out.below hb7
        obtain ⟨v0, v1, v2, v3⟩ := sb7.two
        have hW7 : Below w2.heap.size w2 w7 := b_then hW5 hb7
        go_wp2
        go_roundw
        case rel => exact ⟨k + 1, q', by omega, by go_num, hq', H2, sb7.put2 _ _, b_put2 hW7 (Nat.le_refl _) _ _⟩
        case measure => simp [intOf]; omega
    · obtain rfl : k = n := by omega
      have H2 := H.out
      rw [← hx.len, List.take_length] at H2
      have H3 : Hid (optR (pval xs ⟨iS qc.num, nS qc.den⟩ fs d) = .tuple #[.agg #[.string (iS q.num), .string (nS q.den)], .bool true]) := by
        rw [Hid, HV.out]
        exact (congrArg optR H2).trans rfl
      clear H2
      go_wp2
      refine bodyPost_ret (v := .tuple #[.agg #[.string (iS q.num), .string (nS q.den)], .bool true]) ?_ rfl ⟨by rw [H3.out], (by repeat (first | exact Below.refl _ _ | assumption | refine b_then ?_ (by assumption) | refine b_alloc ?_ _ | refine b_drewN ?_ _ | refine Below.drew ?_ | refine b_set ?_ (by first | exact Nat.le_refl _ | (simp; done) | (simp; omega) | omega) _))⟩
      simp [results, Tryz.results17, go_sem, r0, r1, r2, r3, hsr]
set_option maxRecDepth 100000 in
set_option maxHeartbeats 4000000 in
theorem r16_value {A Af : Option Addr} {n c nf cf : Nat} {xs : List Pt} {fs : List Fx} (c0 c1 : ByteArray) (d : Int) (w : World) (hx : Rd Pt.cs 3 w A n xs) (hn : n ≤ 100) (hz : ∀ x ∈ xs, ptq 1000 x) (hc0 : c0.size ≤ 1000) (hc1 : c1.size ≤ 1000)
    (hf : Rd Fx.cs 4 w Af nf fs) (hnf : nf ≤ 1000000) (hzf : ∀ f ∈ fs, fxr 1000000 f) :
    Calls Tryz.prog 18 #[.agg #[.slice A n c, .string c0, .string c1], .slice Af nf cf, .int .i64 d] w fun e w' => e = .returned (optR (pval xs ⟨c0, c1⟩ fs d)) ∧ Below w.heap.size w w' := by
  have hbig := hx.big
  have hz' : ∀ x ∈ xs, ptq 880000000 x := fun x hx => ⟨(hz x hx).1, Nat.le_trans (hz x hx).2.1 (by omega), Nat.le_trans (hz x hx).2.2 (by omega)⟩
  have hzq : ∀ f ∈ fs, fxq f := fun f hf => fxr_q (hzf f hf) (by omega)
  have hzs : ∀ f ∈ fs, fxsz f := fun f hf => fxq_sz (hzq f hf)
  have hB0 : Below w.heap.size w (WV w A n c c0 c1) := b_alloc (b_alloc (Below.refl _ _) _) _
  have pb : Blk (WV w A n c c0 c1) w.heap.size 28 #[.slice A n c, .string c0, .string c1] := (Blk.new w _ _).alloc _
  have rb0 : Blk (WV w A n c c0 c1) (w.heap.size + 1) 23 #[.string ⟨#[]⟩, .string ⟨#[]⟩] := Blk.new2 w _ _ _
  have PB := Lib.hid pb
  have RB := Lib.hid rb0
  clear pb rb0
  have hP := fun W (h : Below w.heap.size w W) => r16_may (c := c) c0 c1 W (hx.below h) hz' (by omega) (by omega)
  have hF := fun W (h : Below w.heap.size w W) => r12_may (c := cf) W (hf.below h) hzs
  cases m1 : pkmay xs ⟨c0, c1⟩ with
  | false =>
    rw [m1] at hP
    have HV : Hid (pval xs ⟨c0, c1⟩ fs d = none) := by unfold Hid pval; rw [m1]; rfl
    clear m1
    go_enter Tryz.func18, Tryz.ntmps18
    go_wp2_with (go_at_call 23; (with_reducible refine (hP _ hB0).mono ?_); rintro e w1 ⟨rfl, hb1⟩; obtain ⟨hc1, hf1⟩ := bcell hb1; have hs1 := hb1.size; (try simp at hs1); have hq1 : w.heap.size + 1 < w1.heap.size := (by omega); have hv1 : w.heap.size < w1.heap.size := (by omega))
    refine bodyPost_ret (v := .tuple #[.agg #[.string ⟨#[]⟩, .string ⟨#[]⟩], .bool false]) ?_ rfl ⟨by rw [HV.out]; rfl, (by repeat (first | exact Below.refl _ _ | assumption | refine b_then ?_ (by assumption) | refine b_alloc ?_ _ | refine b_drewN ?_ _ | refine Below.drew ?_ | refine b_set ?_ (by first | exact Nat.le_refl _ | (simp; done) | (simp; omega) | omega) _))⟩
    simp [results, Tryz.results18, go_sem, hc1, hf1, hq1]
  | true =>
  rw [m1] at hP
  cases m2 : fmay fs with
  | false =>
    rw [m2] at hF
    have HV : Hid (pval xs ⟨c0, c1⟩ fs d = none) := by unfold Hid pval; rw [m1, m2]; rfl
    clear m1 m2
    go_enter Tryz.func18, Tryz.ntmps18
    go_wp2_with (first | (go_at_call 23; (with_reducible refine (hP _ hB0).mono ?_); rintro e w1 ⟨rfl, hb1⟩; obtain ⟨hc1, hf1⟩ := bcell hb1; have hs1 := hb1.size; (try simp at hs1); have hq1 : w.heap.size + 1 < w1.heap.size := (by omega); have hv1 : w.heap.size < w1.heap.size := (by omega)) | (go_at_call 32; (with_reducible refine (hF _ (by repeat (first | exact Below.refl _ _ | assumption | refine b_then ?_ (by assumption) | refine b_alloc ?_ _ | refine b_drewN ?_ _ | refine Below.drew ?_ | refine b_set ?_ (by first | exact Nat.le_refl _ | (simp; done) | (simp; omega) | omega) _))).mono ?_); rintro e w2 ⟨rfl, hb2⟩; obtain ⟨hc2, hf2⟩ := bcell hb2; have hs2 := hb2.size; (try simp at hs2); have hq2 : w.heap.size + 1 < w2.heap.size := (by omega); have hv2 : w.heap.size < w2.heap.size := (by omega)))
    refine bodyPost_ret (v := .tuple #[.agg #[.string ⟨#[]⟩, .string ⟨#[]⟩], .bool false]) ?_ rfl ⟨by rw [HV.out]; rfl, (by repeat (first | exact Below.refl _ _ | assumption | refine b_then ?_ (by assumption) | refine b_alloc ?_ _ | refine b_drewN ?_ _ | refine Below.drew ?_ | refine b_set ?_ (by first | exact Nat.le_refl _ | (simp; done) | (simp; omega) | omega) _))⟩
    simp [results, Tryz.results18, go_sem, hc1, hf1, hq1, hc2, hf2, hq2]
  | true =>
  rw [m2] at hF
  have HV : Hid (pval xs ⟨c0, c1⟩ fs d = pvalU xs ⟨c0, c1⟩ fs d) := by unfold Hid pval; rw [m1, m2]; rfl
  obtain ⟨M1, _, M3⟩ := pkmay_of m1
  have M1' : ∀ x ∈ xs, pone x = true := by
    unfold pkmay pparts at m1
    simp only [Bool.and_eq_true, List.all_eq_true] at m1
    exact m1.1.1
  obtain ⟨qc, hqc⟩ := rmay_of M3
  have hqs : rsmall 1000 qc := rsmall_of (by rw [← hqc]; exact hc0) (by rw [← hqc]; exact hc1)
  injection hqc with e1 e2
  subst e1; subst e2
  have MX := Lib.hid M1'
  clear m1 m2 M1 M3 M1'
  go_enter Tryz.func18, Tryz.ntmps18
  go_wp2_with (first | (go_at_call 23; (with_reducible refine (hP _ hB0).mono ?_); rintro e w1 ⟨rfl, hb1⟩; obtain ⟨hc1, hf1⟩ := bcell hb1; have hs1 := hb1.size; (try simp at hs1); have hq1 : w.heap.size + 1 < w1.heap.size := (by omega); have hv1 : w.heap.size < w1.heap.size := (by omega)) | (go_at_call 32; (with_reducible refine (hF _ (by repeat (first | exact Below.refl _ _ | assumption | refine b_then ?_ (by assumption) | refine b_alloc ?_ _ | refine b_drewN ?_ _ | refine Below.drew ?_ | refine b_set ?_ (by first | exact Nat.le_refl _ | (simp; done) | (simp; omega) | omega) _))).mono ?_); rintro e w2 ⟨rfl, hb2⟩; obtain ⟨hc2, hf2⟩ := bcell hb2; have hs2 := hb2.size; (try simp at hs2); have hq2 : w.heap.size + 1 < w2.heap.size := (by omega); have hv2 : w.heap.size < w2.heap.size := (by omega)))
  have hB2 : Below w.heap.size w w2 := b_then (b_then hB0 hb1) hb2
  have pb2 := (PB.out.below hb1).below hb2
  have rb2 := (RB.out.below hb1).below hb2
  have PB2 := Lib.hid pb2
  have RB2 := Lib.hid rb2
  clear pb2 rb2 hb1 hb2 hc1 hf1 hs1 hq1 hc2 hf2 hs2 PB RB hP hF
  go_loopw [9] (fun i wr => ∃ (k : Nat) (q : Rat), k ≤ n ∧ i = .int .i64 k ∧ rsmall (1000 + k * 1001001) q ∧ Hid (pvalU (xs.take k) (enc qc) fs d = some (enc q)) ∧ Blk wr w2.heap.size 23 #[.string (iS q.num), .string (nS q.den)] ∧ Below w2.heap.size w2 wr) (fun i _ => n - (intOf i).toNat)
  case atStart => exact ⟨0, qc, Nat.zero_le _, rfl, by simpa using hqs, rfl, Blk.new w2 _ _, b_alloc (Below.refl _ _) _⟩
  case round =>
    obtain ⟨k, q, hk, rfl, hq, H, sb, hB⟩ := hrel
    have hBw : Below w.heap.size w wr := b_then hB2 hB
    have pr := PB2.out.below hB
    have rb := RB2.out.below hB
    have hsl : w.heap.size < wr.heap.size := pr.lt
    have hsr : w.heap.size + 1 < wr.heap.size := rb.lt
    have hss : w2.heap.size < wr.heap.size := sb.lt
    have q0 := pr.cell 0
    simp at q0
    obtain ⟨s0, s1, s2, s3⟩ := sb.two
    obtain ⟨r0, r1, r2, r3⟩ := rb.two
    have hne : w2.heap.size ≠ w.heap.size + 1 := by omega
    have hne' : w.heap.size + 1 ≠ w2.heap.size := by omega
    by_cases hlt : k < n
    · obtain ⟨ad, a0, a1, a2, rfl, hxk, hl⟩ := pt_in hx hBw hlt
      obtain ⟨z1, z2, z3⟩ := hz _ (List.mem_of_getElem? hxk)
      dsimp only at z1 z2 z3
      obtain ⟨r, hrr, hr⟩ := pone_enc (MX.out _ (List.mem_of_getElem? hxk)) z2 z3
      injection hrr with e1 e2
      subst e1; subst e2
      have HX := Lib.hid hxk
      obtain ⟨hx0, hx1, hx2, hx2'⟩ := hl wr (Below.refl _ _)
      have HL := Lib.hid hl
      have hG := fun W (h : Below w.heap.size w W) => r12_get (c := cf) a0 d W (hf.below h) hzs
      clear hxk hl
      cases g1 : fget fs a0 d with
      | none =>
        rw [g1, optR_none] at hG
        have H2 : Hid (optR (pval xs ⟨iS qc.num, nS qc.den⟩ fs d) = .tuple #[.agg #[.string ⟨#[]⟩, .string ⟨#[]⟩], .bool false]) := by
          rw [Hid, HV.out]
          exact (congrArg optR (pvalU_stop (c := enc qc) H.out HX.out g1)).trans rfl
        clear g1
        go_wp2_with (go_at_call 39; (with_reducible refine (hG _ (hBw)).mono ?_); rintro e w5 ⟨rfl, hb5⟩; obtain ⟨hc5, hf5⟩ := bcell hb5; have hs5 := hb5.size; (try simp at hs5); have hq5 : w.heap.size + 1 < w5.heap.size := (by omega); have hv5 : w.heap.size < w5.heap.size := (by omega))
        obtain ⟨t0, t1, t2, t3⟩ := Blk.two (rb.below hb5)
        have hB5 : Below w.heap.size w w5 := b_then (hBw) hb5
        clear hb5
        refine bodyPost_ret (v := .tuple #[.agg #[.string ⟨#[]⟩, .string ⟨#[]⟩], .bool false]) ?_ rfl ⟨by rw [H2.out], by repeat (first | exact hB5 | refine b_alloc ?_ _ | refine b_set ?_ (by simp) _)⟩
        simp [results, Tryz.results18, go_sem, t0, t1, t2, t3, hq5]
      | some pp =>
        obtain ⟨p, rfl, hp⟩ := fget_enc hzf g1
        rw [g1, optR_enc] at hG
        have H2 : Hid (pvalU (xs.take (k + 1)) (enc qc) fs d = some (enc (q + r * p))) := by
          rw [Hid, pvalU_step H.out HX.out]; exact pstep_enc g1
        have hq' : rsmall (1000 + (k + 1) * 1001001) (q + r * p) := rsmall_mono (rsmall_add hq (rsmall_mul hr hp)) (by omega)
        have hM := fun W (h : Below w.heap.size w W) => r3_mul r p W (rsmall_mono hr (by omega)) (rsmall_mono hp (by omega))
        have hA := fun W (h : Below w.heap.size w W) => r3_add q (r * p) W (rsmall_mono hq (by omega)) (rsmall_mono (rsmall_mul hr hp) (by omega))
        simp only [enc_v] at hM hA
        generalize q + r * p = q' at *
        generalize r * p = m at *
        clear g1
        go_wp2_with (go_at_call 39; (with_reducible refine (hG _ (hBw)).mono ?_); rintro e w5 ⟨rfl, hb5⟩; obtain ⟨hc5, hf5⟩ := bcell hb5; have hs5 := hb5.size; (try simp at hs5); have hq5 : w.heap.size + 1 < w5.heap.size := (by omega); have hv5 : w.heap.size < w5.heap.size := (by omega); have ht5 : w2.heap.size < w5.heap.size := (by omega))
        have sb5 := (sb.below hb5)
        have pr5 := (pr.below hb5)
        have hB5 : Below w.heap.size w (w5.alloc (.cells #[.string (iS p.num), .string (nS p.den)] 23)) := b_alloc (b_then (hBw) hb5) _
        have hW5 : Below w2.heap.size w2 (w5.alloc (.cells #[.string (iS p.num), .string (nS p.den)] 23)) := b_alloc (b_then (hB) hb5) _
        have y0 := fun (y : After (w5.alloc (.cells #[.string (iS p.num), .string (nS p.den)] 23))) => ((sb5.alloc _).below y.h).cell 0
        have y1 := fun (y : After (w5.alloc (.cells #[.string (iS p.num), .string (nS p.den)] 23))) => ((sb5.alloc _).below y.h).cell 1
        simp at y0 y1
        have hB5' : Below wr.heap.size wr (w5.alloc (.cells #[.string (iS p.num), .string (nS p.den)] 23)) := b_alloc hb5 _
        have x1 := fun (y : After (w5.alloc (.cells #[.string (iS p.num), .string (nS p.den)] 23))) => (HL.out y.W (b_then hB5' y.h)).c1
        have x2 := fun (y : After (w5.alloc (.cells #[.string (iS p.num), .string (nS p.den)] 23))) => (HL.out y.W (b_then hB5' y.h)).d2
        have x3 := fun (y : After (w5.alloc (.cells #[.string (iS p.num), .string (nS p.den)] 23))) => (HL.out y.W (b_then hB5' y.h)).c2
        have x4 := fun (y : After (w5.alloc (.cells #[.string (iS p.num), .string (nS p.den)] 23))) => ((pr5.alloc (.cells #[.string (iS p.num), .string (nS p.den)] 23)).below y.h).cell 0
        simp at x4

        have SB := Lib.hid (sb5.alloc (.cells #[.string (iS p.num), .string (nS p.den)] 23))
        clear sb5 pr5 sb pr rb
        (refine wp_region_ahead 10 (by kernel_rfl) (by kernel_rfl) ?_; simp only [List.take_succ_cons, List.take_zero, List.drop_succ_cons, List.drop_zero]; (repeat (first | go_big_quiet_skip | (go_big_quiet_want; go_big_quiet_op; first | go_big_quiet_on | (apply Exists.intro; refine ⟨fun _ => ?_, ?_⟩; (focus (first | (go_at_call 31; with_reducible exact Calls.after (hM _ (b_then hB5 (After.h _)))) | (go_at_call 27; with_reducible exact Calls.after (hA _ (b_then hB5 (After.h _)))))); go_big_quiet_on)))); refine wpQuiet_nil ?_; rintro ⟨w7, hb7⟩; (try dsimp only); obtain ⟨hc7, hf7⟩ := bcell hb7; have hs7 := hb7.size; (try simp at hs7))
        have sb7 := SB.out.below hb7
        obtain ⟨v0, v1, v2, v3⟩ := sb7.two
        have hW7 : Below w2.heap.size w2 w7 := b_then hW5 hb7
        go_wp2
        go_roundw
        case rel => exact ⟨k + 1, q', by omega, by go_num, hq', H2, sb7.put2 _ _, b_put2 hW7 (Nat.le_refl _) _ _⟩
        case measure => simp [intOf]; omega
    · obtain rfl : k = n := by omega
      have H2 := H.out
      rw [← hx.len, List.take_length] at H2
      have H3 : Hid (optR (pval xs ⟨iS qc.num, nS qc.den⟩ fs d) = .tuple #[.agg #[.string (iS q.num), .string (nS q.den)], .bool true]) := by
        rw [Hid, HV.out]
        exact (congrArg optR H2).trans rfl
      clear H2
      go_wp2
      refine bodyPost_ret (v := .tuple #[.agg #[.string (iS q.num), .string (nS q.den)], .bool true]) ?_ rfl ⟨by rw [H3.out], (by repeat (first | exact Below.refl _ _ | assumption | refine b_then ?_ (by assumption) | refine b_alloc ?_ _ | refine b_drewN ?_ _ | refine Below.drew ?_ | refine b_set ?_ (by first | exact Nat.le_refl _ | (simp; done) | (simp; omega) | omega) _))⟩
      simp [results, Tryz.results18, go_sem, r0, r1, r2, r3, hsr]
end Go.Proofs.YtdkpbifpafaabaaGreatDoor
