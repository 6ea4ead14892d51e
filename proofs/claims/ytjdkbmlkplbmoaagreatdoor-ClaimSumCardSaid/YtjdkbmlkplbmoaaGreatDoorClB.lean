/- Claims: rat.Sub, claim.cum, both Pending. -/
import Derived.Test.YtjdkbmlkplbmoaaGreatDoorClA
namespace Go.Proofs.YtjdkbmlkplbmoaaGreatDoor
open Go.RowKit
set_option linter.unusedVariables false
set_option linter.unusedSimpArgs false

set_option maxHeartbeats 1000000 in
theorem p_rsub (x y : Rat) (w : World) (hgl : Glob w) (hx : rsmall 400000000 x) (hy : rsmall 400000000 y) :
    Calls Tryz.prog 72 #[.agg #[.string (iS x.num), .string (nS x.den)], .agg #[.string (iS y.num), .string (nS y.den)]] w fun e w' => e = .returned (enc (x + -y)).v ∧ Below w.heap.size w w' := by
  obtain ⟨u, hu⟩ : ∃ u, iS (-y).num = u := ⟨_, rfl⟩
  obtain ⟨v, hv⟩ : ∃ v, nS (-y).den = v := ⟨_, rfl⟩
  have hN : ∀ W, Glob W → Calls Tryz.prog 47 #[.agg #[.string (iS y.num), .string (nS y.den)]] W fun e w' => e = .returned (.agg #[.string u, .string v]) ∧ Below W.heap.size W w' := fun W hgw => by
    have := p_rneg y W hgw (rsmall_mono hy (by omega)); rw [← hu, ← hv]; exact this
  obtain ⟨g, hg⟩ : ∃ g, iS (x + -y).num = g := ⟨_, rfl⟩
  obtain ⟨h, hh⟩ : ∃ h, nS (x + -y).den = h := ⟨_, rfl⟩
  have hA : ∀ W, Glob W → Calls Tryz.prog 68 #[.agg #[.string (iS x.num), .string (nS x.den)], .agg #[.string u, .string v]] W fun e w' => e = .returned (.agg #[.string g, .string h]) ∧ Below W.heap.size W w' := fun W hgw => by
    have := p_radd x (-y) W hgw hx (rsmall_neg hy); rw [← hu, ← hv, ← hg, ← hh]; exact this
  have he : Hid ((enc (x + -y)).v = .agg #[.string g, .string h]) := by unfold Hid; rw [← hg, ← hh]; rfl
  clear hu hv hg hh
  rw [he.out]
  have bx : Blk (((w.alloc (.cells #[.string (iS x.num), .string (nS x.den)] 35)).alloc (.cells #[.string (iS y.num), .string (nS y.den)] 35)).alloc (.cells #[.string ⟨#[]⟩, .string ⟨#[]⟩] 35)) w.heap.size 35 #[.string (iS x.num), .string (nS x.den)] := ((Blk.new w _ _).alloc _).alloc _
  have bz : Blk (((w.alloc (.cells #[.string (iS x.num), .string (nS x.den)] 35)).alloc (.cells #[.string (iS y.num), .string (nS y.den)] 35)).alloc (.cells #[.string ⟨#[]⟩, .string ⟨#[]⟩] 35)) (w.heap.size + 1) 35 #[.string (iS y.num), .string (nS y.den)] := by
    have := Blk.new (w.alloc (.cells #[.string (iS x.num), .string (nS x.den)] 35)) 35 #[.string (iS y.num), .string (nS y.den)]
    rw [World.size_alloc] at this
    exact this.alloc _
  obtain ⟨x0, x1⟩ := bx.aftr
  obtain ⟨y0, y1⟩ := bz.aftr
  have hq1 := bx.lt
  have hq2 := bz.lt
  have bR : Blk (((w.alloc (.cells #[.string (iS x.num), .string (nS x.den)] 35)).alloc (.cells #[.string (iS y.num), .string (nS y.den)] 35)).alloc (.cells #[.string ⟨#[]⟩, .string ⟨#[]⟩] 35)) (w.heap.size + 2) 35 #[.string ⟨#[]⟩, .string ⟨#[]⟩] := by
    have := Blk.new ((w.alloc (.cells #[.string (iS x.num), .string (nS x.den)] 35)).alloc (.cells #[.string (iS y.num), .string (nS y.den)] 35)) 35 #[.string ⟨#[]⟩, .string ⟨#[]⟩]
    rwa [World.size_alloc, World.size_alloc] at this
  go_enter Tryz.func72, Tryz.ntmps72
  go_wp2
  have hg3 := hgl.below (b_alloc (b_alloc (b_alloc (Below.refl w.heap.size w) (.cells #[.string (iS x.num), .string (nS x.den)] 35)) (.cells #[.string (iS y.num), .string (nS y.den)] 35)) (.cells #[.string ⟨#[]⟩, .string ⟨#[]⟩] 35))
  (refine wp_region_ahead 4 (by kernel_rfl) (by kernel_rfl) ?_; simp only [List.take_succ_cons, List.take_zero, List.drop_succ_cons, List.drop_zero]; (repeat (first | go_big_quiet_skip | (go_big_quiet_want; go_big_quiet_op; first | go_big_quiet_on | (apply Exists.intro; refine ⟨fun _ => ?_, ?_⟩; (focus (first | (go_at_call 47; with_reducible exact Calls.after (hN _ (hg3.below (After.h _)))) | (go_at_call 68; with_reducible exact Calls.after (hA _ (hg3.below (After.h _)))))); go_big_quiet_on)))); refine wpQuiet_nil ?_; rintro ⟨w2, hb2⟩; (try dsimp only); obtain ⟨hc2, hf2⟩ := bcell hb2; have hs2 := hb2.size; (try simp at hs2))
  obtain ⟨p0, p1, p2, p3⟩ := (bR.below hb2).two
  have hq3 := (bR.below hb2).lt
  go_wp2
  refine bodyPost_ret (v := .agg #[.string g, .string h]) ?_ rfl ⟨rfl, (by repeat (first | exact Below.refl _ _ | assumption | refine b_then ?_ (by assumption) | refine b_alloc ?_ _ | refine b_drewN ?_ _ | refine Below.drew ?_ | refine b_set ?_ (by first | exact Nat.le_refl _ | (simp; done) | (simp; omega) | omega) _))⟩
  simp [results, Tryz.results72, go_sem, p0, p1, p2, p3]
theorem p_cum (a0 a1 a2 : Int) (a3 a4 a5 a6 a7 a8 a9 : ByteArray) (s : ByteArray) (ex : Int) (w : World) :
    Calls Tryz.prog 65 #[.agg #[.int .i64 a0, .int .i64 a1, .int .i64 a2, .string a3, .string a4, .string a5, .string a6, .string a7, .string a8, .string a9], .string s, .int .i64 ex] w fun e w' => e = .returned (.bool (icum s ex ⟨a0, a1, a2, a3, a4, a5, ⟨a6, a7⟩, ⟨a8, a9⟩⟩)) ∧ Below w.heap.size w w' := by
  unfold icum
  dsimp only
  go_enter Tryz.func65, Tryz.ntmps65
  cases c : (a5.toList == s.toList)
  all_goals
    go_wp2
    go_ret
    exact ⟨ret_bool (by simp), b_alloc (Below.refl _ _) _⟩
theorem in_get {w wr : World} {ad : Addr} {n : Nat} {xs : List In} (h : Rd In.cs 10 w (some ad) n xs) (hB : Below w.heap.size w wr) {k : Nat} (hk : k < n) {a0 a1 a2 : Int} {a3 a4 a5 a6 a7 a8 a9 : ByteArray} (hx : xs[k]? = some ⟨a0, a1, a2, a3, a4, a5, ⟨a6, a7⟩, ⟨a8, a9⟩⟩) : InAt wr (ad.add (k * 10)) a0 a1 a2 a3 a4 a5 a6 a7 a8 a9 := by
  obtain ⟨ad', b0, b1, b2, b3, b4, b5, b6, b7, b8, b9, e, hx', hc⟩ := in_in h hB hk
  cases e
  rw [hx] at hx'
  injection hx' with hx'
  injection hx' with e0 e1 e2 e3 e4 e5 e6 e7
  injection e6 with e6 e6'
  injection e7 with e7 e7'
  subst e0; subst e1; subst e2; subst e3; subst e4; subst e5; subst e6; subst e6'; subst e7; subst e7'
  exact hc wr (Below.refl _ _)
/-- What is pending, so far. -/
def pendI (ls : List In) (a s : ByteArray) (ex : Int) (k : Nat) (z : Rat) : Prop := z = dpend (ls.take k) a s ex ∧ rsmall (1 + k * 1001) z
theorem pendI_zero (ls : List In) (a s : ByteArray) (ex : Int) : pendI ls a s ex 0 0 := ⟨rfl, rsmall_zero _ (by omega)⟩
theorem pendI_no {ls : List In} {a s : ByteArray} {ex : Int} {k : Nat} {z : Rat} {x : In} (h : pendI ls a s ex k z) (hx : ls[k]? = some x) (hc : icum s ex x = false) : pendI ls a s ex (k + 1) z :=
  ⟨by rw [dpend_take _ _ _ hx, ← h.1]; unfold dpd; rw [hc]; exact (Rat.add_zero _).symm, rsmall_mono h.2 (by omega)⟩
theorem pendI_none {ls : List In} {a s : ByteArray} {ex : Int} {k : Nat} {z : Rat} {x : In} (h : pendI ls a s ex k z) (hx : ls[k]? = some x) (h1 : ¬ a = x.dst) (h2 : ¬ a = x.src) : pendI ls a s ex (k + 1) z :=
  ⟨by rw [dpend_take _ _ _ hx, ← h.1]; unfold dpd; rw [if_neg h1, if_neg h2]; split <;> grind, rsmall_mono h.2 (by omega)⟩
theorem pendI_to {ls : List In} {a s : ByteArray} {ex : Int} {k : Nat} {z q : Rat} {x : In} (h : pendI ls a s ex k z) (hx : ls[k]? = some x) (hc : icum s ex x = true) (h1 : a = x.dst) (h2 : ¬ a = x.src) (hq : dec x.q = q) (hqs : rsmall 1000 q) : pendI ls a s ex (k + 1) (z + q) :=
  ⟨by rw [dpend_take _ _ _ hx, ← h.1]; unfold dpd; rw [if_pos hc, if_pos h1, if_neg h2, hq, Rat.add_zero], rsmall_mono (rsmall_add h.2 hqs) (by omega)⟩
theorem pendI_from {ls : List In} {a s : ByteArray} {ex : Int} {k : Nat} {z q : Rat} {x : In} (h : pendI ls a s ex k z) (hx : ls[k]? = some x) (hc : icum s ex x = true) (h1 : ¬ a = x.dst) (h2 : a = x.src) (hq : dec x.q = q) (hqs : rsmall 1000 q) : pendI ls a s ex (k + 1) (z + -q) :=
  ⟨by rw [dpend_take _ _ _ hx, ← h.1]; unfold dpd; rw [if_pos hc, if_neg h1, if_pos h2, hq, Rat.zero_add], rsmall_mono (rsmall_add h.2 (rsmall_neg hqs)) (by omega)⟩
theorem pendI_end {ls : List In} {a s : ByteArray} {ex : Int} {z : Rat} (h : pendI ls a s ex ls.length z) (hm : imay ls = true) : ipend ls a s ex = enc z := by
  unfold ipend
  rw [if_pos hm, h.1, List.take_length]
set_option maxRecDepth 100000 in
set_option maxHeartbeats 4000000 in
theorem p_pend {A : Option Addr} {n c : Nat} {ls : List In} (a s : ByteArray) (ex : Int) (w : World) (hg : Glob w) (hx : Rd In.cs 10 w A n ls) (hn : n ≤ 200) (hz : ∀ x ∈ ls, inB 1000 x) :
    Calls Tryz.prog 38 #[.slice A n c, .string a, .string s, .int .i64 ex] w fun e w' => e = .returned (ipend ls a s ex).v ∧ Below w.heap.size w w' := by
  have hxl := hx.len
  have hB0 : Below w.heap.size w (w.alloc (.cells #[.string ⟨#[]⟩, .string ⟨#[]⟩] 35)) := b_alloc (Below.refl _ _) _
  have hM := p_imay _ (hg.below hB0) (hx.below hB0) (by omega) (fun x h => inB_mono (hz x h) (by omega)) (c := c)
  cases c0 : imay ls with
  | false =>
    rw [c0] at hM
    have hv : Hid ((ipend ls a s ex).v = .agg #[.string ⟨#[]⟩, .string ⟨#[]⟩]) := by unfold Hid ipend; rw [c0]; rfl
    go_enter Tryz.func38, Tryz.ntmps38
    go_wp2_with (go_at_call 20; (with_reducible refine (hM).mono ?_); rintro e w1 ⟨rfl, hb1⟩; obtain ⟨hc1, hf1⟩ := bcell hb1; have hs1 := hb1.size; (try simp at hs1); have hq1 : w.heap.size < w1.heap.size := (by omega))
    refine bodyPost_ret (v := .agg #[.string ⟨#[]⟩, .string ⟨#[]⟩]) ?_ rfl ⟨by rw [hv.out], (by repeat (first | exact Below.refl _ _ | assumption | refine b_then ?_ (by assumption) | refine b_alloc ?_ _ | refine b_drewN ?_ _ | refine Below.drew ?_ | refine b_set ?_ (by first | exact Nat.le_refl _ | (simp; done) | (simp; omega) | omega) _))⟩
    simp [results, Tryz.results38, go_sem, hc1, hf1, hq1]
  | true =>
    rw [c0] at hM
    have hO := fun W hg => p_rof 0 W hg (by omega) (by omega)
    simp only [enc_of, RT.v] at hO
    have C0 := Lib.hid c0
    have HXL := Lib.hid hxl
    have HZ := Lib.hid hz
    clear hxl c0 hz
    go_enter Tryz.func38, Tryz.ntmps38
    go_wp2_with (first
      | (go_at_call 20; (with_reducible refine (hM).mono ?_); rintro e w1 ⟨rfl, hb1⟩; obtain ⟨hc1, hf1⟩ := bcell hb1; have hs1 := hb1.size; (try simp at hs1); have hq1 : w.heap.size < w1.heap.size := (by omega))
      | (go_at_call 71; (with_reducible refine (hO _ (hg.below (by repeat (first | exact Below.refl _ _ | assumption | refine b_then ?_ (by assumption) | refine b_alloc ?_ _ | refine b_drewN ?_ _ | refine Below.drew ?_ | refine b_set ?_ (by first | exact Nat.le_refl _ | (simp; done) | (simp; omega) | omega) _)))).mono ?_); rintro e w2 ⟨rfl, hb2⟩; obtain ⟨hc2, hf2⟩ := bcell hb2; have hs2 := hb2.size; (try simp at hs2); have hq2 : w.heap.size < w2.heap.size := (by omega)))
    have D5 := Blk.new w2 35 #[.string (iS 0), .string (nS 1)]
    have D4 := (((Blk.new w 35 #[.string ⟨#[]⟩, .string ⟨#[]⟩]).below hb1).below hb2).alloc (.cells #[.string (iS 0), .string (nS 1)] 35)
    have BB3 : Below w.heap.size w (w2.alloc (.cells #[.string (iS 0), .string (nS 1)] 35)) := b_alloc (b_then (b_then hB0 hb1) hb2) _
    obtain ⟨g5, hg5⟩ : ∃ g, w2.heap.size = g := ⟨_, rfl⟩
    rw [hg5] at D5 hq2 ⊢
    have H0 : Hid (pendI ls a s ex 0 0) := pendI_zero ls a s ex
    clear hg5 hM hO hc1 hf1 hs1 hc2 hf2 hs2
    go_loopw [19] (fun i wr => ∃ (k : Nat) (z : Rat), k ≤ n ∧ i = .int .i64 (k : Nat) ∧ Hid (pendI ls a s ex k z) ∧ Blk wr g5 35 #[.string (iS z.num), .string (nS z.den)] ∧ Blk wr w.heap.size 35 #[.string ⟨#[]⟩, .string ⟨#[]⟩] ∧ Below w.heap.size w wr) (fun i _ => n - (intOf i).toNat)
    case atStart => exact ⟨0, 0, Nat.zero_le _, rfl, H0, D5, D4, BB3⟩
    case round =>
      clear H0 D5 D4 BB3 hb1 hb2
      obtain ⟨k, z, hk, rfl, H, D5, D4, hB⟩ := hrel
      by_cases hlt : k < n
      · obtain ⟨ad, a0, a1, a2, a3, a4, a5, a6, a7, a8, a9, rfl, hxk, hl⟩ := in_in hx hB hlt
        have hmem := List.mem_of_getElem? hxk
        obtain ⟨z0, z1, z2, z3, z4, z5, z6⟩ := HZ.out _ hmem
        dsimp only at z0 z1 z2 z3 z4 z5 z6
        have o := ione_of (imay_all C0.out _ hmem)
        obtain ⟨q, hq, hqd, hqs⟩ := rat_of (x := ⟨a6, a7⟩) o.mayq z3 z4
        injection hq with q1 q2
        subst q1; subst q2
        have hne : ¬ a3 = a4 := o.apart
        have hA := fun W hg => p_radd z q W hg (rsmall_mono H.out.2 (by omega)) (rsmall_mono hqs (by omega))
        have hS := fun W hg => p_rsub z q W hg (rsmall_mono H.out.2 (by omega)) (rsmall_mono hqs (by omega))
        simp only [enc_v] at hA hS
        have hC := fun W => p_cum a0 a1 a2 a3 a4 a5 (iS q.num) (nS q.den) a8 a9 s ex W
        obtain ⟨y0, y1, y2, y3, y4, y5, y6, y7, y8, y9, y10, y11⟩ := hl wr (Below.refl _ _)
        have D5a := D5.alloc (.cells #[.int .i64 a0, .int .i64 a1, .int .i64 a2, .string a3, .string a4, .string a5, .string (iS q.num), .string (nS q.den), .string a8, .string a9] 37)
        have D4a := D4.alloc (.cells #[.int .i64 a0, .int .i64 a1, .int .i64 a2, .string a3, .string a4, .string a5, .string (iS q.num), .string (nS q.den), .string a8, .string a9] 37)
        have hBa := b_alloc hB (.cells #[.int .i64 a0, .int .i64 a1, .int .i64 a2, .string a3, .string a4, .string a5, .string (iS q.num), .string (nS q.den), .string a8, .string a9] 37)
        obtain ⟨p0, p1, p2, p3⟩ := D5.two
        have hgl := D5.lt
        have hsw := hB.size
        cases hc : icum s ex ⟨a0, a1, a2, a3, a4, a5, ⟨iS q.num, nS q.den⟩, ⟨a8, a9⟩⟩ with
        | false =>
          have HS := Lib.hid (pendI_no H.out hxk hc)
          rw [hc] at hC
          clear hl hxk hqd hqs hmem o hA hS hc hne z0 z1 z2 z3 z4 z5 z6
          go_wp2_with (go_at_call 65; (with_reducible refine (hC _).mono ?_); rintro e w1 ⟨rfl, hb1⟩; obtain ⟨hc1, hf1⟩ := bcell hb1; have hs1 := hb1.size; (try simp at hs1); have hq1 : wr.heap.size < w1.heap.size := (by omega))
          go_roundw
          case rel => exact ⟨k + 1, z, by omega, by go_num, HS.out, D5a.below hb1, D4a.below hb1, b_then hBa hb1⟩
          case measure => simp [intOf]; omega
        | true =>
        cases e1 : (a.toList == a4.toList) with
        | true =>
          have e1' : a = a4 := s_eq.2 (beq_iff_eq.1 e1)
          have HS := Lib.hid (pendI_to H.out hxk hc e1' (fun e => hne (e.symm.trans e1')) hqd hqs)
          rw [hc] at hC
          generalize hzz : z + q = zz at *
          clear hl hxk hqd hqs hmem o hS hc hne z0 z1 z2 z3 z4 z5 z6 hzz e1'
          go_wp2_with (first
            | (go_at_call 65; (with_reducible refine (hC _).mono ?_); rintro e w1 ⟨rfl, hb1⟩; obtain ⟨hc1, hf1⟩ := bcell hb1; have hs1 := hb1.size; (try simp at hs1); have hq1 : wr.heap.size < w1.heap.size := (by omega); obtain ⟨r0, r1, r2, r3⟩ := (D5a.below hb1).two)
            | (go_at_call 68; (with_reducible refine (hA _ (hg.below (b_then hBa hb1))).mono ?_); rintro e w2 ⟨rfl, hb2⟩; obtain ⟨hc2, hf2⟩ := bcell hb2; have hs2 := hb2.size; (try simp at hs2); obtain ⟨u0, u1, u2, u3⟩ := ((D5a.below hb1).below hb2).two))
          go_roundw
          case rel => exact ⟨k + 1, zz, by omega, by go_num, HS.out, ((D5a.below hb1).below hb2).put2 _ _, (((D4a.below hb1).below hb2).far (by simp; omega) _).far (by simp; omega) _, b_set (b_set (b_then (b_then hBa hb1) hb2) (by simp; omega) _) (by simp; omega) _⟩
          case measure => simp [intOf]; omega
        | false =>
        have e1' : ¬ a = a4 := fun e => by rw [e] at e1; simp at e1
        cases e2 : (a.toList == a3.toList) with
        | true =>
          have HS := Lib.hid (pendI_from H.out hxk hc e1' (s_eq.2 (beq_iff_eq.1 e2)) hqd hqs)
          rw [hc] at hC
          generalize hzz : z + -q = zz at *
          clear hl hxk hqd hqs hmem o hA hc hne z0 z1 z2 z3 z4 z5 z6 hzz e1'
          go_wp2_with (first
            | (go_at_call 65; (with_reducible refine (hC _).mono ?_); rintro e w1 ⟨rfl, hb1⟩; obtain ⟨hc1, hf1⟩ := bcell hb1; have hs1 := hb1.size; (try simp at hs1); have hq1 : wr.heap.size < w1.heap.size := (by omega); obtain ⟨r0, r1, r2, r3⟩ := (D5a.below hb1).two)
            | (go_at_call 72; (with_reducible refine (hS _ (hg.below (b_then hBa hb1))).mono ?_); rintro e w2 ⟨rfl, hb2⟩; obtain ⟨hc2, hf2⟩ := bcell hb2; have hs2 := hb2.size; (try simp at hs2); obtain ⟨u0, u1, u2, u3⟩ := ((D5a.below hb1).below hb2).two))
          go_roundw
          case rel => exact ⟨k + 1, zz, by omega, by go_num, HS.out, ((D5a.below hb1).below hb2).put2 _ _, (((D4a.below hb1).below hb2).far (by simp; omega) _).far (by simp; omega) _, b_set (b_set (b_then (b_then hBa hb1) hb2) (by simp; omega) _) (by simp; omega) _⟩
          case measure => simp [intOf]; omega
        | false =>
          have HS := Lib.hid (pendI_none H.out hxk e1' (fun e => by rw [e] at e2; simp at e2))
          rw [hc] at hC
          clear hl hxk hqd hqs hmem o hA hS hc hne z0 z1 z2 z3 z4 z5 z6 e1'
          go_wp2_with (go_at_call 65; (with_reducible refine (hC _).mono ?_); rintro e w1 ⟨rfl, hb1⟩; obtain ⟨hc1, hf1⟩ := bcell hb1; have hs1 := hb1.size; (try simp at hs1); have hq1 : wr.heap.size < w1.heap.size := (by omega))
          go_roundw
          case rel => exact ⟨k + 1, z, by omega, by go_num, HS.out, D5a.below hb1, D4a.below hb1, b_then hBa hb1⟩
          case measure => simp [intOf]; omega
      · obtain rfl : k = n := by omega
        have hfin : Hid ((ipend ls a s ex).v = .agg #[.string (iS z.num), .string (nS z.den)]) := by
          unfold Hid
          rw [pendI_end (by rw [HXL.out]; exact H.out) C0.out]; rfl
        obtain ⟨p0, p1, p2, p3⟩ := D5.two
        obtain ⟨k0, k1, k2, k3⟩ := D4.two
        go_wp2
        refine bodyPost_ret (v := .agg #[.string (iS z.num), .string (nS z.den)]) ?_ rfl ⟨by rw [hfin.out], (by repeat (first | exact Below.refl _ _ | assumption | refine b_then ?_ (by assumption) | refine b_alloc ?_ _ | refine b_drewN ?_ _ | refine Below.drew ?_ | refine b_set ?_ (by first | exact Nat.le_refl _ | (simp; done) | (simp; omega) | omega) _))⟩
        simp [results, Tryz.results38, go_sem, k0, k1, k2, k3]
set_option maxRecDepth 100000 in
set_option maxHeartbeats 4000000 in
theorem r20_pend {A : Option Addr} {n c : Nat} {ls : List In} (a s : ByteArray) (ex : Int) (w : World) (hx : Rd In.cs 10 w A n ls) (hn : n ≤ 200) (hz : ∀ x ∈ ls, inB 1000 x) :
    Calls Tryz.prog 39 #[.slice A n c, .string a, .string s, .int .i64 ex] w fun e w' => e = .returned (ipend ls a s ex).v ∧ Below w.heap.size w w' := by
  have hxl := hx.len
  have hB0 : Below w.heap.size w (w.alloc (.cells #[.string ⟨#[]⟩, .string ⟨#[]⟩] 35)) := b_alloc (Below.refl _ _) _
  have hM := r8_may _ (hx.below hB0) (by omega) (fun x h => inB_mono (hz x h) (by omega)) (c := c)
  cases c0 : imay ls with
  | false =>
    rw [c0] at hM
    have hv : Hid ((ipend ls a s ex).v = .agg #[.string ⟨#[]⟩, .string ⟨#[]⟩]) := by unfold Hid ipend; rw [c0]; rfl
    go_enter Tryz.func39, Tryz.ntmps39
    go_wp2_with (go_at_call 21; (with_reducible refine (hM).mono ?_); rintro e w1 ⟨rfl, hb1⟩; obtain ⟨hc1, hf1⟩ := bcell hb1; have hs1 := hb1.size; (try simp at hs1); have hq1 : w.heap.size < w1.heap.size := (by omega))
    refine bodyPost_ret (v := .agg #[.string ⟨#[]⟩, .string ⟨#[]⟩]) ?_ rfl ⟨by rw [hv.out], (by repeat (first | exact Below.refl _ _ | assumption | refine b_then ?_ (by assumption) | refine b_alloc ?_ _ | refine b_drewN ?_ _ | refine Below.drew ?_ | refine b_set ?_ (by first | exact Nat.le_refl _ | (simp; done) | (simp; omega) | omega) _))⟩
    simp [results, Tryz.results39, go_sem, hc1, hf1, hq1]
  | true =>
    rw [c0] at hM
    have hO := fun W => r3_of 0 W (by omega) (by omega)
    simp only [enc_of, RT.v] at hO
    have C0 := Lib.hid c0
    have HXL := Lib.hid hxl
    have HZ := Lib.hid hz
    clear hxl c0 hz
    go_enter Tryz.func39, Tryz.ntmps39
    go_wp2_with (first
      | (go_at_call 21; (with_reducible refine (hM).mono ?_); rintro e w1 ⟨rfl, hb1⟩; obtain ⟨hc1, hf1⟩ := bcell hb1; have hs1 := hb1.size; (try simp at hs1); have hq1 : w.heap.size < w1.heap.size := (by omega))
      | (go_at_call 32; (with_reducible refine (hO _).mono ?_); rintro e w2 ⟨rfl, hb2⟩; obtain ⟨hc2, hf2⟩ := bcell hb2; have hs2 := hb2.size; (try simp at hs2); have hq2 : w.heap.size < w2.heap.size := (by omega)))
    have D5 := Blk.new w2 35 #[.string (iS 0), .string (nS 1)]
    have D4 := (((Blk.new w 35 #[.string ⟨#[]⟩, .string ⟨#[]⟩]).below hb1).below hb2).alloc (.cells #[.string (iS 0), .string (nS 1)] 35)
    have BB3 : Below w.heap.size w (w2.alloc (.cells #[.string (iS 0), .string (nS 1)] 35)) := b_alloc (b_then (b_then hB0 hb1) hb2) _
    obtain ⟨g5, hg5⟩ : ∃ g, w2.heap.size = g := ⟨_, rfl⟩
    rw [hg5] at D5 hq2 ⊢
    have H0 : Hid (pendI ls a s ex 0 0) := pendI_zero ls a s ex
    clear hg5 hM hO hc1 hf1 hs1 hc2 hf2 hs2
    go_loopw [10] (fun i wr => ∃ (k : Nat) (z : Rat), k ≤ n ∧ i = .int .i64 (k : Nat) ∧ Hid (pendI ls a s ex k z) ∧ Blk wr g5 35 #[.string (iS z.num), .string (nS z.den)] ∧ Blk wr w.heap.size 35 #[.string ⟨#[]⟩, .string ⟨#[]⟩] ∧ Below w.heap.size w wr) (fun i _ => n - (intOf i).toNat)
    case atStart => exact ⟨0, 0, Nat.zero_le _, rfl, H0, D5, D4, BB3⟩
    case round =>
      clear H0 D5 D4 BB3 hb1 hb2
      obtain ⟨k, z, hk, rfl, H, D5, D4, hB⟩ := hrel
      by_cases hlt : k < n
      · obtain ⟨ad, a0, a1, a2, a3, a4, a5, a6, a7, a8, a9, rfl, hxk, hl⟩ := in_in hx hB hlt
        have hmem := List.mem_of_getElem? hxk
        obtain ⟨z0, z1, z2, z3, z4, z5, z6⟩ := HZ.out _ hmem
        dsimp only at z0 z1 z2 z3 z4 z5 z6
        have o := ione_of (imay_all C0.out _ hmem)
        obtain ⟨q, hq, hqd, hqs⟩ := rat_of (x := ⟨a6, a7⟩) o.mayq z3 z4
        injection hq with q1 q2
        subst q1; subst q2
        have hne : ¬ a3 = a4 := o.apart
        have hA := fun W => r3_add z q W (rsmall_mono H.out.2 (by omega)) (rsmall_mono hqs (by omega))
        have hS := fun W => r3_sub z q W (rsmall_mono H.out.2 (by omega)) (rsmall_mono hqs (by omega))
        simp only [enc_v] at hA hS
        obtain ⟨y0, y1, y2, y3, y4, y5, y6, y7, y8, y9, y10, y11⟩ := hl wr (Below.refl _ _)
        have x6 := fun y : After wr => (hl y.W y.h).c6
        have x7 := fun y : After wr => (hl y.W y.h).d7
        have hz0 := fun y : After wr => (D5.below y.h).two.1
        have hz1 := fun y : After wr => (D5.below y.h).two.2.1
        obtain ⟨p0, p1, p2, p3⟩ := D5.two
        have hgl := D5.lt
        have hsw := hB.size
        have hcu := icum_iff (s := s) (ex := ex) (x := ⟨a0, a1, a2, a3, a4, a5, ⟨iS q.num, nS q.den⟩, ⟨a8, a9⟩⟩)
        dsimp only at hcu
        have HL := Lib.hid hl
        have HXK := Lib.hid hxk
        cases d1 : (a5.toList == s.toList) with
        | false =>
          have hc : icum s ex ⟨a0, a1, a2, a3, a4, a5, ⟨iS q.num, nS q.den⟩, ⟨a8, a9⟩⟩ = false := by unfold icum; dsimp only; rw [d1]; rfl
          have HS := Lib.hid (pendI_no H.out hxk hc)
          clear hl hxk hqd hqs hmem o hA hS hc hne z0 z1 z2 z3 z4 z5 z6 hcu x6 x7
          go_wp2
          go_roundw
          case rel => exact ⟨k + 1, z, by omega, by go_num, HS.out, D5, D4, hB⟩
          case measure => simp [intOf]; omega
        | true =>
        by_cases d2 : a1 < ex
        case neg =>
          have d3 : ex ≤ a1 := by omega
          have hc : icum s ex ⟨a0, a1, a2, a3, a4, a5, ⟨iS q.num, nS q.den⟩, ⟨a8, a9⟩⟩ = false := by unfold icum; dsimp only; rw [decide_eq_false d2, Bool.and_false]
          have HS := Lib.hid (pendI_no H.out hxk hc)
          clear hl hxk hqd hqs hmem o hA hS hc hne z0 z1 z2 z3 z4 z5 z6 hcu x6 x7
          go_wp2
          go_roundw
          case rel => exact ⟨k + 1, z, by omega, by go_num, HS.out, D5, D4, hB⟩
          case measure => simp [intOf]; omega
        case pos =>
        have d3 : ¬ ex ≤ a1 := by omega
        have hc : icum s ex ⟨a0, a1, a2, a3, a4, a5, ⟨iS q.num, nS q.den⟩, ⟨a8, a9⟩⟩ = true := by unfold icum; dsimp only; rw [decide_eq_true d2, d1]; rfl
        cases e1 : (a4.toList == a.toList) with
        | true =>
          have e1' : a = a4 := (s_eq.2 (beq_iff_eq.1 e1)).symm
          have HS := Lib.hid (pendI_to H.out hxk hc e1' (fun e => hne (e.symm.trans e1')) hqd hqs)
          have e2 : (a3.toList == a.toList) = false := by rw [beq_eq_false_iff_ne]; intro e; exact hne ((s_eq.2 e).trans e1')
          generalize hzz : z + q = zz at *
          clear hl hxk hqd hqs hmem o hS hc hne z0 z1 z2 z3 z4 z5 z6 hzz e1' hcu
          go_wp2
          (refine wp_region_ahead 7 (by kernel_rfl) (by kernel_rfl) ?_; simp only [List.take_succ_cons, List.take_zero, List.drop_succ_cons, List.drop_zero]; (repeat (first | go_big_quiet_skip | (go_big_quiet_want; go_big_quiet_op; first | go_big_quiet_on | (apply Exists.intro; refine ⟨fun _ => ?_, ?_⟩; (focus ((go_at_call 33; with_reducible exact Calls.after (hA _)))); go_big_quiet_on)))); refine wpQuiet_nil ?_; rintro ⟨w1, hb1⟩; (try dsimp only); obtain ⟨hc1, hf1⟩ := bcell hb1; have hs1 := hb1.size; (try simp at hs1))
          have hW := b_set (b_set (b_then hB hb1) (p := ⟨g5, 0, none⟩) (by simp; omega) (.string (iS zz.num))) (p := ⟨g5, 1, none⟩) (by simp; omega) (.string (nS zz.den))
          have v3 := (in_get hx hW hlt HXK.out).c3
          obtain ⟨u0, u1, u2, u3⟩ := (D5.below hb1).two
          go_wp2
          go_roundw
          case rel => exact ⟨k + 1, zz, by omega, by go_num, HS.out, (D5.below hb1).put2 _ _, ((D4.below hb1).far (by simp; omega) _).far (by simp; omega) _, hW⟩
          case measure => simp [intOf]; omega
        | false =>
        have e1' : ¬ a = a4 := fun e => by rw [e] at e1; simp at e1
        cases e2 : (a3.toList == a.toList) with
        | true =>
          have HS := Lib.hid (pendI_from H.out hxk hc e1' (s_eq.2 (beq_iff_eq.1 e2)).symm hqd hqs)
          generalize hzz : z + -q = zz at *
          clear hl hxk hqd hqs hmem o hA hc hne z0 z1 z2 z3 z4 z5 z6 hzz e1' hcu
          go_wp2
          (refine wp_region_ahead 7 (by kernel_rfl) (by kernel_rfl) ?_; simp only [List.take_succ_cons, List.take_zero, List.drop_succ_cons, List.drop_zero]; (repeat (first | go_big_quiet_skip | (go_big_quiet_want; go_big_quiet_op; first | go_big_quiet_on | (apply Exists.intro; refine ⟨fun _ => ?_, ?_⟩; (focus ((go_at_call 73; with_reducible exact Calls.after (hS _)))); go_big_quiet_on)))); refine wpQuiet_nil ?_; rintro ⟨w1, hb1⟩; (try dsimp only); obtain ⟨hc1, hf1⟩ := bcell hb1; have hs1 := hb1.size; (try simp at hs1))
          have hW := b_set (b_set (b_then hB hb1) (p := ⟨g5, 0, none⟩) (by simp; omega) (.string (iS zz.num))) (p := ⟨g5, 1, none⟩) (by simp; omega) (.string (nS zz.den))
          obtain ⟨u0, u1, u2, u3⟩ := (D5.below hb1).two
          go_wp2
          go_roundw
          case rel => exact ⟨k + 1, zz, by omega, by go_num, HS.out, (D5.below hb1).put2 _ _, ((D4.below hb1).far (by simp; omega) _).far (by simp; omega) _, hW⟩
          case measure => simp [intOf]; omega
        | false =>
          have HS := Lib.hid (pendI_none H.out hxk e1' (fun e => by rw [e] at e2; simp at e2))
          clear hl hxk hqd hqs hmem o hA hS hc hne z0 z1 z2 z3 z4 z5 z6 e1' hcu
          go_wp2
          go_roundw
          case rel => exact ⟨k + 1, z, by omega, by go_num, HS.out, D5, D4, hB⟩
          case measure => simp [intOf]; omega
      · obtain rfl : k = n := by omega
        have hfin : Hid ((ipend ls a s ex).v = .agg #[.string (iS z.num), .string (nS z.den)]) := by
          unfold Hid
          rw [pendI_end (by rw [HXL.out]; exact H.out) C0.out]; rfl
        obtain ⟨p0, p1, p2, p3⟩ := D5.two
        obtain ⟨k0, k1, k2, k3⟩ := D4.two
        go_wp2
        refine bodyPost_ret (v := .agg #[.string (iS z.num), .string (nS z.den)]) ?_ rfl ⟨by rw [hfin.out], (by repeat (first | exact Below.refl _ _ | assumption | refine b_then ?_ (by assumption) | refine b_alloc ?_ _ | refine b_drewN ?_ _ | refine Below.drew ?_ | refine b_set ?_ (by first | exact Nat.le_refl _ | (simp; done) | (simp; omega) | omega) _))⟩
        simp [results, Tryz.results39, go_sem, k0, k1, k2, k3]
end Go.Proofs.YtjdkbmlkplbmoaaGreatDoor
