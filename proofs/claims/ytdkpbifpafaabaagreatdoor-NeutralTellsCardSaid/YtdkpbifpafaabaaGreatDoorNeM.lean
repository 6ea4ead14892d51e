/- NeutralTells: the walk (given the fixed calls). -/
import Derived.Test.YtdkpbifpafaabaaGreatDoorNeL
import Derived.Test.YtdkpbifpafaabaaGreatDoorNeK
namespace Go.Proofs.YtdkpbifpafaabaaGreatDoor
open Go.RowKit
set_option linter.unusedVariables false
set_option linter.unusedSimpArgs false

def acz (x : Ac) : Prop := x.name.size ≤ 9223372036854775807 ∧ x.asset.size ≤ 9223372036854775807 ∧ x.other.size ≤ 9223372036854775807 ∧ (x.ratio.num.size ≤ 9223372036854775807 ∧ x.ratio.den.size ≤ 9223372036854775807) ∧ x.cash.num.size ≤ 9223372036854775807 ∧ x.cash.den.size ≤ 9223372036854775807
theorem acq_of30 {x : Ac} (h0 : x.name.size ≤ 9223372036854775807) (h2 : x.asset.size ≤ 9223372036854775807) (h3 : x.other.size ≤ 9223372036854775807) (hs : x.ratio.num.size ≤ 30 ∧ x.ratio.den.size ≤ 30 ∧ x.cash.num.size ≤ 30 ∧ x.cash.den.size ≤ 30) : acq x := ⟨h0, h2, h3, ⟨by omega, by omega⟩, by omega, by omega⟩
theorem acq_two {x y : Ac} (h : acq x) (h' : acq y) : ∀ z ∈ [x, y], acq z := by
  intro z hz
  simp at hz
  rcases hz with rfl | rfl
  · exact h
  · exact h'
theorem nall_two {xs : List Fx} {a b : Ac} (h : fmay xs = true) (ha : amay a = true) (hb : amay b = true) : nall xs [a, b] = nfix a (nfix b xs) := by
  rw [nall_yes h (by simp [ha, hb])]; rfl
theorem acq_take {l : List Ac} {k : Nat} {x : Ac} (h : ∀ y ∈ l.take k, acq y) (hx : l[k]? = some x) (hq : acq x) : ∀ y ∈ l.take (k + 1), acq y := by
  intro y hy
  rw [List.take_add_one, hx, List.mem_append] at hy
  rcases hy with hy | hy
  · exact h y hy
  · simp at hy; subst hy; exact hq
theorem r12_sameT {A B : Option Addr} {n c d : Nat} {xs : List Fx} (w : World) (hx : Rd Fx.cs 4 w A n xs) (hy : Rd Fx.cs 4 w B n xs) :
    Calls Tryz.prog 34 #[.slice A n c, .slice B n d] w fun e w' => e = .returned (.bool true) ∧ Below w.heap.size w w' :=
  (r12_same (c := c) (d := d) w hx hy).mono fun e w' he => ⟨by rw [he.1]; simp, he.2⟩
set_option maxRecDepth 100000 in
set_option maxHeartbeats 8000000 in
theorem l_ntells (HF : Fixed17Ok) {A B : Option Addr} {n c m d : Nat} {xs : List Fx} {l : List Ac} (w : World) (hg : Glob w) (hx : Rd Fx.cs 4 w A n xs) (hz : ∀ f ∈ xs, f.asset.size ≤ 9223372036854775807 ∧ f.p.num.size ≤ 9223372036854775807 ∧ f.p.den.size ≤ 9223372036854775807) (hl : Rd Ac.cs 11 w B m l) (hzl : ∀ x ∈ l, acz x) :
    Calls Tryz.prog 8 #[.slice A n c, .slice B m d] w fun e w' => e = .returned (.bool true) ∧ Below w.heap.size w w' := by
  have hF := fun W (h : Below w.heap.size w W) => HF W (hg.below h)
  have hSm := fun W (h : Below w.heap.size w W) => r12_small (c := c) W (hx.below h) hz
  have hbig := hl.big
  cases d1 : fsmall xs with
  | false =>
    rw [d1] at hSm
    clear d1
    go_enter Tryz.func8, Tryz.ntmps8
    go_wp2_with (first | (go_at_call 33; (with_reducible refine (hF _ (by repeat (first | exact Below.refl _ _ | assumption | refine b_then ?_ (by assumption) | refine b_alloc ?_ _ | refine b_drewN ?_ _ | refine Below.drew ?_ | refine b_set ?_ (by first | exact Nat.le_refl _ | (simp; done) | (simp; omega) | omega) _))).mono ?_); rintro e w9 ⟨rfl, hb9⟩) | (go_at_call 15; (with_reducible refine (hSm _ (by repeat (first | exact Below.refl _ _ | assumption | refine b_then ?_ (by assumption) | refine b_alloc ?_ _ | refine b_drewN ?_ _ | refine Below.drew ?_ | refine b_set ?_ (by first | exact Nat.le_refl _ | (simp; done) | (simp; omega) | omega) _))).mono ?_); rintro e w' ⟨rfl, rfl⟩))
    go_ret
    exact ⟨rfl, (by repeat (first | exact Below.refl _ _ | assumption | refine b_then ?_ (by assumption) | refine b_alloc ?_ _ | refine b_drewN ?_ _ | refine Below.drew ?_ | refine b_set ?_ (by first | exact Nat.le_refl _ | (simp; done) | (simp; omega) | omega) _))⟩
  | true =>
  rw [d1] at hSm
  obtain ⟨f1, f2⟩ := fsmall_r d1
  rw [hx.len] at f2
  have HFX := Lib.hid hF
  clear d1
  by_cases h4 : m ≤ 4
  · have h4' : ¬ (4 : Int) < (m : Int) := by omega
    go_enter Tryz.func8, Tryz.ntmps8
    go_wp2_with (go_at_call 15; (with_reducible refine (hSm _ (by repeat (first | exact Below.refl _ _ | assumption | refine b_then ?_ (by assumption) | refine b_alloc ?_ _ | refine b_drewN ?_ _ | refine Below.drew ?_ | refine b_set ?_ (by first | exact Nat.le_refl _ | (simp; done) | (simp; omega) | omega) _))).mono ?_); rintro e w' ⟨rfl, rfl⟩)
    clear hSm
    go_loopw [5] (fun i wr => ∃ k : Nat, k ≤ m ∧ i = .int .i64 k ∧ Hid (∀ x ∈ l.take k, acq x) ∧ Hid (Below w.heap.size w wr)) (fun i _ => m - (intOf i).toNat)
    case atStart => exact ⟨0, Nat.zero_le _, rfl, by intro x hx; simp at hx, Below.refl _ _⟩
    case round =>
      obtain ⟨k, hk, rfl, H, HB⟩ := hrel
      have hB := HB.out
      by_cases hlt : k < m
      · obtain ⟨ad, a0, a1, a2, a3, a4, a5, a6, a7, a8, a9, a10, rfl, hxk, hll⟩ := ac_in hl hB hlt
        obtain ⟨h0, h2, h3, ⟨h4, h5⟩, h6, h7⟩ := hzl _ (List.mem_of_getElem? hxk)
        dsimp only at h0 h2 h3 h4 h5 h6 h7
        have HX := Lib.hid hxk
        obtain ⟨x0, x1, x2, x3, x4, x5, x6, x7, x8, x9, x10, x11, x12⟩ := hll wr (Below.refl _ _)
        have hLt := r15_light a0 a1 a2 a3 a4 a5 a6 a7 a8 a9 a10 wr h0 h2 h3 h4 h5 h6 h7
        clear hxk
        go_wp2_with (first | (go_at_call 33; (with_reducible refine (hF _ (by repeat (first | exact Below.refl _ _ | assumption | refine b_then ?_ (by assumption) | refine b_alloc ?_ _ | refine b_drewN ?_ _ | refine Below.drew ?_ | refine b_set ?_ (by first | exact Nat.le_refl _ | (simp; done) | (simp; omega) | omega) _))).mono ?_); rintro e w9 ⟨rfl, hb9⟩) | (go_at_call 13; (with_reducible refine hLt.mono ?_); rintro e w2 ⟨b, rfl, hbL, hb2⟩; have hs2 := hb2.size; have HbL := Lib.hid hbL; clear hbL; cases b))
        · go_ret
          exact ⟨rfl, (by repeat (first | exact Below.refl _ _ | assumption | refine b_then ?_ (by assumption) | refine b_alloc ?_ _ | refine b_drewN ?_ _ | refine Below.drew ?_ | refine b_set ?_ (by first | exact Nat.le_refl _ | (simp; done) | (simp; omega) | omega) _))⟩
        · skip
          have hsz := HbL.out (by first | rfl | trivial)
          have hB2 := b_then hB hb2
          have hq : acq ⟨a0, a1, a2, a3, ⟨a4, a5⟩, ⟨a6, a7⟩, a8, a9, a10⟩ := ⟨h0, h2, h3, ⟨by show a4.size ≤ _; omega, by show a5.size ≤ _; omega⟩, by show a6.size ≤ _; omega, by show a7.size ≤ _; omega⟩
          have H2 : Hid (∀ x ∈ l.take (k + 1), acq x) := acq_take H.out HX.out hq
          obtain ⟨ys, hys⟩ : ∃ ys, nout ⟨a0, a1, a2, a3, ⟨a4, a5⟩, ⟨a6, a7⟩, a8, a9, a10⟩ xs = ys := ⟨_, rfl⟩
          obtain ⟨m9, hm9⟩ : ∃ m9, ys.length = m9 := ⟨_, rfl⟩
          have kE := fun W (h : Below w.heap.size w W) => (p_nOne (c := c) a0 a1 a2 a3 a4 a5 a6 a7 a8 a9 a10 W (hg.below h) (hx.below h) (by omega) (fun f hf => fxr_mono (f1 f hf) (by omega)) h0 h2 h3 (by omega) (by omega) (by omega) (by omega)).mono fun e w' he => (hys ▸ he : NewFix ys W e w').is_ hm9
          have kR := fun W (h : Below w.heap.size w W) => r17_one (c := c) a0 a1 a2 a3 a4 a5 a6 a7 a8 a9 a10 W (hx.below h) (by omega) (fun f hf => fxr_mono (f1 f hf) (by omega)) h0 h2 h3 (by omega) (by omega) (by omega) (by omega)
          rw [hys, hm9] at kR
          have KE := Lib.hid kE
          have KR := Lib.hid kR
          have y0 := fun (x : After w2) (y : After x.W) => (hll y.W (b_then hb2 (b_then x.h y.h))).c0
          have y1 := fun (x : After w2) (y : After x.W) => (hll y.W (b_then hb2 (b_then x.h y.h))).c1
          have y2 := fun (x : After w2) (y : After x.W) => (hll y.W (b_then hb2 (b_then x.h y.h))).c2
          have y3 := fun (x : After w2) (y : After x.W) => (hll y.W (b_then hb2 (b_then x.h y.h))).c3
          have y4 := fun (x : After w2) (y : After x.W) => (hll y.W (b_then hb2 (b_then x.h y.h))).c4
          have y5 := fun (x : After w2) (y : After x.W) => (hll y.W (b_then hb2 (b_then x.h y.h))).c5
          have y6 := fun (x : After w2) (y : After x.W) => (hll y.W (b_then hb2 (b_then x.h y.h))).c6
          have y7 := fun (x : After w2) (y : After x.W) => (hll y.W (b_then hb2 (b_then x.h y.h))).c7
          have y8 := fun (x : After w2) (y : After x.W) => (hll y.W (b_then hb2 (b_then x.h y.h))).c8
          have y9 := fun (x : After w2) (y : After x.W) => (hll y.W (b_then hb2 (b_then x.h y.h))).c9
          have y10 := fun (x : After w2) (y : After x.W) => (hll y.W (b_then hb2 (b_then x.h y.h))).c10
          have y11 := fun (x : After w2) (y : After x.W) => (hll y.W (b_then hb2 (b_then x.h y.h))).d5
          have y12 := fun (x : After w2) (y : After x.W) => (hll y.W (b_then hb2 (b_then x.h y.h))).d7
          clear hys hm9 kE kR
          refine wp_region_multi [(5, 33, m9), (11, 39, m9)] [(12, 40, .bool true)] (fun _ B k W => Rd Fx.cs 4 W B m9 ys) ?mA (by kernel_rfl) (fun p => by kernel_rfl) (fun p x => ?mH)
            ⟨by kernel_rfl, by kernel_rfl, by simp, by simp, ?mk, ?mt, fun i B k W W' h hb => h.below hb, ?mhA, ?mQ⟩
          case mH =>
            simp only [mods, mkS_, List.map_cons, List.map_nil, List.append_eq, List.cons_append, List.nil_append, List.modify_succ_cons, List.modify_zero_cons, repV]
            have hxs := x.h.size
            (try simp at hxs)
            (repeat (first | go_big_quiet_skip | (go_big_quiet_want; go_big_quiet_op; first | go_big_quiet_on)))
            refine wpQuiet_nil ?_
            rfl
          case mk =>
            intro y hy p
            simp only [List.mem_cons, List.not_mem_nil, or_false] at hy
            rcases hy with rfl | rfl
            · refine ⟨_, rfl, rfl, fun a W hW hgv => ?_⟩
              have g1 := (hgv 0 _ 28 rfl rfl (by kernel_rfl)).trans rfl
              have g2 := (hgv 4 _ 32 rfl rfl (by kernel_rfl)).trans rfl
              exact mk_call rfl rfl (by simp [Region.wanted]) (by simp [execOp, go_sem, g1, g2]) ((KE.out W (b_then hB2 hW)).mono fun e w' he => he)
            · refine ⟨_, rfl, rfl, fun a W hW hgv => ?_⟩
              have g1 := (hgv 6 _ 34 rfl rfl (by kernel_rfl)).trans rfl
              have g2 := (hgv 10 _ 38 rfl rfl (by kernel_rfl)).trans rfl
              exact mk_call rfl rfl (by simp [Region.wanted]) (by simp [execOp, go_sem, g1, g2]) ((KR.out W (b_then hB2 hW)).mono fun e w' he => he)
          case mt =>
            intro y hy p
            simp only [List.mem_cons, List.not_mem_nil, or_false] at hy
            subst hy
            refine ⟨_, rfl, rfl, fun a W hW hR hgv => ?_⟩
            have g1 := (hgv 5 _ 33 rfl rfl (by kernel_rfl)).trans rfl
            have g2 := (hgv 11 _ 39 rfl rfl (by kernel_rfl)).trans rfl
            exact tk_call rfl rfl (by simp [Region.wanted]) (by simp [execOp, go_sem, g1, g2]) (r12_sameT (c := (p 5).2) (d := (p 11).2) W (hR _ (.head _) (by kernel_rfl)) (hR _ (.tail _ (.head _)) (by kernel_rfl)))
          case mhA => exact fun p => rfl
          case mQ =>
            intro p w8 hb8 hR
            go_wp2
            go_roundw
            case rel => exact ⟨k + 1, by omega, by go_num, H2, b_then hB2 hb8⟩
            case measure => simp [intOf]; omega
      · obtain rfl : m = k := by omega
        have HQ : Hid (∀ x ∈ l, acq x) := by
          have := H.out
          rwa [← hl.len, List.take_length] at this
        obtain ⟨ys, hys⟩ : ∃ ys, nall xs l = ys := ⟨_, rfl⟩
        obtain ⟨m9, hm9⟩ : ∃ m9, ys.length = m9 := ⟨_, rfl⟩
        have hA := fun W (h : Below w.heap.size w W) => p_nall (c := c) (d := d) W (hg.below h) (hx.below h) f2 f1 (hl.below h) h4 HQ.out
        have hR := fun W (h : Below w.heap.size w W) => r17_all (c := c) (d := d) W (hx.below h) f2 f1 (hl.below h) h4 HQ.out
        rw [hys, hm9] at hA hR
        unfold FixIs at hA hR
        clear hys hm9 H
        have hF := HFX.out
        go_wp2_with (first
          | (go_at_call 33; (with_reducible refine (hF _ hB).mono ?_); rintro e w9 ⟨rfl, hb9⟩; have hB9 := b_then hB hb9; clear hF)
          | (go_at_call 37; (with_reducible refine (hA _ hB9).mono ?_); rintro e w10 ⟨B10, k10, rfl, R10, hb10⟩; have hB10 := b_then hB9 hb10)
          | (go_at_call 38; (with_reducible refine (hR _ hB10).mono ?_); rintro e w11 ⟨B11, k11, rfl, R11, hb11⟩; have hB11 := b_then hB10 hb11)
          | (go_at_call 34; (with_reducible refine (r12_sameT (c := k10) (d := k11) w11 (R10.below hb11) R11).mono ?_); rintro e w12 ⟨rfl, hb12⟩))
        go_ret
        exact ⟨rfl, b_then hB11 hb12⟩
  · have h4' : (4 : Int) < (m : Int) := by omega
    go_enter Tryz.func8, Tryz.ntmps8
    go_wp2_with (first | (go_at_call 33; (with_reducible refine (hF _ (by repeat (first | exact Below.refl _ _ | assumption | refine b_then ?_ (by assumption) | refine b_alloc ?_ _ | refine b_drewN ?_ _ | refine Below.drew ?_ | refine b_set ?_ (by first | exact Nat.le_refl _ | (simp; done) | (simp; omega) | omega) _))).mono ?_); rintro e w9 ⟨rfl, hb9⟩) | (go_at_call 15; (with_reducible refine (hSm _ (by repeat (first | exact Below.refl _ _ | assumption | refine b_then ?_ (by assumption) | refine b_alloc ?_ _ | refine b_drewN ?_ _ | refine Below.drew ?_ | refine b_set ?_ (by first | exact Nat.le_refl _ | (simp; done) | (simp; omega) | omega) _))).mono ?_); rintro e w' ⟨rfl, rfl⟩))
    go_ret
    exact ⟨rfl, (by repeat (first | exact Below.refl _ _ | assumption | refine b_then ?_ (by assumption) | refine b_alloc ?_ _ | refine b_drewN ?_ _ | refine Below.drew ?_ | refine b_set ?_ (by first | exact Nat.le_refl _ | (simp; done) | (simp; omega) | omega) _))⟩
end Go.Proofs.YtdkpbifpafaabaaGreatDoor
