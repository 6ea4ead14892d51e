/- Actions that may be, all of a list; slices.Backward of actions. -/
import Derived.Test.YtdkpbifpafaabaaGreatDoorNeF
namespace Go.Proofs.YtdkpbifpafaabaaGreatDoor
open Go.RowKit Go.Shelf
set_option linter.unusedVariables false
set_option linter.unusedSimpArgs false
attribute [local go_sem] Oper.semAt_some

def acq (x : Ac) : Prop := x.name.size ≤ 9223372036854775807 ∧ x.asset.size ≤ 9223372036854775807 ∧ x.other.size ≤ 9223372036854775807 ∧ (x.ratio.num.size ≤ 400000000 ∧ x.ratio.den.size ≤ 400000000) ∧ x.cash.num.size ≤ 400000000 ∧ x.cash.den.size ≤ 400000000
set_option maxHeartbeats 800000 in
theorem p_na1 (a0 : ByteArray) (a1 : Int) (a2 a3 a4 a5 a6 a7 : ByteArray) (a8 a9 a10 : Int) (w : World) (hg : Glob w) (h0 : a0.size ≤ 9223372036854775807) (h2 : a2.size ≤ 9223372036854775807) (h3 : a3.size ≤ 9223372036854775807) (h4 : a4.size ≤ 400000000) (h5 : a5.size ≤ 400000000) (h6 : a6.size ≤ 400000000) (h7 : a7.size ≤ 400000000) :
    Calls Tryz.prog 73 #[.agg #[.string a0, .int .i64 a1, .string a2, .string a3, .string a4, .string a5, .string a6, .string a7, .int .i64 a8, .int .i64 a9, .int .i64 a10]] w fun e w' => e = .returned (.bool (!amay ⟨a0, a1, a2, a3, ⟨a4, a5⟩, ⟨a6, a7⟩, a8, a9, a10⟩)) ∧ Below w.heap.size w w' := by
  have hA := fun W (h : Below w.heap.size w W) => p_amay a0 a1 a2 a3 a4 a5 a6 a7 a8 a9 a10 W (hg.below h) h0 h2 h3 (by omega) (by omega) (by omega) (by omega)
  generalize amay ⟨a0, a1, a2, a3, ⟨a4, a5⟩, ⟨a6, a7⟩, a8, a9, a10⟩ = b at *
  go_enter Tryz.func73, Tryz.ntmps73
  go_wp2_with (go_at_call 47; (with_reducible refine (hA _ (by repeat (first | exact Below.refl _ _ | assumption | refine b_then ?_ (by assumption) | refine b_alloc ?_ _ | refine b_drewN ?_ _ | refine Below.drew ?_ | refine b_set ?_ (by first | exact Nat.le_refl _ | (simp; done) | (simp; omega) | omega) _))).mono ?_); rintro e w1 ⟨rfl, hb1⟩; obtain ⟨hc1, hf1⟩ := bcell hb1; have hs1 := hb1.size; (try simp at hs1); have hq1 : w.heap.size < w1.heap.size := (by omega))
  go_ret
  exact ⟨rfl, (by repeat (first | exact Below.refl _ _ | assumption | refine b_then ?_ (by assumption) | refine b_alloc ?_ _ | refine b_drewN ?_ _ | refine Below.drew ?_ | refine b_set ?_ (by first | exact Nat.le_refl _ | (simp; done) | (simp; omega) | omega) _))⟩
def AIdx (xs : List Ac) (w : World) (e : Ending) (w' : World) : Prop := ∃ i : Int, e = .returned (.int .i64 i) ∧ decide (0 ≤ i) = !xs.all amay ∧ Below w.heap.size w w'
set_option maxRecDepth 100000 in
set_option maxHeartbeats 2000000 in
theorem p_aidx {A : Option Addr} {n c : Nat} {xs : List Ac} (w : World) (hg : Glob w) (hx : Rd Ac.cs 11 w A n xs) (hz : ∀ x ∈ xs, acq x) :
    Calls Tryz.prog 113 #[.slice A n c, .func (.func 73) #[] #[]] w (AIdx xs w) := by
  have hbig := hx.big
  go_enter Tryz.func113, Tryz.ntmps113
  go_wp2
  go_loopw [8] (fun i wr => ∃ k : Nat, k ≤ n ∧ i = .int .i64 k ∧ Hid ((xs.take k).all amay = true) ∧ Below w.heap.size w wr) (fun i _ => n - (intOf i).toNat)
  case atStart => exact ⟨0, Nat.zero_le _, rfl, by simp [Hid], Below.refl _ _⟩
  case round =>
    obtain ⟨k, hk, rfl, H, hB⟩ := hrel
    by_cases hlt : k < n
    · obtain ⟨ad, a0, a1, a2, a3, a4, a5, a6, a7, a8, a9, a10, rfl, hxk, hl⟩ := ac_in hx hB hlt
      obtain ⟨h0, h2, h3, ⟨h4, h5⟩, h6, h7⟩ := hz _ (List.mem_of_getElem? hxk)
      dsimp only at h0 h2 h3 h4 h5 h6 h7
      have HX := Lib.hid hxk
      obtain ⟨x0, x1, x2, x3, x4, x5, x6, x7, x8, x9, x10, x11, x12⟩ := hl wr (Below.refl _ _)
      have hN := fun W (h : Below w.heap.size w W) => p_na1 a0 a1 a2 a3 a4 a5 a6 a7 a8 a9 a10 W (hg.below h) h0 h2 h3 h4 h5 h6 h7
      clear hxk hl
      cases hd : amay ⟨a0, a1, a2, a3, ⟨a4, a5⟩, ⟨a6, a7⟩, a8, a9, a10⟩ with
      | true =>
        rw [hd] at hN
        have H2 : Hid ((xs.take (k + 1)).all amay = true) := all_take_succ H.out HX.out hd
        clear hd
        go_wp2_with (go_at_call 73; (with_reducible refine (hN _ hB).mono ?_); rintro e w1 ⟨rfl, hb1⟩)
        go_roundw
        case rel => exact ⟨k + 1, by omega, by go_num, H2, b_then hB hb1⟩
        case measure => simp [intOf]; omega
      | false =>
        rw [hd] at hN
        have H2 := Lib.hid hd
        clear hd
        go_wp2_with (go_at_call 73; (with_reducible refine (hN _ hB).mono ?_); rintro e w1 ⟨rfl, hb1⟩)
        go_ret
        refine ⟨k, rfl, ?_, b_then hB hb1⟩
        have : xs.all amay = false := by
          rw [← Bool.not_eq_true, List.all_eq_true]
          intro h
          have := h _ (List.mem_of_getElem? HX.out)
          rw [H2.out] at this; cases this
        rw [this]
        simp
    · obtain rfl : k = n := by omega
      have H2 := H.out
      rw [← hx.len, List.take_length] at H2
      have H3 := Lib.hid H2
      clear H2
      go_wp2
      go_ret
      exact ⟨-1, rfl, by rw [H3.out]; rfl, hB⟩
set_option maxHeartbeats 2000000 in
theorem p_actn {A : Option Addr} {n c : Nat} {xs : List Ac} (w : World) (hg : Glob w) (hx : Rd Ac.cs 11 w A n xs) (hz : ∀ x ∈ xs, acq x) :
    Calls Tryz.prog 72 #[.slice A n c, .func (.func 73) #[] #[]] w fun e w' => e = .returned (.bool (!xs.all amay)) ∧ Below w.heap.size w w' := by
  have hI := p_aidx (c := c) w hg hx hz
  clear hx hz hg
  go_enter Tryz.func72, Tryz.ntmps72
  go_wp2_with (go_at_call 113; (with_reducible refine hI.mono ?_); rintro e w1 ⟨i, rfl, hi, hb1⟩; revert hi)
  intro hi
  go_wp2
  go_ret
  refine ⟨?_, hb1⟩
  rw [← hi]; rfl
/-- What a round is handed. -/
def abenc (xs : List Ac) (i : Fin xs.length) : Array Value := #[.int .i64 (i.1 : Nat), Ac.v xs[i.1]]
set_option maxRecDepth 100000 in
set_option maxHeartbeats 4000000 in
theorem aback1_in (F : Fence) (n : Nat) (h7 : F.fn 114) (hro : F.round = none) (hn : 1 ≤ n) (l Bs cap : Nat) (A : Option Addr) (xs : List Ac) (w0 : World) (hR : Rd Ac.cs 11 w0 A xs.length xs) (J Jx : List (Fin xs.length) → World → Prop)
    (hY : ∀ pre x W, J pre W → pre.length < xs.length → YieldAt F (n - 1) Tryz.prog l (abenc xs x) W fun e W' =>
      (e = .returned (.bool true) ∧ J (pre ++ [x]) W' ∧ KpI w0.heap.size Bs W W') ∨ (e = .returned (.bool false) ∧ Jx (pre ++ [x]) W'))
    (W : World) (hBs : W.cell? ⟨Bs, 0, none⟩ = some (.slice A xs.length cap)) (hW : Below w0.heap.size w0 W) (h0 : J [] W) :
    CallsIn F n Tryz.prog 114 #[.func (.yield l) #[] #[], .pointer (some ⟨Bs, 0, none⟩)] W fun e W' => (∃ v, e = .returned v) ∧
      ((∃ ys, ys = backs xs.length xs.length ∧ J ys W') ∨ (∃ pre, (∃ k, k ≤ xs.length ∧ pre = backs xs.length k) ∧ Jx pre W')) := by
  have hbig := hR.big
  refine callsIn_of_wp Tryz.func114 rfl h7 ?_ hro
  simp only [Tryz.ntmps114, List.size_toArray, List.length_cons, List.length_nil, Nat.reduceAdd, Nat.reduceSub, Array.replicate_succ, Array.replicate_zero, List.push_toArray, List.append_toArray, List.nil_append, List.cons_append]
  gi_wp2
  gi_loopw [3] (fun i wr => ∃ k : Nat, k ≤ xs.length ∧ i = .int .i64 ((xs.length : Int) - 1 - k) ∧ J (backs xs.length k) wr ∧ KpI w0.heap.size Bs W wr)
    (fun i _ => (intOf i + 1).toNat)
  case atStart => exact ⟨0, Nat.zero_le _, by simp, h0, KpI.refl _ _ _⟩
  case round =>
    obtain ⟨k, hk, rfl, hJs, hnx⟩ := hrel
    have hBr := hnx.2.trans hBs
    by_cases hlt : k < xs.length
    · obtain ⟨q, hq⟩ : ∃ q, xs.length - 1 - k = q := ⟨_, rfl⟩
      have hqi : (xs.length : Int) - 1 - k = (q : Int) := by omega
      have hql : q < xs.length := by omega
      obtain ⟨ad, a0, a1, a2, a3, a4, a5, a6, a7, a8, a9, a10, rfl, hxk, hl⟩ := ac_in hR (hW.trans hnx.1) hql
      obtain ⟨x0, x1, x2, x3, x4, x5, x6, x7, x8, x9, x10, x11, x12⟩ := hl wr (Below.refl _ _)
      have hxq : xs[q] = ⟨a0, a1, a2, a3, ⟨a4, a5⟩, ⟨a6, a7⟩, a8, a9, a10⟩ := by rw [List.getElem?_eq_getElem hql] at hxk; exact Option.some.inj hxk
      obtain ⟨fn, tmps, assign, body, hy, hRr⟩ := hY _ ⟨xs.length - 1 - k, by omega⟩ wr hJs (by rw [backs_length _ _ hk]; exact hlt)
      simp only [abenc, hq, hxq, Ac.v] at hy
      rw [hqi]
      clear hl
      gi_wp2
      refine hRr.mono ?_
      rintro e W3 (⟨rfl, hJ3, hk3⟩ | ⟨rfl, hJx3⟩)
      · gi_wp2
        go_roundw
        case rel => exact ⟨k + 1, by omega, by (simp; try omega), by rw [backs_succ _ _ hlt]; exact hJ3, hnx.trans hk3⟩
        case measure => (simp [intOf]; try omega)
      · gi_wp2
        refine bodyPost_ret (results_none rfl _ _ _) rfl ?_
        exact ⟨⟨_, rfl⟩, .inr ⟨_, ⟨k + 1, by omega, (backs_succ _ _ hlt).symm⟩, hJx3⟩⟩
    · obtain rfl : k = xs.length := by omega
      gi_wp2
      go_end0
      exact ⟨⟨_, rfl⟩, .inl ⟨_, rfl, hJs⟩⟩
set_option maxHeartbeats 1000000 in
theorem aback_in (F : Fence) (n : Nat) (h5 : F.fn 75) (hro : F.round = none) (a : Option Addr) (len cap : Nat) (w : World) :
    CallsIn F n Tryz.prog 75 #[.slice a len cap] w fun e w' => e = .returned (.func (.func 114) #[] #[.pointer (some ⟨w.heap.size, 0, none⟩)]) ∧ w' = w.alloc (.cells #[.slice a len cap] 54) := by
  refine callsIn_of_wp Tryz.func75 rfl h5 ?_ hro
  simp only [Tryz.ntmps75, List.size_toArray, List.length_cons, List.length_nil, Nat.reduceAdd, Nat.reduceSub, Array.replicate_succ, Array.replicate_zero, List.push_toArray, List.append_toArray, List.nil_append, List.cons_append]
  gi_wp2
  go_ret
  exact ⟨rfl, rfl⟩
/-- slices.Backward of actions: all of them, the last one first; or some of them. -/
theorem aback_stops (F : Fence) (n : Nat) (h7 : F.fn 114) (hro : F.round = none) (hn : 1 ≤ n) (Bs m cap : Nat) (A : Option Addr) (xs : List Ac) (w : World) (hBs : Bs < w.heap.size)
    (hc : w.cell? ⟨Bs, 0, none⟩ = some (.slice A m cap)) {w0 : World} (hn₀ : w0.heap.size ≤ w.heap.size) (hI : Rd Ac.cs 11 w0 A m xs) (hb : Below w0.heap.size w0 w) :
    SeqStopsK F n Tryz.prog 114 #[.pointer (some ⟨Bs, 0, none⟩)] (abenc xs) (KpI w0.heap.size Bs) (fun ys => ys = (List.finRange xs.length).reverse) (fun pre => ∃ k, k ≤ xs.length ∧ pre = backs xs.length k) xs.length w := fun l J Jx W hW _ _ hY h0 => by
  have hc' := (hW.cell (p := ⟨Bs, 0, none⟩) hBs).trans hc
  have hl := hI.len
  subst hl
  refine (aback1_in F n h7 hro hn l Bs cap A xs w0 hI J Jx hY W hc' (b_then hb hW) h0).mono ?_
  rintro e W' ⟨he, ⟨ys, rfl, hj⟩ | ⟨pre, hk, hj⟩⟩
  · exact ⟨he, .inl ⟨_, backs_all _, hj⟩⟩
  · exact ⟨he, .inr ⟨_, hk, hj⟩⟩
end Go.Proofs.YtdkpbifpafaabaaGreatDoor
