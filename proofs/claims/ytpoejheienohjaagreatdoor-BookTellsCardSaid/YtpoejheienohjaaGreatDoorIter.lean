/- Slices of limbs; slices.Backward over them. -/
import Derived.Test.YtpoejheienohjaaGreatDoorLib
import Derived.RangeFuncNested
import Derived.RangeFuncBound
import Derived.RangeFuncCalls
import Derived.RangeFuncLeaves
import Derived.RangeFuncBox
import Derived.Shelf.Abstract
import Derived.Shelf.RegionOpen
import Derived.OwnWalkIn
import Derived.TacticsInMore
import Derived.LoopNIn
import Derived.LoopIn
namespace Go.Proofs.YtpoejheienohjaaGreatDoor
open Go.RowKit Go.Shelf
set_option linter.unusedVariables false
set_option linter.unusedSimpArgs false
attribute [local go_sem] Oper.semAt_some

/-- A slice '.slice A n c' of ints holds the limbs xs. -/
structure Ls (w : World) (A : Option Addr) (n : Nat) (xs : List Nat) : Prop where
  len : xs.length = n
  big : n ≤ 1000000000
  cells : 0 < n → ∃ b off, A = some ⟨b, off, none⟩ ∧ b < w.heap.size ∧ ∀ (j x : Nat), xs[j]? = some x → w.cell? ⟨b, off + j, none⟩ = some (.int .i64 x)
theorem Ls.below {w w1 : World} {A : Option Addr} {n : Nat} {xs : List Nat} (h : Ls w A n xs) (hb : Below w.heap.size w w1) : Ls w1 A n xs :=
  ⟨h.len, h.big, fun hn => by
    obtain ⟨b, off, ha, hl, hc⟩ := h.cells hn
    exact ⟨b, off, ha, Nat.lt_of_lt_of_le hl hb.size, fun j x hj => (hb.cell (p := ⟨b, off + j, none⟩) hl).trans (hc j x hj)⟩⟩
theorem Ls.nil {w : World} {A : Option Addr} : Ls w A 0 [] := ⟨rfl, by omega, fun h => absurd h (by omega)⟩
theorem Ls.at_ {w : World} {A : Option Addr} {n : Nat} {xs : List Nat} (h : Ls w A n xs) {k : Nat} (hk : k < n) : ∃ b off, A = some ⟨b, off, none⟩ ∧ b < w.heap.size ∧ w.cell? ⟨b, off + k, none⟩ = some (.int .i64 (xs[k]'(by rw [h.len]; exact hk) : Nat)) := by
  obtain ⟨b, off, ha, hl, hc⟩ := h.cells (by omega)
  exact ⟨b, off, ha, hl, hc k _ (List.getElem?_eq_getElem _)⟩

/-- The indices from the last one on, k of them. -/
def backs (m k : Nat) : List (Fin m) := (List.finRange m).reverse.take k
theorem backs_succ (m k : Nat) (h : k < m) : backs m (k + 1) = backs m k ++ [⟨m - 1 - k, by omega⟩] := by
  unfold backs
  rw [List.take_add_one, List.getElem?_eq_getElem (by simpa using h)]
  simp [List.getElem_reverse]
theorem backs_length (m k : Nat) (h : k ≤ m) : (backs m k).length = k := by simp [backs, h]
theorem backs_zero (m : Nat) : backs m 0 = [] := rfl
theorem backs_all (m : Nat) : backs m m = (List.finRange m).reverse := by
  unfold backs; rw [List.take_of_length_le (by simp)]
/-- What a round is handed. -/
def benc (xs : List Nat) (i : Fin xs.length) : Array Value := #[.int .i64 (i.1 : Nat), .int .i64 (xs[i.1] : Nat)]

/-- What a round that goes on keeps: what lay below n₀, and the iterator's box. -/
def KpI (n₀ Bs : Nat) (W W' : World) : Prop := Below n₀ W W' ∧ W'.cell? ⟨Bs, 0, none⟩ = W.cell? ⟨Bs, 0, none⟩
theorem KpI.trans {n₀ Bs : Nat} {A B C : World} (h : KpI n₀ Bs A B) (k : KpI n₀ Bs B C) : KpI n₀ Bs A C := ⟨h.1.trans k.1, k.2.trans h.2⟩
theorem KpI.refl (n₀ Bs : Nat) (A : World) : KpI n₀ Bs A A := ⟨Below.refl _ _, rfl⟩
theorem KpI.turn {n₀ Bs : Nat} {w : World} (hn : n₀ ≤ w.heap.size) (hb : Bs < w.heap.size) (W : World) (l : Nat) (o o' : Obj) (hl : w.heap.size ≤ l) (h : W.heap[l]? = some o) (h1 : o.isCells = false) (h2 : o.isWalk = false) : KpI n₀ Bs W (W.putObj l o') :=
  ⟨belowK_b hn W l o o' hl h h1 h2, World.cell?_of_block (w := W) (a := ⟨Bs, 0, none⟩) (World.putObj_heap_other (k := Bs) (r := l) (by omega))⟩
theorem KpI.of {n₀ Bs : Nat} {A B : World} (h : Below n₀ A B) (k : Below (Bs + 1) A B) : KpI n₀ Bs A B := ⟨h, k.cell (p := ⟨Bs, 0, none⟩) (Nat.lt_succ_self _)⟩

set_option maxRecDepth 100000 in
set_option maxHeartbeats 2000000 in
theorem back1_in (F : Fence) (n : Nat) (h7 : F.fn 178) (hro : F.round = none) (hn : 1 ≤ n) (l Bs n₀ b off cap : Nat) (xs : List Nat) (hbig : xs.length ≤ 1000000000) (hb : b < n₀) (J Jx : List (Fin xs.length) → World → Prop)
    (hY : ∀ pre x W, J pre W → pre.length < xs.length → YieldAt F (n - 1) Tryz.prog l (benc xs x) W fun e W' =>
      (e = .returned (.bool true) ∧ J (pre ++ [x]) W' ∧ KpI n₀ Bs W W') ∨ (e = .returned (.bool false) ∧ Jx (pre ++ [x]) W'))
    (W : World) (hBs : W.cell? ⟨Bs, 0, none⟩ = some (.slice (some ⟨b, off, none⟩) xs.length cap)) (hc : ∀ j x, xs[j]? = some x → W.cell? ⟨b, off + j, none⟩ = some (.int .i64 (x : Nat))) (h0 : J [] W) :
    CallsIn F n Tryz.prog 178 #[.func (.yield l) #[] #[], .pointer (some ⟨Bs, 0, none⟩)] W fun e W' => (∃ v, e = .returned v) ∧
      ((∃ ys, ys = backs xs.length xs.length ∧ J ys W') ∨ (∃ pre, (∃ k, k ≤ xs.length ∧ pre = backs xs.length k) ∧ Jx pre W')) := by
  refine callsIn_of_wp Tryz.func178 rfl h7 ?_ hro
  simp only [Tryz.ntmps178, List.size_toArray, List.length_cons, List.length_nil, Nat.reduceAdd, Nat.reduceSub, Array.replicate_succ, Array.replicate_zero, List.push_toArray, List.append_toArray, List.nil_append, List.cons_append]
  gi_wp2
  gi_loopw [3] (fun i wr => ∃ k : Nat, k ≤ xs.length ∧ i = .int .i64 ((xs.length : Int) - 1 - k) ∧ J (backs xs.length k) wr ∧ KpI n₀ Bs W wr)
    (fun i _ => (intOf i + 1).toNat)
  case atStart => exact ⟨0, Nat.zero_le _, by simp, h0, KpI.refl _ _ _⟩
  case round =>
    obtain ⟨k, hk, rfl, hJs, hnx⟩ := hrel
    have hBr := hnx.2.trans hBs
    by_cases hlt : k < xs.length
    · have hx : xs[xs.length - 1 - k]? = some (xs[xs.length - 1 - k]'(by omega)) := List.getElem?_eq_getElem _
      have hcx : wr.cell? ⟨b, off + (xs.length - 1 - k), none⟩ = some (.int .i64 ((xs[xs.length - 1 - k]'(by omega) : Nat) : Int)) := (hnx.1.cell (p := ⟨b, off + (xs.length - 1 - k), none⟩) hb).trans (hc _ _ hx)
      obtain ⟨fn, tmps, assign, body, hy, hR⟩ := hY _ ⟨xs.length - 1 - k, by omega⟩ wr hJs (by rw [backs_length _ _ hk]; exact hlt)
      simp only [benc] at hy
      obtain ⟨q, hq⟩ : ∃ q, xs.length - 1 - k = q := ⟨_, rfl⟩
      have hqi : (xs.length : Int) - 1 - k = (q : Int) := by omega
      rw [hqi]
      simp only [hq] at hcx hy
      gi_wp2
      refine hR.mono ?_
      rintro e W3 (⟨rfl, hJ3, hk3⟩ | ⟨rfl, hJx3⟩)
      · gi_wp2
        go_roundw
        case rel => exact ⟨k + 1, by omega, by (simp; try omega), by rw [backs_succ _ _ hlt]; exact hJ3, hnx.trans hk3⟩
        case measure => (simp [intOf]; try omega)
      · gi_wp2
        refine bodyPost_ret (results_none rfl _ _ _) rfl ?_
        exact ⟨⟨_, rfl⟩, .inr ⟨_, ⟨k + 1, by omega, (backs_succ _ _ hlt).symm⟩, hJx3⟩⟩
    · obtain rfl : k = xs.length := by omega
      gi_wp2
      go_end0
      exact ⟨⟨_, rfl⟩, .inl ⟨_, rfl, hJs⟩⟩

set_option maxHeartbeats 1000000 in
theorem back_in (F : Fence) (n : Nat) (h5 : F.fn 162) (hro : F.round = none) (a : Option Addr) (len cap : Nat) (w : World) :
    CallsIn F n Tryz.prog 162 #[.slice a len cap] w fun e w' => e = .returned (.func (.func 178) #[] #[.pointer (some ⟨w.heap.size, 0, none⟩)]) ∧ w' = w.alloc (.cells #[.slice a len cap] 126) := by
  refine callsIn_of_wp Tryz.func162 rfl h5 ?_ hro
  simp only [Tryz.ntmps162, List.size_toArray, List.length_cons, List.length_nil, Nat.reduceAdd, Nat.reduceSub, Array.replicate_succ, Array.replicate_zero, List.push_toArray, List.append_toArray, List.nil_append, List.cons_append]
  gi_wp2
  go_ret
  exact ⟨rfl, rfl⟩
set_option maxRecDepth 100000 in
set_option maxHeartbeats 1000000 in
theorem back1_nil_in (F : Fence) (n : Nat) (h7 : F.fn 178) (hro : F.round = none) (l Bs cap : Nat) (A : Option Addr) (J : List (Fin ([] : List Nat).length) → World → Prop) (W : World) (hBs : W.cell? ⟨Bs, 0, none⟩ = some (.slice A 0 cap)) (h0 : J [] W) :
    CallsIn F n Tryz.prog 178 #[.func (.yield l) #[] #[], .pointer (some ⟨Bs, 0, none⟩)] W fun e W' => (∃ v, e = .returned v) ∧ J [] W' := by
  refine callsIn_of_wp Tryz.func178 rfl h7 ?_ hro
  simp only [Tryz.ntmps178, List.size_toArray, List.length_cons, List.length_nil, Nat.reduceAdd, Nat.reduceSub, Array.replicate_succ, Array.replicate_zero, List.push_toArray, List.append_toArray, List.nil_append, List.cons_append]
  gi_wp2
  gi_loopw [3] (fun i wr => i = .int .i64 (-1) ∧ J [] wr) (fun _ _ => 0)
  case atStart => exact ⟨rfl, h0⟩
  case round =>
    obtain ⟨rfl, hJs⟩ := hrel
    gi_wp2
    go_end0
    exact ⟨⟨_, rfl⟩, hJs⟩
/-- slices.Backward of limbs: all of them, the last one first; or some of them. -/
theorem back_stops (F : Fence) (n : Nat) (h7 : F.fn 178) (hro : F.round = none) (hn : 1 ≤ n) (Bs n₀ m cap : Nat) (A : Option Addr) (xs : List Nat) (w : World) (hBs : Bs < w.heap.size) (hn₀ : n₀ ≤ w.heap.size)
    (hc : w.cell? ⟨Bs, 0, none⟩ = some (.slice A m cap)) {w0 : World} (h0' : n₀ = w0.heap.size) (hI : Ls w0 A m xs) (hb : Below n₀ w0 w) :
    SeqStopsK F n Tryz.prog 178 #[.pointer (some ⟨Bs, 0, none⟩)] (benc xs) (KpI n₀ Bs) (fun ys => ys = (List.finRange xs.length).reverse) (fun pre => ∃ k, k ≤ xs.length ∧ pre = backs xs.length k) xs.length w := fun l J Jx W hW _ _ hY h0 => by
  have hc' := (hW.cell (p := ⟨Bs, 0, none⟩) hBs).trans hc
  subst h0'
  obtain ⟨hl, hbig, hcs⟩ := hI
  subst hl
  by_cases he : 0 < xs.length
  · obtain ⟨b, off, rfl, hbl, hcell⟩ := hcs he
    refine (back1_in F n h7 hro hn l Bs _ b off cap xs hbig hbl J Jx hY W hc' (fun j x hj => ((hW.mono hn₀).cell (p := ⟨b, off + j, none⟩) hbl).trans ((hb.cell (p := ⟨b, off + j, none⟩) hbl).trans (hcell j x hj))) h0).mono ?_
    rintro e W' ⟨he, ⟨ys, rfl, hj⟩ | ⟨pre, hk, hj⟩⟩
    · exact ⟨he, .inl ⟨_, backs_all _, hj⟩⟩
    · exact ⟨he, .inr ⟨_, hk, hj⟩⟩
  · obtain rfl : xs = [] := List.eq_nil_of_length_eq_zero (by omega)
    exact (back1_nil_in F n h7 hro l Bs cap A J W hc' h0).mono fun e W' ⟨he, hj⟩ => ⟨he, .inl ⟨_, rfl, hj⟩⟩
end Go.Proofs.YtpoejheienohjaaGreatDoor
