/- Walks of the references' books: a line, its order, Line, May, Small, Same. -/
import Derived.Test.YtjdofncognaaoaaGreatDoorRatP
import Derived.Test.YtjdofncognaaoaaGreatDoorNames
namespace Go.Proofs.YtjdofncognaaoaaGreatDoor
open Go.RowKit
set_option linter.unusedVariables false
set_option linter.unusedSimpArgs false

/-- Element k of a list of prices, in whatever world behind. -/
theorem ln_at {w wr : World} {A : Option Addr} {n : Nat} {xs : List Ln} (h : Rd Ln.cs 4 w A n xs) (hB : Below w.heap.size w wr) {k : Nat} (hk : k < n) :
    ∃ ad a0 a1 a2 a3, A = some ad ∧ xs[k]? = some ⟨a0, a1, ⟨a2, a3⟩⟩ ∧ ∀ y : After wr, y.W.cell? (ad.add (k * 4)) = some (.string a0) ∧ y.W.cell? ⟨(ad.add (k * 4)).block, (ad.add (k * 4)).off + 1, none⟩ = some (.string a1) ∧
      y.W.cell? ⟨(ad.add (k * 4)).block, (ad.add (k * 4)).off + 2, none⟩ = some (.string a2) ∧ y.W.cell? ⟨(ad.add (k * 4)).block, (ad.add (k * 4)).off + 3, none⟩ = some (.string a3) := by
  obtain ⟨ad, x, hA, hl, hx, hc⟩ := (h.below hB).at_ hk
  obtain ⟨a0, a1, a2, a3⟩ := x
  refine ⟨ad, a0, a1, a2, a3, hA, hx, fun y => ?_⟩
  have g : ∀ i u, (Ln.cs ⟨a0, a1, ⟨a2, a3⟩⟩)[i]? = some u → y.W.cell? (ad.add (k * 4 + i)) = some u := fun i u hu => (y.h.cell (by rw [add_block]; exact hl)).trans (hc i u hu)
  refine ⟨g 0 _ rfl, ?_, ?_, ?_⟩
  · rw [← add_field _ _ 1 (by omega)]; exact g 1 _ rfl
  · rw [← add_field _ _ 2 (by omega)]; exact g 2 _ rfl
  · rw [← add_field _ _ 3 (by omega)]; exact g 3 _ rfl
theorem ln_now {w wr : World} {A : Option Addr} {n : Nat} {xs : List Ln} (h : Rd Ln.cs 4 w A n xs) (hB : Below w.heap.size w wr) {k : Nat} (hk : k < n) :
    ∃ ad a0 a1 a2 a3, A = some ad ∧ xs[k]? = some ⟨a0, a1, ⟨a2, a3⟩⟩ ∧ wr.cell? (ad.add (k * 4)) = some (.string a0) ∧ wr.cell? ⟨(ad.add (k * 4)).block, (ad.add (k * 4)).off + 1, none⟩ = some (.string a1) ∧
      wr.cell? ⟨(ad.add (k * 4)).block, (ad.add (k * 4)).off + 2, none⟩ = some (.string a2) ∧ wr.cell? ⟨(ad.add (k * 4)).block, (ad.add (k * 4)).off + 3, none⟩ = some (.string a3) := by
  obtain ⟨ad, a0, a1, a2, a3, e, hx, hc⟩ := ln_at h hB hk
  exact ⟨ad, a0, a1, a2, a3, e, hx, hc ⟨wr, Below.refl _ _⟩⟩
/-- A price's cells, at hand. -/
structure LnAt (w : World) (a : Addr) (a0 : ByteArray) (a1 : ByteArray) (a2 a3 : ByteArray) : Prop where
  c0 : w.cell? a = some (.string a0)
  c1 : w.cell? ⟨a.block, a.off + 1, none⟩ = some (.string a1)
  c2 : w.cell? ⟨a.block, a.off + 2, none⟩ = some (.string a2)
  c3 : w.cell? ⟨a.block, a.off + 3, none⟩ = some (.string a3)
  c4 : w.cell? ⟨a.block, a.off + 2 + 1, none⟩ = some (.string a3)
theorem ln_get {w wr : World} {ad : Addr} {n : Nat} {xs : List Ln} (h : Rd Ln.cs 4 w (some ad) n xs) (hB : Below w.heap.size w wr) {k : Nat} (hk : k < n) {a0 a2 a3 : ByteArray} {a1 : ByteArray} (hx : xs[k]? = some ⟨a0, a1, ⟨a2, a3⟩⟩) : LnAt wr (ad.add (k * 4)) a0 a1 a2 a3 := by
  obtain ⟨ad', b0, b1, b2, b3, e, hx', hc⟩ := ln_at h hB hk
  cases e
  rw [hx] at hx'
  injection hx' with hx'
  injection hx' with e0 e1 e2
  injection e2 with e2 e3
  subst e0; subst e1; subst e2; subst e3
  obtain ⟨h0, h1, h2, h3⟩ := hc ⟨wr, Below.refl _ _⟩
  exact ⟨h0, h1, h2, h3, h3⟩
theorem ln_in {w wr : World} {A : Option Addr} {n : Nat} {xs : List Ln} (h : Rd Ln.cs 4 w A n xs) (hB : Below w.heap.size w wr) {k : Nat} (hk : k < n) :
    ∃ ad a0 a1 a2 a3, A = some ad ∧ xs[k]? = some ⟨a0, a1, ⟨a2, a3⟩⟩ ∧ ∀ w1, Below wr.heap.size wr w1 → LnAt w1 (ad.add (k * 4)) a0 a1 a2 a3 := by
  obtain ⟨ad, a0, a1, a2, a3, e, hx, hc⟩ := ln_at h hB hk
  exact ⟨ad, a0, a1, a2, a3, e, hx, fun w1 h1 => let ⟨h0, h1, h2, h3⟩ := hc ⟨w1, h1⟩; ⟨h0, h1, h2, h3, h3⟩⟩
theorem ln_beq (x0 x2 x3 y0 y2 y3 : ByteArray) (x1 y1 : ByteArray) : (x0.toList == y0.toList && (x1.toList == y1.toList && ((x2.toList == y2.toList && (x3.toList == y3.toList))))) = decide ((⟨x0, x1, ⟨x2, x3⟩⟩ : Ln) = ⟨y0, y1, ⟨y2, y3⟩⟩) := by
  rw [rt_beq, Bool.eq_iff_iff]
  simp only [Bool.and_eq_true, beq_iff_eq, decide_eq_true_eq, Ln.mk.injEq, s_eq]
theorem ln_same {a0 a2 a3 b0 b2 b3 : ByteArray} {a1 b1 : ByteArray} (h : (!(a0.toList == b0.toList) || (!(a1.toList == b1.toList) || (!(a2.toList == b2.toList) || !(a3.toList == b3.toList)))) = false) : (⟨a0, a1, ⟨a2, a3⟩⟩ : Ln) = ⟨b0, b1, ⟨b2, b3⟩⟩ := by
  simp only [Bool.or_eq_false_iff, Bool.not_eq_false', beq_iff_eq] at h
  obtain ⟨h0, h1, h2, h3⟩ := h
  rw [s_eq.2 h0, s_eq.2 h1, s_eq.2 h2, s_eq.2 h3]
theorem ln_unlike {a0 a2 a3 b0 b2 b3 : ByteArray} {a1 b1 : ByteArray} (h : (!(a0.toList == b0.toList) || (!(a1.toList == b1.toList) || (!(a2.toList == b2.toList) || !(a3.toList == b3.toList)))) = true) : ¬ (⟨a0, a1, ⟨a2, a3⟩⟩ : Ln) = ⟨b0, b1, ⟨b2, b3⟩⟩ := by
  intro e
  injection e with e0 e1 e2
  injection e2 with e2 e3
  subst e0; subst e1; subst e2; subst e3
  simp at h
theorem bmay_first {l : List Ln} {a : Ln} (ha : l[0]? = some a) (h1 : lgood a = true) : bmay (l.take 1) = true := by
  rw [bmay, Bool.and_eq_true]
  exact ⟨all_take_succ (k := 0) (by simp) ha h1, rises_take_one⟩
theorem bmay_first' {l : List Ln} {k : Nat} {a : Ln} (hk : k = 0) (ha : l[k]? = some a) (h1 : lgood a = true) : bmay (l.take (k + 1)) = true := by subst hk; exact bmay_first ha h1
theorem bmay_next {l : List Ln} {k : Nat} {a b : Ln} (h : bmay (l.take k) = true) (hk : 0 < k) (ha : l[k - 1]? = some a) (hb : l[k]? = some b) (h1 : lgood b = true) (h2 : lahead a b = true) : bmay (l.take (k + 1)) = true := by
  rw [bmay, Bool.and_eq_true] at h ⊢
  exact ⟨all_take_succ h.1 hb h1, rises_take_succ h.2 hk ha hb h2⟩
theorem bmay_bad {l : List Ln} {k : Nat} {a : Ln} (ha : l[k]? = some a) (h1 : lgood a = false) : bmay l = false := by
  rw [bmay, all_no ha h1]; rfl
theorem bmay_back {l : List Ln} {k : Nat} {a b : Ln} (hk : 0 < k) (ha : l[k - 1]? = some a) (hb : l[k]? = some b) (h2 : lahead a b = false) : bmay l = false := by
  rw [bmay, rises_no hk ha hb h2, Bool.and_false]
/-- Few digits, short names. -/
def lnq (l : Ln) : Prop := l.acct.size ≤ 9000000000 ∧ l.asset.size ≤ 9000000000 ∧ l.q.num.size ≤ 400000000 ∧ l.q.den.size ≤ 400000000
def lnok (l : Ln) : Prop := l.acct.size ≤ 9223372036854775807 ∧ l.asset.size ≤ 9223372036854775807 ∧ l.q.num.size ≤ 9223372036854775807 ∧ l.q.den.size ≤ 9223372036854775807
/-! ### Small -/
theorem r3_short1 (g c : Nat) (a b : ByteArray) (w : World) (h0 : w.cell? ⟨g, 0, none⟩ = some (.string a)) (h1 : w.cell? ⟨g, 1, none⟩ = some (.string b)) (ha : a.size ≤ 9223372036854775807) (hb : b.size ≤ 9223372036854775807) :
    Calls Tryz.prog 50 #[.slice (some ⟨g, 0, none⟩) 1 c] w fun e w' => e = .returned (.bool (decide (a.size ≤ 100) && decide (b.size ≤ 100))) ∧ w = w' := by
  go_enter Tryz.func50, Tryz.ntmps50
  go_wp2
  go_loop [3] (fun i => ∃ k : Nat, k ≤ 1 ∧ i = .int .i64 k ∧ Hid (0 < k → a.size ≤ 100 ∧ b.size ≤ 100)) (fun i => 1 - (intOf i).toNat)
  case atStart => exact ⟨0, Nat.zero_le _, rfl, fun h => absurd h (by omega)⟩
  case round =>
    obtain ⟨k, hk, rfl, H⟩ := hrel
    by_cases hlt : k < 1
    · obtain rfl : k = 0 := by omega
      go_wp2
      all_goals first
        | (go_ret; exact ⟨ret_bool (by grind), rfl⟩)
        | (go_round
           case rel => exact ⟨1, by omega, by go_num, fun _ => by constructor <;> omega⟩
           case measure => simp [intOf])
    · obtain rfl : k = 1 := by omega
      obtain ⟨h2, h3⟩ := H.out (by omega)
      go_wp2
      go_ret
      exact ⟨ret_bool (by first | rfl | simp [h2, h3]), rfl⟩
def lnsm (l : Ln) : Bool := (decide (l.q.num.size ≤ 100) && decide (l.q.den.size ≤ 100)) && (decide (l.acct.size ≤ 100) && decide (l.asset.size ≤ 100))
def lsmall (l : List Ln) : Bool := l.all lnsm && decide (l.length ≤ 40)
end Go.Proofs.YtjdofncognaaoaaGreatDoor
