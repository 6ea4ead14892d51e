/- Names, fixes: plain lemmas. -/
import Derived.Test.YtjdofncognaaoaaGreatDoorRat
import Derived.Laws.StructEq
import Derived.Test.YtjdofncognaaoaaGreatDoorNum
import Derived.Deep.DeepCutAuto
import Derived.Deep.CutBlock
namespace Go.Proofs.YtjdofncognaaoaaGreatDoor
set_option linter.unusedVariables false
set_option linter.unusedSimpArgs false

def nmc (c : UInt8) : Bool := (97 ≤ c.toNat && c.toNat ≤ 122) || (48 ≤ c.toNat && c.toNat ≤ 57)
/-- A name's letters: the first one may be an exclamation mark. -/
def nmAll : List UInt8 → Bool
  | 33 :: t => t.all nmc
  | l => l.all nmc
def isName (s : ByteArray) : Bool := nmAll s.data.toList && (decide (1 ≤ s.size) && decide (s.size ≤ 20))
def nmAt (i : Nat) (c : UInt8) : Bool := nmc c || (i == 0 && c.toNat == 33)
theorem nmAll_iff (l : List UInt8) : nmAll l = true ↔ ∀ (i : Nat) c, l[i]? = some c → nmAt i c = true := by
  have h0 : ∀ (l : List UInt8), (l.all nmc = true ↔ ∀ (i : Nat) c, l[i]? = some c → nmc c = true) := by
    intro l
    rw [List.all_eq_true]
    constructor
    · intro h i c hc; exact h c (List.mem_of_getElem? hc)
    · intro h c hc
      obtain ⟨i, hi, rfl⟩ := List.mem_iff_getElem.1 hc
      exact h i _ (List.getElem?_eq_getElem hi)
  have key : ∀ c t, (c ≠ 33 → ((c :: t).all nmc = true ↔ ∀ (i : Nat) d, (c :: t)[i]? = some d → nmAt i d = true)) := by
    intro c t hc
    rw [h0]
    constructor
    · intro h i d hd; simp [nmAt, h i d hd]
    · intro h i d hd
      have := h i d hd
      unfold nmAt at this
      cases i with
      | zero =>
        have e : c = d := by simpa using hd
        subst e
        have h3 : (c.toNat == 33) = false := by
          rw [beq_eq_false_iff_ne]; intro e; exact hc (UInt8.toNat_inj.1 (by rw [e]; rfl))
        simpa [h3] using this
      | succ i => simpa using this
  cases l with
  | nil => simp [nmAll]
  | cons c t =>
    by_cases hc : c = 33
    · subst hc
      simp only [nmAll, h0]
      constructor
      · intro h i d hd
        cases i with
        | zero =>
          have e : (33 : UInt8) = d := by simpa using hd
          subst e; rfl
        | succ i => simp [nmAt, h i d (by simpa using hd)]
      · intro h i d hd
        have := h (i + 1) d (by simpa using hd)
        simpa [nmAt] using this
    · rw [show nmAll (c :: t) = (c :: t).all nmc by unfold nmAll; split <;> simp_all]
      exact key c t hc
def nmUpto (s : ByteArray) (k : Nat) : Prop := ∀ j, (h : j < s.size) → j < k → nmAt j s[j] = true
theorem nmUpto_succ {s : ByteArray} {k : Nat} (h : nmUpto s k) (hk : k < s.size) (h1 : nmAt k s[k] = true) : nmUpto s (k + 1) := by
  intro j hj hjk
  by_cases e : j = k
  · subst e; exact h1
  · exact h j hj (by omega)
theorem isName_no {s : ByteArray} {k : Nat} (hk : k < s.size) (h : nmAt k s[k] = false) : isName s = false := by
  rw [← Bool.not_eq_true]
  intro e
  simp only [isName, Bool.and_eq_true] at e
  have := (nmAll_iff _).1 e.1 k _ (s_at s k hk)
  rw [h] at this; cases this
theorem isName_all {s : ByteArray} (h : nmUpto s s.size) : isName s = (decide (1 ≤ s.size) && decide (s.size ≤ 20)) := by
  have : nmAll s.data.toList = true := by
    rw [nmAll_iff]
    intro i c hc
    have hi : i < s.size := by rw [sz]; exact (List.getElem?_eq_some_iff.1 hc).1
    rw [s_at s i hi] at hc
    rw [← Option.some.inj hc]
    exact h i hi hi
  simp [isName, this]
theorem nmAt_no {k : Nat} {c : UInt8} (h : ((c.toNat : Int) < 97 ∨ 122 < (c.toNat : Int)) ∧ ((c.toNat : Int) < 48 ∨ 57 < (c.toNat : Int)) ∧ (¬ (c.toNat : Int) = 33 ∨ 0 < k)) : nmAt k c = false := by
  obtain ⟨h1, h2, h3⟩ := h
  simp only [nmAt, nmc, Bool.or_eq_false_iff, Bool.and_eq_false_iff, decide_eq_false_iff_not, beq_eq_false_iff_ne, ne_eq]
  omega
theorem nmAt_yes {k : Nat} {c : UInt8} (h : ((97 : Int) ≤ (c.toNat : Int) ∧ (c.toNat : Int) ≤ 122) ∨ ((48 : Int) ≤ (c.toNat : Int) ∧ (c.toNat : Int) ≤ 57) ∨ ((c.toNat : Int) = 33 ∧ ¬ 0 < k)) : nmAt k c = true := by
  simp only [nmAt, nmc, Bool.or_eq_true, Bool.and_eq_true, decide_eq_true_eq, beq_iff_eq]
  omega
theorem isName_size {s : ByteArray} (h : isName s = true) : 1 ≤ s.size ∧ s.size ≤ 20 := by
  simp only [isName, Bool.and_eq_true, decide_eq_true_eq] at h; exact h.2

/-! ### Prices -/
structure Fx where
  asset : ByteArray
  day : Int
  p : RT
  deriving DecidableEq
def Fx.v (f : Fx) : Value := .agg #[.string f.asset, .int .i64 f.day, .string f.p.num, .string f.p.den]
def Fx.cs (f : Fx) : List Value := [.string f.asset, .int .i64 f.day, .string f.p.num, .string f.p.den]
/-- Bytes by bytes, the lesser one first. -/
def slt (a b : ByteArray) : Bool := Op.bytesLess a.toList b.toList
def fahead (a b : Fx) : Bool := slt a.asset b.asset || (a.asset.toList == b.asset.toList && decide (a.day < b.day))
def fone (f : Fx) : Bool := isName f.asset && (decide (0 ≤ f.day) && (decide (f.day ≤ 9999) && rmay f.p))
/-- A list that rises. -/
def rises {α : Type} (lt : α → α → Bool) : List α → Bool
  | a :: b :: l => lt a b && rises lt (b :: l)
  | _ => true
theorem rises_iff {α : Type} (lt : α → α → Bool) (l : List α) : rises lt l = true ↔ ∀ (i : Nat) a b, l[i]? = some a → l[i + 1]? = some b → lt a b = true := by
  induction l with
  | nil => simp [rises]
  | cons a l ih =>
    cases l with
    | nil => simp [rises]
    | cons b l =>
      simp only [rises, Bool.and_eq_true, ih]
      constructor
      · rintro ⟨h1, h2⟩ i x y hx hy
        cases i with
        | zero => simp at hx hy; subst hx; subst hy; exact h1
        | succ i => exact h2 i x y (by simpa using hx) (by simpa using hy)
      · intro h
        exact ⟨h 0 a b rfl rfl, fun i x y hx hy => h (i + 1) x y (by simpa using hx) (by simpa using hy)⟩
theorem rises_take_zero {α : Type} {lt : α → α → Bool} {l : List α} : rises lt (l.take 0) = true := by simp [rises]
theorem rises_take_one {α : Type} {lt : α → α → Bool} {l : List α} : rises lt (l.take 1) = true := by
  cases l <;> simp [rises]
theorem rises_take_succ {α : Type} {lt : α → α → Bool} {l : List α} {k : Nat} {a b : α} (h : rises lt (l.take k) = true) (hk : 0 < k) (ha : l[k - 1]? = some a) (hb : l[k]? = some b) (hab : lt a b = true) : rises lt (l.take (k + 1)) = true := by
  rw [rises_iff] at h ⊢
  intro i x y hx hy
  rw [List.getElem?_take] at hx hy
  split at hx <;> split at hy
  · by_cases e : i + 1 = k
    · rw [← e] at hb
      rw [show k - 1 = i by omega] at ha
      rw [hx] at ha; rw [hy] at hb
      cases ha; cases hb; exact hab
    · exact h i x y (by rw [List.getElem?_take, if_pos (by omega)]; exact hx) (by rw [List.getElem?_take, if_pos (by omega)]; exact hy)
  · cases hy
  · cases hx
  · cases hx
theorem rises_no {α : Type} {lt : α → α → Bool} {l : List α} {k : Nat} {a b : α} (hk : 0 < k) (ha : l[k - 1]? = some a) (hb : l[k]? = some b) (hab : lt a b = false) : rises lt l = false := by
  rw [← Bool.not_eq_true, rises_iff]
  intro h
  have := h (k - 1) a b ha (by rw [show k - 1 + 1 = k by omega]; exact hb)
  rw [hab] at this; cases this
theorem all_take_succ {α : Type} {p : α → Bool} {l : List α} {k : Nat} {a : α} (h : (l.take k).all p = true) (ha : l[k]? = some a) (hp : p a = true) : (l.take (k + 1)).all p = true := by
  rw [List.take_add_one, ha, List.all_append, h]; simpa using hp
theorem all_no {α : Type} {p : α → Bool} {l : List α} {k : Nat} {a : α} (ha : l[k]? = some a) (hp : p a = false) : l.all p = false := by
  rw [← Bool.not_eq_true, List.all_eq_true]
  intro h
  have := h a (List.mem_of_getElem? ha)
  rw [hp] at this; cases this
def fmay (l : List Fx) : Bool := l.all fone && rises fahead l
theorem fmay_first {l : List Fx} {a : Fx} (ha : l[0]? = some a) (h1 : fone a = true) : fmay (l.take 1) = true := by
  rw [fmay, Bool.and_eq_true]
  exact ⟨all_take_succ (k := 0) (by simp) ha h1, rises_take_one⟩
theorem fmay_first' {l : List Fx} {k : Nat} {a : Fx} (hk : k = 0) (ha : l[k]? = some a) (h1 : fone a = true) : fmay (l.take (k + 1)) = true := by subst hk; exact fmay_first ha h1
theorem fmay_next {l : List Fx} {k : Nat} {a b : Fx} (h : fmay (l.take k) = true) (hk : 0 < k) (ha : l[k - 1]? = some a) (hb : l[k]? = some b) (h1 : fone b = true) (h2 : fahead a b = true) : fmay (l.take (k + 1)) = true := by
  rw [fmay, Bool.and_eq_true] at h ⊢
  exact ⟨all_take_succ h.1 hb h1, rises_take_succ h.2 hk ha hb h2⟩
theorem fmay_bad {l : List Fx} {k : Nat} {a : Fx} (ha : l[k]? = some a) (h1 : fone a = false) : fmay l = false := by
  rw [fmay, all_no ha h1]; rfl
theorem fmay_back {l : List Fx} {k : Nat} {a b : Fx} (hk : 0 < k) (ha : l[k - 1]? = some a) (hb : l[k]? = some b) (h2 : fahead a b = false) : fmay l = false := by
  rw [fmay, rises_no hk ha hb h2, Bool.and_false]
end Go.Proofs.YtjdofncognaaoaaGreatDoor

/- Walks of the references' names and prices. -/
namespace Go.Proofs.YtjdofncognaaoaaGreatDoor
open Go.RowKit
set_option linter.unusedVariables false
set_option linter.unusedSimpArgs false

set_option maxHeartbeats 800000 in
theorem r6_name (s : ByteArray) (w : World) (hs : s.size ≤ 9223372036854775807) :
    Calls Tryz.prog 112 #[.string s] w fun e w' => e = .returned (.bool (isName s)) ∧ w = w' := by
  go_enter Tryz.func112, Tryz.ntmps112
  go_wp2
  go_loop [3] (fun i => ∃ k : Nat, k ≤ s.size ∧ i = .int .i64 k ∧ Hid (nmUpto s k)) (fun i => s.size - (intOf i).toNat)
  case atStart => exact ⟨0, Nat.zero_le _, rfl, fun _ _ h => by omega⟩
  case round =>
    obtain ⟨k, hk, rfl, H⟩ := hrel
    by_cases hlt : k < s.size
    · have hr := s[k].toNat_lt
      go_wp2
      all_goals first
        | (go_ret; exact ⟨ret_bool (isName_no hlt (nmAt_no (by omega))).symm, rfl⟩)
        | (go_round
           case rel => exact ⟨k + 1, by omega, by go_num, nmUpto_succ (Hid.out H) hlt (nmAt_yes (by omega))⟩
           case measure => simp [intOf]; omega)
    · obtain rfl : k = s.size := by omega
      have hn := isName_all H.out
      have HN := Lib.hid hn
      clear hn
      go_wp2
      all_goals
        go_ret
        exact ⟨ret_bool (by rw [HN.out]; grind), rfl⟩
set_option maxHeartbeats 400000 in
theorem r12_ahead (a0 a2 a3 b0 b2 b3 : ByteArray) (a1 b1 : Int) (w : World) :
    Calls Tryz.prog 77 #[.agg #[.string a0, .int .i64 a1, .string a2, .string a3], .agg #[.string b0, .int .i64 b1, .string b2, .string b3]] w fun e w' => e = .returned (.bool (fahead ⟨a0, a1, ⟨a2, a3⟩⟩ ⟨b0, b1, ⟨b2, b3⟩⟩)) ∧ Below w.heap.size w w' := by
  unfold fahead slt
  go_enter Tryz.func77, Tryz.ntmps77
  go_wp2
  all_goals
    go_ret
    exact ⟨ret_bool (by grind), (by repeat (first | exact Below.refl _ _ | assumption | refine b_then ?_ (by assumption) | refine b_alloc ?_ _ | refine b_drewN ?_ _ | refine Below.drew ?_ | refine b_set ?_ (by first | exact Nat.le_refl _ | (simp; done) | (simp; omega) | omega) _))⟩
set_option maxHeartbeats 800000 in
theorem r12_one (a0 a2 a3 : ByteArray) (a1 : Int) (w : World) (h1 : a0.size ≤ 9223372036854775807) (h2 : a2.size ≤ 900000000) (h3 : a3.size ≤ 900000000) :
    Calls Tryz.prog 76 #[.agg #[.string a0, .int .i64 a1, .string a2, .string a3]] w fun e w' => e = .returned (.bool (fone ⟨a0, a1, ⟨a2, a3⟩⟩)) ∧ Below w.heap.size w w' := by
  unfold fone
  dsimp only
  go_enter Tryz.func76, Tryz.ntmps76
  go_wp2_with (first | (go_at_call 112; (with_reducible refine (r6_name _ _ (by omega)).mono ?_); rintro e w' ⟨rfl, rfl⟩) | (go_at_call 78; (with_reducible refine (r3_may _ _ _ (by omega) (by omega)).mono ?_); rintro e w1 ⟨rfl, hb1⟩; obtain ⟨hc1, hf1⟩ := bcell hb1; have hs1 := hb1.size; (try simp at hs1)))
  all_goals
    go_ret
    exact ⟨ret_bool (by grind), (by repeat (first | exact Below.refl _ _ | assumption | refine b_then ?_ (by assumption) | refine b_alloc ?_ _ | refine b_drewN ?_ _ | refine Below.drew ?_ | refine b_set ?_ (by first | exact Nat.le_refl _ | (simp; done) | (simp; omega) | omega) _))⟩
/-- Few digits, short names: what lets a price be reckoned with. -/
def fxsz (f : Fx) : Prop := f.asset.size ≤ 9000000000 ∧ f.p.num.size ≤ 900000000 ∧ f.p.den.size ≤ 900000000
/-- Element k of a list of prices, in whatever world behind. -/
theorem fx_at {w wr : World} {A : Option Addr} {n : Nat} {xs : List Fx} (h : Rd Fx.cs 4 w A n xs) (hB : Below w.heap.size w wr) {k : Nat} (hk : k < n) :
    ∃ ad a0 a1 a2 a3, A = some ad ∧ xs[k]? = some ⟨a0, a1, ⟨a2, a3⟩⟩ ∧ ∀ y : After wr, y.W.cell? (ad.add (k * 4)) = some (.string a0) ∧ y.W.cell? ⟨(ad.add (k * 4)).block, (ad.add (k * 4)).off + 1, none⟩ = some (.int .i64 a1) ∧
      y.W.cell? ⟨(ad.add (k * 4)).block, (ad.add (k * 4)).off + 2, none⟩ = some (.string a2) ∧ y.W.cell? ⟨(ad.add (k * 4)).block, (ad.add (k * 4)).off + 3, none⟩ = some (.string a3) := by
  obtain ⟨ad, x, hA, hl, hx, hc⟩ := (h.below hB).at_ hk
  obtain ⟨a0, a1, a2, a3⟩ := x
  refine ⟨ad, a0, a1, a2, a3, hA, hx, fun y => ?_⟩
  have g : ∀ i u, (Fx.cs ⟨a0, a1, ⟨a2, a3⟩⟩)[i]? = some u → y.W.cell? (ad.add (k * 4 + i)) = some u := fun i u hu => (y.h.cell (by rw [add_block]; exact hl)).trans (hc i u hu)
  refine ⟨g 0 _ rfl, ?_, ?_, ?_⟩
  · rw [← add_field _ _ 1 (by omega)]; exact g 1 _ rfl
  · rw [← add_field _ _ 2 (by omega)]; exact g 2 _ rfl
  · rw [← add_field _ _ 3 (by omega)]; exact g 3 _ rfl
theorem fx_now {w wr : World} {A : Option Addr} {n : Nat} {xs : List Fx} (h : Rd Fx.cs 4 w A n xs) (hB : Below w.heap.size w wr) {k : Nat} (hk : k < n) :
    ∃ ad a0 a1 a2 a3, A = some ad ∧ xs[k]? = some ⟨a0, a1, ⟨a2, a3⟩⟩ ∧ wr.cell? (ad.add (k * 4)) = some (.string a0) ∧ wr.cell? ⟨(ad.add (k * 4)).block, (ad.add (k * 4)).off + 1, none⟩ = some (.int .i64 a1) ∧
      wr.cell? ⟨(ad.add (k * 4)).block, (ad.add (k * 4)).off + 2, none⟩ = some (.string a2) ∧ wr.cell? ⟨(ad.add (k * 4)).block, (ad.add (k * 4)).off + 3, none⟩ = some (.string a3) := by
  obtain ⟨ad, a0, a1, a2, a3, e, hx, hc⟩ := fx_at h hB hk
  exact ⟨ad, a0, a1, a2, a3, e, hx, hc ⟨wr, Below.refl _ _⟩⟩
/-- A price's cells, at hand. -/
structure FxAt (w : World) (a : Addr) (a0 : ByteArray) (a1 : Int) (a2 a3 : ByteArray) : Prop where
  c0 : w.cell? a = some (.string a0)
  c1 : w.cell? ⟨a.block, a.off + 1, none⟩ = some (.int .i64 a1)
  c2 : w.cell? ⟨a.block, a.off + 2, none⟩ = some (.string a2)
  c3 : w.cell? ⟨a.block, a.off + 3, none⟩ = some (.string a3)
  c4 : w.cell? ⟨a.block, a.off + 2 + 1, none⟩ = some (.string a3)
theorem fx_get {w wr : World} {ad : Addr} {n : Nat} {xs : List Fx} (h : Rd Fx.cs 4 w (some ad) n xs) (hB : Below w.heap.size w wr) {k : Nat} (hk : k < n) {a0 a2 a3 : ByteArray} {a1 : Int} (hx : xs[k]? = some ⟨a0, a1, ⟨a2, a3⟩⟩) : FxAt wr (ad.add (k * 4)) a0 a1 a2 a3 := by
  obtain ⟨ad', b0, b1, b2, b3, e, hx', hc⟩ := fx_at h hB hk
  cases e
  rw [hx] at hx'
  injection hx' with hx'
  injection hx' with e0 e1 e2
  injection e2 with e2 e3
  subst e0; subst e1; subst e2; subst e3
  obtain ⟨h0, h1, h2, h3⟩ := hc ⟨wr, Below.refl _ _⟩
  exact ⟨h0, h1, h2, h3, h3⟩
theorem fx_in {w wr : World} {A : Option Addr} {n : Nat} {xs : List Fx} (h : Rd Fx.cs 4 w A n xs) (hB : Below w.heap.size w wr) {k : Nat} (hk : k < n) :
    ∃ ad a0 a1 a2 a3, A = some ad ∧ xs[k]? = some ⟨a0, a1, ⟨a2, a3⟩⟩ ∧ ∀ w1, Below wr.heap.size wr w1 → FxAt w1 (ad.add (k * 4)) a0 a1 a2 a3 := by
  obtain ⟨ad, a0, a1, a2, a3, e, hx, hc⟩ := fx_at h hB hk
  exact ⟨ad, a0, a1, a2, a3, e, hx, fun w1 h1 => let ⟨h0, h1, h2, h3⟩ := hc ⟨w1, h1⟩; ⟨h0, h1, h2, h3, h3⟩⟩
set_option maxHeartbeats 800000 in
theorem r12_may {A : Option Addr} {n c : Nat} {xs : List Fx} (w : World) (hx : Rd Fx.cs 4 w A n xs) (hz : ∀ f ∈ xs, fxsz f) :
    Calls Tryz.prog 40 #[.slice A n c] w fun e w' => e = .returned (.bool (fmay xs)) ∧ Below w.heap.size w w' := by
  have hbig := hx.big
  go_enter Tryz.func40, Tryz.ntmps40
  go_wp2
  go_loopw [3] (fun i wr => ∃ k : Nat, k ≤ n ∧ i = .int .i64 k ∧ Hid (fmay (xs.take k) = true) ∧ Below w.heap.size w wr) (fun i _ => n - (intOf i).toNat)
  case atStart => exact ⟨0, Nat.zero_le _, rfl, by simp [Hid, fmay, rises], Below.refl _ _⟩
  case round =>
    obtain ⟨k, hk, rfl, H, hB⟩ := hrel
    by_cases hlt : k < n
    · obtain ⟨ad, a0, a1, a2, a3, rfl, hxk, hc⟩ := fx_at hx hB hlt
      have hx0 := fun y => (hc y).1
      have hx1 := fun y => (hc y).2.1
      have hx2 := fun y => (hc y).2.2.1
      have hx3 := fun y => (hc y).2.2.2
      obtain ⟨z1, z2, z3⟩ := hz _ (List.mem_of_getElem? hxk)
      dsimp only at z1 z2 z3
      have HX := Lib.hid hxk
      have HC := Lib.hid hc
      clear hxk hc
      by_cases c1 : fone ⟨a0, a1, ⟨a2, a3⟩⟩ = true
      · by_cases hk0 : 0 < k
        · obtain ⟨ad', b0, b1, b2, b3, e, hxk', hc'⟩ := fx_at hx hB (show k - 1 < n by omega)
          obtain rfl : ad = ad' := Option.some.inj e
          have hy0 := fun y => (hc' y).1
          have hy1 := fun y => (hc' y).2.1
          have hy2 := fun y => (hc' y).2.2.1
          have hy3 := fun y => (hc' y).2.2.2
          have HX' := Lib.hid hxk'
          have HC' := Lib.hid hc'
          clear hxk' hc' e
          by_cases c2 : fahead ⟨b0, b1, ⟨b2, b3⟩⟩ ⟨a0, a1, ⟨a2, a3⟩⟩ = true
          · go_wp2
            (refine wp_region_after (by kernel_rfl) (by kernel_rfl) ?_; (repeat (first | go_big_quiet_skip | (go_big_quiet_want; go_big_quiet_op; first | go_big_quiet_on | (apply Exists.intro; refine ⟨fun _ => ?_, ?_⟩; (focus (first | (go_at_call 76; with_reducible exact Calls.after_of (r12_one _ _ _ _ _ (by omega) (by omega) (by omega)) (congrArg Value.bool c1)) | (go_at_call 77; with_reducible exact Calls.after_of (r12_ahead _ _ _ _ _ _ _ _ _) (congrArg Value.bool c2)))); go_big_quiet_on)))); refine wpQuiet_nil ?_; rintro w1 ⟨⟨_, hb1⟩, rfl⟩; (try dsimp only); obtain ⟨hc1, hf1⟩ := bcell hb1; have hs1 := hb1.size; (try simp at hs1))
            go_wp2
            go_roundw
            case rel => exact ⟨k + 1, by omega, by go_num, fmay_next H.out hk0 HX'.out HX.out c1 c2, (by repeat (first | exact Below.refl _ _ | assumption | refine b_then ?_ (by assumption) | refine b_alloc ?_ _ | refine b_drewN ?_ _ | refine Below.drew ?_ | refine b_set ?_ (by first | exact Nat.le_refl _ | (simp; done) | (simp; omega) | omega) _))⟩
            case measure => simp [intOf]; omega
          · simp only [Bool.not_eq_true] at c2
            go_wp2
            (refine wp_region_after (by kernel_rfl) (by kernel_rfl) ?_; (repeat (first | go_big_quiet_skip | (go_big_quiet_want; go_big_quiet_op; first | go_big_quiet_on | (apply Exists.intro; refine ⟨fun _ => ?_, ?_⟩; (focus (first | (go_at_call 76; with_reducible exact Calls.after_of (r12_one _ _ _ _ _ (by omega) (by omega) (by omega)) (congrArg Value.bool c1)) | (go_at_call 77; with_reducible exact Calls.after_of (r12_ahead _ _ _ _ _ _ _ _ _) (congrArg Value.bool c2)))); go_big_quiet_on)))); refine wpQuiet_nil ?_; rintro w1 ⟨⟨_, hb1⟩, rfl⟩; (try dsimp only); obtain ⟨hc1, hf1⟩ := bcell hb1; have hs1 := hb1.size; (try simp at hs1))
            go_wp2
            go_ret
            exact ⟨ret_bool (fmay_back hk0 HX'.out HX.out c2).symm, (by repeat (first | exact Below.refl _ _ | assumption | refine b_then ?_ (by assumption) | refine b_alloc ?_ _ | refine b_drewN ?_ _ | refine Below.drew ?_ | refine b_set ?_ (by first | exact Nat.le_refl _ | (simp; done) | (simp; omega) | omega) _))⟩
        · go_wp2
          (refine wp_region_after (by kernel_rfl) (by kernel_rfl) ?_; (repeat (first | go_big_quiet_skip | (go_big_quiet_want; go_big_quiet_op; first | go_big_quiet_on | (apply Exists.intro; refine ⟨fun _ => ?_, ?_⟩; (focus (first | (go_at_call 76; with_reducible exact Calls.after_of (r12_one _ _ _ _ _ (by omega) (by omega) (by omega)) (congrArg Value.bool c1)))); go_big_quiet_on)))); refine wpQuiet_nil ?_; rintro w1 ⟨⟨_, hb1⟩, rfl⟩; (try dsimp only); obtain ⟨hc1, hf1⟩ := bcell hb1; have hs1 := hb1.size; (try simp at hs1))
          go_wp2
          go_roundw
          case rel => exact ⟨k + 1, by omega, by go_num, fmay_first' (by omega) HX.out c1, (by repeat (first | exact Below.refl _ _ | assumption | refine b_then ?_ (by assumption) | refine b_alloc ?_ _ | refine b_drewN ?_ _ | refine Below.drew ?_ | refine b_set ?_ (by first | exact Nat.le_refl _ | (simp; done) | (simp; omega) | omega) _))⟩
          case measure => simp [intOf]; omega
      · simp only [Bool.not_eq_true] at c1
        go_wp2
        (refine wp_region_after (by kernel_rfl) (by kernel_rfl) ?_; (repeat (first | go_big_quiet_skip | (go_big_quiet_want; go_big_quiet_op; first | go_big_quiet_on | (apply Exists.intro; refine ⟨fun _ => ?_, ?_⟩; (focus (first | (go_at_call 76; with_reducible exact Calls.after_of (r12_one _ _ _ _ _ (by omega) (by omega) (by omega)) (congrArg Value.bool c1)))); go_big_quiet_on)))); refine wpQuiet_nil ?_; rintro w1 ⟨⟨_, hb1⟩, rfl⟩; (try dsimp only); obtain ⟨hc1, hf1⟩ := bcell hb1; have hs1 := hb1.size; (try simp at hs1))
        go_wp2
        go_ret
        exact ⟨ret_bool (fmay_bad HX.out c1).symm, (by repeat (first | exact Below.refl _ _ | assumption | refine b_then ?_ (by assumption) | refine b_alloc ?_ _ | refine b_drewN ?_ _ | refine Below.drew ?_ | refine b_set ?_ (by first | exact Nat.le_refl _ | (simp; done) | (simp; omega) | omega) _))⟩
    · obtain rfl : k = n := by omega
      have H2 := H.out
      rw [← hx.len, List.take_length] at H2
      have H3 := Lib.hid H2
      clear H2
      go_wp2
      go_ret
      exact ⟨ret_bool H3.out.symm, (by repeat (first | exact Below.refl _ _ | assumption | refine b_then ?_ (by assumption) | refine b_alloc ?_ _ | refine b_drewN ?_ _ | refine Below.drew ?_ | refine b_set ?_ (by first | exact Nat.le_refl _ | (simp; done) | (simp; omega) | omega) _))⟩
end Go.Proofs.YtjdofncognaaoaaGreatDoor

/- '==' of the program's structs, as one Bool. -/
namespace Go.Proofs.YtjdofncognaaoaaGreatDoor
open Go.RowKit
set_option linter.unusedVariables false
set_option linter.unusedSimpArgs false
section
variable {P : Program} {d : Nat} {xs ys : Array Value} {f : Field} {fs : List Field} {a b : Value} {r s : Bool} {w : World}
theorem eq_last (hn : (f.name == "_") = false) (ha : (part f.type xs f.offset).run P w = .ok a w) (hb : (part f.type ys f.offset).run P w = .ok b w) (he : (Op.equalIn d f.type a b).run P w = .ok r w) : (Op.eqFields d xs ys [f]).run P w = .ok r w := by
  have hn' : f.name ≠ "_" := by simpa using hn
  simp only [Op.eqFields, if_pos hn', Sem.run_bind, ha, hb, he, Result.andThen_ok]
  cases r <;> simp
theorem eq_cons (hn : (f.name == "_") = false) (ha : (part f.type xs f.offset).run P w = .ok a w) (hb : (part f.type ys f.offset).run P w = .ok b w) (he : (Op.equalIn d f.type a b).run P w = .ok r w) (hr : (Op.eqFields d xs ys fs).run P w = .ok s w) : (Op.eqFields d xs ys (f :: fs)).run P w = .ok (r && s) w := by
  have hn' : f.name ≠ "_" := by simpa using hn
  rw [Op.eqFields]
  simp only [if_pos hn', Sem.run_bind, ha, hb, he, Result.andThen_ok]
  cases r
  · simp
  · simpa using hr
theorem eq_of {t : TypeId} {fs : Array Field} (hu : P.underlying t = some (.struct fs)) (hp : P.stoodInHeld t = false) (h : (Op.eqFields d xs ys fs.toList).run P w = .ok r w) : (Op.equalIn (d + 1) t (.agg xs) (.agg ys)).run P w = .ok r w := by
  have hf : P.fieldsOf t = fs := by simp [Program.fieldsOf, hu]
  rw [run_equalIn_struct (P := P) w d t xs ys (by rw [hf]; exact hu) hp, hf]
  exact h
end
theorem eqRat (d : Nat) (w : World) (x0 y0 x1 y1 : ByteArray) :
    (Op.equalIn (d + 2) 39 (.agg #[.string x0, .string x1]) (.agg #[.string y0, .string y1])).run Tryz.prog w = .ok (x0.toList == y0.toList && (x1.toList == y1.toList)) w := by
  refine eq_of Tryz.underlying39 (by kernel_rfl) ?_
  refine eq_cons (by rfl) (by go_simp; rfl) (by go_simp; rfl) (by go_simp) ?_
  exact eq_last (by rfl) (by go_simp; rfl) (by go_simp; rfl) (by go_simp)
theorem eqFix (d : Nat) (w : World) (x0 y0 : ByteArray) (x1 y1 : Int) (x2 y2 : ByteArray) (x3 y3 : ByteArray) :
    (Op.equalIn (d + 3) 58 (.agg #[.string x0, .int .i64 x1, .string x2, .string x3]) (.agg #[.string y0, .int .i64 y1, .string y2, .string y3])).run Tryz.prog w = .ok (x0.toList == y0.toList && (x1 == y1 && ((x2.toList == y2.toList && (x3.toList == y3.toList))))) w := by
  refine eq_of Tryz.underlying58 (by kernel_rfl) ?_
  refine eq_cons (by rfl) (by go_simp; rfl) (by go_simp; rfl) (by go_simp) ?_
  refine eq_cons (by rfl) (by go_simp; rfl) (by go_simp; rfl) (by go_simp) ?_
  exact eq_last (by rfl) (by go_simp) (by go_simp) (eqRat (d + 0) w _ _ _ _)
theorem rt_beq (x0 x1 y0 y1 : ByteArray) : (x0.toList == y0.toList && (x1.toList == y1.toList)) = decide ((⟨x0, x1⟩ : RT) = ⟨y0, y1⟩) := by
  rw [Bool.eq_iff_iff]
  simp only [Bool.and_eq_true, beq_iff_eq, decide_eq_true_eq, RT.mk.injEq, s_eq]
theorem fx_beq (x0 x2 x3 y0 y2 y3 : ByteArray) (x1 y1 : Int) : (x0.toList == y0.toList && (x1 == y1 && ((x2.toList == y2.toList && (x3.toList == y3.toList))))) = decide ((⟨x0, x1, ⟨x2, x3⟩⟩ : Fx) = ⟨y0, y1, ⟨y2, y3⟩⟩) := by
  rw [rt_beq, Bool.eq_iff_iff]
  simp only [Bool.and_eq_true, beq_iff_eq, decide_eq_true_eq, Fx.mk.injEq, s_eq]
end Go.Proofs.YtjdofncognaaoaaGreatDoor

/- Walks of the references' tables of prices: Small, Same, Get, Last. -/
namespace Go.Proofs.YtjdofncognaaoaaGreatDoor
open Go.RowKit
set_option linter.unusedVariables false
set_option linter.unusedSimpArgs false

/-! ### Small -/
def fsm (f : Fx) : Bool := decide (f.p.num.size ≤ 40) && (decide (f.p.den.size ≤ 40) && decide (f.asset.size ≤ 100))
def fsmall (l : List Fx) : Bool := l.all fsm && decide (l.length ≤ 60)
/-! ### Same -/
theorem same_no {α : Type} [DecidableEq α] {l m : List α} {k : Nat} {a b : α} (ha : l[k]? = some a) (hb : m[k]? = some b) (h : ¬ a = b) : decide (l = m) = false := by
  rw [decide_eq_false_iff_not]
  rintro rfl
  rw [ha] at hb
  exact h (Option.some.inj hb)
theorem take_succ_same {α : Type} {l m : List α} {k : Nat} {a b : α} (h : l.take k = m.take k) (ha : l[k]? = some a) (hb : m[k]? = some b) (e : a = b) : l.take (k + 1) = m.take (k + 1) := by
  rw [List.take_add_one, List.take_add_one, ha, hb, h, e]
theorem fx_same {a0 a2 a3 b0 b2 b3 : ByteArray} {a1 b1 : Int} (h : (!(a0.toList == b0.toList) || (!(a1 == b1) || (!(a2.toList == b2.toList) || !(a3.toList == b3.toList)))) = false) : (⟨a0, a1, ⟨a2, a3⟩⟩ : Fx) = ⟨b0, b1, ⟨b2, b3⟩⟩ := by
  simp only [Bool.or_eq_false_iff, Bool.not_eq_false', beq_iff_eq] at h
  obtain ⟨h0, h1, h2, h3⟩ := h
  rw [s_eq.2 h0, h1, s_eq.2 h2, s_eq.2 h3]
theorem fx_unlike {a0 a2 a3 b0 b2 b3 : ByteArray} {a1 b1 : Int} (h : (!(a0.toList == b0.toList) || (!(a1 == b1) || (!(a2.toList == b2.toList) || !(a3.toList == b3.toList)))) = true) : ¬ (⟨a0, a1, ⟨a2, a3⟩⟩ : Fx) = ⟨b0, b1, ⟨b2, b3⟩⟩ := by
  intro e
  injection e with e0 e1 e2
  injection e2 with e2 e3
  subst e0; subst e1; subst e2; subst e3
  simp at h
set_option maxHeartbeats 800000 in
theorem r12_same {A B : Option Addr} {n m c d : Nat} {xs ys : List Fx} (w : World) (hx : Rd Fx.cs 4 w A n xs) (hy : Rd Fx.cs 4 w B m ys) :
    Calls Tryz.prog 37 #[.slice A n c, .slice B m d] w fun e w' => e = .returned (.bool (decide (xs = ys))) ∧ Below w.heap.size w w' := by
  have hbig := hx.big
  have hbig2 := hy.big
  have heq := eqFix
  by_cases hnm : n = m
  · subst hnm
    go_enter Tryz.func37, Tryz.ntmps37
    go_wp2
    go_loopw [5] (fun i wr => ∃ k : Nat, k ≤ n ∧ i = .int .i64 k ∧ Hid (xs.take k = ys.take k) ∧ Below w.heap.size w wr) (fun i _ => n - (intOf i).toNat)
    case atStart => exact ⟨0, Nat.zero_le _, rfl, by simp [Hid], Below.refl _ _⟩
    case round =>
      obtain ⟨k, hk, rfl, H, hB⟩ := hrel
      by_cases hlt : k < n
      · obtain ⟨ad, a0, a1, a2, a3, rfl, hxk, hc⟩ := fx_at hx hB hlt
        obtain ⟨ad', b0, b1, b2, b3, rfl, hyk, hc'⟩ := fx_at hy hB hlt
        have hx0 := fun y => (hc y).1
        have hx1 := fun y => (hc y).2.1
        have hx2 := fun y => (hc y).2.2.1
        have hx3 := fun y => (hc y).2.2.2
        have hy0 := fun y => (hc' y).1
        have hy1 := fun y => (hc' y).2.1
        have hy2 := fun y => (hc' y).2.2.1
        have hy3 := fun y => (hc' y).2.2.2
        have HX := Lib.hid hxk
        have HY := Lib.hid hyk
        have HC := Lib.hid hc
        have HC' := Lib.hid hc'
        clear hxk hc hyk hc'
        go_wp2
        (refine wp_region_after (by kernel_rfl) (by kernel_rfl) ?_; (repeat (first | go_big_quiet_skip | (go_big_quiet_want; go_big_quiet_op; first | go_big_quiet_on | (apply Exists.intro; refine ⟨fun _ => ?_, ?_⟩; (focus (fail)); go_big_quiet_on)))); refine wpQuiet_nil ?_; rintro w1 ⟨⟨_, hb1⟩, rfl⟩; (try dsimp only); obtain ⟨hc1, hf1⟩ := bcell hb1; have hs1 := hb1.size; (try simp at hs1))
        generalize hv : (!(a0.toList == b0.toList) || (!(a1 == b1) || (!(a2.toList == b2.toList) || !(a3.toList == b3.toList)))) = v
        have HV := Lib.hid hv
        clear hv
        cases v
        · go_wp2
          go_roundw
          case rel => exact ⟨k + 1, by omega, by go_num, take_succ_same H.out HX.out HY.out (fx_same HV.out), (by repeat (first | exact Below.refl _ _ | assumption | refine b_then ?_ (by assumption) | refine b_alloc ?_ _ | refine b_drewN ?_ _ | refine Below.drew ?_ | refine b_set ?_ (by first | exact Nat.le_refl _ | (simp; done) | (simp; omega) | omega) _))⟩
          case measure => simp [intOf]; omega
        · go_wp2
          go_ret
          exact ⟨ret_bool (same_no HX.out HY.out (fx_unlike HV.out)).symm, (by repeat (first | exact Below.refl _ _ | assumption | refine b_then ?_ (by assumption) | refine b_alloc ?_ _ | refine b_drewN ?_ _ | refine Below.drew ?_ | refine b_set ?_ (by first | exact Nat.le_refl _ | (simp; done) | (simp; omega) | omega) _))⟩
      · obtain rfl : k = n := by omega
        have H2 := H.out
        rw [List.take_of_length_le (by rw [hx.len]; exact Nat.le_refl _), List.take_of_length_le (by rw [hy.len]; exact Nat.le_refl _)] at H2
        have H3 := Lib.hid H2
        clear H2
        go_wp2
        go_ret
        exact ⟨ret_bool (decide_eq_true H3.out).symm, hB⟩
  · have hne : decide (xs = ys) = false := by
      rw [decide_eq_false_iff_not]; rintro rfl; exact hnm (hx.len.symm.trans hy.len)
    have hnb : ((n : Int) == (m : Int)) = false := by rw [beq_eq_false_iff_ne]; omega
    have HN := Lib.hid hne
    clear hne
    go_enter Tryz.func37, Tryz.ntmps37
    go_wp2
    go_ret
    exact ⟨ret_bool HN.out.symm, Below.refl _ _⟩
end Go.Proofs.YtjdofncognaaoaaGreatDoor

/- Walks of the references' tables of prices: Get, Last. -/
namespace Go.Proofs.YtjdofncognaaoaaGreatDoor
open Go.RowKit
set_option linter.unusedVariables false
set_option linter.unusedSimpArgs false

def fhit (a : ByteArray) (d : Int) (f : Fx) : Bool := f.asset.toList == a.toList && f.day == d
def fget (l : List Fx) (a : ByteArray) (d : Int) : Option RT := if fmay l then (l.find? (fhit a d)).map Fx.p else none
def optR (o : Option RT) : Value := .tuple #[.agg #[.string (o.getD rzero).num, .string (o.getD rzero).den], .bool o.isSome]
theorem find_take_succ {α : Type} {p : α → Bool} {l : List α} {k : Nat} {a : α} (h : (l.take k).find? p = none) (ha : l[k]? = some a) (hp : p a = false) : (l.take (k + 1)).find? p = none := by
  rw [List.take_add_one, ha, List.find?_append, h]; simp [hp]
theorem find_hit {α : Type} {p : α → Bool} {l : List α} {k : Nat} {a : α} (h : (l.take k).find? p = none) (ha : l[k]? = some a) (hp : p a = true) : l.find? p = some a := by
  have e : l = l.take (k + 1) ++ l.drop (k + 1) := (List.take_append_drop _ _).symm
  rw [e, List.find?_append, List.take_add_one, ha, List.find?_append, h]; simp [hp]
abbrev W24 (w : World) : World := w.alloc (.cells #[.string ⟨#[]⟩, .string ⟨#[]⟩] 39)
set_option maxHeartbeats 1000000 in
theorem r12_get {A : Option Addr} {n c : Nat} {xs : List Fx} (s : ByteArray) (d : Int) (w : World) (hx : Rd Fx.cs 4 w A n xs) (hz : ∀ f ∈ xs, fxsz f) :
    Calls Tryz.prog 41 #[.slice A n c, .string s, .int .i64 d] w fun e w' => e = .returned (optR (fget xs s d)) ∧ Below w.heap.size w w' := by
  have hbig := hx.big
  go_enter Tryz.func41, Tryz.ntmps41
  go_wp2
  go_loopw [8] (fun i wr => ∃ k : Nat, k ≤ n ∧ i = .int .i64 k ∧ Hid (fmay xs = true → (xs.take k).find? (fhit s d) = none) ∧ Below (W24 w).heap.size (W24 w) wr) (fun i _ => n - (intOf i).toNat)
  case atStart => exact ⟨0, Nat.zero_le _, rfl, by simp [Hid], Below.refl _ _⟩
  case round =>
    obtain ⟨k, hk, rfl, H, hB⟩ := hrel
    have hBw : Below w.heap.size w wr := (by repeat (first | exact Below.refl _ _ | assumption | refine b_then ?_ (by assumption) | refine b_alloc ?_ _ | refine b_drewN ?_ _ | refine Below.drew ?_ | refine b_set ?_ (by first | exact Nat.le_refl _ | (simp; done) | (simp; omega) | omega) _))
    obtain ⟨hc0, hf0⟩ := bcell hB
    have hs0 : w.heap.size < wr.heap.size := Nat.lt_of_lt_of_le (by simp) hB.size
    by_cases hlt : k < n
    · obtain ⟨ad, a0, a1, a2, a3, rfl, hxk, hl⟩ := fx_in hx hBw hlt
      have HX := Lib.hid hxk
      clear hxk
      obtain ⟨hx0, hx1, hx2, hx3, _⟩ := hl wr (Below.refl _ _)
      have HL := Lib.hid hl
      clear hl
      have HH : Hid (fhit s d ⟨a0, a1, ⟨a2, a3⟩⟩ = (a0.toList == s.toList && a1 == d)) := rfl
      by_cases c1 : (a0.toList == s.toList) = true
      · by_cases c2 : (a1 == d) = true
        · by_cases c3 : fmay xs = true
          · have H3 := Lib.hid c3
            go_wp2_with (go_at_call 40; (with_reducible refine (r12_may _ (hx.below hBw) hz).mono ?_); rintro e w1 ⟨rfl, hb1⟩; obtain ⟨hc1, hf1⟩ := bcell hb1; have hs1 := hb1.size; (try simp at hs1); obtain ⟨_, _, hy2, _, hy4⟩ := HL.out w1 hb1)
            refine bodyPost_ret (v := .tuple #[.agg #[.string a2, .string a3], .bool true]) ?_ rfl ⟨?_, (by repeat (first | exact Below.refl _ _ | assumption | refine b_then ?_ (by assumption) | refine b_alloc ?_ _ | refine b_drewN ?_ _ | refine Below.drew ?_ | refine b_set ?_ (by first | exact Nat.le_refl _ | (simp; done) | (simp; omega) | omega) _))⟩
            · simp [results, Tryz.results41, go_sem, hc0, hf0, hs0, hc1, hf1, hs1]
            · rw [fget, if_pos H3.out, find_hit (H.out H3.out) HX.out (by rw [HH.out, c1, c2]; rfl)]; rfl
          · simp only [Bool.not_eq_true] at c3
            have H3 := Lib.hid c3
            go_wp2_with (go_at_call 40; (with_reducible refine (r12_may _ (hx.below hBw) hz).mono ?_); rintro e w1 ⟨rfl, hb1⟩; obtain ⟨hc1, hf1⟩ := bcell hb1; have hs1 := hb1.size; (try simp at hs1))
            go_roundw
            case rel => exact ⟨k + 1, by omega, by go_num, fun h => absurd h (by rw [H3.out]; exact Bool.false_ne_true), hB.trans (hb1.mono hB.size)⟩
            case measure => simp [intOf]; omega
        · simp only [Bool.not_eq_true] at c2
          have H2 : Hid (fhit s d ⟨a0, a1, ⟨a2, a3⟩⟩ = false) := by rw [Hid, HH.out, c2, Bool.and_false]
          go_wp2
          go_roundw
          case rel => exact ⟨k + 1, by omega, by go_num, fun h => find_take_succ (H.out h) HX.out H2.out, hB⟩
          case measure => simp [intOf]; omega
      · simp only [Bool.not_eq_true] at c1
        have H2 : Hid (fhit s d ⟨a0, a1, ⟨a2, a3⟩⟩ = false) := by rw [Hid, HH.out, c1, Bool.false_and]
        go_wp2
        go_roundw
        case rel => exact ⟨k + 1, by omega, by go_num, fun h => find_take_succ (H.out h) HX.out H2.out, hB⟩
        case measure => simp [intOf]; omega
    · obtain rfl : k = n := by omega
      have H3 : Hid (optR (fget xs s d) = .tuple #[.agg #[.string ⟨#[]⟩, .string ⟨#[]⟩], .bool false]) := by
        have h := H.out
        rw [← hx.len, List.take_length] at h
        unfold fget Hid
        split
        · rename_i h'; rw [h h']; rfl
        · rfl
      go_wp2
      refine bodyPost_ret (v := .tuple #[.agg #[.string ⟨#[]⟩, .string ⟨#[]⟩], .bool false]) ?_ rfl ⟨by rw [H3.out], (by repeat (first | exact Below.refl _ _ | assumption | refine b_then ?_ (by assumption) | refine b_alloc ?_ _ | refine b_drewN ?_ _ | refine Below.drew ?_ | refine b_set ?_ (by first | exact Nat.le_refl _ | (simp; done) | (simp; omega) | omega) _))⟩
      simp [results, Tryz.results41, go_sem, hc0, hf0, hs0]

def fupto (a : ByteArray) (d : Int) (f : Fx) : Bool := f.asset.toList == a.toList && decide (f.day ≤ d)
def flast (l : List Fx) (a : ByteArray) (d : Int) : Option RT := if fmay l then ((l.filter (fupto a d)).getLast?).map Fx.p else none
def lastOf (l : List Fx) (a : ByteArray) (d : Int) : Option RT := ((l.filter (fupto a d)).getLast?).map Fx.p
theorem lastOf_yes {l : List Fx} {k : Nat} {f : Fx} {a : ByteArray} {d : Int} (ha : l[k]? = some f) (h : fupto a d f = true) : lastOf (l.take (k + 1)) a d = some f.p := by
  rw [lastOf, List.take_add_one, ha, List.filter_append]; simp [h]
theorem lastOf_no {l : List Fx} {k : Nat} {f : Fx} {a : ByteArray} {d : Int} (ha : l[k]? = some f) (h : fupto a d f = false) : lastOf (l.take (k + 1)) a d = lastOf (l.take k) a d := by
  rw [lastOf, List.take_add_one, ha, List.filter_append]; simp [h, lastOf]
def rcell (o : Option RT) : Array Value := #[.string (o.getD rzero).num, .string (o.getD rzero).den]
end Go.Proofs.YtjdofncognaaoaaGreatDoor

/- Walk of the references' tables of prices: Set. -/
namespace Go.Proofs.YtjdofncognaaoaaGreatDoor
open Go.RowKit
set_option linter.unusedVariables false
set_option linter.unusedSimpArgs false

theorem Tryz.elemFix : Elem Tryz.prog 48 58 4 56 := ⟨Tryz.underlying48, ⟨.agg #[.string ⟨#[]⟩, .int .i64 0, .string ⟨#[]⟩, .string ⟨#[]⟩], by kernel_rfl, rfl⟩⟩
theorem Fx.cs_length (x : Fx) : (Fx.cs x).length = 4 := rfl
theorem Fx.cs_one (x : Fx) : ∀ u ∈ Fx.cs x, u.oneCell' = true := by
  intro u hu
  simp only [Fx.cs, List.mem_cons, List.not_mem_nil, or_false] at hu
  rcases hu with rfl | rfl | rfl | rfl <;> rfl
/-- f laid into a list ahead of the first one that does not stand ahead of it. -/
def fins (l : List Fx) (f : Fx) : List Fx := l.takeWhile (fahead · f) ++ f :: l.dropWhile (fahead · f)
def fset (l : List Fx) (f : Fx) : Option (List Fx) := if fmay l && fmay (fins l f) then some (fins l f) else none
theorem takeWhile_all {α : Type} {p : α → Bool} {l : List α} (h : l.all p = true) : l.takeWhile p = l ∧ l.dropWhile p = [] := by
  induction l with
  | nil => simp
  | cons a l ih =>
    simp only [List.all_cons, Bool.and_eq_true] at h
    obtain ⟨i1, i2⟩ := ih h.2
    simp [List.takeWhile_cons, List.dropWhile_cons, h.1, i1, i2]
theorem while_append {α : Type} {p : α → Bool} {l : List α} (h : l.all p = false) (m : List α) : (l ++ m).takeWhile p = l.takeWhile p ∧ (l ++ m).dropWhile p = l.dropWhile p ++ m := by
  induction l with
  | nil => simp at h
  | cons a l ih =>
    by_cases ha : p a = true
    · have h' : l.all p = false := by simpa [ha] using h
      obtain ⟨i1, i2⟩ := ih h'
      simp [List.takeWhile_cons, List.dropWhile_cons, ha, i1, i2]
    · simp [List.takeWhile_cons, List.dropWhile_cons, ha]
theorem fins_all {l : List Fx} {f : Fx} (h : l.all (fahead · f) = true) : fins l f = l ++ [f] := by
  obtain ⟨h1, h2⟩ := takeWhile_all h
  rw [fins, h1, h2]
theorem fins_first {l : List Fx} {f x : Fx} {k : Nat} (h : (l.take k).all (fahead · f) = true) (hx : l[k]? = some x) (hp : fahead x f = false) : fins (l.take (k + 1)) f = l.take k ++ [f] ++ [x] := by
  rw [List.take_add_one, hx]
  obtain ⟨h1, h2⟩ := takeWhile_all h
  have e1 : ∀ (l : List Fx), l.all (fahead · f) = true → (l ++ [x]).takeWhile (fahead · f) = l ∧ (l ++ [x]).dropWhile (fahead · f) = [x] := by
    intro l hl
    induction l with
    | nil => simp [List.takeWhile_cons, List.dropWhile_cons, hp]
    | cons a l ih =>
      simp only [List.all_cons, Bool.and_eq_true] at hl
      obtain ⟨i1, i2⟩ := ih hl.2
      simp [List.takeWhile_cons, List.dropWhile_cons, hl.1, i1, i2]
  obtain ⟨e2, e3⟩ := e1 _ h
  simp only [Option.toList_some]
  rw [fins, e2, e3]; simp
theorem fins_more {l : List Fx} {f x : Fx} {k : Nat} (h : (l.take k).all (fahead · f) = false) (hx : l[k]? = some x) : fins (l.take (k + 1)) f = fins (l.take k) f ++ [x] := by
  rw [List.take_add_one, hx]
  obtain ⟨h1, h2⟩ := while_append h [x]
  simp only [Option.toList_some]
  rw [fins, h1, h2, fins]; simp
theorem all_take_no {α : Type} {p : α → Bool} {l : List α} {k : Nat} {a : α} (ha : l[k]? = some a) (hp : p a = false) : (l.take (k + 1)).all p = false := by
  rw [List.take_add_one, ha, List.all_append]; simp [hp]
theorem all_take_more {α : Type} {p : α → Bool} {l : List α} {k : Nat} {a : α} (h : (l.take k).all p = false) (ha : l[k]? = some a) : (l.take (k + 1)).all p = false := by
  rw [List.take_add_one, ha, List.all_append, h, Bool.false_and]
def laidTo (l : List Fx) (f : Fx) (k : Nat) (laid : Bool) (ys : List Fx) : Prop := (l.take k).all (fahead · f) = !laid ∧ ys = if laid then fins (l.take k) f else l.take k
theorem laidTo_len {l : List Fx} {f : Fx} {k : Nat} {laid : Bool} {ys : List Fx} (h : laidTo l f k laid ys) (hk : k ≤ 1000000) : ys.length ≤ 1000001 := by
  rw [h.2]
  split
  · have h1 : (fins (l.take k) f).length = (l.take k).length + 1 := by
      have := congrArg List.length (List.takeWhile_append_dropWhile (p := (fahead · f)) (l := l.take k))
      rw [List.length_append] at this
      rw [fins, List.length_append, List.length_cons]; omega
    rw [h1, List.length_take]; omega
  · rw [List.length_take]; omega
theorem laidTo_yes {l : List Fx} {f x : Fx} {k : Nat} {ys : List Fx} (h : laidTo l f k true ys) (hx : l[k]? = some x) : laidTo l f (k + 1) true (ys ++ [x]) := by
  obtain ⟨h1, h2⟩ := h
  simp only [Bool.not_true, if_true] at h1 h2
  exact ⟨by simp only [Bool.not_true]; exact all_take_more h1 hx, by simp only [if_true]; rw [h2, fins_more h1 hx]⟩
theorem laidTo_now {l : List Fx} {f x : Fx} {k : Nat} {ys : List Fx} (h : laidTo l f k false ys) (hx : l[k]? = some x) (hp : fahead x f = false) : laidTo l f (k + 1) true (ys ++ [f] ++ [x]) := by
  obtain ⟨h1, h2⟩ := h
  simp only [Bool.not_false, Bool.false_eq_true, if_false] at h1 h2
  exact ⟨by simp only [Bool.not_true]; exact all_take_no hx hp, by simp only [if_true]; rw [h2, fins_first h1 hx hp]⟩
theorem laidTo_not {l : List Fx} {f x : Fx} {k : Nat} {ys : List Fx} (h : laidTo l f k false ys) (hx : l[k]? = some x) (hp : fahead x f = true) : laidTo l f (k + 1) false (ys ++ [x]) := by
  obtain ⟨h1, h2⟩ := h
  simp only [Bool.not_false, Bool.false_eq_true, if_false] at h1 h2
  exact ⟨by simp only [Bool.not_false]; exact all_take_succ h1 hx hp, by simp only [Bool.false_eq_true, if_false]; rw [h2, List.take_add_one, hx]; rfl⟩
theorem fins_mem {l : List Fx} {f g : Fx} (h : g ∈ fins l f) : g = f ∨ g ∈ l := by
  rw [fins, List.mem_append, List.mem_cons] at h
  rcases h with h | h | h
  · exact .inr (List.takeWhile_sublist _ |>.mem h)
  · exact .inl h
  · exact .inr (List.dropWhile_sublist _ |>.mem h)
/-- What Set answers: a table of the call's own, or none. -/
def SetPost (xs : List Fx) (f : Fx) (w : World) (e : Ending) (w' : World) : Prop := ∃ v, e = .returned (.tuple #[v, .bool (fset xs f).isSome]) ∧ Own Fx.cs 4 58 w' w.heap.size v ((fset xs f).getD []) ∧ Below w.heap.size w w'
theorem setPost_yes {xs : List Fx} {f : Fx} {w w' : World} {base : Nat} {v : Value} {ys : List Fx} (h : fset xs f = some ys) (ho : Own Fx.cs 4 58 w' base v ys) (hb : w.heap.size ≤ base) (hB : Below w.heap.size w w') : SetPost xs f w (.returned (.tuple #[v, .bool true])) w' :=
  ⟨v, by rw [h]; rfl, by rw [h]; exact ho.lower hb, hB⟩
theorem setPost_no {xs : List Fx} {f : Fx} {w w' : World} (h : fset xs f = none) (hB : Below w.heap.size w w') : SetPost xs f w (.returned (.tuple #[.slice none 0 0, .bool false])) w' :=
  ⟨_, by rw [h]; rfl, by rw [h]; exact Own.nil, hB⟩
theorem fset_yes {xs : List Fx} {f : Fx} (h1 : fmay xs = true) (h2 : fmay (fins xs f) = true) : fset xs f = some (fins xs f) := by rw [fset, h1, h2]; rfl
theorem fset_no1 {xs : List Fx} {f : Fx} (h1 : fmay xs = false) : fset xs f = none := by rw [fset, h1]; rfl
theorem fset_no2 {xs : List Fx} {f : Fx} (h2 : fmay (fins xs f) = false) : fset xs f = none := by rw [fset, h2, Bool.and_false]; rfl
end Go.Proofs.YtjdofncognaaoaaGreatDoor
