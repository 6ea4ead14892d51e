/- Walk of fixing.compare. -/
import Derived.Test.YtjdkbmlkplbmoaaGreatDoorFixA
import Derived.Test.YtjdkbmlkplbmoaaGreatDoorRat
import Derived.Laws.CopyRow
import Derived.Lib.Overlaps
import Derived.Lib.AppendZerosOnto
import Derived.Shelf.Spec.SlicesInsert
import Derived.Test.YtjdkbmlkplbmoaaGreatDoorRefB
import Derived.Deep.RegionLaw
namespace Go.Proofs.YtjdkbmlkplbmoaaGreatDoor
open Go.RowKit
set_option linter.unusedVariables false
set_option linter.unusedSimpArgs false

end Go.Proofs.YtjdkbmlkplbmoaaGreatDoor

/- Walk of fixing.one. -/
namespace Go.Proofs.YtjdkbmlkplbmoaaGreatDoor
open Go.RowKit
set_option linter.unusedVariables false
set_option linter.unusedSimpArgs false

def fxq (f : Fx) : Prop := f.asset.size ≤ 9000000000 ∧ f.p.num.size ≤ 890000000 ∧ f.p.den.size ≤ 890000000
theorem fxq_sz {f : Fx} (h : fxq f) : fxsz f := ⟨h.1, Nat.le_trans h.2.1 (by omega), Nat.le_trans h.2.2 (by omega)⟩
end Go.Proofs.YtjdkbmlkplbmoaaGreatDoor

/- Walks of fixing.May. -/
namespace Go.Proofs.YtjdkbmlkplbmoaaGreatDoor
open Go.RowKit
set_option linter.unusedVariables false
set_option linter.unusedSimpArgs false

theorem ahead_yes {a b : Fx} (h : fahead a b = true) : fcmp a b < 0 := by rw [fahead_fcmp] at h; exact of_decide_eq_true h
theorem ahead_no {a b : Fx} (h : fahead a b = false) : 0 ≤ fcmp a b := by rw [fahead_fcmp] at h; have := of_decide_eq_false h; omega
end Go.Proofs.YtjdkbmlkplbmoaaGreatDoor

/- Walks of slices.BinarySearchFunc of prices, fixing.Find. -/
namespace Go.Proofs.YtjdkbmlkplbmoaaGreatDoor
open Go.RowKit
set_option linter.unusedVariables false
set_option linter.unusedSimpArgs false

def FindPost (xs : List Fx) (t : Fx) (w : World) (e : Ending) (w' : World) : Prop := ∃ i, e = .returned (.tuple #[.int .i64 (i : Nat), .bool (fat xs t i)]) ∧ bsI xs t i i ∧ Below w.heap.size w w'
end Go.Proofs.YtjdkbmlkplbmoaaGreatDoor

/- Walks of fixing.Get, fixing.Last. -/
namespace Go.Proofs.YtjdkbmlkplbmoaaGreatDoor
open Go.RowKit
set_option linter.unusedVariables false
set_option linter.unusedSimpArgs false

theorem fat_some {xs : List Fx} {t : Fx} {i : Nat} (h : fat xs t i = true) : ∃ a, xs[i]? = some a ∧ fcmp a t = 0 ∧ i < xs.length := by
  unfold fat at h
  cases hx : xs[i]? with
  | none => rw [hx] at h; cases h
  | some a => rw [hx] at h; exact ⟨a, rfl, of_decide_eq_true h, (List.getElem?_eq_some_iff.1 hx).1⟩
end Go.Proofs.YtjdkbmlkplbmoaaGreatDoor

/- Walk of fixing.Last. -/
namespace Go.Proofs.YtjdkbmlkplbmoaaGreatDoor
open Go.RowKit
set_option linter.unusedVariables false
set_option linter.unusedSimpArgs false

theorem filter_last {α : Type} {p : α → Bool} {l : List α} {k : Nat} {a : α} (ha : l[k]? = some a) (hp : p a = true) (h : ∀ j b, k < j → l[j]? = some b → p b = false) : (l.filter p).getLast? = some a := by
  have e : l = l.take (k + 1) ++ l.drop (k + 1) := (List.take_append_drop _ _).symm
  have h1 : (l.drop (k + 1)).filter p = [] := by
    rw [List.filter_eq_nil_iff]
    intro x hx
    obtain ⟨j, hj⟩ := List.mem_iff_getElem?.1 hx
    rw [List.getElem?_drop] at hj
    rw [h (k + 1 + j) x (by omega) hj]; simp
  rw [e, List.filter_append, h1, List.append_nil, List.take_add_one, ha, List.filter_append]
  simp [hp]
theorem filter_none {α : Type} {p : α → Bool} {l : List α} (h : ∀ (j : Nat) b, l[j]? = some b → p b = false) : (l.filter p).getLast? = none := by
  have h1 : l.filter p = [] := by
    rw [List.filter_eq_nil_iff]
    intro x hx
    obtain ⟨j, hj⟩ := List.mem_iff_getElem?.1 hx
    rw [h j x hj]; simp
  rw [h1]; rfl
theorem fupto_iff {a : ByteArray} {d : Int} {f : Fx} : fupto a d f = true ↔ f.asset = a ∧ f.day ≤ d := by
  unfold fupto
  rw [Bool.and_eq_true, beq_iff_eq, tl, tl, decide_eq_true_eq]
  exact ⟨fun h => ⟨s_ext h.1, h.2⟩, fun h => ⟨by rw [h.1], h.2⟩⟩
theorem fupto_no {a : ByteArray} {d : Int} {f : Fx} (h : ¬ (f.asset = a ∧ f.day ≤ d)) : fupto a d f = false := by
  rw [← Bool.not_eq_true, fupto_iff]; exact h
/-- Behind where the search ends there is none. -/
theorem fupto_back {l : List Fx} {a : ByteArray} {d : Int} {p : RT} {i j : Nat} {b : Fx} (hs : rises fahead l = true) (h : bsI l ⟨a, d, p⟩ i i) (hij : i < j) (hb : l[j]? = some b) : fupto a d b = false := by
  refine fupto_no fun ⟨h1, h2⟩ => ?_
  have hil : i < l.length := by have := (List.getElem?_eq_some_iff.1 hb).1; omega
  have hm : l[i]? = some l[i] := List.getElem?_eq_getElem hil
  have h3 := (bs_split hs h hm).2 (Nat.le_refl _)
  have h4 := rises_lt hs hij hm hb
  have h5 : fahead l[i] ⟨a, d, p⟩ = true := by
    rw [fahead_iff] at h4 ⊢
    rcases h4 with h4 | ⟨h4, h5⟩
    · exact .inl (by rw [← h1]; exact h4)
    · exact .inr ⟨h4.trans h1, by show l[i].day < d; omega⟩
  rw [h3] at h5; cases h5
theorem fupto_here {l : List Fx} {a : ByteArray} {d : Int} {p : RT} {i : Nat} {b : Fx} (hs : rises fahead l = true) (h : bsI l ⟨a, d, p⟩ i i) (hb : l[i]? = some b) : fupto a d b = fat l ⟨a, d, p⟩ i := by
  have h3 := (bs_split hs h hb).2 (Nat.le_refl _)
  unfold fat
  rw [hb]
  dsimp only
  rw [Bool.eq_iff_iff, fupto_iff, decide_eq_true_eq, fcmp_zero]
  constructor
  · rintro ⟨h1, h2⟩
    refine ⟨h1, ?_⟩
    show b.day = d
    have : ¬ b.day < d := fun h4 => by
      have h5 : fahead b ⟨a, d, p⟩ = true := fahead_iff _ _ |>.2 (.inr ⟨h1, h4⟩)
      rw [h3] at h5; cases h5
    omega
  · rintro ⟨h1, h2⟩
    exact ⟨h1, by have : b.day = d := h2; omega⟩
theorem flast_cut {l : List Fx} {a : ByteArray} {d : Int} {p : RT} {i : Nat} (hm : fmay l = true) (h : bsI l ⟨a, d, p⟩ i i) :
    (fat l ⟨a, d, p⟩ i = true → flast l a d = (l[i]?).map Fx.p) ∧
    (fat l ⟨a, d, p⟩ i = false → i = 0 → flast l a d = none) ∧
    (fat l ⟨a, d, p⟩ i = false → ∀ b, 0 < i → l[i - 1]? = some b → b.asset = a → flast l a d = some b.p) ∧
    (fat l ⟨a, d, p⟩ i = false → ∀ b, 0 < i → l[i - 1]? = some b → b.asset ≠ a → flast l a d = none) := by
  have hs : rises fahead l = true := by rw [fmay, Bool.and_eq_true] at hm; exact hm.2
  rw [flast, if_pos hm]
  have hge : fat l ⟨a, d, p⟩ i = false → ∀ j b, i ≤ j → l[j]? = some b → fupto a d b = false := fun hf j b hj hb => by
    by_cases e : i = j
    · subst e; rw [fupto_here hs h hb]; exact hf
    · exact fupto_back hs h (by omega) hb
  refine ⟨fun hf => ?_, fun hf h0 => ?_, fun hf b h0 hb ha => ?_, fun hf b h0 hb ha => ?_⟩
  · obtain ⟨b, hb, _, _⟩ := fat_some hf
    rw [filter_last hb (by rw [fupto_here hs h hb]; exact hf) fun j c hj hc => fupto_back hs h hj hc, hb]
  · subst h0
    rw [filter_none fun j b hb => hge hf j b (Nat.zero_le _) hb]; rfl
  · have h1 := (bs_split hs h hb).1 (by omega)
    rw [fahead_iff] at h1
    have h2 : b.day < d := by
      rcases h1 with h1 | ⟨_, h1⟩
      · rw [ha] at h1; exact absurd h1 (List.lt_irrefl _)
      · exact h1
    rw [filter_last hb (fupto_iff.2 ⟨ha, by omega⟩) fun j c hj hc => hge hf j c (by omega) hc]; rfl
  · rw [filter_none fun j c hc => ?_]
    · rfl
    · by_cases hji : i ≤ j
      · exact hge hf j c hji hc
      · refine fupto_no fun ⟨h1, h2⟩ => ha ?_
        by_cases e : j = i - 1
        · subst e; rw [hb] at hc; cases hc; exact h1
        · have h3 := rises_lt hs (show j < i - 1 by omega) hc hb
          have h4 := (bs_split hs h hb).1 (by omega)
          rw [fahead_iff] at h3 h4
          rcases h4 with h4 | ⟨h4, _⟩
          · rcases h3 with h3 | ⟨h3, _⟩
            · rw [h1] at h3
              exact absurd (List.lt_trans h3 h4) (List.lt_irrefl _)
            · rw [← h3]; exact h1
          · exact h4
theorem asset_ne {a b : ByteArray} (h : (a.toList == b.toList) = false) : a ≠ b := fun e => by rw [e] at h; simp at h
theorem asset_eq {a b : ByteArray} (h : (a.toList == b.toList) = true) : a = b := s_eq.2 (by simpa using h)
end Go.Proofs.YtjdkbmlkplbmoaaGreatDoor

/- slices.Clone, slices.Insert of prices: the rows, and the walks. -/
namespace Go.Proofs.YtjdkbmlkplbmoaaGreatDoor
open Go.RowKit
set_option linter.unusedVariables false
set_option linter.unusedSimpArgs false

section
variable {α : Type} {e : α → List Value} {z : Nat}
theorem flat_len (he : ∀ x, (e x).length = z) (l : List α) : (l.flatMap e).length = l.length * z := by
  induction l with
  | nil => simp
  | cons a l ih => rw [List.flatMap_cons, List.length_append, ih, he, List.length_cons, Nat.add_mul, Nat.one_mul, Nat.add_comm]
theorem flat_take (he : ∀ x, (e x).length = z) (l : List α) (i : Nat) : (l.flatMap e).take (i * z) = (l.take i).flatMap e := by
  induction l generalizing i with
  | nil => simp
  | cons a l ih =>
    cases i with
    | zero => simp
    | succ i => rw [List.flatMap_cons, List.take_succ_cons, List.flatMap_cons, Nat.add_mul, Nat.one_mul, Nat.add_comm, List.take_append, he, Nat.add_sub_cancel_left, ih, List.take_of_length_le (by rw [he]; omega)]
theorem flat_drop (he : ∀ x, (e x).length = z) (l : List α) (i : Nat) : (l.flatMap e).drop (i * z) = (l.drop i).flatMap e := by
  induction l generalizing i with
  | nil => simp
  | cons a l ih =>
    cases i with
    | zero => simp
    | succ i => rw [List.flatMap_cons, List.drop_succ_cons, Nat.add_mul, Nat.one_mul, Nat.add_comm, List.drop_append, he, Nat.add_sub_cancel_left, ih, List.drop_of_length_le (by rw [he]; omega), List.nil_append]
theorem flat_inv (hz : 0 < z) (he : ∀ x, (e x).length = z) (l : List α) (i : Nat) (u : Value) (h : (l.flatMap e)[i]? = some u) : ∃ j k x, i = j * z + k ∧ l[j]? = some x ∧ (e x)[k]? = some u := by
  induction l generalizing i with
  | nil => simp at h
  | cons a l ih =>
    rw [List.flatMap_cons, List.getElem?_append, he] at h
    split at h
    · exact ⟨0, i, a, by simp, rfl, h⟩
    · rename_i hi
      obtain ⟨j, k, x, h1, h2, h3⟩ := ih (i - z) h
      exact ⟨j + 1, k, x, by rw [Nat.add_mul]; omega, by simpa using h2, h3⟩
theorem Rd.flat {w : World} {ad : Addr} {n : Nat} {xs : List α} (hz : 0 < z) (he : ∀ x, (e x).length = z) (h : Rd e z w (some ad) n xs) : ∀ i u, (xs.flatMap e)[i]? = some u → w.cell? (ad.add i) = some u := by
  intro i u hu
  obtain ⟨j, k, x, rfl, h2, h3⟩ := flat_inv hz he xs i u hu
  obtain ⟨ad', ha, _, hc⟩ := h.cells (by have := (List.getElem?_eq_some_iff.1 h2).1; have := h.len; omega)
  cases ha
  exact hc j x h2 k u h3
theorem Own.some_ {T : TypeId} {w : World} {base g n cap : Nat} {xs : List α} (h : Own e z T w base (.slice (some ⟨g, 0, none⟩) n cap) xs) : ∃ cur, Blk w g T cur ∧ base ≤ g ∧ xs.length = n ∧ n ≤ cap ∧ cap ≤ maxLen ∧ cur.size = cap * z ∧ cur.toList.take (n * z) = xs.flatMap e := by
  rcases h.row.2 with ⟨hv, _⟩ | ⟨g', cap', cur, hv, hb, hh, hc, hm, hs, ht⟩
  · cases hv
  · injection hv with h1 h2 h3
    injection h1 with h1
    injection h1 with h1
    subst h1; subst h3
    exact ⟨cur, hh, hb, h2.symm, by omega, hm, hs, by rw [h2]; exact ht⟩
theorem Own.of_ {T : TypeId} {w : World} {base g cap : Nat} {cur : Array Value} {xs : List α} (he : ∀ x, (e x).length = z) (hb : base ≤ g) (h : Blk w g T cur) (hc : xs.length ≤ cap) (hm : cap ≤ maxLen) (hs : cur.size = cap * z) (ht : cur.toList.take (xs.length * z) = xs.flatMap e) : Own e z T w base (.slice (some ⟨g, 0, none⟩) xs.length cap) xs :=
  ⟨⟨flat_len he xs, .inr ⟨g, cap, cur, rfl, hb, h, hc, hm, hs, ht⟩⟩⟩
end
theorem run_copy_z {P : Program} (w : World) (dT sT ty elem : TypeId) (z g o dLen dCap : Nat) (a : Addr) (sLen sCap : Nat) (cur : Array Value) (t : TypeId) (cs : List Value)
    (hu : P.underlying dT = some (.slice elem)) (hs : (P.info? elem).map (·.size) = some z)
    (hg : w.heap[g]? = some (.cells cur t (0, 0))) (m : Nat) (hmin : Nat.min sLen dLen = m) (hn : cs.length = m * z)
    (hsrc : ∀ j v, cs[j]? = some v → w.cell? (a.add j) = some v) (hfit : o + cs.length ≤ cur.size) (h1 : ∀ v ∈ cs, v.oneCell' = true) :
    (Builtin.copy_ #[dT, sT] ty #[.slice (some ⟨g, o, none⟩) dLen dCap, .slice (some a) sLen sCap]).run P w =
      .ok (goInt m) (w.setRow g (cur.toList.take o ++ cs ++ cur.toList.drop (o + cs.length)).toArray) := by
  have hl := run_loadCells_list (P := P) w a cs hsrc
  have hst := run_storeCells_at P g o t cs 0 cur w hg (by simpa using hfit) h1
  cases hq : P.info? elem with
  | none => simp [hq] at hs
  | some i =>
    have hi : i.size = z := by simpa [hq] using hs
    subst hmin
    simp [Builtin.copy_, run_underlying hu, Builtin.lenOf, Builtin.firstCells, sizeOf, typeInfo, hq, hi, ← hn, hl, hst]
theorem shift_cells (cur cs fs : List Value) (p : Nat) (hp : p + fs.length ≤ cur.length) :
    let c1 := cur.take (p + fs.length) ++ cs ++ cur.drop (p + fs.length + cs.length)
    c1.take p ++ fs ++ c1.drop (p + fs.length) = cur.take p ++ fs ++ cs ++ cur.drop (p + fs.length + cs.length) := by
  have h1 : (cur.take (p + fs.length)).length = p + fs.length := by rw [List.length_take]; omega
  dsimp only
  rw [List.append_assoc (cur.take (p + fs.length)), List.take_append_of_le_length (by omega), List.take_take, Nat.min_eq_left (by omega), List.drop_append_of_le_length (by omega), List.drop_of_length_le (by omega)]
  simp [List.append_assoc]
theorem grow_cells (cur cs fs : List Value) (p : Nat) (hp : p + fs.length ≤ cur.length) :
    let c1 := cur.take p ++ fs ++ cur.drop (p + fs.length)
    c1.take (p + fs.length) ++ cs ++ c1.drop (p + fs.length + cs.length) = cur.take p ++ fs ++ cs ++ cur.drop (p + fs.length + cs.length) := by
  have h1 : (cur.take p ++ fs).length = p + fs.length := by rw [List.length_append, List.length_take]; omega
  dsimp only
  rw [List.take_append_of_le_length (by omega), List.take_of_length_le (by omega), List.drop_append, List.drop_of_length_le (by omega), h1, List.nil_append, List.drop_drop]
  congr 2; omega
theorem new_row {α : Type} {e : α → List Value} {z : Nat} (he : ∀ x, (e x).length = z) (xs : List α) (f : α) (i : Nat) (hi : i ≤ xs.length) (cur rest : List Value) (hc : cur.take (i * z) = (xs.take i).flatMap e) :
    (cur.take (i * z) ++ e f ++ (xs.drop i).flatMap e ++ rest).take ((xs.length + 1) * z) = (xs.take i ++ f :: xs.drop i).flatMap e := by
  have hl : (cur.take (i * z) ++ e f ++ (xs.drop i).flatMap e).length = (xs.length + 1) * z := by
    rw [hc, List.length_append, List.length_append, flat_len he, flat_len he, he, List.length_take, List.length_drop, Nat.min_eq_left hi, Nat.add_mul, Nat.one_mul, Nat.sub_mul]
    have : i * z ≤ xs.length * z := Nat.mul_le_mul_right _ hi
    omega
  rw [List.take_append_of_le_length (by omega), List.take_of_length_le (by omega), hc]
  simp [List.flatMap_append, List.flatMap_cons]

end Go.Proofs.YtjdkbmlkplbmoaaGreatDoor

/- slices.Insert of prices, in the middle. -/
namespace Go.Proofs.YtjdkbmlkplbmoaaGreatDoor
open Go.RowKit
set_option linter.unusedVariables false
set_option linter.unusedSimpArgs false

theorem add_lit4 (g i : Nat) : (⟨g, 0, none⟩ : Addr).add i = ⟨g, i, none⟩ := by unfold Addr.add; split <;> simp_all
theorem Blk.row {w : World} {g : Nat} {t : TypeId} {cs : Array Value} (h : Blk w g t cs) (cs' : Array Value) : Blk (w.setRow g cs') g t cs' := setRow_heap w g cs cs' t (0, 0) h
theorem below_row {w W : World} {g base : Nat} (h : Below base w W) (hg : base ≤ g) (cs : Array Value) : Below base w (W.setRow g cs) :=
  ⟨h.os, h.tape, h.output, by rw [setRow_size]; exact h.size, fun k hk => (setRow_other W g k cs (by omega)).trans (h.block k hk)⟩
end Go.Proofs.YtjdkbmlkplbmoaaGreatDoor

/- slices.Insert of prices, in the middle, without room; all roads. -/
namespace Go.Proofs.YtjdkbmlkplbmoaaGreatDoor
open Go.RowKit
set_option linter.unusedVariables false
set_option linter.unusedSimpArgs false

end Go.Proofs.YtjdkbmlkplbmoaaGreatDoor

/- Walk of fixing.Set. -/
namespace Go.Proofs.YtjdkbmlkplbmoaaGreatDoor
open Go.RowKit
set_option linter.unusedVariables false
set_option linter.unusedSimpArgs false

theorem Blk.four {w : World} {g : Nat} {t : TypeId} {a b c d : Value} (h : Blk w g t #[a, b, c, d]) : w.cell? ⟨g, 0, none⟩ = some a ∧ w.cell? ⟨g, 1, none⟩ = some b ∧ w.cell? ⟨g, 2, none⟩ = some c ∧ w.cell? ⟨g, 3, none⟩ = some d :=
  ⟨h.cell 0, h.cell 1, h.cell 2, h.cell 3⟩
end Go.Proofs.YtjdkbmlkplbmoaaGreatDoor
