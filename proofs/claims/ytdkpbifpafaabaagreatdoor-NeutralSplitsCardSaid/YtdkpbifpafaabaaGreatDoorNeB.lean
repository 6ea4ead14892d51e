/- slices.DeleteFunc of prices: the walk. -/
import Derived.Test.YtdkpbifpafaabaaGreatDoorNeA
namespace Go.Proofs.YtdkpbifpafaabaaGreatDoor
open Go.RowKit
set_option linter.unusedVariables false
set_option linter.unusedSimpArgs false

def nkeep (s : ByteArray) (ex : Int) (f : Fx) : Bool := !ndel s ex f
def DelPost (xs : List Fx) (s : ByteArray) (ex : Int) (base : Nat) (w : World) (e : Ending) (w' : World) : Prop := ∃ v, e = .returned v ∧ Own Fx.cs 4 47 w' base v (xs.filter (nkeep s ex)) ∧ Below base w w'
theorem filter_all {α : Type} {p : α → Bool} {l : List α} (h : l.all p = true) : l.filter p = l := List.filter_eq_self.2 (List.all_eq_true.1 h)
/-- What the loop holds: so many are kept of those seen; those to come are as they were. -/
structure DelI (xs ys : List Fx) (s : ByteArray) (ex : Int) (i j : Nat) : Prop where
  len : ys.length = xs.length
  lt : i < j
  le : j ≤ xs.length
  head : ys.take i = (xs.take j).filter (nkeep s ex)
  tail : ys.drop j = xs.drop j
theorem DelI.at_ {xs ys : List Fx} {s : ByteArray} {ex : Int} {i j : Nat} (h : DelI xs ys s ex i j) (hj : j < xs.length) : ys[j]? = xs[j]? := by
  have := congrArg (fun l => l[0]?) h.tail
  simpa using this
theorem DelI.skip {xs ys : List Fx} {s : ByteArray} {ex : Int} {i j : Nat} {x : Fx} (h : DelI xs ys s ex i j) (hx : xs[j]? = some x) (hd : ndel s ex x = true) : DelI xs ys s ex i (j + 1) := by
  have hj := (List.getElem?_eq_some_iff.1 hx).1
  refine ⟨h.len, by have := h.lt; omega, by omega, ?_, ?_⟩
  · rw [List.take_add_one, hx, List.filter_append, ← h.head]
    simp [nkeep, hd]
  · have := congrArg (List.drop 1) h.tail
    simpa [List.drop_drop, Nat.add_comm] using this
theorem DelI.keep {xs ys : List Fx} {s : ByteArray} {ex : Int} {i j : Nat} {x : Fx} (h : DelI xs ys s ex i j) (hx : xs[j]? = some x) (hd : ndel s ex x = false) : DelI xs (ys.set i x) s ex (i + 1) (j + 1) := by
  have hj := (List.getElem?_eq_some_iff.1 hx).1
  have hlt := h.lt
  refine ⟨by rw [List.length_set]; exact h.len, by omega, by omega, ?_, ?_⟩
  · have hi : i < ys.length := by rw [h.len]; omega
    rw [List.take_add_one, List.getElem?_set_self hi, List.take_set_of_le (Nat.le_refl _), h.head, List.take_add_one, hx, List.filter_append]
    simp [nkeep, hd]
  · rw [List.drop_set_of_lt (by omega)]
    have := congrArg (List.drop 1) h.tail
    simpa [List.drop_drop, Nat.add_comm] using this
theorem DelI.end_ {xs ys : List Fx} {s : ByteArray} {ex : Int} {i : Nat} (h : DelI xs ys s ex i xs.length) : ys.take i = xs.filter (nkeep s ex) := by rw [h.head, List.take_length]
theorem DelI.start {xs : List Fx} {s : ByteArray} {ex : Int} {k : Nat} {a : Fx} (hx : xs[k]? = some a) (hd : ndel s ex a = true) (h : (xs.take k).all (fun f => !ndel s ex f) = true) : DelI xs xs s ex k (k + 1) := by
  have hk := (List.getElem?_eq_some_iff.1 hx).1
  refine ⟨rfl, by omega, by omega, ?_, rfl⟩
  rw [List.take_add_one, hx, List.filter_append]
  have : (xs.take k).filter (nkeep s ex) = xs.take k := filter_all h
  rw [this]; simp [nkeep, hd]
/-- One element laid over another one. -/
theorem Own.put4 {w : World} {base g n cap i : Nat} {xs : List Fx} {f : Fx} (h : Own Fx.cs 4 47 w base (.slice (some ⟨g, 0, none⟩) n cap) xs) (hi : i < n) : ∃ cur, Blk w g 47 cur ∧ base ≤ g ∧ i * 4 + 4 ≤ cur.size ∧
    Own Fx.cs 4 47 (w.setRow g (cur.toList.take (0 + i * 4) ++ Fx.cs f ++ cur.toList.drop (0 + i * 4 + (Fx.cs f).length)).toArray) base (.slice (some ⟨g, 0, none⟩) n cap) (xs.set i f) := by
  obtain ⟨cur, hb, hg, hl, hc, hm, hs, ht⟩ := h.some_
  have hsz : i * 4 + 4 ≤ cur.size := by rw [hs]; have : (i + 1) * 4 ≤ cap * 4 := Nat.mul_le_mul_right _ (by omega); omega
  refine ⟨cur, hb, hg, hsz, ?_⟩
  have hl' : (xs.set i f).length = n := by rw [List.length_set]; exact hl
  subst hl'
  have hlen : (Fx.cs f).length = 4 := rfl
  refine Own.of_ Fx.cs_length hg (hb.row _) hc hm ?_ ?_
  · have : cur.size = cur.toList.length := (Array.length_toList).symm
    rw [List.size_toArray, List.length_append, List.length_append, List.length_take, List.length_drop, hlen]
    omega
  · rw [List.toList_toArray]
    rw [List.length_set] at ht hi ⊢
    have e1 : (xs.set i f).flatMap Fx.cs = (xs.flatMap Fx.cs).take (i * 4) ++ Fx.cs f ++ (xs.flatMap Fx.cs).drop (i * 4 + 4) := by
      have hx : xs.set i f = xs.take i ++ f :: xs.drop (i + 1) := List.set_eq_take_append_cons_drop.trans (by rw [if_pos hi])
      rw [hx, List.flatMap_append, List.flatMap_cons, flat_take Fx.cs_length, show i * 4 + 4 = (i + 1) * 4 by omega, flat_drop Fx.cs_length, List.append_assoc]
    rw [e1, ← ht]
    apply List.ext_getElem?
    intro j
    simp only [Nat.zero_add, hlen]
    grind
end Go.Proofs.YtdkpbifpafaabaaGreatDoor
