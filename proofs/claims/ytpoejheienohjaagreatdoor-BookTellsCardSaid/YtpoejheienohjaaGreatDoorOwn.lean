/- Slices of structs that the call has made: appended to, read. -/
import Derived.Test.YtpoejheienohjaaGreatDoorBase
import Derived.Maps.AppendAt
import Derived.RegionTactic
namespace Go.Proofs.YtpoejheienohjaaGreatDoor
open Go.RowKit
set_option linter.unusedVariables false
set_option linter.unusedSimpArgs false

/-- v is a slice of the call's own (from block 'base' on) that holds the elements xs, each of z cells, of type T. -/
structure Own {α : Type} (e : α → List Value) (z : Nat) (T : TypeId) (w : World) (base : Nat) (v : Value) (xs : List α) : Prop where
  row : w.ownsRow base T z v xs.length (xs.flatMap e)
section
variable {α : Type} {e : α → List Value} {z : Nat} {T : TypeId} {w w' : World} {base : Nat} {v : Value} {xs : List α}
theorem Own.nil : Own e z T w base (.slice none 0 0) ([] : List α) := ⟨⟨by simp, .inl ⟨rfl, rfl⟩⟩⟩
theorem Own.made0 (hb : base ≤ w.heap.size) : Own e z T (w.alloc (.cells #[] T)) base (.slice (some ⟨w.heap.size, 0, none⟩) 0 0) ([] : List α) :=
  ⟨⟨by simp, .inr ⟨w.heap.size, 0, #[], rfl, hb, heap_alloc_new w _, Nat.le_refl _, by simp [maxLen], by simp, by simp⟩⟩⟩
theorem Own.grown (h : Own e z T w base v xs) {row : Option Nat} (hg : w.grownBy w' row) (hr : v.ownBlock = none ∨ v.ownBlock ≠ row) : Own e z T w' base v xs := ⟨h.row.kept hg hr⟩
theorem grown_of_below (h : Below w.heap.size w w') (row : Option Nat) : w.grownBy w' row := ⟨h.os, h.tape, h.output, h.size, fun i hi _ => h.block i hi⟩
theorem Own.below (h : Own e z T w base v xs) (hb : Below w.heap.size w w') : Own e z T w' base v xs := h.grown (grown_of_below hb none) (by cases v.ownBlock <;> simp)
theorem Own.alloc (h : Own e z T w base v xs) (o : Obj) : Own e z T (w.alloc o) base v xs := h.below (b_alloc (Below.refl _ _) o)
theorem Own.drewN (h : Own e z T w base v xs) (n : Nat) : Own e z T (w.drewN n) base v xs := h.below (b_drewN (Below.refl _ _) n)
theorem Own.setOld (h : Own e z T w base v xs) {p : Addr} (hp : p.block < base) (u : Value) : Own e z T (w.setCell p u) base v xs := ⟨ownsRow_setCell_below h.row hp u⟩
theorem Own.lower (h : Own e z T w base v xs) {b : Nat} (hb : b ≤ base) : Own e z T w b v xs := by
  refine ⟨h.row.1, ?_⟩
  rcases h.row.2 with h2 | ⟨g, cap, cur, hv, hg, r⟩
  · exact .inl h2
  · exact .inr ⟨g, cap, cur, hv, by omega, r⟩
theorem Own.base_le (h : Own e z T w base v xs) (k : Nat) (hk : v.ownBlock = some k) : base ≤ k := by
  rcases h.row.2 with ⟨rfl, _⟩ | ⟨g, cap, cur, rfl, hb, _⟩
  · simp [Value.ownBlock] at hk
  · have : g = k := by simpa [Value.ownBlock] using hk
    omega
theorem Own.apart (h : Own e z T w base v xs) {g : Nat} (hg : g < base) : v.ownBlock ≠ some g := fun e => by have := h.base_le g e; omega
theorem Own.lt (h : Own e z T w base v xs) (k : Nat) (hk : v.ownBlock = some k) : k < w.heap.size := by
  rcases h.row.2 with ⟨rfl, _⟩ | ⟨g, cap, cur, rfl, hb, hh, _⟩
  · simp [Value.ownBlock] at hk
  · have : g = k := by simpa [Value.ownBlock] using hk
    subst this
    exact (Array.getElem?_eq_some_iff.1 hh).1
/-- The frame of an append. -/
theorem Own.frame {W : World} (h : Own e z T w base v xs) (hB : Below W.heap.size W w) (hb : W.heap.size ≤ base) (hg : w.grownBy w' v.ownBlock) : Below W.heap.size W w' :=
  hB.grown hg hB.size fun k hk => Nat.le_trans hb (h.base_le k hk)
theorem flat_get (he : ∀ x, (e x).length = z) (l : List α) : ∀ j x, l[j]? = some x → ∀ (i : Nat) u, (e x)[i]? = some u → (l.flatMap e)[j * z + i]? = some u := by
  induction l with
  | nil => intro j x h; simp at h
  | cons a l ih =>
    intro j x h i u hu
    have hi : i < z := by rw [← he x]; exact (List.getElem?_eq_some_iff.1 hu).1
    rw [List.flatMap_cons]
    cases j with
    | zero =>
      have : a = x := by simpa using h
      subst this
      rw [Nat.zero_mul, Nat.zero_add, List.getElem?_append_left (by rw [he]; exact hi)]
      exact hu
    | succ j =>
      rw [List.getElem?_append_right (by rw [he, Nat.add_mul]; omega), he, show (j + 1) * z + i - z = j * z + i by rw [Nat.add_mul]; omega]
      exact ih j x (by simpa using h) i u hu
/-- .. and it can be read. -/
theorem Own.rd (h : Own e z T w base v xs) (he : ∀ x, (e x).length = z) : ∃ A c, v = .slice A xs.length c ∧ Rd e z w A xs.length xs := by
  rcases h.row.2 with ⟨rfl, h0⟩ | ⟨g, cap, cur, rfl, hb, hh, hc, hm, hs, ht⟩
  · have : xs = [] := List.eq_nil_of_length_eq_zero h0
    subst this
    exact ⟨none, 0, rfl, Rd.nil⟩
  · refine ⟨some ⟨g, 0, none⟩, cap, rfl, rfl, by simp only [maxLen] at hm; omega, fun hn => ⟨_, rfl, (Array.getElem?_eq_some_iff.1 hh).1, fun j x hj i u hu => ?_⟩⟩
    have h1 := flat_get he xs j x hj i u hu
    rw [← ht, List.getElem?_take] at h1
    split at h1
    · have ha : (⟨g, 0, none⟩ : Addr).add (j * z + i) = ⟨g, j * z + i, none⟩ := by unfold Addr.add; split <;> simp_all
      rw [ha, cell_of_row w g _ cur T (0, 0) hh]
      simpa using h1
    · cases h1
end
theorem new_cells (w : World) (T : TypeId) (arr : Array Value) (l : List Value) (h : arr = l.toArray) : ∀ (i : Nat) u, l[i]? = some u → (w.alloc (.cells arr T)).cell? ((⟨w.heap.size, 0, none⟩ : Addr).add i) = some u := by
  subst h
  intro i u hu
  have ha : (⟨w.heap.size, 0, none⟩ : Addr).add i = ⟨w.heap.size, i, none⟩ := by unfold Addr.add; split <;> simp_all
  rw [ha, Blk.cell (Blk.new w T l.toArray)]
  simpa using hu
/-- What a program's tables say of an element type. -/
structure Elem (P : Program) (t T : TypeId) (z bytes : Nat) : Prop where
  und : P.underlying t = some (.slice T)
  inf : ∃ zero, (P.info? T).map (fun i => (i.zero, i.size, i.bytes)) = some (some zero, z, bytes) ∧ zero.cells.size = z
theorem wpList_app {P : Program} {α : Type} {e : α → List Value} {z bytes : Nat} {t T : TypeId} (E : Elem P t T z bytes) (hz : 0 < z) (he : ∀ x, (e x).length = z) (h1 : ∀ x, ∀ u ∈ e x, u.oneCell' = true) {w : World} {ops : Array Oper} {rest : List Oper} {o : Oper} {a : Act} {Q : Exit → Act → World → Prop} (hgd : o.guard = none) (s x : Operand)
    (ho : o.op = .call { callee := .builtin .append, args := #[s, x], argTypes := #[t, t] })
    {base : Nat} {v : Value} {xs : List α} (hs : a.eval s = v) (hown : Own e z T w base v xs)
    (ad : Addr) (c : Nat) (el : α) (hx : a.eval x = .slice (some ad) 1 c) (hnews : ∀ i u, (e el)[i]? = some u → w.cell? (ad.add i) = some u)
    (hbytes : (xs.length + 1) * bytes ≤ 140737488355328) (hbig : xs.length ≤ 140737488355328) (hbase : base ≤ w.heap.size)
    (h : ∀ v' w', Own e z T w' base v' (xs ++ [el]) → w.grownBy w' v.ownBlock → (v'.ownBlock = v.ownBlock ∨ v'.ownBlock = some w.heap.size) → wpList P ops Q rest (a.put o.dst v') w') : wpList P ops Q (o :: rest) a w := by
  obtain ⟨zero, hi, hzs⟩ := E.inf
  obtain ⟨i0, hi0, hz0, hz1, hz2⟩ := info_parts hi
  refine wpList_plain hgd fun K hK => ?_
  obtain ⟨v', w', hrun, g1, g2, _, g4⟩ := run_append_own_at (P := P) w base t o.type T i0 zero z bytes E.und hi0 hz0 hz1 hz2 hzs hz v xs.length (xs.flatMap e) hown.row ad 1 c (e el) (by rw [he]; omega) hnews (h1 el) (by simp only [maxLen]; omega) hbytes hbase
  unfold Oper.wp execOp
  simp only [ho, resolve, invoke, builtin, Sem.run_bind, Sem.run_pure, Result.andThen_ok, List.map_toArray, List.map_cons, List.map_nil, hs, hx, hrun]
  refine hK _ _ (h v' w' ⟨?_⟩ g2 g4)
  rw [List.length_append, List.length_singleton, List.flatMap_append, List.flatMap_singleton]
  exact g1
end Go.Proofs.YtpoejheienohjaaGreatDoor
