/- Worlds behind calls that make memory; slices of structs that are read: small words for the walks. -/
import Derived.Test.YtpoejheienohjaaGreatDoorProg
import Derived.Test.YtpoejheienohjaaGreatDoorNum
import Derived.WalkKit
import Derived.Below
import Derived.Deep.QuietTactic
import Derived.BigQuiet
import Derived.WalkLawsBesides
import Derived.WalkSpells
import Derived.Lib.Hide
import Derived.Laws.MakeOwn
import Derived.Laws.BytesArg
import Derived.Laws.Rows
import Derived.Laws.IdiomStrings
import Derived.Laws.OwnMore
import Derived.Outline
namespace Go.Proofs.YtpoejheienohjaaGreatDoor
open Go.RowKit
set_option linter.unusedVariables false
set_option linter.unusedSimpArgs false

/-! ### Worlds -/
theorem bcell {W w1 : World} (hb : Below W.heap.size W w1) : (∀ b o, b < W.heap.size → w1.cell? ⟨b, o, none⟩ = W.cell? ⟨b, o, none⟩) ∧ (∀ b o, b < W.heap.size → w1.frozen? ⟨b, o, none⟩ = W.frozen? ⟨b, o, none⟩) :=
  ⟨fun b o h => hb.cell (p := ⟨b, o, none⟩) h, fun b o h => hb.frozen (p := ⟨b, o, none⟩) h⟩
theorem b_drewN {B : Nat} {w W : World} (h : Below B w W) (n : Nat) : Below B w (W.drewN n) := ⟨h.os, h.tape, h.output, h.size, h.block⟩
theorem b_then {w w1 w2 : World} (h : Below w.heap.size w w1) (k : Below w1.heap.size w1 w2) : Below w.heap.size w w2 := h.trans (k.mono h.size)
theorem b_alloc {w W : World} (h : Below w.heap.size w W) (o : Obj) : Below w.heap.size w (W.alloc o) := h.alloc h.size o

theorem b_set {w W : World} (h : Below w.heap.size w W) {p : Addr} (hp : w.heap.size ≤ p.block) (u : Value) : Below w.heap.size w (W.setCell p u) := h.setCell hp u
/-- A world behind w that has w's blocks. -/
structure After (w : World) where
  W : World
  h : Below w.heap.size w W
instance (w : World) : Nonempty (After w) := ⟨⟨w, Below.refl _ _⟩⟩
theorem wp_region_after {P : Program} {id : Nat} {Q : Exit → Act → World → Prop} {a : Act} {w : World} {l : List Oper} (hm : P.follows .mixedOrders = true) (hB : Region.lexB .any l.toArray = true)
    (h : wpQuiet P l.toArray (fun w' => ∃ x : After w, w' = x.W) (fun a' => ∀ w', (∃ x : After w, w' = x.W) → Q .normal a' w') l a) : (Code.region id l.toArray true).wp P Q a w :=
  wp_region_quiet (C := fun w' => ∃ x : After w, w' = x.W) hm hB ⟨⟨w.drewN 1, b_drewN (Below.refl _ _) 1⟩, rfl⟩ (by simpa using h)
theorem Calls.after {P : Program} {f : FuncId} {args : Array Value} {w : World} {x : After w} {v : Value}
    (h : Calls P f args x.W fun e w' => e = .returned v ∧ Below x.W.heap.size x.W w') : Calls P f args x.W fun e w'' => e = .returned v ∧ ∃ y : After w, w'' = y.W :=
  h.mono fun _ w' ⟨he, hb⟩ => ⟨he, ⟨w', b_then x.h hb⟩, rfl⟩
theorem Calls.after_same {P : Program} {f : FuncId} {args : Array Value} {w : World} {x : After w} {v : Value}
    (h : Calls P f args x.W fun e w' => e = .returned v ∧ x.W = w') : Calls P f args x.W fun e w'' => e = .returned v ∧ ∃ y : After w, w'' = y.W :=
  h.mono fun _ w' ⟨he, hb⟩ => ⟨he, x, hb.symm⟩
theorem Calls.after_same_of {P : Program} {f : FuncId} {args : Array Value} {w : World} {x : After w} {v u : Value}
    (h : Calls P f args x.W fun e w' => e = .returned v ∧ x.W = w') (e : v = u) : Calls P f args x.W fun e w'' => e = .returned u ∧ ∃ y : After w, w'' = y.W := e ▸ Calls.after_same h
theorem Calls.after_of {P : Program} {f : FuncId} {args : Array Value} {w : World} {x : After w} {v u : Value}
    (h : Calls P f args x.W fun e w' => e = .returned v ∧ Below x.W.heap.size x.W w') (e : v = u) : Calls P f args x.W fun e w'' => e = .returned u ∧ ∃ y : After w, w'' = y.W := e ▸ Calls.after h
@[go_sem] theorem After.cell_at {w : World} (x : After w) (b o : Nat) (hp : b < w.heap.size) : x.W.cell? ⟨b, o, none⟩ = w.cell? ⟨b, o, none⟩ := x.h.cell (p := ⟨b, o, none⟩) hp
@[go_sem] theorem After.frozen_at {w : World} (x : After w) (b o : Nat) (hp : b < w.heap.size) : x.W.frozen? ⟨b, o, none⟩ = w.frozen? ⟨b, o, none⟩ := x.h.frozen (p := ⟨b, o, none⟩) hp
theorem After.cell {w : World} (x : After w) {p : Addr} (hp : p.block < w.heap.size) : x.W.cell? p = w.cell? p := x.h.cell hp

/-! ### Slices that are read -/
theorem add_block (a : Addr) (n : Nat) : (a.add n).block = a.block := by unfold Addr.add; split <;> rfl
theorem add_add (a : Addr) (i j : Nat) : (a.add i).add j = a.add (i + j) := by
  unfold Addr.add
  by_cases hi : i = 0 <;> by_cases hj : j = 0 <;> simp [hi, hj, Nat.add_assoc]
theorem add_field (a : Addr) (i j : Nat) (hj : j ≠ 0) : a.add (i + j) = ⟨(a.add i).block, (a.add i).off + j, none⟩ := by
  rw [← add_add]
  simp [Addr.add, hj]
/-- The slice '.slice A n c' holds, element by element, the cells 'e x' (each of z cells) of the list xs. -/
structure Rd {α : Type} (e : α → List Value) (z : Nat) (w : World) (A : Option Addr) (n : Nat) (xs : List α) : Prop where
  len : xs.length = n
  big : n ≤ 9223372036854775807
  cells : 0 < n → ∃ ad, A = some ad ∧ ad.block < w.heap.size ∧ ∀ j x, xs[j]? = some x → ∀ i u, (e x)[i]? = some u → w.cell? (ad.add (j * z + i)) = some u
theorem Rd.below {α : Type} {e : α → List Value} {z : Nat} {w w1 : World} {A : Option Addr} {n : Nat} {xs : List α} (h : Rd e z w A n xs) (hb : Below w.heap.size w w1) : Rd e z w1 A n xs :=
  ⟨h.len, h.big, fun hn => by
    obtain ⟨ad, ha, hl, hc⟩ := h.cells hn
    exact ⟨ad, ha, Nat.lt_of_lt_of_le hl hb.size, fun j x hj i u hu => (hb.cell (by rw [add_block]; exact hl)).trans (hc j x hj i u hu)⟩⟩
theorem Rd.at_ {α : Type} {e : α → List Value} {z : Nat} {w : World} {A : Option Addr} {n : Nat} {xs : List α} (h : Rd e z w A n xs) {k : Nat} (hk : k < n) : ∃ ad x, A = some ad ∧ ad.block < w.heap.size ∧ xs[k]? = some x ∧ ∀ i u, (e x)[i]? = some u → w.cell? (ad.add (k * z + i)) = some u := by
  obtain ⟨ad, ha, hl, hc⟩ := h.cells (by omega)
  have hx : xs[k]? = some (xs[k]'(by rw [h.len]; exact hk)) := List.getElem?_eq_getElem _
  exact ⟨ad, _, ha, hl, hx, fun i u hu => hc k _ hx i u hu⟩
theorem Rd.nil {α : Type} {e : α → List Value} {z : Nat} {w : World} {A : Option Addr} : Rd e z w A 0 ([] : List α) := ⟨rfl, by omega, fun h => absurd h (by omega)⟩

/-! ### A block of the call's own that is known whole -/
def Blk (w : World) (g : Nat) (t : TypeId) (cs : Array Value) : Prop := w.heap[g]? = some (.cells cs t (0, 0))
section
variable {w w' : World} {g : Nat} {t : TypeId} {cs : Array Value}
theorem Blk.lt (h : Blk w g t cs) : g < w.heap.size := by
  rcases Nat.lt_or_ge g w.heap.size with hlt | hge
  · exact hlt
  · unfold Blk at h; rw [Array.getElem?_eq_none hge] at h; cases h
theorem Blk.cell (h : Blk w g t cs) (i : Nat) : w.cell? ⟨g, i, none⟩ = cs[i]? := cell_of_row w g i cs t (0, 0) h
theorem Blk.frozen (h : Blk w g t cs) (i : Nat) : w.frozen? ⟨g, i, none⟩ = false := by
  unfold Blk at h
  simp [World.frozen?, h]
theorem Blk.new (w : World) (t : TypeId) (cs : Array Value) : Blk (w.alloc (.cells cs t)) w.heap.size t cs := heap_alloc_new w _
theorem Blk.drewN (h : Blk w g t cs) (n : Nat) : Blk (w.drewN n) g t cs := h
theorem Blk.alloc (h : Blk w g t cs) (o : Obj) : Blk (w.alloc o) g t cs := (Below.heap_alloc w o g h.lt).trans h
theorem Blk.set_ (h : Blk w g t cs) (i : Nat) (u : Value) : Blk (w.setCell ⟨g, i, none⟩ u) g t (cs.setIfInBounds i u) := by
  unfold Blk at h ⊢
  simp [World.setCell, Array.getElem?_modify, h]
theorem Blk.far (h : Blk w g t cs) {p : Addr} (hp : g ≠ p.block) (u : Value) : Blk (w.setCell p u) g t cs := (Below.heap_setCell w p u g hp).trans h
theorem Blk.below (h : Blk w g t cs) (hb : Below w.heap.size w w') : Blk w' g t cs := (hb.block g h.lt).trans h
end
theorem Blk.grown {w w' : World} {g : Nat} {t : TypeId} {cs : Array Value} {row : Option Nat} (h : Blk w g t cs) (hb : w.grownBy w' row) (hg : row ≠ some g) : Blk w' g t cs := (hb.block g h.lt (fun e => hg e.symm)).trans h
theorem Blk.two {w : World} {g : Nat} {t : TypeId} {u v : Value} (h : Blk w g t #[u, v]) : w.cell? ⟨g, 0, none⟩ = some u ∧ w.cell? ⟨g, 1, none⟩ = some v ∧ w.frozen? ⟨g, 0, none⟩ = false ∧ w.frozen? ⟨g, 1, none⟩ = false :=
  ⟨h.cell 0, h.cell 1, h.frozen 0, h.frozen 1⟩
theorem Blk.put2 {w : World} {g : Nat} {t : TypeId} {u v : Value} (h : Blk w g t #[u, v]) (x y : Value) : Blk ((w.setCell ⟨g, 0, none⟩ x).setCell ⟨g, 1, none⟩ y) g t #[x, y] := by
  have := (h.set_ 0 x).set_ 1 y
  simpa using this
theorem Blk.new2 (w : World) (o : Obj) (t : TypeId) (cs : Array Value) : Blk ((w.alloc o).alloc (.cells cs t)) (w.heap.size + 1) t cs := by
  have := Blk.new (w.alloc o) t cs
  simpa using this
/-- The cells of a row of bytes. -/
def bcells (l : List UInt8) : Array Value := (l.map fun c => Value.int .u8 (c.toNat : Int)).toArray
theorem bcells_set (l : List UInt8) (i : Nat) (c : UInt8) {x : Int} (hx : x = (c.toNat : Int)) : (bcells l).setIfInBounds i (.int .u8 x) = bcells (l.set i c) := by
  subst hx
  simp [bcells, List.map_set]
theorem bcells_get (l : List UInt8) (i : Nat) (h : i < l.length) : (bcells l)[i]? = some (.int .u8 ((l[i]).toNat : Int)) := by simp [bcells, h]
theorem bcells_zero (n : Nat) : madeCells #[.int .u8 0] n = bcells (List.replicate n 0) := by
  apply Array.ext'
  simp only [bcells, madeCells, List.map_replicate]
  apply List.ext_getElem
  · simp
  · intro i h1 h2
    simp [Nat.mod_one]
theorem run_string {P : Program} {w : World} {g : Nat} {t src e dst : TypeId} {l : List UInt8} (h : Blk w g t (bcells l)) (hs : P.underlying src = some (.slice e)) (he : P.underlying e = some (.int .u8)) (hd : P.underlying dst = some .string) {n : Nat} (hn : l.length = n) (cap : Nat) :
    (convert src dst (.slice (some ⟨g, 0, none⟩) n cap)).run P w = .ok (.string ⟨l.toArray⟩) w := by
  subst hn
  refine run_convert_bytes_back w src dst e ⟨g, 0, none⟩ cap l hs he hd fun j hj => ?_
  have h1 := h.cell j
  rw [bcells_get l j hj] at h1
  have ha : (⟨g, 0, none⟩ : Addr).add j = ⟨g, j, none⟩ := by unfold Addr.add; split <;> simp_all
  rw [ha]; exact h1

theorem ret_bool {a b : Bool} (h : a = b) : Ending.returned (.bool a) = .returned (.bool b) := by rw [h]
theorem ret_int {k : IntKind} {a b : Int} (h : a = b) : Ending.returned (.int k a) = .returned (.int k b) := by rw [h]
theorem ret_str {a b : ByteArray} (h : a = b) : Ending.returned (.string a) = .returned (.string b) := by rw [h]
end Go.Proofs.YtpoejheienohjaaGreatDoor
