/- Parts and actions: the structs, their cells. -/
import Derived.Test.YtjdofncognaaoaaGreatDoorFixC
namespace Go.Proofs.YtjdofncognaaoaaGreatDoor
open Go.RowKit
set_option linter.unusedVariables false
set_option linter.unusedSimpArgs false

structure Pt where
  asset : ByteArray
  ratio : RT
  deriving DecidableEq
def Pt.cs (x : Pt) : List Value := [.string x.asset, .string x.ratio.num, .string x.ratio.den]
def Pt.v (x : Pt) : Value := .agg #[.string x.asset, .string x.ratio.num, .string x.ratio.den]
theorem Pt.cs_length (x : Pt) : (Pt.cs x).length = 3 := rfl
theorem Pt.cs_one (x : Pt) : ∀ u ∈ Pt.cs x, u.oneCell' = true := by
  intro u hu
  simp only [Pt.cs, List.mem_cons, List.not_mem_nil, or_false] at hu
  rcases hu with rfl | rfl | rfl <;> rfl
/-- Its cells, at hand. -/
structure PtAt (w : World) (a : Addr) (a0 : ByteArray) (a1 : ByteArray) (a2 : ByteArray) : Prop where
  c0 : w.cell? a = some (.string a0)
  c1 : w.cell? ⟨a.block, a.off + 1, none⟩ = some (.string a1)
  c2 : w.cell? ⟨a.block, a.off + 2, none⟩ = some (.string a2)
  d2 : w.cell? ⟨a.block, a.off + 1 + 1, none⟩ = some (.string a2)
theorem pt_in {w wr : World} {A : Option Addr} {n : Nat} {xs : List Pt} (h : Rd Pt.cs 3 w A n xs) (hB : Below w.heap.size w wr) {k : Nat} (hk : k < n) :
    ∃ ad a0 a1 a2, A = some ad ∧ xs[k]? = some ⟨a0, ⟨a1, a2⟩⟩ ∧ ∀ w1, Below wr.heap.size wr w1 → PtAt w1 (ad.add (k * 3)) a0 a1 a2 := by
  obtain ⟨ad, x, hA, hl, hx, hc⟩ := (h.below hB).at_ hk
  obtain ⟨a0, ⟨a1, a2⟩⟩ := x
  refine ⟨ad, a0, a1, a2, hA, hx, fun w1 h1 => ?_⟩
  have g : ∀ i u, (Pt.cs ⟨a0, ⟨a1, a2⟩⟩)[i]? = some u → w1.cell? (ad.add (k * 3 + i)) = some u := fun i u hu => (h1.cell (by rw [add_block]; exact hl)).trans (hc i u hu)
  have g1 : w1.cell? ⟨(ad.add (k * 3)).block, (ad.add (k * 3)).off + 1, none⟩ = some (.string a1) := by rw [← add_field _ _ 1 (by omega)]; exact g 1 _ rfl
  have g2 : w1.cell? ⟨(ad.add (k * 3)).block, (ad.add (k * 3)).off + 2, none⟩ = some (.string a2) := by rw [← add_field _ _ 2 (by omega)]; exact g 2 _ rfl
  exact ⟨g 0 _ rfl, g1, g2, g2⟩
/-- Its cells, in a block of its own. -/
structure PtBx (w : World) (g : Nat) (a0 : ByteArray) (a1 : ByteArray) (a2 : ByteArray) : Prop where
  c0 : w.cell? ⟨g, 0, none⟩ = some (.string a0)
  c1 : w.cell? ⟨g, 1, none⟩ = some (.string a1)
  c2 : w.cell? ⟨g, 2, none⟩ = some (.string a2)
theorem pt_beq (x0 y0 : ByteArray) (x1 y1 : ByteArray) (x2 y2 : ByteArray) : (x0.toList == y0.toList && ((x1.toList == y1.toList && (x2.toList == y2.toList)))) = decide ((⟨x0, ⟨x1, x2⟩⟩ : Pt) = ⟨y0, ⟨y1, y2⟩⟩) := by
  rw [rt_beq, Bool.eq_iff_iff]
  simp only [Bool.and_eq_true, beq_iff_eq, decide_eq_true_eq, Pt.mk.injEq, s_eq]
structure Ac where
  name : ByteArray
  kind : Int
  asset : ByteArray
  other : ByteArray
  ratio : RT
  cash : RT
  ex : Int
  rcd : Int
  pay : Int
  deriving DecidableEq
def Ac.cs (x : Ac) : List Value := [.string x.name, .int .i64 x.kind, .string x.asset, .string x.other, .string x.ratio.num, .string x.ratio.den, .string x.cash.num, .string x.cash.den, .int .i64 x.ex, .int .i64 x.rcd, .int .i64 x.pay]
def Ac.v (x : Ac) : Value := .agg #[.string x.name, .int .i64 x.kind, .string x.asset, .string x.other, .string x.ratio.num, .string x.ratio.den, .string x.cash.num, .string x.cash.den, .int .i64 x.ex, .int .i64 x.rcd, .int .i64 x.pay]
theorem Ac.cs_length (x : Ac) : (Ac.cs x).length = 11 := rfl
theorem Ac.cs_one (x : Ac) : ∀ u ∈ Ac.cs x, u.oneCell' = true := by
  intro u hu
  simp only [Ac.cs, List.mem_cons, List.not_mem_nil, or_false] at hu
  rcases hu with rfl | rfl | rfl | rfl | rfl | rfl | rfl | rfl | rfl | rfl | rfl <;> rfl
/-- Its cells, at hand. -/
structure AcAt (w : World) (a : Addr) (a0 : ByteArray) (a1 : Int) (a2 : ByteArray) (a3 : ByteArray) (a4 : ByteArray) (a5 : ByteArray) (a6 : ByteArray) (a7 : ByteArray) (a8 : Int) (a9 : Int) (a10 : Int) : Prop where
  c0 : w.cell? a = some (.string a0)
  c1 : w.cell? ⟨a.block, a.off + 1, none⟩ = some (.int .i64 a1)
  c2 : w.cell? ⟨a.block, a.off + 2, none⟩ = some (.string a2)
  c3 : w.cell? ⟨a.block, a.off + 3, none⟩ = some (.string a3)
  c4 : w.cell? ⟨a.block, a.off + 4, none⟩ = some (.string a4)
  c5 : w.cell? ⟨a.block, a.off + 5, none⟩ = some (.string a5)
  c6 : w.cell? ⟨a.block, a.off + 6, none⟩ = some (.string a6)
  c7 : w.cell? ⟨a.block, a.off + 7, none⟩ = some (.string a7)
  c8 : w.cell? ⟨a.block, a.off + 8, none⟩ = some (.int .i64 a8)
  c9 : w.cell? ⟨a.block, a.off + 9, none⟩ = some (.int .i64 a9)
  c10 : w.cell? ⟨a.block, a.off + 10, none⟩ = some (.int .i64 a10)
  d5 : w.cell? ⟨a.block, a.off + 4 + 1, none⟩ = some (.string a5)
  d7 : w.cell? ⟨a.block, a.off + 6 + 1, none⟩ = some (.string a7)
theorem ac_in {w wr : World} {A : Option Addr} {n : Nat} {xs : List Ac} (h : Rd Ac.cs 11 w A n xs) (hB : Below w.heap.size w wr) {k : Nat} (hk : k < n) :
    ∃ ad a0 a1 a2 a3 a4 a5 a6 a7 a8 a9 a10, A = some ad ∧ xs[k]? = some ⟨a0, a1, a2, a3, ⟨a4, a5⟩, ⟨a6, a7⟩, a8, a9, a10⟩ ∧ ∀ w1, Below wr.heap.size wr w1 → AcAt w1 (ad.add (k * 11)) a0 a1 a2 a3 a4 a5 a6 a7 a8 a9 a10 := by
  obtain ⟨ad, x, hA, hl, hx, hc⟩ := (h.below hB).at_ hk
  obtain ⟨a0, a1, a2, a3, ⟨a4, a5⟩, ⟨a6, a7⟩, a8, a9, a10⟩ := x
  refine ⟨ad, a0, a1, a2, a3, a4, a5, a6, a7, a8, a9, a10, hA, hx, fun w1 h1 => ?_⟩
  have g : ∀ i u, (Ac.cs ⟨a0, a1, a2, a3, ⟨a4, a5⟩, ⟨a6, a7⟩, a8, a9, a10⟩)[i]? = some u → w1.cell? (ad.add (k * 11 + i)) = some u := fun i u hu => (h1.cell (by rw [add_block]; exact hl)).trans (hc i u hu)
  have g1 : w1.cell? ⟨(ad.add (k * 11)).block, (ad.add (k * 11)).off + 1, none⟩ = some (.int .i64 a1) := by rw [← add_field _ _ 1 (by omega)]; exact g 1 _ rfl
  have g2 : w1.cell? ⟨(ad.add (k * 11)).block, (ad.add (k * 11)).off + 2, none⟩ = some (.string a2) := by rw [← add_field _ _ 2 (by omega)]; exact g 2 _ rfl
  have g3 : w1.cell? ⟨(ad.add (k * 11)).block, (ad.add (k * 11)).off + 3, none⟩ = some (.string a3) := by rw [← add_field _ _ 3 (by omega)]; exact g 3 _ rfl
  have g4 : w1.cell? ⟨(ad.add (k * 11)).block, (ad.add (k * 11)).off + 4, none⟩ = some (.string a4) := by rw [← add_field _ _ 4 (by omega)]; exact g 4 _ rfl
  have g5 : w1.cell? ⟨(ad.add (k * 11)).block, (ad.add (k * 11)).off + 5, none⟩ = some (.string a5) := by rw [← add_field _ _ 5 (by omega)]; exact g 5 _ rfl
  have g6 : w1.cell? ⟨(ad.add (k * 11)).block, (ad.add (k * 11)).off + 6, none⟩ = some (.string a6) := by rw [← add_field _ _ 6 (by omega)]; exact g 6 _ rfl
  have g7 : w1.cell? ⟨(ad.add (k * 11)).block, (ad.add (k * 11)).off + 7, none⟩ = some (.string a7) := by rw [← add_field _ _ 7 (by omega)]; exact g 7 _ rfl
  have g8 : w1.cell? ⟨(ad.add (k * 11)).block, (ad.add (k * 11)).off + 8, none⟩ = some (.int .i64 a8) := by rw [← add_field _ _ 8 (by omega)]; exact g 8 _ rfl
  have g9 : w1.cell? ⟨(ad.add (k * 11)).block, (ad.add (k * 11)).off + 9, none⟩ = some (.int .i64 a9) := by rw [← add_field _ _ 9 (by omega)]; exact g 9 _ rfl
  have g10 : w1.cell? ⟨(ad.add (k * 11)).block, (ad.add (k * 11)).off + 10, none⟩ = some (.int .i64 a10) := by rw [← add_field _ _ 10 (by omega)]; exact g 10 _ rfl
  exact ⟨g 0 _ rfl, g1, g2, g3, g4, g5, g6, g7, g8, g9, g10, g5, g7⟩
/-- Its cells, in a block of its own. -/
structure AcBx (w : World) (g : Nat) (a0 : ByteArray) (a1 : Int) (a2 : ByteArray) (a3 : ByteArray) (a4 : ByteArray) (a5 : ByteArray) (a6 : ByteArray) (a7 : ByteArray) (a8 : Int) (a9 : Int) (a10 : Int) : Prop where
  c0 : w.cell? ⟨g, 0, none⟩ = some (.string a0)
  c1 : w.cell? ⟨g, 1, none⟩ = some (.int .i64 a1)
  c2 : w.cell? ⟨g, 2, none⟩ = some (.string a2)
  c3 : w.cell? ⟨g, 3, none⟩ = some (.string a3)
  c4 : w.cell? ⟨g, 4, none⟩ = some (.string a4)
  c5 : w.cell? ⟨g, 5, none⟩ = some (.string a5)
  c6 : w.cell? ⟨g, 6, none⟩ = some (.string a6)
  c7 : w.cell? ⟨g, 7, none⟩ = some (.string a7)
  c8 : w.cell? ⟨g, 8, none⟩ = some (.int .i64 a8)
  c9 : w.cell? ⟨g, 9, none⟩ = some (.int .i64 a9)
  c10 : w.cell? ⟨g, 10, none⟩ = some (.int .i64 a10)
theorem ac_beq (x0 y0 : ByteArray) (x1 y1 : Int) (x2 y2 : ByteArray) (x3 y3 : ByteArray) (x4 y4 : ByteArray) (x5 y5 : ByteArray) (x6 y6 : ByteArray) (x7 y7 : ByteArray) (x8 y8 : Int) (x9 y9 : Int) (x10 y10 : Int) : (x0.toList == y0.toList && (x1 == y1 && (x2.toList == y2.toList && (x3.toList == y3.toList && ((x4.toList == y4.toList && (x5.toList == y5.toList)) && ((x6.toList == y6.toList && (x7.toList == y7.toList)) && (x8 == y8 && (x9 == y9 && (x10 == y10))))))))) = decide ((⟨x0, x1, x2, x3, ⟨x4, x5⟩, ⟨x6, x7⟩, x8, x9, x10⟩ : Ac) = ⟨y0, y1, y2, y3, ⟨y4, y5⟩, ⟨y6, y7⟩, y8, y9, y10⟩) := by
  rw [rt_beq, rt_beq, Bool.eq_iff_iff]
  simp only [Bool.and_eq_true, beq_iff_eq, decide_eq_true_eq, Ac.mk.injEq, s_eq]
end Go.Proofs.YtjdofncognaaoaaGreatDoor
