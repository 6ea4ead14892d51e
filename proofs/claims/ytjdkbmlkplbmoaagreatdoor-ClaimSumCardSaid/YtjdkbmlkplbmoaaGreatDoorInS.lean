/- Instructions: the struct, its cells. -/
import Derived.Test.YtjdkbmlkplbmoaaGreatDoorPoA
namespace Go.Proofs.YtjdkbmlkplbmoaaGreatDoor
open Go.RowKit
set_option linter.unusedVariables false
set_option linter.unusedSimpArgs false

structure In where
  id : Int
  dealt : Int
  due : Int
  src : ByteArray
  dst : ByteArray
  asset : ByteArray
  q : RT
  pay : RT
  deriving DecidableEq
def In.cs (x : In) : List Value := [.int .i64 x.id, .int .i64 x.dealt, .int .i64 x.due, .string x.src, .string x.dst, .string x.asset, .string x.q.num, .string x.q.den, .string x.pay.num, .string x.pay.den]
def In.v (x : In) : Value := .agg #[.int .i64 x.id, .int .i64 x.dealt, .int .i64 x.due, .string x.src, .string x.dst, .string x.asset, .string x.q.num, .string x.q.den, .string x.pay.num, .string x.pay.den]
theorem In.cs_length (x : In) : (In.cs x).length = 10 := rfl
theorem In.cs_one (x : In) : ∀ u ∈ In.cs x, u.oneCell' = true := by
  intro u hu
  simp only [In.cs, List.mem_cons, List.not_mem_nil, or_false] at hu
  rcases hu with rfl | rfl | rfl | rfl | rfl | rfl | rfl | rfl | rfl | rfl <;> rfl
theorem Tryz.elemIn : Elem Tryz.prog 24 37 10 136 := ⟨Tryz.underlying24, ⟨.agg #[.int .i64 0, .int .i64 0, .int .i64 0, .string ⟨#[]⟩, .string ⟨#[]⟩, .string ⟨#[]⟩, .string ⟨#[]⟩, .string ⟨#[]⟩, .string ⟨#[]⟩, .string ⟨#[]⟩], by kernel_rfl, rfl⟩⟩
/-- Its cells, at hand. -/
structure InAt (w : World) (a : Addr) (a0 : Int) (a1 : Int) (a2 : Int) (a3 : ByteArray) (a4 : ByteArray) (a5 : ByteArray) (a6 : ByteArray) (a7 : ByteArray) (a8 : ByteArray) (a9 : ByteArray) : Prop where
  c0 : w.cell? a = some (.int .i64 a0)
  c1 : w.cell? ⟨a.block, a.off + 1, none⟩ = some (.int .i64 a1)
  c2 : w.cell? ⟨a.block, a.off + 2, none⟩ = some (.int .i64 a2)
  c3 : w.cell? ⟨a.block, a.off + 3, none⟩ = some (.string a3)
  c4 : w.cell? ⟨a.block, a.off + 4, none⟩ = some (.string a4)
  c5 : w.cell? ⟨a.block, a.off + 5, none⟩ = some (.string a5)
  c6 : w.cell? ⟨a.block, a.off + 6, none⟩ = some (.string a6)
  c7 : w.cell? ⟨a.block, a.off + 7, none⟩ = some (.string a7)
  c8 : w.cell? ⟨a.block, a.off + 8, none⟩ = some (.string a8)
  c9 : w.cell? ⟨a.block, a.off + 9, none⟩ = some (.string a9)
  d7 : w.cell? ⟨a.block, a.off + 6 + 1, none⟩ = some (.string a7)
  d9 : w.cell? ⟨a.block, a.off + 8 + 1, none⟩ = some (.string a9)
theorem in_in {w wr : World} {A : Option Addr} {n : Nat} {xs : List In} (h : Rd In.cs 10 w A n xs) (hB : Below w.heap.size w wr) {k : Nat} (hk : k < n) :
    ∃ ad a0 a1 a2 a3 a4 a5 a6 a7 a8 a9, A = some ad ∧ xs[k]? = some ⟨a0, a1, a2, a3, a4, a5, ⟨a6, a7⟩, ⟨a8, a9⟩⟩ ∧ ∀ w1, Below wr.heap.size wr w1 → InAt w1 (ad.add (k * 10)) a0 a1 a2 a3 a4 a5 a6 a7 a8 a9 := by
  obtain ⟨ad, x, hA, hl, hx, hc⟩ := (h.below hB).at_ hk
  obtain ⟨a0, a1, a2, a3, a4, a5, ⟨a6, a7⟩, ⟨a8, a9⟩⟩ := x
  refine ⟨ad, a0, a1, a2, a3, a4, a5, a6, a7, a8, a9, hA, hx, fun w1 h1 => ?_⟩
  have g : ∀ i u, (In.cs ⟨a0, a1, a2, a3, a4, a5, ⟨a6, a7⟩, ⟨a8, a9⟩⟩)[i]? = some u → w1.cell? (ad.add (k * 10 + i)) = some u := fun i u hu => (h1.cell (by rw [add_block]; exact hl)).trans (hc i u hu)
  have g1 : w1.cell? ⟨(ad.add (k * 10)).block, (ad.add (k * 10)).off + 1, none⟩ = some (.int .i64 a1) := by rw [← add_field _ _ 1 (by omega)]; exact g 1 _ rfl
  have g2 : w1.cell? ⟨(ad.add (k * 10)).block, (ad.add (k * 10)).off + 2, none⟩ = some (.int .i64 a2) := by rw [← add_field _ _ 2 (by omega)]; exact g 2 _ rfl
  have g3 : w1.cell? ⟨(ad.add (k * 10)).block, (ad.add (k * 10)).off + 3, none⟩ = some (.string a3) := by rw [← add_field _ _ 3 (by omega)]; exact g 3 _ rfl
  have g4 : w1.cell? ⟨(ad.add (k * 10)).block, (ad.add (k * 10)).off + 4, none⟩ = some (.string a4) := by rw [← add_field _ _ 4 (by omega)]; exact g 4 _ rfl
  have g5 : w1.cell? ⟨(ad.add (k * 10)).block, (ad.add (k * 10)).off + 5, none⟩ = some (.string a5) := by rw [← add_field _ _ 5 (by omega)]; exact g 5 _ rfl
  have g6 : w1.cell? ⟨(ad.add (k * 10)).block, (ad.add (k * 10)).off + 6, none⟩ = some (.string a6) := by rw [← add_field _ _ 6 (by omega)]; exact g 6 _ rfl
  have g7 : w1.cell? ⟨(ad.add (k * 10)).block, (ad.add (k * 10)).off + 7, none⟩ = some (.string a7) := by rw [← add_field _ _ 7 (by omega)]; exact g 7 _ rfl
  have g8 : w1.cell? ⟨(ad.add (k * 10)).block, (ad.add (k * 10)).off + 8, none⟩ = some (.string a8) := by rw [← add_field _ _ 8 (by omega)]; exact g 8 _ rfl
  have g9 : w1.cell? ⟨(ad.add (k * 10)).block, (ad.add (k * 10)).off + 9, none⟩ = some (.string a9) := by rw [← add_field _ _ 9 (by omega)]; exact g 9 _ rfl
  exact ⟨g 0 _ rfl, g1, g2, g3, g4, g5, g6, g7, g8, g9, g7, g9⟩
/-- Its cells, in a block of its own. -/
structure InBx (w : World) (g : Nat) (a0 : Int) (a1 : Int) (a2 : Int) (a3 : ByteArray) (a4 : ByteArray) (a5 : ByteArray) (a6 : ByteArray) (a7 : ByteArray) (a8 : ByteArray) (a9 : ByteArray) : Prop where
  c0 : w.cell? ⟨g, 0, none⟩ = some (.int .i64 a0)
  c1 : w.cell? ⟨g, 1, none⟩ = some (.int .i64 a1)
  c2 : w.cell? ⟨g, 2, none⟩ = some (.int .i64 a2)
  c3 : w.cell? ⟨g, 3, none⟩ = some (.string a3)
  c4 : w.cell? ⟨g, 4, none⟩ = some (.string a4)
  c5 : w.cell? ⟨g, 5, none⟩ = some (.string a5)
  c6 : w.cell? ⟨g, 6, none⟩ = some (.string a6)
  c7 : w.cell? ⟨g, 7, none⟩ = some (.string a7)
  c8 : w.cell? ⟨g, 8, none⟩ = some (.string a8)
  c9 : w.cell? ⟨g, 9, none⟩ = some (.string a9)
theorem in_bx {w : World} {g : Nat} {a0 : Int} {a1 : Int} {a2 : Int} {a3 : ByteArray} {a4 : ByteArray} {a5 : ByteArray} {a6 : ByteArray} {a7 : ByteArray} {a8 : ByteArray} {a9 : ByteArray} (h : Blk w g 37 #[.int .i64 a0, .int .i64 a1, .int .i64 a2, .string a3, .string a4, .string a5, .string a6, .string a7, .string a8, .string a9]) : InBx w g a0 a1 a2 a3 a4 a5 a6 a7 a8 a9 :=
  ⟨h.cell 0, h.cell 1, h.cell 2, h.cell 3, h.cell 4, h.cell 5, h.cell 6, h.cell 7, h.cell 8, h.cell 9⟩
theorem eqIn (d : Nat) (w : World) (x0 y0 : Int) (x1 y1 : Int) (x2 y2 : Int) (x3 y3 : ByteArray) (x4 y4 : ByteArray) (x5 y5 : ByteArray) (x6 y6 : ByteArray) (x7 y7 : ByteArray) (x8 y8 : ByteArray) (x9 y9 : ByteArray) :
    (Op.equalIn (d + 3) 37 (.agg #[.int .i64 x0, .int .i64 x1, .int .i64 x2, .string x3, .string x4, .string x5, .string x6, .string x7, .string x8, .string x9]) (.agg #[.int .i64 y0, .int .i64 y1, .int .i64 y2, .string y3, .string y4, .string y5, .string y6, .string y7, .string y8, .string y9])).run Tryz.prog w = .ok (x0 == y0 && (x1 == y1 && (x2 == y2 && (x3.toList == y3.toList && (x4.toList == y4.toList && (x5.toList == y5.toList && ((x6.toList == y6.toList && (x7.toList == y7.toList)) && ((x8.toList == y8.toList && (x9.toList == y9.toList)))))))))) w := by
  refine eq_of Tryz.underlying37 (by kernel_rfl) ?_
  refine eq_cons (by rfl) (by go_simp; rfl) (by go_simp; rfl) (by go_simp) ?_
  refine eq_cons (by rfl) (by go_simp; rfl) (by go_simp; rfl) (by go_simp) ?_
  refine eq_cons (by rfl) (by go_simp; rfl) (by go_simp; rfl) (by go_simp) ?_
  refine eq_cons (by rfl) (by go_simp; rfl) (by go_simp; rfl) (by go_simp) ?_
  refine eq_cons (by rfl) (by go_simp; rfl) (by go_simp; rfl) (by go_simp) ?_
  refine eq_cons (by rfl) (by go_simp; rfl) (by go_simp; rfl) (by go_simp) ?_
  refine eq_cons (by rfl) (by go_simp) (by go_simp) (eqRat (d + 0) w _ _ _ _) ?_
  exact eq_last (by rfl) (by go_simp) (by go_simp) (eqRat (d + 0) w _ _ _ _)
theorem in_beq (x0 y0 : Int) (x1 y1 : Int) (x2 y2 : Int) (x3 y3 : ByteArray) (x4 y4 : ByteArray) (x5 y5 : ByteArray) (x6 y6 : ByteArray) (x7 y7 : ByteArray) (x8 y8 : ByteArray) (x9 y9 : ByteArray) : (x0 == y0 && (x1 == y1 && (x2 == y2 && (x3.toList == y3.toList && (x4.toList == y4.toList && (x5.toList == y5.toList && ((x6.toList == y6.toList && (x7.toList == y7.toList)) && ((x8.toList == y8.toList && (x9.toList == y9.toList)))))))))) = decide ((⟨x0, x1, x2, x3, x4, x5, ⟨x6, x7⟩, ⟨x8, x9⟩⟩ : In) = ⟨y0, y1, y2, y3, y4, y5, ⟨y6, y7⟩, ⟨y8, y9⟩⟩) := by
  rw [rt_beq, rt_beq, Bool.eq_iff_iff]
  simp only [Bool.and_eq_true, beq_iff_eq, decide_eq_true_eq, In.mk.injEq, s_eq]
end Go.Proofs.YtjdkbmlkplbmoaaGreatDoor
