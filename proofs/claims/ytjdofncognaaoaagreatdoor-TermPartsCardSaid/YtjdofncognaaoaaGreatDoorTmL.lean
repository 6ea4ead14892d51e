/- Terms: a node's cells. -/
import Derived.Test.YtjdofncognaaoaaGreatDoorTmA
namespace Go.Proofs.YtjdofncognaaoaaGreatDoor
open Go.RowKit
set_option linter.unusedVariables false
set_option linter.unusedSimpArgs false

def Nd.v (x : Nd) : Value := .agg #[.int .i64 x.op, .string x.num.num, .string x.num.den, .string x.asset, .int .i64 x.a, .int .i64 x.b]
theorem Nd.cs_length (x : Nd) : (Nd.cs x).length = 6 := rfl
theorem Nd.cs_one (x : Nd) : ∀ u ∈ Nd.cs x, u.oneCell' = true := by
  intro u hu
  simp only [Nd.cs, List.mem_cons, List.not_mem_nil, or_false] at hu
  rcases hu with rfl | rfl | rfl | rfl | rfl | rfl <;> rfl
theorem Tryz.elemNd : Elem Tryz.prog 23 41 6 72 := ⟨Tryz.underlying23, ⟨.agg #[.int .i64 0, .string ⟨#[]⟩, .string ⟨#[]⟩, .string ⟨#[]⟩, .int .i64 0, .int .i64 0], by kernel_rfl, rfl⟩⟩
/-- Its cells, at hand. -/
structure NdAt (w : World) (a : Addr) (a0 : Int) (a1 : ByteArray) (a2 : ByteArray) (a3 : ByteArray) (a4 : Int) (a5 : Int) : Prop where
  c0 : w.cell? a = some (.int .i64 a0)
  c1 : w.cell? ⟨a.block, a.off + 1, none⟩ = some (.string a1)
  c2 : w.cell? ⟨a.block, a.off + 2, none⟩ = some (.string a2)
  c3 : w.cell? ⟨a.block, a.off + 3, none⟩ = some (.string a3)
  c4 : w.cell? ⟨a.block, a.off + 4, none⟩ = some (.int .i64 a4)
  c5 : w.cell? ⟨a.block, a.off + 5, none⟩ = some (.int .i64 a5)
  d2 : w.cell? ⟨a.block, a.off + 1 + 1, none⟩ = some (.string a2)
theorem nd_in {w wr : World} {A : Option Addr} {n : Nat} {xs : List Nd} (h : Rd Nd.cs 6 w A n xs) (hB : Below w.heap.size w wr) {k : Nat} (hk : k < n) :
    ∃ ad a0 a1 a2 a3 a4 a5, A = some ad ∧ xs[k]? = some ⟨a0, ⟨a1, a2⟩, a3, a4, a5⟩ ∧ ∀ w1, Below wr.heap.size wr w1 → NdAt w1 (ad.add (k * 6)) a0 a1 a2 a3 a4 a5 := by
  obtain ⟨ad, x, hA, hl, hx, hc⟩ := (h.below hB).at_ hk
  obtain ⟨a0, ⟨a1, a2⟩, a3, a4, a5⟩ := x
  refine ⟨ad, a0, a1, a2, a3, a4, a5, hA, hx, fun w1 h1 => ?_⟩
  have g : ∀ i u, (Nd.cs ⟨a0, ⟨a1, a2⟩, a3, a4, a5⟩)[i]? = some u → w1.cell? (ad.add (k * 6 + i)) = some u := fun i u hu => (h1.cell (by rw [add_block]; exact hl)).trans (hc i u hu)
  have g1 : w1.cell? ⟨(ad.add (k * 6)).block, (ad.add (k * 6)).off + 1, none⟩ = some (.string a1) := by rw [← add_field _ _ 1 (by omega)]; exact g 1 _ rfl
  have g2 : w1.cell? ⟨(ad.add (k * 6)).block, (ad.add (k * 6)).off + 2, none⟩ = some (.string a2) := by rw [← add_field _ _ 2 (by omega)]; exact g 2 _ rfl
  have g3 : w1.cell? ⟨(ad.add (k * 6)).block, (ad.add (k * 6)).off + 3, none⟩ = some (.string a3) := by rw [← add_field _ _ 3 (by omega)]; exact g 3 _ rfl
  have g4 : w1.cell? ⟨(ad.add (k * 6)).block, (ad.add (k * 6)).off + 4, none⟩ = some (.int .i64 a4) := by rw [← add_field _ _ 4 (by omega)]; exact g 4 _ rfl
  have g5 : w1.cell? ⟨(ad.add (k * 6)).block, (ad.add (k * 6)).off + 5, none⟩ = some (.int .i64 a5) := by rw [← add_field _ _ 5 (by omega)]; exact g 5 _ rfl
  exact ⟨g 0 _ rfl, g1, g2, g3, g4, g5, g2⟩
/-- Its cells, in a block of its own. -/
structure NdBx (w : World) (g : Nat) (a0 : Int) (a1 : ByteArray) (a2 : ByteArray) (a3 : ByteArray) (a4 : Int) (a5 : Int) : Prop where
  c0 : w.cell? ⟨g, 0, none⟩ = some (.int .i64 a0)
  c1 : w.cell? ⟨g, 1, none⟩ = some (.string a1)
  c2 : w.cell? ⟨g, 2, none⟩ = some (.string a2)
  c3 : w.cell? ⟨g, 3, none⟩ = some (.string a3)
  c4 : w.cell? ⟨g, 4, none⟩ = some (.int .i64 a4)
  c5 : w.cell? ⟨g, 5, none⟩ = some (.int .i64 a5)
theorem nd_bx {w : World} {g : Nat} {a0 : Int} {a1 : ByteArray} {a2 : ByteArray} {a3 : ByteArray} {a4 : Int} {a5 : Int} (h : Blk w g 41 #[.int .i64 a0, .string a1, .string a2, .string a3, .int .i64 a4, .int .i64 a5]) : NdBx w g a0 a1 a2 a3 a4 a5 :=
  ⟨h.cell 0, h.cell 1, h.cell 2, h.cell 3, h.cell 4, h.cell 5⟩
theorem eqNd (d : Nat) (w : World) (x0 y0 : Int) (x1 y1 : ByteArray) (x2 y2 : ByteArray) (x3 y3 : ByteArray) (x4 y4 : Int) (x5 y5 : Int) :
    (Op.equalIn (d + 3) 41 (.agg #[.int .i64 x0, .string x1, .string x2, .string x3, .int .i64 x4, .int .i64 x5]) (.agg #[.int .i64 y0, .string y1, .string y2, .string y3, .int .i64 y4, .int .i64 y5])).run Tryz.prog w = .ok (x0 == y0 && ((x1.toList == y1.toList && (x2.toList == y2.toList)) && (x3.toList == y3.toList && (x4 == y4 && (x5 == y5))))) w := by
  refine eq_of Tryz.underlying41 (by kernel_rfl) ?_
  refine eq_cons (by rfl) (by go_simp; rfl) (by go_simp; rfl) (by go_simp) ?_
  refine eq_cons (by rfl) (by go_simp) (by go_simp) (eqRat (d + 0) w _ _ _ _) ?_
  refine eq_cons (by rfl) (by go_simp; rfl) (by go_simp; rfl) (by go_simp) ?_
  refine eq_cons (by rfl) (by go_simp; rfl) (by go_simp; rfl) (by go_simp) ?_
  exact eq_last (by rfl) (by go_simp; rfl) (by go_simp; rfl) (by go_simp)
theorem nd_beq (x0 y0 : Int) (x1 y1 : ByteArray) (x2 y2 : ByteArray) (x3 y3 : ByteArray) (x4 y4 : Int) (x5 y5 : Int) : (x0 == y0 && ((x1.toList == y1.toList && (x2.toList == y2.toList)) && (x3.toList == y3.toList && (x4 == y4 && (x5 == y5))))) = decide ((⟨x0, ⟨x1, x2⟩, x3, x4, x5⟩ : Nd) = ⟨y0, ⟨y1, y2⟩, y3, y4, y5⟩) := by
  rw [rt_beq, Bool.eq_iff_iff]
  simp only [Bool.and_eq_true, beq_iff_eq, decide_eq_true_eq, Nd.mk.injEq, s_eq]
end Go.Proofs.YtjdofncognaaoaaGreatDoor
