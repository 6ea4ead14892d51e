/- '==' of the program's structs, as one Bool. -/
import Derived.Test.YtpoejheienohjaaGreatDoorNames
import Derived.Laws.StructEq
namespace Go.Proofs.YtpoejheienohjaaGreatDoor
open Go.RowKit
set_option linter.unusedVariables false
set_option linter.unusedSimpArgs false
section
variable {P : Program} {d : Nat} {xs ys : Array Value} {f : Field} {fs : List Field} {a b : Value} {r s : Bool} {w : World}
theorem eq_last (hn : (f.name == "_") = false) (ha : (part f.type xs f.offset).run P w = .ok a w) (hb : (part f.type ys f.offset).run P w = .ok b w) (he : (Op.equalIn d f.type a b).run P w = .ok r w) : (Op.eqFields d xs ys [f]).run P w = .ok r w := by
  have hn' : f.name ≠ "_" := by simpa using hn
  simp only [Op.eqFields, if_pos hn', Sem.run_bind, ha, hb, he, Result.andThen_ok]
  cases r <;> simp
theorem eq_cons (hn : (f.name == "_") = false) (ha : (part f.type xs f.offset).run P w = .ok a w) (hb : (part f.type ys f.offset).run P w = .ok b w) (he : (Op.equalIn d f.type a b).run P w = .ok r w) (hr : (Op.eqFields d xs ys fs).run P w = .ok s w) : (Op.eqFields d xs ys (f :: fs)).run P w = .ok (r && s) w := by
  have hn' : f.name ≠ "_" := by simpa using hn
  rw [Op.eqFields]
  simp only [if_pos hn', Sem.run_bind, ha, hb, he, Result.andThen_ok]
  cases r
  · simp
  · simpa using hr
theorem eq_of {t : TypeId} {fs : Array Field} (hu : P.underlying t = some (.struct fs)) (hp : P.stoodInHeld t = false) (h : (Op.eqFields d xs ys fs.toList).run P w = .ok r w) : (Op.equalIn (d + 1) t (.agg xs) (.agg ys)).run P w = .ok r w := by
  have hf : P.fieldsOf t = fs := by simp [Program.fieldsOf, hu]
  rw [run_equalIn_struct (P := P) w d t xs ys (by rw [hf]; exact hu) hp, hf]
  exact h
end
theorem eqRat (d : Nat) (w : World) (x0 y0 x1 y1 : ByteArray) :
    (Op.equalIn (d + 2) 24 (.agg #[.string x0, .string x1]) (.agg #[.string y0, .string y1])).run Tryz.prog w = .ok (x0.toList == y0.toList && (x1.toList == y1.toList)) w := by
  refine eq_of Tryz.underlying24 (by kernel_rfl) ?_
  refine eq_cons (by rfl) (by go_simp; rfl) (by go_simp; rfl) (by go_simp) ?_
  exact eq_last (by rfl) (by go_simp; rfl) (by go_simp; rfl) (by go_simp)
theorem eqFix (d : Nat) (w : World) (x0 y0 : ByteArray) (x1 y1 : Int) (x2 y2 : ByteArray) (x3 y3 : ByteArray) :
    (Op.equalIn (d + 3) 26 (.agg #[.string x0, .int .i64 x1, .string x2, .string x3]) (.agg #[.string y0, .int .i64 y1, .string y2, .string y3])).run Tryz.prog w = .ok (x0.toList == y0.toList && (x1 == y1 && ((x2.toList == y2.toList && (x3.toList == y3.toList))))) w := by
  refine eq_of Tryz.underlying26 (by kernel_rfl) ?_
  refine eq_cons (by rfl) (by go_simp; rfl) (by go_simp; rfl) (by go_simp) ?_
  refine eq_cons (by rfl) (by go_simp; rfl) (by go_simp; rfl) (by go_simp) ?_
  exact eq_last (by rfl) (by go_simp) (by go_simp) (eqRat (d + 0) w _ _ _ _)
theorem rt_beq (x0 x1 y0 y1 : ByteArray) : (x0.toList == y0.toList && (x1.toList == y1.toList)) = decide ((⟨x0, x1⟩ : RT) = ⟨y0, y1⟩) := by
  rw [Bool.eq_iff_iff]
  simp only [Bool.and_eq_true, beq_iff_eq, decide_eq_true_eq, RT.mk.injEq, s_eq]
theorem fx_beq (x0 x2 x3 y0 y2 y3 : ByteArray) (x1 y1 : Int) : (x0.toList == y0.toList && (x1 == y1 && ((x2.toList == y2.toList && (x3.toList == y3.toList))))) = decide ((⟨x0, x1, ⟨x2, x3⟩⟩ : Fx) = ⟨y0, y1, ⟨y2, y3⟩⟩) := by
  rw [rt_beq, Bool.eq_iff_iff]
  simp only [Bool.and_eq_true, beq_iff_eq, decide_eq_true_eq, Fx.mk.injEq, s_eq]
end Go.Proofs.YtpoejheienohjaaGreatDoor
