/- slices.Clone, slices.Insert of prices: the rows, and the walks. -/
import Derived.Test.YtpoejheienohjaaGreatDoorFixL
import Derived.Laws.CopyRow
import Derived.Lib.Overlaps
import Derived.Lib.AppendZerosOnto
import Derived.Shelf.Spec.SlicesInsert
import Derived.Test.YtpoejheienohjaaGreatDoorNatH
namespace Go.Proofs.YtpoejheienohjaaGreatDoor
open Go.RowKit
set_option linter.unusedVariables false
set_option linter.unusedSimpArgs false

section
variable {α : Type} {e : α → List Value} {z : Nat}
theorem flat_len (he : ∀ x, (e x).length = z) (l : List α) : (l.flatMap e).length = l.length * z := by
  induction l with
  | nil => simp
  | cons a l ih => rw [List.flatMap_cons, List.length_append, ih, he, List.length_cons, Nat.add_mul, Nat.one_mul, Nat.add_comm]
theorem flat_take (he : ∀ x, (e x).length = z) (l : List α) (i : Nat) : (l.flatMap e).take (i * z) = (l.take i).flatMap e := by
  induction l generalizing i with
  | nil => simp
  | cons a l ih =>
    cases i with
    | zero => simp
    | succ i => rw [List.flatMap_cons, List.take_succ_cons, List.flatMap_cons, Nat.add_mul, Nat.one_mul, Nat.add_comm, List.take_append, he, Nat.add_sub_cancel_left, ih, List.take_of_length_le (by rw [he]; omega)]
theorem flat_drop (he : ∀ x, (e x).length = z) (l : List α) (i : Nat) : (l.flatMap e).drop (i * z) = (l.drop i).flatMap e := by
  induction l generalizing i with
  | nil => simp
  | cons a l ih =>
    cases i with
    | zero => simp
    | succ i => rw [List.flatMap_cons, List.drop_succ_cons, Nat.add_mul, Nat.one_mul, Nat.add_comm, List.drop_append, he, Nat.add_sub_cancel_left, ih, List.drop_of_length_le (by rw [he]; omega), List.nil_append]
theorem flat_inv (hz : 0 < z) (he : ∀ x, (e x).length = z) (l : List α) (i : Nat) (u : Value) (h : (l.flatMap e)[i]? = some u) : ∃ j k x, i = j * z + k ∧ l[j]? = some x ∧ (e x)[k]? = some u := by
  induction l generalizing i with
  | nil => simp at h
  | cons a l ih =>
    rw [List.flatMap_cons, List.getElem?_append, he] at h
    split at h
    · exact ⟨0, i, a, by simp, rfl, h⟩
    · rename_i hi
      obtain ⟨j, k, x, h1, h2, h3⟩ := ih (i - z) h
      exact ⟨j + 1, k, x, by rw [Nat.add_mul]; omega, by simpa using h2, h3⟩
theorem Rd.flat {w : World} {ad : Addr} {n : Nat} {xs : List α} (hz : 0 < z) (he : ∀ x, (e x).length = z) (h : Rd e z w (some ad) n xs) : ∀ i u, (xs.flatMap e)[i]? = some u → w.cell? (ad.add i) = some u := by
  intro i u hu
  obtain ⟨j, k, x, rfl, h2, h3⟩ := flat_inv hz he xs i u hu
  obtain ⟨ad', ha, _, hc⟩ := h.cells (by have := (List.getElem?_eq_some_iff.1 h2).1; have := h.len; omega)
  cases ha
  exact hc j x h2 k u h3
theorem Own.some_ {T : TypeId} {w : World} {base g n cap : Nat} {xs : List α} (h : Own e z T w base (.slice (some ⟨g, 0, none⟩) n cap) xs) : ∃ cur, Blk w g T cur ∧ base ≤ g ∧ xs.length = n ∧ n ≤ cap ∧ cap ≤ maxLen ∧ cur.size = cap * z ∧ cur.toList.take (n * z) = xs.flatMap e := by
  rcases h.row.2 with ⟨hv, _⟩ | ⟨g', cap', cur, hv, hb, hh, hc, hm, hs, ht⟩
  · cases hv
  · injection hv with h1 h2 h3
    injection h1 with h1
    injection h1 with h1
    subst h1; subst h3
    exact ⟨cur, hh, hb, h2.symm, by omega, hm, hs, by rw [h2]; exact ht⟩
theorem Own.of_ {T : TypeId} {w : World} {base g cap : Nat} {cur : Array Value} {xs : List α} (he : ∀ x, (e x).length = z) (hb : base ≤ g) (h : Blk w g T cur) (hc : xs.length ≤ cap) (hm : cap ≤ maxLen) (hs : cur.size = cap * z) (ht : cur.toList.take (xs.length * z) = xs.flatMap e) : Own e z T w base (.slice (some ⟨g, 0, none⟩) xs.length cap) xs :=
  ⟨⟨flat_len he xs, .inr ⟨g, cap, cur, rfl, hb, h, hc, hm, hs, ht⟩⟩⟩
end
theorem run_copy_z {P : Program} (w : World) (dT sT ty elem : TypeId) (z g o dLen dCap : Nat) (a : Addr) (sLen sCap : Nat) (cur : Array Value) (t : TypeId) (cs : List Value)
    (hu : P.underlying dT = some (.slice elem)) (hs : (P.info? elem).map (·.size) = some z)
    (hg : w.heap[g]? = some (.cells cur t (0, 0))) (m : Nat) (hmin : Nat.min sLen dLen = m) (hn : cs.length = m * z)
    (hsrc : ∀ j v, cs[j]? = some v → w.cell? (a.add j) = some v) (hfit : o + cs.length ≤ cur.size) (h1 : ∀ v ∈ cs, v.oneCell' = true) :
    (Builtin.copy_ #[dT, sT] ty #[.slice (some ⟨g, o, none⟩) dLen dCap, .slice (some a) sLen sCap]).run P w =
      .ok (goInt m) (w.setRow g (cur.toList.take o ++ cs ++ cur.toList.drop (o + cs.length)).toArray) := by
  have hl := run_loadCells_list (P := P) w a cs hsrc
  have hst := run_storeCells_at P g o t cs 0 cur w hg (by simpa using hfit) h1
  cases hq : P.info? elem with
  | none => simp [hq] at hs
  | some i =>
    have hi : i.size = z := by simpa [hq] using hs
    subst hmin
    simp [Builtin.copy_, run_underlying hu, Builtin.lenOf, Builtin.firstCells, sizeOf, typeInfo, hq, hi, ← hn, hl, hst]
theorem shift_cells (cur cs fs : List Value) (p : Nat) (hp : p + fs.length ≤ cur.length) :
    let c1 := cur.take (p + fs.length) ++ cs ++ cur.drop (p + fs.length + cs.length)
    c1.take p ++ fs ++ c1.drop (p + fs.length) = cur.take p ++ fs ++ cs ++ cur.drop (p + fs.length + cs.length) := by
  have h1 : (cur.take (p + fs.length)).length = p + fs.length := by rw [List.length_take]; omega
  dsimp only
  rw [List.append_assoc (cur.take (p + fs.length)), List.take_append_of_le_length (by omega), List.take_take, Nat.min_eq_left (by omega), List.drop_append_of_le_length (by omega), List.drop_of_length_le (by omega)]
  simp [List.append_assoc]
theorem grow_cells (cur cs fs : List Value) (p : Nat) (hp : p + fs.length ≤ cur.length) :
    let c1 := cur.take p ++ fs ++ cur.drop (p + fs.length)
    c1.take (p + fs.length) ++ cs ++ c1.drop (p + fs.length + cs.length) = cur.take p ++ fs ++ cs ++ cur.drop (p + fs.length + cs.length) := by
  have h1 : (cur.take p ++ fs).length = p + fs.length := by rw [List.length_append, List.length_take]; omega
  dsimp only
  rw [List.take_append_of_le_length (by omega), List.take_of_length_le (by omega), List.drop_append, List.drop_of_length_le (by omega), h1, List.nil_append, List.drop_drop]
  congr 2; omega
theorem new_row {α : Type} {e : α → List Value} {z : Nat} (he : ∀ x, (e x).length = z) (xs : List α) (f : α) (i : Nat) (hi : i ≤ xs.length) (cur rest : List Value) (hc : cur.take (i * z) = (xs.take i).flatMap e) :
    (cur.take (i * z) ++ e f ++ (xs.drop i).flatMap e ++ rest).take ((xs.length + 1) * z) = (xs.take i ++ f :: xs.drop i).flatMap e := by
  have hl : (cur.take (i * z) ++ e f ++ (xs.drop i).flatMap e).length = (xs.length + 1) * z := by
    rw [hc, List.length_append, List.length_append, flat_len he, flat_len he, he, List.length_take, List.length_drop, Nat.min_eq_left hi, Nat.add_mul, Nat.one_mul, Nat.sub_mul]
    have : i * z ≤ xs.length * z := Nat.mul_le_mul_right _ hi
    omega
  rw [List.take_append_of_le_length (by omega), List.take_of_length_le (by omega), hc]
  simp [List.flatMap_append, List.flatMap_cons]

set_option maxRecDepth 100000 in
set_option maxHeartbeats 800000 in
theorem p_clone {A : Option Addr} {n c : Nat} {xs : List Fx} (w : World) (hx : Rd Fx.cs 4 w A n xs) (hn : n ≤ 1000000) :
    Calls Tryz.prog 58 #[.slice A n c] w fun e w' => ∃ v, e = .returned v ∧ Own Fx.cs 4 26 w' w.heap.size v xs ∧ Below w.heap.size w w' := by
  have hxl := hx.len
  have q22 : ∀ (w : World) (a : Option Addr) (n c n' c' : Nat), (binOp .eql 22 (.slice a n c) (.slice none n' c')).run Tryz.prog w = .ok (.bool a.isNone) w := fun w a n c n' c' => Lib.run_eql_slice_nil w _ _ a n c n' c' Tryz.underlying22
  cases A with
  | none =>
    have hn0 : n = 0 := by
      rcases Nat.eq_zero_or_pos n with h | h
      · exact h
      · obtain ⟨_, ha, _⟩ := hx.cells h; cases ha
    have hxs : xs = [] := List.eq_nil_of_length_eq_zero (by omega)
    subst hxs
    go_enter Tryz.func58, Tryz.ntmps58
    go_wp2
    go_ret
    exact ⟨_, rfl, Own.nil, Below.refl _ _⟩
  | some ad =>
    have hB : Below w.heap.size w (w.alloc (.cells #[] 26)) := b_alloc (Below.refl _ _) _
    have hfl := Rd.flat (by omega) Fx.cs_length (hx.below hB)
    have HO : Own Fx.cs 4 26 (w.alloc (.cells #[] 26)) w.heap.size (.slice (some ⟨w.heap.size, 0, none⟩) 0 0) ([] : List Fx) := Own.made0 (Nat.le_refl _)
    go_enter Tryz.func58, Tryz.ntmps58
    go_wp2_with (at_builtin; refine wpList_apps (v := .slice (some ⟨w.heap.size, 0, none⟩) 0 0) Tryz.elemFix (by omega) Fx.cs_length Fx.cs_one rfl (.tmp 5) (.tmp 6) rfl rfl HO ad n c xs hxl rfl hfl (by simp; omega) (by simp; omega) (by simp) ?_; intro v2 w2 hown2 hg2 hat2)
    go_ret
    exact ⟨_, rfl, hown2, HO.frame hB (Nat.le_refl _) hg2⟩

/-- What Insert gives. -/
def InsPost (xs : List Fx) (f : Fx) (i base : Nat) (w : World) (e : Ending) (w' : World) : Prop := ∃ v, e = .returned v ∧ Own Fx.cs 4 26 w' base v (xs.take i ++ f :: xs.drop i) ∧ Below base w w'
set_option maxRecDepth 100000 in
set_option maxHeartbeats 2000000 in
/-- At the end. -/
theorem p_ins_end {base g0 : Nat} {v : Value} {xs : List Fx} {f : Fx} (w : World) (ho : Own Fx.cs 4 26 w base v xs) (hn : xs.length ≤ 1000000) (hb : base ≤ w.heap.size) (hf : Blk w g0 26 (Fx.cs f).toArray) :
    Calls Tryz.prog 57 #[v, .int .i64 (xs.length : Nat), .slice (some ⟨g0, 0, none⟩) 1 1] w fun e w' => InsPost xs f xs.length base w e w' := by
  have hfl : ∀ i u, (Fx.cs f)[i]? = some u → w.cell? ((⟨g0, 0, none⟩ : Addr).add i) = some u := fun i u hu => by
    have ha : (⟨g0, 0, none⟩ : Addr).add i = ⟨g0, i, none⟩ := by unfold Addr.add; split <;> simp_all
    rw [ha, hf.cell]; simpa using hu
  have hgoal : ∀ v' w', Own Fx.cs 4 26 w' base v' (xs ++ [f]) → w.grownBy w' v.ownBlock → InsPost xs f xs.length base w (.returned v') w' := fun v' w' h1 h2 =>
    ⟨v', rfl, by rw [List.take_length, List.drop_length]; exact h1, (Below.refl base w).grown h2 hb fun k hk => ho.base_le k hk⟩
  rcases ho.row.2 with ⟨rfl, h0⟩ | ⟨g, cap, cur, rfl, hgb, hh, hc, hm, hs, ht⟩
  · have hxs : xs = [] := List.eq_nil_of_length_eq_zero h0
    subst hxs
    go_enter Tryz.func57, Tryz.ntmps57
    go_wp2_with (at_builtin; refine wpList_app (v := .slice none 0 0) Tryz.elemFix (by omega) Fx.cs_length Fx.cs_one rfl (.tmp 23) (.tmp 24) rfl rfl ho ⟨g0, 0, none⟩ 1 f rfl hfl (by simp) (by simp) hb ?_; intro v2 w2 hown2 hg2 hat2)
    go_ret
    exact hgoal _ _ hown2 hg2
  · obtain ⟨n, hnl⟩ : ∃ n, xs.length = n := ⟨_, rfl⟩
    rw [hnl] at hc hn ⊢
    simp only [maxLen] at hm
    rw [hnl] at hgoal ho
    have hg4 : n ≤ cap := hc
    go_enter Tryz.func57, Tryz.ntmps57
    go_wp2_with (at_builtin; refine wpList_app (v := .slice (some ⟨g, 0, none⟩) n cap) Tryz.elemFix (by omega) Fx.cs_length Fx.cs_one rfl (.tmp 23) (.tmp 24) rfl rfl ho ⟨g0, 0, none⟩ 1 f rfl hfl (by omega) (by omega) hb ?_; intro v2 w2 hown2 hg2 hat2)
    all_goals
      go_ret
      exact hgoal _ _ hown2 hg2
end Go.Proofs.YtpoejheienohjaaGreatDoor
