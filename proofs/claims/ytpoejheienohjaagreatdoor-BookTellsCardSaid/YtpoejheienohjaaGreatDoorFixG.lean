/- slices.Clone, slices.Insert of prices: the rows, and the walks. -/
import Derived.Test.YtpoejheienohjaaGreatDoorFixL
import Derived.Laws.CopyRow
import Derived.Lib.Overlaps
import Derived.Lib.AppendZerosOnto
import Derived.Shelf.Spec.SlicesInsert
import Derived.Test.YtpoejheienohjaaGreatDoorNatH
import Derived.Deep.RegionLaw
namespace Go.Proofs.YtpoejheienohjaaGreatDoor
open Go.RowKit
set_option linter.unusedVariables false
set_option linter.unusedSimpArgs false

section
variable {α : Type} {e : α → List Value} {z : Nat}
theorem flat_len (he : ∀ x, (e x).length = z) (l : List α) : (l.flatMap e).length = l.length * z := by
  induction l with
  | nil => simp
  | cons a l ih => rw [List.flatMap_cons, List.length_append, ih, he, List.length_cons, Nat.add_mul, Nat.one_mul, Nat.add_comm]
theorem flat_take (he : ∀ x, (e x).length = z) (l : List α) (i : Nat) : (l.flatMap e).take (i * z) = (l.take i).flatMap e := by
  induction l generalizing i with
  | nil => simp
  | cons a l ih =>
    cases i with
    | zero => simp
    | succ i => rw [List.flatMap_cons, List.take_succ_cons, List.flatMap_cons, Nat.add_mul, Nat.one_mul, Nat.add_comm, List.take_append, he, Nat.add_sub_cancel_left, ih, List.take_of_length_le (by rw [he]; omega)]
theorem flat_drop (he : ∀ x, (e x).length = z) (l : List α) (i : Nat) : (l.flatMap e).drop (i * z) = (l.drop i).flatMap e := by
  induction l generalizing i with
  | nil => simp
  | cons a l ih =>
    cases i with
    | zero => simp
    | succ i => rw [List.flatMap_cons, List.drop_succ_cons, Nat.add_mul, Nat.one_mul, Nat.add_comm, List.drop_append, he, Nat.add_sub_cancel_left, ih, List.drop_of_length_le (by rw [he]; omega), List.nil_append]
theorem flat_inv (hz : 0 < z) (he : ∀ x, (e x).length = z) (l : List α) (i : Nat) (u : Value) (h : (l.flatMap e)[i]? = some u) : ∃ j k x, i = j * z + k ∧ l[j]? = some x ∧ (e x)[k]? = some u := by
  induction l generalizing i with
  | nil => simp at h
  | cons a l ih =>
    rw [List.flatMap_cons, List.getElem?_append, he] at h
    split at h
    · exact ⟨0, i, a, by simp, rfl, h⟩
    · rename_i hi
      obtain ⟨j, k, x, h1, h2, h3⟩ := ih (i - z) h
      exact ⟨j + 1, k, x, by rw [Nat.add_mul]; omega, by simpa using h2, h3⟩
theorem Rd.flat {w : World} {ad : Addr} {n : Nat} {xs : List α} (hz : 0 < z) (he : ∀ x, (e x).length = z) (h : Rd e z w (some ad) n xs) : ∀ i u, (xs.flatMap e)[i]? = some u → w.cell? (ad.add i) = some u := by
  intro i u hu
  obtain ⟨j, k, x, rfl, h2, h3⟩ := flat_inv hz he xs i u hu
  obtain ⟨ad', ha, _, hc⟩ := h.cells (by have := (List.getElem?_eq_some_iff.1 h2).1; have := h.len; omega)
  cases ha
  exact hc j x h2 k u h3
theorem Own.some_ {T : TypeId} {w : World} {base g n cap : Nat} {xs : List α} (h : Own e z T w base (.slice (some ⟨g, 0, none⟩) n cap) xs) : ∃ cur, Blk w g T cur ∧ base ≤ g ∧ xs.length = n ∧ n ≤ cap ∧ cap ≤ maxLen ∧ cur.size = cap * z ∧ cur.toList.take (n * z) = xs.flatMap e := by
  rcases h.row.2 with ⟨hv, _⟩ | ⟨g', cap', cur, hv, hb, hh, hc, hm, hs, ht⟩
  · cases hv
  · injection hv with h1 h2 h3
    injection h1 with h1
    injection h1 with h1
    subst h1; subst h3
    exact ⟨cur, hh, hb, h2.symm, by omega, hm, hs, by rw [h2]; exact ht⟩
theorem Own.of_ {T : TypeId} {w : World} {base g cap : Nat} {cur : Array Value} {xs : List α} (he : ∀ x, (e x).length = z) (hb : base ≤ g) (h : Blk w g T cur) (hc : xs.length ≤ cap) (hm : cap ≤ maxLen) (hs : cur.size = cap * z) (ht : cur.toList.take (xs.length * z) = xs.flatMap e) : Own e z T w base (.slice (some ⟨g, 0, none⟩) xs.length cap) xs :=
  ⟨⟨flat_len he xs, .inr ⟨g, cap, cur, rfl, hb, h, hc, hm, hs, ht⟩⟩⟩
end
theorem run_copy_z {P : Program} (w : World) (dT sT ty elem : TypeId) (z g o dLen dCap : Nat) (a : Addr) (sLen sCap : Nat) (cur : Array Value) (t : TypeId) (cs : List Value)
    (hu : P.underlying dT = some (.slice elem)) (hs : (P.info? elem).map (·.size) = some z)
    (hg : w.heap[g]? = some (.cells cur t (0, 0))) (m : Nat) (hmin : Nat.min sLen dLen = m) (hn : cs.length = m * z)
    (hsrc : ∀ j v, cs[j]? = some v → w.cell? (a.add j) = some v) (hfit : o + cs.length ≤ cur.size) (h1 : ∀ v ∈ cs, v.oneCell' = true) :
    (Builtin.copy_ #[dT, sT] ty #[.slice (some ⟨g, o, none⟩) dLen dCap, .slice (some a) sLen sCap]).run P w =
      .ok (goInt m) (w.setRow g (cur.toList.take o ++ cs ++ cur.toList.drop (o + cs.length)).toArray) := by
  have hl := run_loadCells_list (P := P) w a cs hsrc
  have hst := run_storeCells_at P g o t cs 0 cur w hg (by simpa using hfit) h1
  cases hq : P.info? elem with
  | none => simp [hq] at hs
  | some i =>
    have hi : i.size = z := by simpa [hq] using hs
    subst hmin
    simp [Builtin.copy_, run_underlying hu, Builtin.lenOf, Builtin.firstCells, sizeOf, typeInfo, hq, hi, ← hn, hl, hst]
theorem shift_cells (cur cs fs : List Value) (p : Nat) (hp : p + fs.length ≤ cur.length) :
    let c1 := cur.take (p + fs.length) ++ cs ++ cur.drop (p + fs.length + cs.length)
    c1.take p ++ fs ++ c1.drop (p + fs.length) = cur.take p ++ fs ++ cs ++ cur.drop (p + fs.length + cs.length) := by
  have h1 : (cur.take (p + fs.length)).length = p + fs.length := by rw [List.length_take]; omega
  dsimp only
  rw [List.append_assoc (cur.take (p + fs.length)), List.take_append_of_le_length (by omega), List.take_take, Nat.min_eq_left (by omega), List.drop_append_of_le_length (by omega), List.drop_of_length_le (by omega)]
  simp [List.append_assoc]
theorem grow_cells (cur cs fs : List Value) (p : Nat) (hp : p + fs.length ≤ cur.length) :
    let c1 := cur.take p ++ fs ++ cur.drop (p + fs.length)
    c1.take (p + fs.length) ++ cs ++ c1.drop (p + fs.length + cs.length) = cur.take p ++ fs ++ cs ++ cur.drop (p + fs.length + cs.length) := by
  have h1 : (cur.take p ++ fs).length = p + fs.length := by rw [List.length_append, List.length_take]; omega
  dsimp only
  rw [List.take_append_of_le_length (by omega), List.take_of_length_le (by omega), List.drop_append, List.drop_of_length_le (by omega), h1, List.nil_append, List.drop_drop]
  congr 2; omega
theorem new_row {α : Type} {e : α → List Value} {z : Nat} (he : ∀ x, (e x).length = z) (xs : List α) (f : α) (i : Nat) (hi : i ≤ xs.length) (cur rest : List Value) (hc : cur.take (i * z) = (xs.take i).flatMap e) :
    (cur.take (i * z) ++ e f ++ (xs.drop i).flatMap e ++ rest).take ((xs.length + 1) * z) = (xs.take i ++ f :: xs.drop i).flatMap e := by
  have hl : (cur.take (i * z) ++ e f ++ (xs.drop i).flatMap e).length = (xs.length + 1) * z := by
    rw [hc, List.length_append, List.length_append, flat_len he, flat_len he, he, List.length_take, List.length_drop, Nat.min_eq_left hi, Nat.add_mul, Nat.one_mul, Nat.sub_mul]
    have : i * z ≤ xs.length * z := Nat.mul_le_mul_right _ hi
    omega
  rw [List.take_append_of_le_length (by omega), List.take_of_length_le (by omega), hc]
  simp [List.flatMap_append, List.flatMap_cons]

set_option maxRecDepth 100000 in
set_option maxHeartbeats 800000 in
theorem p_clone {A : Option Addr} {n c : Nat} {xs : List Fx} (w : World) (hx : Rd Fx.cs 4 w A n xs) (hn : n ≤ 1000000) :
    Calls Tryz.prog 58 #[.slice A n c] w fun e w' => ∃ v, e = .returned v ∧ Own Fx.cs 4 26 w' w.heap.size v xs ∧ Below w.heap.size w w' := by
  have hxl := hx.len
  have q22 : ∀ (w : World) (a : Option Addr) (n c n' c' : Nat), (binOp .eql 22 (.slice a n c) (.slice none n' c')).run Tryz.prog w = .ok (.bool a.isNone) w := fun w a n c n' c' => Lib.run_eql_slice_nil w _ _ a n c n' c' Tryz.underlying22
  cases A with
  | none =>
    have hn0 : n = 0 := by
      rcases Nat.eq_zero_or_pos n with h | h
      · exact h
      · obtain ⟨_, ha, _⟩ := hx.cells h; cases ha
    have hxs : xs = [] := List.eq_nil_of_length_eq_zero (by omega)
    subst hxs
    go_enter Tryz.func58, Tryz.ntmps58
    go_wp2
    go_ret
    exact ⟨_, rfl, Own.nil, Below.refl _ _⟩
  | some ad =>
    have hB : Below w.heap.size w (w.alloc (.cells #[] 26)) := b_alloc (Below.refl _ _) _
    have hfl := Rd.flat (by omega) Fx.cs_length (hx.below hB)
    have HO : Own Fx.cs 4 26 (w.alloc (.cells #[] 26)) w.heap.size (.slice (some ⟨w.heap.size, 0, none⟩) 0 0) ([] : List Fx) := Own.made0 (Nat.le_refl _)
    go_enter Tryz.func58, Tryz.ntmps58
    go_wp2_with (at_builtin; refine wpList_apps (v := .slice (some ⟨w.heap.size, 0, none⟩) 0 0) Tryz.elemFix (by omega) Fx.cs_length Fx.cs_one rfl (.tmp 5) (.tmp 6) rfl rfl HO ad n c xs hxl rfl hfl (by simp; omega) (by simp; omega) (by simp) ?_; intro v2 w2 hown2 hg2 hat2)
    go_ret
    exact ⟨_, rfl, hown2, HO.frame hB (Nat.le_refl _) hg2⟩

/-- What Insert gives. -/
def InsPost (xs : List Fx) (f : Fx) (i base : Nat) (w : World) (e : Ending) (w' : World) : Prop := ∃ v, e = .returned v ∧ Own Fx.cs 4 26 w' base v (xs.take i ++ f :: xs.drop i) ∧ Below base w w'
set_option maxRecDepth 100000 in
set_option maxHeartbeats 2000000 in
/-- At the end. -/
theorem p_ins_end {base g0 : Nat} {v : Value} {xs : List Fx} {f : Fx} (w : World) (ho : Own Fx.cs 4 26 w base v xs) (hn : xs.length ≤ 1000000) (hb : base ≤ w.heap.size) (hf : Blk w g0 26 (Fx.cs f).toArray) :
    Calls Tryz.prog 57 #[v, .int .i64 (xs.length : Nat), .slice (some ⟨g0, 0, none⟩) 1 1] w fun e w' => InsPost xs f xs.length base w e w' := by
  have hfl : ∀ i u, (Fx.cs f)[i]? = some u → w.cell? ((⟨g0, 0, none⟩ : Addr).add i) = some u := fun i u hu => by
    have ha : (⟨g0, 0, none⟩ : Addr).add i = ⟨g0, i, none⟩ := by unfold Addr.add; split <;> simp_all
    rw [ha, hf.cell]; simpa using hu
  have hgoal : ∀ v' w', Own Fx.cs 4 26 w' base v' (xs ++ [f]) → w.grownBy w' v.ownBlock → InsPost xs f xs.length base w (.returned v') w' := fun v' w' h1 h2 =>
    ⟨v', rfl, by rw [List.take_length, List.drop_length]; exact h1, (Below.refl base w).grown h2 hb fun k hk => ho.base_le k hk⟩
  rcases ho.row.2 with ⟨rfl, h0⟩ | ⟨g, cap, cur, rfl, hgb, hh, hc, hm, hs, ht⟩
  · have hxs : xs = [] := List.eq_nil_of_length_eq_zero h0
    subst hxs
    go_enter Tryz.func57, Tryz.ntmps57
    go_wp2_with (at_builtin; refine wpList_app (v := .slice none 0 0) Tryz.elemFix (by omega) Fx.cs_length Fx.cs_one rfl (.tmp 23) (.tmp 24) rfl rfl ho ⟨g0, 0, none⟩ 1 f rfl hfl (by simp) (by simp) hb ?_; intro v2 w2 hown2 hg2 hat2)
    go_ret
    exact hgoal _ _ hown2 hg2
  · obtain ⟨n, hnl⟩ : ∃ n, xs.length = n := ⟨_, rfl⟩
    rw [hnl] at hc hn ⊢
    simp only [maxLen] at hm
    rw [hnl] at hgoal ho
    have hg4 : n ≤ cap := hc
    go_enter Tryz.func57, Tryz.ntmps57
    go_wp2_with (at_builtin; refine wpList_app (v := .slice (some ⟨g, 0, none⟩) n cap) Tryz.elemFix (by omega) Fx.cs_length Fx.cs_one rfl (.tmp 23) (.tmp 24) rfl rfl ho ⟨g0, 0, none⟩ 1 f rfl hfl (by omega) (by omega) hb ?_; intro v2 w2 hown2 hg2 hat2)
    all_goals
      go_ret
      exact hgoal _ _ hown2 hg2
end Go.Proofs.YtpoejheienohjaaGreatDoor

/- slices.Insert of prices, in the middle. -/
namespace Go.Proofs.YtpoejheienohjaaGreatDoor
open Go.RowKit
set_option linter.unusedVariables false
set_option linter.unusedSimpArgs false

theorem fix_size : (Tryz.prog.info? 26).map (·.size) = some 4 := by kernel_rfl
theorem fix_sizeOf (w : World) : (Go.sizeOf 26).run Tryz.prog w = .ok 4 w := by
  have h := fix_size
  cases hq : Tryz.prog.info? 26 with
  | none => rw [hq] at h; cases h
  | some i =>
    have hi : i.size = 4 := by rw [hq] at h; simpa using h
    simp [sizeOf, typeInfo, hq, hi]
theorem run_ovl (w : World) {g0 g la ca lb cb : Nat} {cs cur : Array Value} {o : Nat} (hne : g0 ≠ g) (h0 : Blk w g0 26 cs) (hg : Blk w g 26 cur) (hs : cur.size ≠ 0) :
    (callFunc 88 #[.slice (some ⟨g0, 0, none⟩) la ca, .slice (some ⟨g, o, none⟩) lb cb]).run Tryz.prog w = .ok (.value (.bool false)) w := by
  rw [run_callFunc_extern Tryz.func88 (by kernel_rfl) (by kernel_rfl) (by kernel_rfl) (e := Extern.SlicesOverlaps.overlaps #[22, 22] #[4]) (by kernel_rfl),
    Lib.run_overlaps_apart w 22 4 26 Tryz.underlying22 4 fix_sizeOf ⟨g0, 0, none⟩ ⟨g, o, none⟩ la ca lb cb hne 26 26 cs.size cur.size (by unfold Blk at h0; simp [World.shape?, h0]) (by unfold Blk at hg; simp [World.shape?, hg]) hs (h0.frozen 0) (h0.frozen _)]
  rfl
theorem add_lit4 (g i : Nat) : (⟨g, 0, none⟩ : Addr).add i = ⟨g, i, none⟩ := by unfold Addr.add; split <;> simp_all
theorem Blk.row {w : World} {g : Nat} {t : TypeId} {cs : Array Value} (h : Blk w g t cs) (cs' : Array Value) : Blk (w.setRow g cs') g t cs' := setRow_heap w g cs cs' t (0, 0) h
theorem below_row {w W : World} {g base : Nat} (h : Below base w W) (hg : base ≤ g) (cs : Array Value) : Below base w (W.setRow g cs) :=
  ⟨h.os, h.tape, h.output, by rw [setRow_size]; exact h.size, fun k hk => (setRow_other W g k cs (by omega)).trans (h.block k hk)⟩
set_option maxRecDepth 100000 in
set_option maxHeartbeats 4000000 in
theorem p_ins_room {base g g0 n cap i : Nat} {xs : List Fx} {f : Fx} (w : World) (ho : Own Fx.cs 4 26 w base (.slice (some ⟨g, 0, none⟩) n cap) xs) (hn : n ≤ 1000000) (hb : base ≤ w.heap.size) (hf : Blk w g0 26 (Fx.cs f).toArray) (hne : g0 ≠ g) (hi : i < n) (hroom : n + 1 ≤ cap) :
    Calls Tryz.prog 57 #[.slice (some ⟨g, 0, none⟩) n cap, .int .i64 (i : Nat), .slice (some ⟨g0, 0, none⟩) 1 1] w fun e w' => InsPost xs f i base w e w' := by
  obtain ⟨cur, hg, hbg, hl, hc, hm, hs, ht⟩ := ho.some_
  simp only [maxLen] at hm
  obtain ⟨cs, hcs⟩ : ∃ cs, (xs.drop i).flatMap Fx.cs = cs := ⟨_, rfl⟩
  have hcl : cs.length = (n - i) * 4 := by rw [← hcs, flat_len Fx.cs_length, List.length_drop, hl]
  have hcut : cur.toList.take (i * 4) = (xs.take i).flatMap Fx.cs := by
    rw [← flat_take Fx.cs_length, ← ht, List.take_take, Nat.min_eq_left (Nat.mul_le_mul_right _ (by omega))]
  have hcd : ∀ j u, cs[j]? = some u → cur[i * 4 + j]? = some u := by
    intro j u hu
    rw [← hcs, ← flat_drop Fx.cs_length, ← ht, List.getElem?_drop, List.getElem?_take] at hu
    split at hu
    · simpa using hu
    · cases hu
  have h1c : ∀ u ∈ cs, u.oneCell' = true := by
    rw [← hcs]; intro u hu
    obtain ⟨y, _, hy⟩ := List.mem_flatMap.1 hu
    exact Fx.cs_one y u hy
  have hfl : (Fx.cs f).length = 4 := rfl
  have hov : ∀ o lb cb, (callFunc 88 #[.slice (some ⟨g0, 0, none⟩) 1 1, .slice (some ⟨g, o, none⟩) lb cb]).run Tryz.prog w = .ok (.value (.bool false)) w := fun o lb cb => run_ovl w hne hf hg (by omega)
  obtain ⟨c1, hc1⟩ : ∃ c1, cur.toList.take ((i + 1) * 4) ++ cs ++ cur.toList.drop ((i + 1) * 4 + cs.length) = c1 := ⟨_, rfl⟩
  have hcp1 : ∀ ty dc sc, (Builtin.copy_ #[22, 22] ty #[.slice (some ⟨g, (i + 1) * 4, none⟩) (n - i) dc, .slice (some ⟨g, i * 4, none⟩) (n + 1 - i) sc]).run Tryz.prog w.drew = .ok (goInt (n - i : Nat)) (w.drew.setRow g c1.toArray) := fun ty dc sc => by
    rw [← hc1]
    exact run_copy_z w.drew _ _ ty _ 4 g ((i + 1) * 4) (n - i) dc ⟨g, i * 4, none⟩ (n + 1 - i) sc cur _ cs Tryz.underlying22 fix_size hg (n - i) (by simp only [Nat.min_def]; split <;> omega) hcl (fun j u hu => by
      have ha : (⟨g, i * 4, none⟩ : Addr).add j = ⟨g, i * 4 + j, none⟩ := by unfold Addr.add; split <;> simp_all
      rw [ha]; exact (Blk.cell hg _).trans (hcd j u hu)) (by omega) h1c
  have hc1l : c1.length = cur.size := by
    rw [← hc1]; simp; omega
  have hgw : Blk (w.drew.setRow g c1.toArray) g 26 c1.toArray := Blk.row (w := w.drew) hg _
  have hfw : Blk (w.drew.setRow g c1.toArray) g0 26 (Fx.cs f).toArray := (setRow_other w.drew g g0 _ hne).trans hf
  obtain ⟨W1, hW1⟩ : ∃ W1, w.drew.setRow g c1.toArray = W1 := ⟨_, rfl⟩
  have hB1 : Below base w W1 := by rw [← hW1]; exact below_row (Below.refl base w).drew hbg _
  rw [hW1] at hcp1 hgw hfw
  have hcp2 : ∀ ty dc, (Builtin.copy_ #[22, 22] ty #[.slice (some ⟨g, i * 4, none⟩) (n + 1 - i) dc, .slice (some ⟨g0, 0, none⟩) 1 1]).run Tryz.prog W1 = .ok (goInt (1 : Nat)) (W1.setRow g (c1.take (i * 4) ++ Fx.cs f ++ c1.drop (i * 4 + 4)).toArray) := fun ty dc => by
    have := run_copy_z W1 22 22 ty _ 4 g (i * 4) (n + 1 - i) dc ⟨g0, 0, none⟩ 1 1 c1.toArray _ (Fx.cs f) Tryz.underlying22 fix_size hgw 1 (by simp only [Nat.min_def]; split <;> omega) (by rw [hfl]) (fun j u hu => by
      rw [add_lit4]; exact (Blk.cell hfw _).trans (by simpa using hu)) (by rw [hfl]; simp; omega) (Fx.cs_one f)
    exact this
  have hend : InsPost xs f i base w (.returned (.slice (some ⟨g, 0, none⟩) (n + 1) cap)) (W1.setRow g (c1.take (i * 4) ++ Fx.cs f ++ c1.drop (i * 4 + 4)).toArray) := by
    have hsh := shift_cells cur.toList cs (Fx.cs f) (i * 4) (by rw [hfl]; simp; omega)
    rw [hfl, show i * 4 + 4 = (i + 1) * 4 by omega, hc1] at hsh
    dsimp only at hsh
    refine ⟨_, rfl, ?_, below_row hB1 hbg _⟩
    rw [show i * 4 + 4 = (i + 1) * 4 by omega, hsh]
    have hll : (xs.take i ++ f :: xs.drop i).length = n + 1 := by simp; omega
    rw [← hll]
    refine Own.of_ Fx.cs_length hbg (Blk.row hgw _) (by omega) (by simp only [maxLen]; omega) ?_ ?_
    · simp; omega
    · rw [hll, ← hl, ← hcs]
      exact new_row Fx.cs_length xs f i (by omega) cur.toList _ hcut
  have HE := Lib.hid hend
  have mixed : Tryz.prog.follows .mixedOrders = true := by kernel_rfl
  clear hend hcd h1c hgw hfw hB1 hW1 ht ho hcut hcs
  go_enter Tryz.func57, Tryz.ntmps57
  go_wp2_with (simp only [hov])
  have hw1 : IntKind.i64.wrap ((i : Int) + 1) = (i : Int) + 1 := by rw [IntKind.wrap_i64]; omega
  have hb1 : (0 : Int) ≤ (i : Int) + 1 := by omega
  have htn : ((i : Int) + 1).toNat = i + 1 := by omega
  have hb2 : ¬ (cap = i + 1) := by omega
  have hb3 : (i : Int) ≤ (n : Int) := by omega
  have hb5 : (i : Int) ≤ (n : Int) + 1 := by omega
  have hb4 : ¬ (cap = i) := by omega
  go_region_law_o (refine step_copy_runI rfl _ _ 22 22 rfl _ _ (by simp [Act.eval, Act.put]) (by simp [Act.eval, Act.put]) (hcp1 _ _ _) ?_)
  go_wp2_with (at_builtin; refine wpList_copy_runI _ rfl _ _ 22 22 rfl _ _ rfl rfl (hcp2 _ _) ?_)
  go_ret
  have HE' := HE.out
  rw [List.append_assoc] at HE'
  exact HE'
end Go.Proofs.YtpoejheienohjaaGreatDoor

/- slices.Insert of prices, in the middle, without room; all roads. -/
namespace Go.Proofs.YtpoejheienohjaaGreatDoor
open Go.RowKit
set_option linter.unusedVariables false
set_option linter.unusedSimpArgs false

theorem infoFix : ∃ zero, (Tryz.prog.info? 26).map (fun i => (i.zero, i.size, i.bytes)) = some (some zero, 4, 56) ∧ zero.cells.size = 4 := Tryz.elemFix.inf
set_option maxRecDepth 100000 in
set_option maxHeartbeats 4000000 in
theorem p_ins_grow {base g g0 n cap i : Nat} {xs : List Fx} {f : Fx} (w : World) (ho : Own Fx.cs 4 26 w base (.slice (some ⟨g, 0, none⟩) n cap) xs) (hn : n ≤ 1000000) (hb : base ≤ w.heap.size) (hf : Blk w g0 26 (Fx.cs f).toArray) (hi : i < n) (hroom : cap < n + 1) :
    Calls Tryz.prog 57 #[.slice (some ⟨g, 0, none⟩) n cap, .int .i64 (i : Nat), .slice (some ⟨g0, 0, none⟩) 1 1] w fun e w' => InsPost xs f i base w e w' := by
  obtain ⟨cur, hg, hbg, hl, hc, hm, hs, ht⟩ := ho.some_
  simp only [maxLen] at hm
  obtain ⟨cs, hcs⟩ : ∃ cs, (xs.drop i).flatMap Fx.cs = cs := ⟨_, rfl⟩
  have hcl : cs.length = (n - i) * 4 := by rw [← hcs, flat_len Fx.cs_length, List.length_drop, hl]
  obtain ⟨c0, hc0⟩ : ∃ c0, (xs.take i).flatMap Fx.cs = c0 := ⟨_, rfl⟩
  have hc0l : c0.length = i * 4 := by rw [← hc0, flat_len Fx.cs_length, List.length_take, hl, Nat.min_eq_left (by omega)]
  have hcut : cur.toList.take (i * 4) = c0 := by
    rw [← hc0, ← flat_take Fx.cs_length, ← ht, List.take_take, Nat.min_eq_left (Nat.mul_le_mul_right _ (by omega))]
  have hcd : ∀ j u, cs[j]? = some u → cur[i * 4 + j]? = some u := by
    intro j u hu
    rw [← hcs, ← flat_drop Fx.cs_length, ← ht, List.getElem?_drop, List.getElem?_take] at hu
    split at hu
    · simpa using hu
    · cases hu
  have hc0d : ∀ (j : Nat) (u : Value), c0[j]? = some u → cur[j]? = some u := by
    intro j u hu
    rw [← hcut, List.getElem?_take] at hu
    split at hu
    · simpa using hu
    · cases hu
  have h1c : ∀ u ∈ cs, u.oneCell' = true := by
    rw [← hcs]; intro u hu
    obtain ⟨y, _, hy⟩ := List.mem_flatMap.1 hu
    exact Fx.cs_one y u hy
  have hfl : (Fx.cs f).length = 4 := rfl
  obtain ⟨zero, hinf, hzs⟩ := infoFix
  obtain ⟨i0, hi0, hz0, hz1, hz2⟩ := info_parts hinf
  have hold : (Builtin.firstCells i0.size i (.slice (some ⟨g, 0, none⟩) i cap)).run Tryz.prog w.drew = .ok c0.toArray w.drew := by
    rw [hz1]
    exact run_firstCells_some w.drew 4 i ⟨g, 0, none⟩ i cap c0 hc0l (fun j u hj => by rw [add_lit4]; exact (Blk.cell hg _).trans (hc0d j u hj))
  have hrz : ∀ ty, (Builtin.append_ #[22, 3] ty #[.slice (some ⟨g, 0, none⟩) i cap, .int .i64 ((n : Int) + 1 - (i : Int))]).run Tryz.prog w =
      .ok (.slice (some ⟨w.heap.size, 0, none⟩) (n + 1) (grownCap w (n + 1) cap 26)) (w.drew.alloc (.cells (c0.toArray ++ Builtin.zeroCells zero.cells (n + 1 - i) ++ Builtin.zeroCells zero.cells (grownCap w (n + 1) cap 26 - (n + 1))) 26)) := fun ty => by
    have hik : i + (n + 1 - i) = n + 1 := by omega
    have h := Lib.run_append_grow_zeros w 22 3 ty 26 i0 _ .i64 .i64 Tryz.underlying22 Tryz.underlying3 hi0 hz0 (some ⟨g, 0, none⟩) i cap c0 hold (n + 1 - i) (by omega) (by omega) (by omega) (by omega) (by rw [hz2]; omega) (by rw [hz2, hik]; exact growslice_fits hroom (by omega))
    rw [hik] at h
    rw [show (n : Int) + 1 - (i : Int) = ((n + 1 - i : Nat) : Int) by omega]
    exact h
  have hGn : n + 1 ≤ grownCap w (n + 1) cap 26 := grownCap_ge w _ _ _
  have hG63 := grownCap_le_maxLen w (n + 1) cap 26 (by unfold maxLen; omega)
  obtain ⟨G, hG⟩ : ∃ G, grownCap w (n + 1) cap 26 = G := ⟨_, rfl⟩
  rw [hG] at hrz hGn hG63
  simp only [maxLen] at hG63
  obtain ⟨R, hR⟩ : ∃ R : List Value, (c0.toArray ++ Builtin.zeroCells zero.cells (n + 1 - i) ++ Builtin.zeroCells zero.cells (G - (n + 1))).toList = R := ⟨_, rfl⟩
  have hRl : R.length = G * 4 := by
    rw [← hR]
    simp only [Array.length_toList, Array.size_append, List.size_toArray, size_zeroCells, hzs, hc0l]
    omega
  have hRt : R.take (i * 4) = c0 := by
    rw [← hR, Array.toList_append, Array.toList_append, List.append_assoc, List.take_append_of_le_length (by simp; omega), List.take_of_length_le (by simp; omega)]
  have hRa : (c0.toArray ++ Builtin.zeroCells zero.cells (n + 1 - i) ++ Builtin.zeroCells zero.cells (G - (n + 1))) = R.toArray := by rw [← hR]
  rw [hRa] at hrz
  obtain ⟨N, hN⟩ : ∃ N, w.heap.size = N := ⟨_, rfl⟩
  have hgN : g < N := by rw [← hN]; exact hg.lt
  have hg0N : g0 < N := by rw [← hN]; exact hf.lt
  have hNb : base ≤ N := by omega
  rw [hN] at hrz
  -- behind the append
  obtain ⟨c1, hc1⟩ : ∃ c1, R.take (i * 4) ++ Fx.cs f ++ R.drop (i * 4 + 4) = c1 := ⟨_, rfl⟩
  have hc1l : c1.length = G * 4 := by
    rw [← hc1]; simp [hfl]; omega
  have hcpA : ∀ (W : World), Blk W N 26 R.toArray → Blk W g0 26 (Fx.cs f).toArray → ∀ ty dc, (Builtin.copy_ #[22, 22] ty #[.slice (some ⟨N, i * 4, none⟩) (n + 1 - i) dc, .slice (some ⟨g0, 0, none⟩) 1 1]).run Tryz.prog W = .ok (goInt (1 : Nat)) (W.setRow N c1.toArray) := fun W hW1 hW2 ty dc => by
    have := run_copy_z W 22 22 ty _ 4 N (i * 4) (n + 1 - i) dc ⟨g0, 0, none⟩ 1 1 R.toArray _ (Fx.cs f) Tryz.underlying22 fix_size hW1 1 (by simp only [Nat.min_def]; split <;> omega) (by rw [hfl]) (fun j u hu => by
      rw [add_lit4]; exact (Blk.cell hW2 _).trans (by simpa using hu)) (by rw [hfl]; simp; omega) (Fx.cs_one f)
    rw [← hc1]; exact this
  have hcpB : ∀ (W : World), Blk W N 26 c1.toArray → Blk W g 26 cur → ∀ ty dc sc, (Builtin.copy_ #[22, 22] ty #[.slice (some ⟨N, (i + 1) * 4, none⟩) (n - i) dc, .slice (some ⟨g, i * 4, none⟩) (n - i) sc]).run Tryz.prog W = .ok (goInt (n - i : Nat)) (W.setRow N (c1.take ((i + 1) * 4) ++ cs ++ c1.drop ((i + 1) * 4 + cs.length)).toArray) := fun W hW1 hW2 ty dc sc =>
    run_copy_z W _ _ ty _ 4 N ((i + 1) * 4) (n - i) dc ⟨g, i * 4, none⟩ (n - i) sc c1.toArray _ cs Tryz.underlying22 fix_size hW1 (n - i) (by simp) hcl (fun j u hu => by
      have ha : (⟨g, i * 4, none⟩ : Addr).add j = ⟨g, i * 4 + j, none⟩ := by unfold Addr.add; split <;> simp_all
      rw [ha]; exact (Blk.cell hW2 _).trans (hcd j u hu)) (by simp; omega) h1c
  have hend : ∀ W, Below base w W → Blk W N 26 c1.toArray → InsPost xs f i base w (.returned (.slice (some ⟨N, 0, none⟩) (n + 1) G)) (W.setRow N (c1.take ((i + 1) * 4) ++ cs ++ c1.drop ((i + 1) * 4 + cs.length)).toArray) := fun W hBW hW => by
    have hsh := grow_cells R cs (Fx.cs f) (i * 4) (by rw [hfl]; omega)
    rw [hfl, hc1, show i * 4 + 4 = (i + 1) * 4 by omega] at hsh
    dsimp only at hsh
    refine ⟨_, rfl, ?_, below_row hBW hNb _⟩
    rw [hsh]
    have hll : (xs.take i ++ f :: xs.drop i).length = n + 1 := by simp; omega
    rw [← hll]
    refine Own.of_ Fx.cs_length hNb (Blk.row hW _) (by omega) (by simp only [maxLen]; omega) ?_ ?_
    · simp [hfl]; omega
    · rw [hll, ← hl, ← hcs]
      exact new_row Fx.cs_length xs f i (by omega) R _ (by rw [hRt, hc0])
  have hW1 : Blk (w.drew.alloc (.cells R.toArray 26)) N 26 R.toArray := by rw [← hN]; exact Blk.new w.drew _ _
  have hW0 : Blk (w.drew.alloc (.cells R.toArray 26)) g0 26 (Fx.cs f).toArray := Blk.alloc (w := w.drew) hf _
  have hWg : Blk (w.drew.alloc (.cells R.toArray 26)) g 26 cur := Blk.alloc (w := w.drew) hg _
  have hBW : Below base w (w.drew.alloc (.cells R.toArray 26)) := (Below.refl base w).drew.alloc hb _
  obtain ⟨W1, hW1e⟩ : ∃ W1, w.drew.alloc (.cells R.toArray 26) = W1 := ⟨_, rfl⟩
  rw [hW1e] at hW1 hW0 hWg hBW hrz
  have hX1 := Blk.row hW1 c1.toArray
  have hXg : Blk (W1.setRow N c1.toArray) g 26 cur := (setRow_other W1 N g _ (by omega)).trans hWg
  have hXB := below_row hBW hNb c1.toArray
  have hA' := hcpA W1 hW1 hW0
  obtain ⟨W2, hW2e⟩ : ∃ W2, W1.setRow N c1.toArray = W2 := ⟨_, rfl⟩
  rw [hW2e] at hX1 hXg hXB hA'
  have hB' := hcpB W2.drew hX1 hXg
  have HE := Lib.hid (hend W2.drew hXB.drew hX1)
  have mixed : Tryz.prog.follows .mixedOrders = true := by kernel_rfl
  have hw1 : IntKind.i64.wrap ((i : Int) + 1) = (i : Int) + 1 := by rw [IntKind.wrap_i64]; omega
  have hb1 : (0 : Int) ≤ (i : Int) + 1 := by omega
  have htn : ((i : Int) + 1).toNat = i + 1 := by omega
  have hb2 : ¬ (G = i + 1) := by omega
  have hb3 : (i : Int) ≤ (n : Int) := by omega
  have hb5 : (i : Int) ≤ (n : Int) + 1 := by omega
  have hb4 : ¬ (cap = i) := by omega
  have hb6 : ¬ (G = i) := by omega
  clear hend hcd h1c hW1 hW0 hWg hBW hW1e hX1 hXg hXB hW2e ht ho hcut hcs hcpA hcpB hc0d hold hRt hR hRa hc0 hc1 hinf hi0
  go_enter Tryz.func57, Tryz.ntmps57
  go_wp2_with (at_builtin; refine Lib.wpList_append_run _ rfl _ _ _ _ rfl _ _ rfl rfl _ _ (hrz _) ?_)
  go_region_law_o (refine step_copy_runI rfl _ _ 22 22 rfl _ _ (by simp [Act.eval, Act.put]) (by simp [Act.eval, Act.put]) (hB' _ _ _) ?_)
  go_wp2
  go_ret
  have HE' := HE.out
  first | exact HE' | (rw [List.append_assoc, hcl] at HE'; exact HE')
/-- slices.Insert, whichever road it takes. -/
theorem p_ins {base g0 i : Nat} {v : Value} {xs : List Fx} {f : Fx} (w : World) (ho : Own Fx.cs 4 26 w base v xs) (hn : xs.length ≤ 1000000) (hb : base ≤ w.heap.size) (hf : Blk w g0 26 (Fx.cs f).toArray) (hne : v.ownBlock ≠ some g0) (hi : i ≤ xs.length) :
    Calls Tryz.prog 57 #[v, .int .i64 (i : Nat), .slice (some ⟨g0, 0, none⟩) 1 1] w fun e w' => InsPost xs f i base w e w' := by
  by_cases he : i = xs.length
  · subst he; exact p_ins_end w ho hn hb hf
  · rcases ho.row.2 with ⟨rfl, h0⟩ | ⟨g, cap, cur, rfl, _⟩
    · omega
    · have hg : g0 ≠ g := fun e => hne (by rw [e]; rfl)
      by_cases hr : xs.length + 1 ≤ cap
      · exact p_ins_room w ho hn hb hf hg (by omega) hr
      · exact p_ins_grow w ho hn hb hf (by omega) (by omega)
end Go.Proofs.YtpoejheienohjaaGreatDoor
