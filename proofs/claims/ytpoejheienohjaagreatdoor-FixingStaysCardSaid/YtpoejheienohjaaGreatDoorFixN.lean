/- slices.Insert of prices, in the middle, without room; all roads. -/
import Derived.Test.YtpoejheienohjaaGreatDoorFixM
namespace Go.Proofs.YtpoejheienohjaaGreatDoor
open Go.RowKit
set_option linter.unusedVariables false
set_option linter.unusedSimpArgs false

theorem infoFix : ∃ zero, (Tryz.prog.info? 26).map (fun i => (i.zero, i.size, i.bytes)) = some (some zero, 4, 56) ∧ zero.cells.size = 4 := Tryz.elemFix.inf
set_option maxRecDepth 100000 in
set_option maxHeartbeats 4000000 in
theorem p_ins_grow {base g g0 n cap i : Nat} {xs : List Fx} {f : Fx} (w : World) (ho : Own Fx.cs 4 26 w base (.slice (some ⟨g, 0, none⟩) n cap) xs) (hn : n ≤ 1000000) (hb : base ≤ w.heap.size) (hf : Blk w g0 26 (Fx.cs f).toArray) (hi : i < n) (hroom : cap < n + 1) :
    Calls Tryz.prog 57 #[.slice (some ⟨g, 0, none⟩) n cap, .int .i64 (i : Nat), .slice (some ⟨g0, 0, none⟩) 1 1] w fun e w' => InsPost xs f i base w e w' := by
  obtain ⟨cur, hg, hbg, hl, hc, hm, hs, ht⟩ := ho.some_
  simp only [maxLen] at hm
  obtain ⟨cs, hcs⟩ : ∃ cs, (xs.drop i).flatMap Fx.cs = cs := ⟨_, rfl⟩
  have hcl : cs.length = (n - i) * 4 := by rw [← hcs, flat_len Fx.cs_length, List.length_drop, hl]
  obtain ⟨c0, hc0⟩ : ∃ c0, (xs.take i).flatMap Fx.cs = c0 := ⟨_, rfl⟩
  have hc0l : c0.length = i * 4 := by rw [← hc0, flat_len Fx.cs_length, List.length_take, hl, Nat.min_eq_left (by omega)]
  have hcut : cur.toList.take (i * 4) = c0 := by
    rw [← hc0, ← flat_take Fx.cs_length, ← ht, List.take_take, Nat.min_eq_left (Nat.mul_le_mul_right _ (by omega))]
  have hcd : ∀ j u, cs[j]? = some u → cur[i * 4 + j]? = some u := by
    intro j u hu
    rw [← hcs, ← flat_drop Fx.cs_length, ← ht, List.getElem?_drop, List.getElem?_take] at hu
    split at hu
    · simpa using hu
    · cases hu
  have hc0d : ∀ (j : Nat) (u : Value), c0[j]? = some u → cur[j]? = some u := by
    intro j u hu
    rw [← hcut, List.getElem?_take] at hu
    split at hu
    · simpa using hu
    · cases hu
  have h1c : ∀ u ∈ cs, u.oneCell' = true := by
    rw [← hcs]; intro u hu
    obtain ⟨y, _, hy⟩ := List.mem_flatMap.1 hu
    exact Fx.cs_one y u hy
  have hfl : (Fx.cs f).length = 4 := rfl
  obtain ⟨zero, hinf, hzs⟩ := infoFix
  obtain ⟨i0, hi0, hz0, hz1, hz2⟩ := info_parts hinf
  have hold : (Builtin.firstCells i0.size i (.slice (some ⟨g, 0, none⟩) i cap)).run Tryz.prog w.drew = .ok c0.toArray w.drew := by
    rw [hz1]
    exact run_firstCells_some w.drew 4 i ⟨g, 0, none⟩ i cap c0 hc0l (fun j u hj => by rw [add_lit4]; exact (Blk.cell hg _).trans (hc0d j u hj))
  have hrz : ∀ ty, (Builtin.append_ #[22, 3] ty #[.slice (some ⟨g, 0, none⟩) i cap, .int .i64 ((n : Int) + 1 - (i : Int))]).run Tryz.prog w =
      .ok (.slice (some ⟨w.heap.size, 0, none⟩) (n + 1) (grownCap w (n + 1) cap 26)) (w.drew.alloc (.cells (c0.toArray ++ Builtin.zeroCells zero.cells (n + 1 - i) ++ Builtin.zeroCells zero.cells (grownCap w (n + 1) cap 26 - (n + 1))) 26)) := fun ty => by
    have hik : i + (n + 1 - i) = n + 1 := by omega
    have h := Lib.run_append_grow_zeros w 22 3 ty 26 i0 _ .i64 .i64 Tryz.underlying22 Tryz.underlying3 hi0 hz0 (some ⟨g, 0, none⟩) i cap c0 hold (n + 1 - i) (by omega) (by omega) (by omega) (by omega) (by rw [hz2]; omega) (by rw [hz2, hik]; exact growslice_fits hroom (by omega))
    rw [hik] at h
    rw [show (n : Int) + 1 - (i : Int) = ((n + 1 - i : Nat) : Int) by omega]
    exact h
  have hGn : n + 1 ≤ grownCap w (n + 1) cap 26 := grownCap_ge w _ _ _
  have hG63 := grownCap_le_maxLen w (n + 1) cap 26 (by unfold maxLen; omega)
  obtain ⟨G, hG⟩ : ∃ G, grownCap w (n + 1) cap 26 = G := ⟨_, rfl⟩
  rw [hG] at hrz hGn hG63
  simp only [maxLen] at hG63
  obtain ⟨R, hR⟩ : ∃ R : List Value, (c0.toArray ++ Builtin.zeroCells zero.cells (n + 1 - i) ++ Builtin.zeroCells zero.cells (G - (n + 1))).toList = R := ⟨_, rfl⟩
  have hRl : R.length = G * 4 := by
    rw [← hR]
    simp only [Array.length_toList, Array.size_append, List.size_toArray, size_zeroCells, hzs, hc0l]
    omega
  have hRt : R.take (i * 4) = c0 := by
    rw [← hR, Array.toList_append, Array.toList_append, List.append_assoc, List.take_append_of_le_length (by simp; omega), List.take_of_length_le (by simp; omega)]
  have hRa : (c0.toArray ++ Builtin.zeroCells zero.cells (n + 1 - i) ++ Builtin.zeroCells zero.cells (G - (n + 1))) = R.toArray := by rw [← hR]
  rw [hRa] at hrz
  obtain ⟨N, hN⟩ : ∃ N, w.heap.size = N := ⟨_, rfl⟩
  have hgN : g < N := by rw [← hN]; exact hg.lt
  have hg0N : g0 < N := by rw [← hN]; exact hf.lt
  have hNb : base ≤ N := by omega
  rw [hN] at hrz
  -- behind the append
  obtain ⟨c1, hc1⟩ : ∃ c1, R.take (i * 4) ++ Fx.cs f ++ R.drop (i * 4 + 4) = c1 := ⟨_, rfl⟩
  have hc1l : c1.length = G * 4 := by
    rw [← hc1]; simp [hfl]; omega
  have hcpA : ∀ (W : World), Blk W N 26 R.toArray → Blk W g0 26 (Fx.cs f).toArray → ∀ ty dc, (Builtin.copy_ #[22, 22] ty #[.slice (some ⟨N, i * 4, none⟩) (n + 1 - i) dc, .slice (some ⟨g0, 0, none⟩) 1 1]).run Tryz.prog W = .ok (goInt (1 : Nat)) (W.setRow N c1.toArray) := fun W hW1 hW2 ty dc => by
    have := run_copy_z W 22 22 ty _ 4 N (i * 4) (n + 1 - i) dc ⟨g0, 0, none⟩ 1 1 R.toArray _ (Fx.cs f) Tryz.underlying22 fix_size hW1 1 (by simp only [Nat.min_def]; split <;> omega) (by rw [hfl]) (fun j u hu => by
      rw [add_lit4]; exact (Blk.cell hW2 _).trans (by simpa using hu)) (by rw [hfl]; simp; omega) (Fx.cs_one f)
    rw [← hc1]; exact this
  have hcpB : ∀ (W : World), Blk W N 26 c1.toArray → Blk W g 26 cur → ∀ ty dc sc, (Builtin.copy_ #[22, 22] ty #[.slice (some ⟨N, (i + 1) * 4, none⟩) (n - i) dc, .slice (some ⟨g, i * 4, none⟩) (n - i) sc]).run Tryz.prog W = .ok (goInt (n - i : Nat)) (W.setRow N (c1.take ((i + 1) * 4) ++ cs ++ c1.drop ((i + 1) * 4 + cs.length)).toArray) := fun W hW1 hW2 ty dc sc =>
    run_copy_z W _ _ ty _ 4 N ((i + 1) * 4) (n - i) dc ⟨g, i * 4, none⟩ (n - i) sc c1.toArray _ cs Tryz.underlying22 fix_size hW1 (n - i) (by simp) hcl (fun j u hu => by
      have ha : (⟨g, i * 4, none⟩ : Addr).add j = ⟨g, i * 4 + j, none⟩ := by unfold Addr.add; split <;> simp_all
      rw [ha]; exact (Blk.cell hW2 _).trans (hcd j u hu)) (by simp; omega) h1c
  have hend : ∀ W, Below base w W → Blk W N 26 c1.toArray → InsPost xs f i base w (.returned (.slice (some ⟨N, 0, none⟩) (n + 1) G)) (W.setRow N (c1.take ((i + 1) * 4) ++ cs ++ c1.drop ((i + 1) * 4 + cs.length)).toArray) := fun W hBW hW => by
    have hsh := grow_cells R cs (Fx.cs f) (i * 4) (by rw [hfl]; omega)
    rw [hfl, hc1, show i * 4 + 4 = (i + 1) * 4 by omega] at hsh
    dsimp only at hsh
    refine ⟨_, rfl, ?_, below_row hBW hNb _⟩
    rw [hsh]
    have hll : (xs.take i ++ f :: xs.drop i).length = n + 1 := by simp; omega
    rw [← hll]
    refine Own.of_ Fx.cs_length hNb (Blk.row hW _) (by omega) (by simp only [maxLen]; omega) ?_ ?_
    · simp [hfl]; omega
    · rw [hll, ← hl, ← hcs]
      exact new_row Fx.cs_length xs f i (by omega) R _ (by rw [hRt, hc0])
  have hW1 : Blk (w.drew.alloc (.cells R.toArray 26)) N 26 R.toArray := by rw [← hN]; exact Blk.new w.drew _ _
  have hW0 : Blk (w.drew.alloc (.cells R.toArray 26)) g0 26 (Fx.cs f).toArray := Blk.alloc (w := w.drew) hf _
  have hWg : Blk (w.drew.alloc (.cells R.toArray 26)) g 26 cur := Blk.alloc (w := w.drew) hg _
  have hBW : Below base w (w.drew.alloc (.cells R.toArray 26)) := (Below.refl base w).drew.alloc hb _
  obtain ⟨W1, hW1e⟩ : ∃ W1, w.drew.alloc (.cells R.toArray 26) = W1 := ⟨_, rfl⟩
  rw [hW1e] at hW1 hW0 hWg hBW hrz
  have hX1 := Blk.row hW1 c1.toArray
  have hXg : Blk (W1.setRow N c1.toArray) g 26 cur := (setRow_other W1 N g _ (by omega)).trans hWg
  have hXB := below_row hBW hNb c1.toArray
  have hA' := hcpA W1 hW1 hW0
  obtain ⟨W2, hW2e⟩ : ∃ W2, W1.setRow N c1.toArray = W2 := ⟨_, rfl⟩
  rw [hW2e] at hX1 hXg hXB hA'
  have hB' := hcpB W2.drew hX1 hXg
  have HE := Lib.hid (hend W2.drew hXB.drew hX1)
  have mixed : Tryz.prog.follows .mixedOrders = true := by kernel_rfl
  have hw1 : IntKind.i64.wrap ((i : Int) + 1) = (i : Int) + 1 := by rw [IntKind.wrap_i64]; omega
  have hb1 : (0 : Int) ≤ (i : Int) + 1 := by omega
  have htn : ((i : Int) + 1).toNat = i + 1 := by omega
  have hb2 : ¬ (G = i + 1) := by omega
  have hb3 : (i : Int) ≤ (n : Int) := by omega
  have hb5 : (i : Int) ≤ (n : Int) + 1 := by omega
  have hb4 : ¬ (cap = i) := by omega
  have hb6 : ¬ (G = i) := by omega
  clear hend hcd h1c hW1 hW0 hWg hBW hW1e hX1 hXg hXB hW2e ht ho hcut hcs hcpA hcpB hc0d hold hRt hR hRa hc0 hc1 hinf hi0
  go_enter Tryz.func57, Tryz.ntmps57
  go_wp2_with (at_builtin; refine Lib.wpList_append_run _ rfl _ _ _ _ rfl _ _ rfl rfl _ _ (hrz _) ?_)
  go_region_law_o (refine step_copy_runI rfl _ _ 22 22 rfl _ _ (by simp [Act.eval, Act.put]) (by simp [Act.eval, Act.put]) (hB' _ _ _) ?_)
  go_wp2
  go_ret
  have HE' := HE.out
  first | exact HE' | (rw [List.append_assoc, hcl] at HE'; exact HE')
/-- slices.Insert, whichever road it takes. -/
theorem p_ins {base g0 i : Nat} {v : Value} {xs : List Fx} {f : Fx} (w : World) (ho : Own Fx.cs 4 26 w base v xs) (hn : xs.length ≤ 1000000) (hb : base ≤ w.heap.size) (hf : Blk w g0 26 (Fx.cs f).toArray) (hne : v.ownBlock ≠ some g0) (hi : i ≤ xs.length) :
    Calls Tryz.prog 57 #[v, .int .i64 (i : Nat), .slice (some ⟨g0, 0, none⟩) 1 1] w fun e w' => InsPost xs f i base w e w' := by
  by_cases he : i = xs.length
  · subst he; exact p_ins_end w ho hn hb hf
  · rcases ho.row.2 with ⟨rfl, h0⟩ | ⟨g, cap, cur, rfl, _⟩
    · omega
    · have hg : g0 ≠ g := fun e => hne (by rw [e]; rfl)
      by_cases hr : xs.length + 1 ≤ cap
      · exact p_ins_room w ho hn hb hf hg (by omega) hr
      · exact p_ins_grow w ho hn hb hf (by omega) (by omega)
end Go.Proofs.YtpoejheienohjaaGreatDoor
