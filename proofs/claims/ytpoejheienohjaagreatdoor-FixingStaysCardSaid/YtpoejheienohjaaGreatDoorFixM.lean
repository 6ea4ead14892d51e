/- slices.Insert of prices, in the middle. -/
import Derived.Test.YtpoejheienohjaaGreatDoorFixG
import Derived.Deep.RegionLaw
namespace Go.Proofs.YtpoejheienohjaaGreatDoor
open Go.RowKit
set_option linter.unusedVariables false
set_option linter.unusedSimpArgs false

theorem fix_size : (Tryz.prog.info? 26).map (·.size) = some 4 := by kernel_rfl
theorem fix_sizeOf (w : World) : (Go.sizeOf 26).run Tryz.prog w = .ok 4 w := by
  have h := fix_size
  cases hq : Tryz.prog.info? 26 with
  | none => rw [hq] at h; cases h
  | some i =>
    have hi : i.size = 4 := by rw [hq] at h; simpa using h
    simp [sizeOf, typeInfo, hq, hi]
theorem run_ovl (w : World) {g0 g la ca lb cb : Nat} {cs cur : Array Value} {o : Nat} (hne : g0 ≠ g) (h0 : Blk w g0 26 cs) (hg : Blk w g 26 cur) (hs : cur.size ≠ 0) :
    (callFunc 88 #[.slice (some ⟨g0, 0, none⟩) la ca, .slice (some ⟨g, o, none⟩) lb cb]).run Tryz.prog w = .ok (.value (.bool false)) w := by
  rw [run_callFunc_extern Tryz.func88 (by kernel_rfl) (by kernel_rfl) (by kernel_rfl) (e := Extern.SlicesOverlaps.overlaps #[22, 22] #[4]) (by kernel_rfl),
    Lib.run_overlaps_apart w 22 4 26 Tryz.underlying22 4 fix_sizeOf ⟨g0, 0, none⟩ ⟨g, o, none⟩ la ca lb cb hne 26 26 cs.size cur.size (by unfold Blk at h0; simp [World.shape?, h0]) (by unfold Blk at hg; simp [World.shape?, hg]) hs (h0.frozen 0) (h0.frozen _)]
  rfl
theorem add_lit4 (g i : Nat) : (⟨g, 0, none⟩ : Addr).add i = ⟨g, i, none⟩ := by unfold Addr.add; split <;> simp_all
theorem Blk.row {w : World} {g : Nat} {t : TypeId} {cs : Array Value} (h : Blk w g t cs) (cs' : Array Value) : Blk (w.setRow g cs') g t cs' := setRow_heap w g cs cs' t (0, 0) h
theorem below_row {w W : World} {g base : Nat} (h : Below base w W) (hg : base ≤ g) (cs : Array Value) : Below base w (W.setRow g cs) :=
  ⟨h.os, h.tape, h.output, by rw [setRow_size]; exact h.size, fun k hk => (setRow_other W g k cs (by omega)).trans (h.block k hk)⟩
set_option maxRecDepth 100000 in
set_option maxHeartbeats 4000000 in
theorem p_ins_room {base g g0 n cap i : Nat} {xs : List Fx} {f : Fx} (w : World) (ho : Own Fx.cs 4 26 w base (.slice (some ⟨g, 0, none⟩) n cap) xs) (hn : n ≤ 1000000) (hb : base ≤ w.heap.size) (hf : Blk w g0 26 (Fx.cs f).toArray) (hne : g0 ≠ g) (hi : i < n) (hroom : n + 1 ≤ cap) :
    Calls Tryz.prog 57 #[.slice (some ⟨g, 0, none⟩) n cap, .int .i64 (i : Nat), .slice (some ⟨g0, 0, none⟩) 1 1] w fun e w' => InsPost xs f i base w e w' := by
  obtain ⟨cur, hg, hbg, hl, hc, hm, hs, ht⟩ := ho.some_
  simp only [maxLen] at hm
  obtain ⟨cs, hcs⟩ : ∃ cs, (xs.drop i).flatMap Fx.cs = cs := ⟨_, rfl⟩
  have hcl : cs.length = (n - i) * 4 := by rw [← hcs, flat_len Fx.cs_length, List.length_drop, hl]
  have hcut : cur.toList.take (i * 4) = (xs.take i).flatMap Fx.cs := by
    rw [← flat_take Fx.cs_length, ← ht, List.take_take, Nat.min_eq_left (Nat.mul_le_mul_right _ (by omega))]
  have hcd : ∀ j u, cs[j]? = some u → cur[i * 4 + j]? = some u := by
    intro j u hu
    rw [← hcs, ← flat_drop Fx.cs_length, ← ht, List.getElem?_drop, List.getElem?_take] at hu
    split at hu
    · simpa using hu
    · cases hu
  have h1c : ∀ u ∈ cs, u.oneCell' = true := by
    rw [← hcs]; intro u hu
    obtain ⟨y, _, hy⟩ := List.mem_flatMap.1 hu
    exact Fx.cs_one y u hy
  have hfl : (Fx.cs f).length = 4 := rfl
  have hov : ∀ o lb cb, (callFunc 88 #[.slice (some ⟨g0, 0, none⟩) 1 1, .slice (some ⟨g, o, none⟩) lb cb]).run Tryz.prog w = .ok (.value (.bool false)) w := fun o lb cb => run_ovl w hne hf hg (by omega)
  obtain ⟨c1, hc1⟩ : ∃ c1, cur.toList.take ((i + 1) * 4) ++ cs ++ cur.toList.drop ((i + 1) * 4 + cs.length) = c1 := ⟨_, rfl⟩
  have hcp1 : ∀ ty dc sc, (Builtin.copy_ #[22, 22] ty #[.slice (some ⟨g, (i + 1) * 4, none⟩) (n - i) dc, .slice (some ⟨g, i * 4, none⟩) (n + 1 - i) sc]).run Tryz.prog w.drew = .ok (goInt (n - i : Nat)) (w.drew.setRow g c1.toArray) := fun ty dc sc => by
    rw [← hc1]
    exact run_copy_z w.drew _ _ ty _ 4 g ((i + 1) * 4) (n - i) dc ⟨g, i * 4, none⟩ (n + 1 - i) sc cur _ cs Tryz.underlying22 fix_size hg (n - i) (by simp only [Nat.min_def]; split <;> omega) hcl (fun j u hu => by
      have ha : (⟨g, i * 4, none⟩ : Addr).add j = ⟨g, i * 4 + j, none⟩ := by unfold Addr.add; split <;> simp_all
      rw [ha]; exact (Blk.cell hg _).trans (hcd j u hu)) (by omega) h1c
  have hc1l : c1.length = cur.size := by
    rw [← hc1]; simp; omega
  have hgw : Blk (w.drew.setRow g c1.toArray) g 26 c1.toArray := Blk.row (w := w.drew) hg _
  have hfw : Blk (w.drew.setRow g c1.toArray) g0 26 (Fx.cs f).toArray := (setRow_other w.drew g g0 _ hne).trans hf
  obtain ⟨W1, hW1⟩ : ∃ W1, w.drew.setRow g c1.toArray = W1 := ⟨_, rfl⟩
  have hB1 : Below base w W1 := by rw [← hW1]; exact below_row (Below.refl base w).drew hbg _
  rw [hW1] at hcp1 hgw hfw
  have hcp2 : ∀ ty dc, (Builtin.copy_ #[22, 22] ty #[.slice (some ⟨g, i * 4, none⟩) (n + 1 - i) dc, .slice (some ⟨g0, 0, none⟩) 1 1]).run Tryz.prog W1 = .ok (goInt (1 : Nat)) (W1.setRow g (c1.take (i * 4) ++ Fx.cs f ++ c1.drop (i * 4 + 4)).toArray) := fun ty dc => by
    have := run_copy_z W1 22 22 ty _ 4 g (i * 4) (n + 1 - i) dc ⟨g0, 0, none⟩ 1 1 c1.toArray _ (Fx.cs f) Tryz.underlying22 fix_size hgw 1 (by simp only [Nat.min_def]; split <;> omega) (by rw [hfl]) (fun j u hu => by
      rw [add_lit4]; exact (Blk.cell hfw _).trans (by simpa using hu)) (by rw [hfl]; simp; omega) (Fx.cs_one f)
    exact this
  have hend : InsPost xs f i base w (.returned (.slice (some ⟨g, 0, none⟩) (n + 1) cap)) (W1.setRow g (c1.take (i * 4) ++ Fx.cs f ++ c1.drop (i * 4 + 4)).toArray) := by
    have hsh := shift_cells cur.toList cs (Fx.cs f) (i * 4) (by rw [hfl]; simp; omega)
    rw [hfl, show i * 4 + 4 = (i + 1) * 4 by omega, hc1] at hsh
    dsimp only at hsh
    refine ⟨_, rfl, ?_, below_row hB1 hbg _⟩
    rw [show i * 4 + 4 = (i + 1) * 4 by omega, hsh]
    have hll : (xs.take i ++ f :: xs.drop i).length = n + 1 := by simp; omega
    rw [← hll]
    refine Own.of_ Fx.cs_length hbg (Blk.row hgw _) (by omega) (by simp only [maxLen]; omega) ?_ ?_
    · simp; omega
    · rw [hll, ← hl, ← hcs]
      exact new_row Fx.cs_length xs f i (by omega) cur.toList _ hcut
  have HE := Lib.hid hend
  have mixed : Tryz.prog.follows .mixedOrders = true := by kernel_rfl
  clear hend hcd h1c hgw hfw hB1 hW1 ht ho hcut hcs
  go_enter Tryz.func57, Tryz.ntmps57
  go_wp2_with (simp only [hov])
  have hw1 : IntKind.i64.wrap ((i : Int) + 1) = (i : Int) + 1 := by rw [IntKind.wrap_i64]; omega
  have hb1 : (0 : Int) ≤ (i : Int) + 1 := by omega
  have htn : ((i : Int) + 1).toNat = i + 1 := by omega
  have hb2 : ¬ (cap = i + 1) := by omega
  have hb3 : (i : Int) ≤ (n : Int) := by omega
  have hb5 : (i : Int) ≤ (n : Int) + 1 := by omega
  have hb4 : ¬ (cap = i) := by omega
  go_region_law_o (refine step_copy_runI rfl _ _ 22 22 rfl _ _ (by simp [Act.eval, Act.put]) (by simp [Act.eval, Act.put]) (hcp1 _ _ _) ?_)
  go_wp2_with (at_builtin; refine wpList_copy_runI _ rfl _ _ 22 22 rfl _ _ rfl rfl (hcp2 _ _) ?_)
  go_ret
  have HE' := HE.out
  rw [List.append_assoc] at HE'
  exact HE'
end Go.Proofs.YtpoejheienohjaaGreatDoor
