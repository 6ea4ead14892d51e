/- slices.DeleteFunc of prices: the walk. -/
import Derived.Test.YtdkpbifpafaabaaGreatDoorNeB
namespace Go.Proofs.YtdkpbifpafaabaaGreatDoor
open Go.RowKit
set_option linter.unusedVariables false
set_option linter.unusedSimpArgs false

theorem infoFixZ : (Tryz.prog.info? 47).map (fun i => (i.zero, i.size, i.bytes)) = some (some (.agg #[.string ⟨#[]⟩, .int .i64 0, .string ⟨#[]⟩, .string ⟨#[]⟩]), 4, 56) := by kernel_rfl
theorem setCells_row (w : World) {g o : Nat} {t : TypeId} {cur : Array Value} {vs : List Value} (hg : Blk w g t cur) (hfit : o + vs.length ≤ cur.size) (h1 : ∀ v ∈ vs, v.oneCell' = true) :
    w.setCells g o vs = w.setRow g (cur.toList.take o ++ vs ++ cur.toList.drop (o + vs.length)).toArray := by
  have a := run_storeCells_cells (P := Tryz.prog) g o vs 0 w (fun j hj => by rw [Nat.add_zero]; rw [show (w.cell? ⟨g, o + j, none⟩) = cur[o + j]? from hg.cell (o + j)]; rw [Array.getElem?_eq_getElem (by omega)]; rfl) (fun j hj => by rw [Nat.add_zero]; exact hg.frozen _) h1
  have b := run_storeCells_at Tryz.prog g o t vs 0 cur w hg (by simpa using hfit) h1
  simp only [Nat.add_zero] at a b
  rw [b] at a
  injection a with _ a
  exact a.symm
theorem put4_row {w : World} {g o : Nat} {t : TypeId} {cur : Array Value} {a b c d : Value} (hg : Blk w g t cur) (hfit : o + 4 ≤ cur.size) (h1 : ∀ v ∈ [a, b, c, d], v.oneCell' = true) :
    (((w.setCell ⟨g, o, none⟩ a).setCell ⟨g, o + 1, none⟩ b).setCell ⟨g, o + 2, none⟩ c).setCell ⟨g, o + 3, none⟩ d = w.setRow g (cur.toList.take (0 + o) ++ [a, b, c, d] ++ cur.toList.drop (0 + o + 4)).toArray := by
  rw [Nat.zero_add]
  exact setCells_row w hg hfit h1
theorem zeroC_one {z : Array Value} (hz : ∀ i (h : i < z.size), (z[i]'h).oneCell' = true) (h0 : 0 < z.size) (k : Nat) : ∀ v ∈ (Builtin.zeroCells z k).toList, v.oneCell' = true := by
  intro v hv
  unfold Builtin.zeroCells at hv
  simp only [Array.toList_map, List.mem_map] at hv
  obtain ⟨i, _, rfl⟩ := hv
  have hi : i % z.size < z.size := Nat.mod_lt _ h0
  rw [getElem!_pos z _ hi]
  exact hz _ hi
theorem own_rd {w : World} {base g n cap : Nat} {xs : List Fx} (h : Own Fx.cs 4 47 w base (.slice (some ⟨g, 0, none⟩) n cap) xs) : Rd Fx.cs 4 w (some ⟨g, 0, none⟩) n xs := by
  obtain ⟨A, c, e, hr⟩ := h.rd Fx.cs_length
  injection e with e1 e2 e3
  rw [← e1, ← e2] at hr
  exact hr
theorem bel_mono {b c : Nat} {w W : World} (h : Below b w W) (hc : c ≤ b) : Below c w W := ⟨h.os, h.tape, h.output, h.size, fun k hk => h.block k (by omega)⟩
theorem bel_then {b : Nat} {w W V : World} (h : Below b w W) (k : Below W.heap.size W V) (hb : b ≤ w.heap.size) : Below b w V := h.trans (bel_mono k (Nat.le_trans hb h.size))
theorem ABox.low {w w' : World} {g b : Nat} {s : ByteArray} {ex : Int} (h : ABox w g s ex) (hb : Below b w w') (hg : g < b) : ABox w' g s ex :=
  ⟨(hb.cell (p := ⟨g, 2, none⟩) hg).trans h.1, (hb.cell (p := ⟨g, 8, none⟩) hg).trans h.2.1, Nat.lt_of_lt_of_le h.2.2 hb.size⟩
theorem own_at {w : World} {base g n cap : Nat} {ys : List Fx} (h : Own Fx.cs 4 47 w base (.slice (some ⟨g, 0, none⟩) n cap) ys) {j : Nat} {a0 a2 a3 : ByteArray} {a1 : Int} (hj : ys[j]? = some ⟨a0, a1, ⟨a2, a3⟩⟩) :
    (w.cell? ⟨g, j * 4, none⟩ = some (.string a0) ∧ w.cell? ⟨g, j * 4 + 1, none⟩ = some (.int .i64 a1) ∧ w.cell? ⟨g, j * 4 + 2, none⟩ = some (.string a2) ∧ w.cell? ⟨g, j * 4 + 3, none⟩ = some (.string a3)) ∧
    (∀ o, w.frozen? ⟨g, o, none⟩ = false) ∧ g < w.heap.size := by
  have hr := own_rd h
  have hjn : j < ys.length := (List.getElem?_eq_some_iff.1 hj).1
  obtain ⟨cur, hb, _⟩ := h.some_
  obtain ⟨ad, e, hl, hc⟩ := hr.cells (by rw [← hr.len]; omega)
  injection e with e
  subst e
  have ha : ∀ k, (⟨g, 0, none⟩ : Addr).add k = ⟨g, k, none⟩ := fun k => by unfold Addr.add; split <;> simp_all
  have hc' := hc j _ hj
  simp only [ha] at hc'
  exact ⟨⟨hc' 0 _ rfl, hc' 1 _ rfl, hc' 2 _ rfl, hc' 3 _ rfl⟩, fun o => hb.frozen o, hl⟩
set_option maxRecDepth 100000 in
set_option maxHeartbeats 4000000 in
theorem p_ndel_no {base g n cap : Nat} {xs : List Fx} (g0 : Nat) (s : ByteArray) (ex : Int) (w : World) (hbox : ABox w g0 s ex) (ho : Own Fx.cs 4 47 w base (.slice (some ⟨g, 0, none⟩) n cap) xs) (hb : base ≤ w.heap.size) (hall : xs.all (fun f => !ndel s ex f) = true) :
    Calls Tryz.prog 110 #[.slice (some ⟨g, 0, none⟩) n cap, .func (.func 111) #[] #[.pointer (some ⟨g0, 0, none⟩)]] w (DelPost xs s ex base w) := by
  have hI := p_nidx (c := cap) g0 s ex w hbox (own_rd ho)
  have hI2 : Calls Tryz.prog 140 #[.slice (some ⟨g, 0, none⟩) n cap, .func (.func 111) #[] #[.pointer (some ⟨g0, 0, none⟩)]] w fun e w' => e = .returned (.int .i64 (-1)) ∧ Below w.heap.size w w' := by
    refine hI.mono ?_
    rintro e w1 ⟨⟨k, a, rfl, hk1, hk2, hk3⟩ | ⟨rfl, hk1⟩, hb1⟩
    · have := List.all_eq_true.1 hall a (List.mem_of_getElem? hk1)
      rw [hk2] at this; cases this
    · exact ⟨rfl, hb1⟩
  have HO := Lib.hid ho
  have HF := Lib.hid (show xs.filter (nkeep s ex) = xs from filter_all hall)
  clear hbox ho hI hall
  go_enter Tryz.func110, Tryz.ntmps110
  go_wp2_with (go_at_call 140; (with_reducible refine hI2.mono ?_); rintro e w1 ⟨rfl, hb1⟩)
  go_ret
  exact ⟨_, rfl, by rw [HF.out]; exact HO.out.below hb1, bel_mono hb1 hb⟩
set_option maxRecDepth 100000 in
set_option maxHeartbeats 4000000 in
theorem p_ndel_yes {base g n cap : Nat} {xs : List Fx} (g0 : Nat) (s : ByteArray) (ex : Int) (w : World) (hbox : ABox w g0 s ex) (hg0 : g0 < base) (ho : Own Fx.cs 4 47 w base (.slice (some ⟨g, 0, none⟩) n cap) xs) (hb : base ≤ w.heap.size) (hn : n ≤ 1000000) (hall : xs.all (fun f => !ndel s ex f) = false) :
    Calls Tryz.prog 110 #[.slice (some ⟨g, 0, none⟩) n cap, .func (.func 111) #[] #[.pointer (some ⟨g0, 0, none⟩)]] w (DelPost xs s ex base w) := by
  obtain ⟨cur, hg, hbg, hl, hc, hm, hs, ht⟩ := ho.some_
  simp only [maxLen] at hm
  have hI := p_nidx (c := cap) g0 s ex w hbox (own_rd ho)
  have hI2 : Calls Tryz.prog 140 #[.slice (some ⟨g, 0, none⟩) n cap, .func (.func 111) #[] #[.pointer (some ⟨g0, 0, none⟩)]] w fun e w' => (∃ k : Nat, e = .returned (.int .i64 (k : Nat)) ∧ DelI xs xs s ex k (k + 1)) ∧ Below w.heap.size w w' := by
    refine hI.mono ?_
    rintro e w1 ⟨⟨k, a, rfl, hk1, hk2, hk3⟩ | ⟨rfl, hk1⟩, hb1⟩
    · exact ⟨⟨k, rfl, DelI.start hk1 hk2 hk3⟩, hb1⟩
    · rw [hall] at hk1; cases hk1
  have HB := Lib.hid hbox
  have HO := Lib.hid ho
  clear hbox ho ht hI hall hg hs
  go_enter Tryz.func110, Tryz.ntmps110
  go_wp2_with (go_at_call 140; (with_reducible refine hI2.mono ?_); rintro e w1 ⟨⟨k0, rfl, hD⟩, hb1⟩; have hk0 := hD.lt; have hk1 := hD.le; rw [hl] at hk1; have HD := Lib.hid hD; clear hD; have hne1 : ((k0 : Int) == -1) = false := beq_eq_false_iff_ne.2 (by omega))
  have HO1 := Lib.hid (HO.out.below hb1)
  have HB1 := Lib.hid (HB.out.below hb1)
  have hB1 := bel_mono hb1 hb
  clear hI2 hne1
  go_loopw [5, 6] (fun si sj wr => ∃ (i j : Nat) (ys : List Fx), si = .int .i64 i ∧ sj = .int .i64 j ∧ j ≤ n ∧ i < j ∧ Hid (DelI xs ys s ex i j) ∧ Hid (Own Fx.cs 4 47 wr base (.slice (some ⟨g, 0, none⟩) n cap) ys) ∧ Hid (Below base w wr)) (fun _ j _ => n - (intOf j).toNat)
  case atStart => exact ⟨k0, k0 + 1, xs, rfl, by go_num, hk1, hk0, HD, HO1, hB1⟩
  case round =>
    obtain ⟨i, j, ys, rfl, rfl, hj, hij, HD, HO, HW⟩ := hrel
    have hyl : ys.length = n := HD.out.len.trans hl
    by_cases hlt : j < n
    · obtain ⟨⟨a0, a1, ⟨a2, a3⟩⟩, hyj⟩ : ∃ a, ys[j]? = some a := ⟨_, List.getElem?_eq_getElem (by omega)⟩
      obtain ⟨⟨b0, b1, ⟨b2, b3⟩⟩, hyi⟩ : ∃ a, ys[i]? = some a := ⟨_, List.getElem?_eq_getElem (by omega)⟩
      have hxj : xs[j]? = some ⟨a0, a1, ⟨a2, a3⟩⟩ := (HD.out.at_ (by omega)).symm.trans hyj
      obtain ⟨⟨x0, x1, x2, x3⟩, hfr, hgl⟩ := own_at HO.out hyj
      obtain ⟨⟨y0, y1, y2, y3⟩, _, _⟩ := own_at HO.out hyi
      have HX := Lib.hid hxj
      have HBw := Lib.hid (HB.out.low HW.out hg0)
      have hN := fun W h => p_nk a0 a2 a3 a1 g0 s ex W h
      clear hxj hyj hyi
      cases hd : ndel s ex ⟨a0, a1, ⟨a2, a3⟩⟩ with
      | true =>
        rw [hd] at hN
        have HD2 := Lib.hid (HD.out.skip HX.out hd)
        clear hd y0 y1 y2 y3
        go_wp2_with (go_at_call 111; (with_reducible refine ((hN _ (HBw.out.below (by repeat (first | exact Below.refl _ _ | assumption | refine b_then ?_ (by assumption) | refine b_alloc ?_ _ | refine b_drewN ?_ _ | refine Below.drew ?_ | refine b_set ?_ (by first | exact Nat.le_refl _ | (simp; done) | (simp; omega) | omega) _))))).mono ?_); rintro e w4 ⟨rfl, hb4⟩; obtain ⟨hc4, hf4⟩ := bcell hb4; have hs4 := hb4.size; (try simp at hs4))
        go_roundw
        case rel => exact ⟨i, j + 1, ys, rfl, by go_num, by omega, by omega, HD2, (HO.out.alloc _).below hb4, bel_then HW.out (b_then (b_alloc (Below.refl _ _) _) hb4) hb⟩
        case measure => simp [intOf]; omega
      | false =>
        rw [hd] at hN
        have HD2 := Lib.hid (HD.out.keep HX.out hd)
        clear hd
        go_wp2_with (go_at_call 111; (with_reducible refine ((hN _ (HBw.out.below (by repeat (first | exact Below.refl _ _ | assumption | refine b_then ?_ (by assumption) | refine b_alloc ?_ _ | refine b_drewN ?_ _ | refine Below.drew ?_ | refine b_set ?_ (by first | exact Nat.le_refl _ | (simp; done) | (simp; omega) | omega) _))))).mono ?_); rintro e w4 ⟨rfl, hb4⟩; obtain ⟨hc4, hf4⟩ := bcell hb4; have hs4 := hb4.size; (try simp at hs4))
        obtain ⟨cur2, hgb, hgbase, hsz, hput⟩ := ((HO.out.alloc _).below hb4).put4 (f := ⟨a0, a1, ⟨a2, a3⟩⟩) (i := i) (by omega)
        have e := put4_row (a := .string a0) (b := .int .i64 a1) (c := .string a2) (d := .string a3) hgb hsz (by simp [Value.oneCell'])
        have hW4 : Below base w w4 := bel_then HW.out (b_then (b_alloc (Below.refl _ _) _) hb4) hb
        have E := Lib.hid e
        have P := Lib.hid hput
        clear hput e hc4 hf4 x0 x1 x2 x3 y0 y1 y2 y3
        go_roundw
        case rel => exact ⟨i + 1, j + 1, _, by go_num, by go_num, by omega, by omega, HD2, by rw [E.out]; exact P.out, by rw [E.out]; exact below_row hW4 hgbase _⟩
        case measure => simp [intOf]; omega
    · obtain rfl : j = n := by omega
      obtain ⟨cur2, hgb, hgbase, hl2, _, _, hs2, ht2⟩ := HO.out.some_
      obtain ⟨i0, hi0, hz0, hz1, hz2⟩ := info_parts infoFixZ
      obtain ⟨zs, hzs⟩ : ∃ zs, (Builtin.zeroCells (Value.agg #[.string ⟨#[]⟩, .int .i64 0, .string ⟨#[]⟩, .string ⟨#[]⟩]).cells (j - i)).toList = zs := ⟨_, rfl⟩
      have hzl : zs.length = (j - i) * 4 := by rw [← hzs, Array.length_toList, size_zeroCells]; rfl
      have hz1c : ∀ u ∈ zs, u.oneCell' = true := by
        rw [← hzs]
        refine zeroC_one ?_ (by decide) _
        intro k hk
        have hk4 : k < 4 := hk
        rcases k with _ | _ | _ | _ | k <;> first | rfl | omega
      obtain ⟨c2, hc2⟩ : ∃ c2, cur2.toList.take (i * 4) ++ zs ++ cur2.toList.drop (i * 4 + zs.length) = c2 := ⟨_, rfl⟩
      have hji : ∃ m, j - i = m + 1 := ⟨j - i - 1, by omega⟩
      have hclr : ∀ ty c, (Builtin.clear_ #[29] ty #[.slice (some ⟨g, i * 4, none⟩) (j - i) c]).run Tryz.prog wr = .ok (.tuple #[]) (wr.setRow g c2.toArray) := fun ty c => by
        have b := run_storeCells_at Tryz.prog g (i * 4) 47 zs 0 cur2 wr hgb (by rw [hzl, hs2]; have := Nat.sub_add_cancel (Nat.le_of_lt hij); omega) hz1c
        simp only [Nat.add_zero] at b
        obtain ⟨m, hm⟩ := hji
        rw [hm] at hzs
        simp [Builtin.clear_, run_underlying Tryz.underlying29, zeroValue, typeInfo, hi0, hz0, hm, hzs, b, hc2]
      have hend : DelPost xs s ex base w (.returned (.slice (some ⟨g, 0, none⟩) i cap)) (wr.setRow g c2.toArray) := by
        refine ⟨_, rfl, ?_, below_row HW.out hgbase _⟩
        have hD := HD.out
        rw [← hl] at hD
        have hend := hD.end_
        have hfl : (xs.filter (nkeep s ex)).length = i := by rw [← hend, List.length_take]; omega
        rw [← hfl]
        refine Own.of_ Fx.cs_length hgbase (Blk.row hgb _) (by omega) (by simp only [maxLen]; omega) ?_ ?_
        · rw [← hc2, List.size_toArray, List.length_append, List.length_append, List.length_take, List.length_drop, hzl, Array.length_toList, hs2]; omega
        · rw [hfl, ← hend, ← flat_take Fx.cs_length, ← ht2, ← hc2, List.toList_toArray, List.take_take, Nat.min_eq_left (by omega), List.append_assoc, List.take_append_of_le_length (by rw [List.length_take, Array.length_toList, hs2]; omega), List.take_take, Nat.min_self]
      have HE := Lib.hid hend
      clear hend hgb hs2 ht2 hi0 hz0 hz1c hzs hc2 hz1 hz2 HD HO
      have hb3 : (i : Int) ≤ (j : Int) := by omega
      have hb4 : (j : Int) ≤ (cap : Int) := by omega
      have hb5 : (i : Int) ≤ (cap : Int) := by omega
      have hb6 : ¬ (cap = i) := by omega
      go_wp2
      go_ret
      exact HE.out
theorem p_ndel_nil {base : Nat} (g0 : Nat) (s : ByteArray) (ex : Int) (w : World) (hbox : ABox w g0 s ex) (hb : base ≤ w.heap.size) :
    Calls Tryz.prog 110 #[.slice none 0 0, .func (.func 111) #[] #[.pointer (some ⟨g0, 0, none⟩)]] w (DelPost [] s ex base w) := by
  have hI := p_nidx (A := none) (n := 0) (c := 0) (xs := []) g0 s ex w hbox Rd.nil
  have hI2 : Calls Tryz.prog 140 #[.slice none 0 0, .func (.func 111) #[] #[.pointer (some ⟨g0, 0, none⟩)]] w fun e w' => e = .returned (.int .i64 (-1)) ∧ Below w.heap.size w w' := by
    refine hI.mono ?_
    rintro e w1 ⟨⟨k, a, rfl, hk1, hk2, hk3⟩ | ⟨rfl, hk1⟩, hb1⟩
    · simp at hk1
    · exact ⟨rfl, hb1⟩
  clear hbox hI
  go_enter Tryz.func110, Tryz.ntmps110
  go_wp2_with (go_at_call 140; (with_reducible refine hI2.mono ?_); rintro e w1 ⟨rfl, hb1⟩)
  go_ret
  exact ⟨_, rfl, Own.nil, bel_mono hb1 hb⟩
theorem p_ndelete {base : Nat} {v : Value} {xs : List Fx} (g0 : Nat) (s : ByteArray) (ex : Int) (w : World) (hbox : ABox w g0 s ex) (hg0 : g0 < base) (ho : Own Fx.cs 4 47 w base v xs) (hb : base ≤ w.heap.size) (hn : xs.length ≤ 1000000) :
    Calls Tryz.prog 110 #[v, .func (.func 111) #[] #[.pointer (some ⟨g0, 0, none⟩)]] w (DelPost xs s ex base w) := by
  rcases ho.row.2 with ⟨rfl, h0⟩ | ⟨g, cap, cur, rfl, _⟩
  · have : xs = [] := List.length_eq_zero_iff.1 h0
    subst this
    exact p_ndel_nil g0 s ex w hbox hb
  · cases hall : xs.all (fun f => !ndel s ex f) with
    | true => exact p_ndel_no g0 s ex w hbox ho hb hall
    | false => exact p_ndel_yes g0 s ex w hbox hg0 ho hb hn hall
end Go.Proofs.YtdkpbifpafaabaaGreatDoor
