/- Neutral prices: the walk of neutral.one. -/
import Derived.Test.YtdkpbifpafaabaaGreatDoorPkE
import Derived.Test.YtdkpbifpafaabaaGreatDoorNeD
namespace Go.Proofs.YtdkpbifpafaabaaGreatDoor
open Go.RowKit
set_option linter.unusedVariables false
set_option linter.unusedSimpArgs false

theorem AMay.nrat20 {a : Ac} (h : AMay a) : a.ratio.num.size ≤ 20 ∧ a.ratio.den.size ≤ 20 := by
  have := h.ratio
  cases hc : arat a.kind with
  | true => rw [hc] at this; exact ⟨(anum_yes this).num, (anum_yes this).den⟩
  | false => rw [hc] at this; rw [anum_no this]; exact ⟨by decide, by decide⟩
theorem AMay.nother {a : Ac} (h : AMay a) : a.other.size ≤ 20 := by
  by_cases hk : 3 ≤ a.kind
  · exact (isName_size (aasset_of (h.oth hk).1).1).2
  · rw [h.noth (by omega)]; decide
/-- What is known of the parts of an action's pack. -/
theorem npof_ptq {a : Ac} (h : amay a = true) : ∀ x ∈ pofL a, ptq 1000 x := by
  have o := amay_of h
  intro x hx
  have hn := (pone_of (pofL_pone h x hx)).name
  refine ⟨by have := (isName_size hn).2; omega, ?_⟩
  obtain ⟨r1, r2⟩ := o.nrat20
  have e1 : (enc 1).num.size ≤ 1000 ∧ (enc 1).den.size ≤ 1000 := ⟨by decide, by decide⟩
  rcases kinds o with k | k | k | k | k
  · rw [pofL_0 h k, List.mem_singleton] at hx
    subst hx; exact ⟨by dsimp only; omega, by dsimp only; omega⟩
  · rw [pofL_1 h k, List.mem_singleton] at hx
    subst hx
    obtain ⟨q, hq, hq2⟩ := radd_one (o.rat (by omega)).may
    have hs : rsmall 20 q := rsmall_of (by rw [← hq]; exact r1) (by rw [← hq]; exact r2)
    have h1 : rsmall 1 (1 : Rat) := ⟨by show ndg (1 : Int).natAbs ≤ _; rw [show (1 : Int).natAbs = 1 from rfl, ndg_small (by omega)]; omega, by show ndg 1 ≤ _; rw [ndg_small (by omega)]; omega⟩
    have h2 := rsmall_add h1 hs
    rw [hq2]
    refine ⟨?_, ?_⟩
    · show (iS (1 + q).num).size ≤ 1000
      have := iS_sz h2.1; omega
    · show (nS (1 + q).den).size ≤ 1000
      rw [nS_size]; have := h2.2; omega
  · rw [pofL_2 h k, List.mem_singleton] at hx
    subst hx; exact e1
  · rw [pofL_3 h k] at hx
    have hh : x = ⟨a.asset, enc 1⟩ ∨ x = ⟨a.other, a.ratio⟩ := by
      split at hx
      · simpa using hx
      · exact Or.symm (by simpa using hx)
    rcases hh with rfl | rfl
    · exact e1
    · exact ⟨by dsimp only; omega, by dsimp only; omega⟩
  · rw [pofL_4 h k, List.mem_singleton] at hx
    subst hx; exact ⟨by dsimp only; omega, by dsimp only; omega⟩
/-- Of an action that may be: its parts, the first one, its sizes. -/
structure NAc (a : Ac) (q0 q1 q2 : ByteArray) (l : List Pt) : Prop where
  parts : pofL a = ⟨q0, ⟨q1, q2⟩⟩ :: l
  one : npart a = q0
  few : l.length ≤ 1
  name : a.name.size ≤ 20
  asset : a.asset.size ≤ 20
  other : a.other.size ≤ 20
  r1 : a.ratio.num.size ≤ 20
  r2 : a.ratio.den.size ≤ 20
  c1 : a.cash.num.size ≤ 20
  c2 : a.cash.den.size ≤ 20
theorem nac {a : Ac} (h : amay a = true) : ∃ q0 q1 q2 l, NAc a q0 q1 q2 l := by
  have o := amay_of h
  have hl := pof_len h
  cases hp : pofL a with
  | nil => rw [hp] at hl; split at hl <;> cases hl
  | cons x l =>
    obtain ⟨q0, q1, q2⟩ := x
    rw [hp] at hl
    refine ⟨q0, q1, q2, l, hp, by unfold npart; rw [hp], by have h5 : l.length + 1 = _ := hl; split at h5 <;> omega, (isName_size o.name).2, (isName_size (aasset_of o.asset).1).2, o.nother, o.nrat20.1, o.nrat20.2, o.cash20.1, o.cash20.2⟩
def NewFix (ys : List Fx) (w : World) (e : Ending) (w' : World) : Prop := ∃ v, e = .returned v ∧ Own Fx.cs 4 47 w' w.heap.size v ys ∧ Below w.heap.size w w'
set_option maxRecDepth 100000 in
set_option maxHeartbeats 4000000 in
theorem p_none {A : Option Addr} {n c : Nat} {xs : List Fx} (a0 : ByteArray) (a1 : Int) (a2 a3 a4 a5 a6 a7 : ByteArray) (a8 a9 a10 : Int) (w : World) (hg : Glob w) (hx : Rd Fx.cs 4 w A n xs) (hn : n ≤ 400000) (hz : ∀ f ∈ xs, fxr 1000000 f) (hm : amay ⟨a0, a1, a2, a3, ⟨a4, a5⟩, ⟨a6, a7⟩, a8, a9, a10⟩ = true) (hf : fmay xs = true) :
    Calls Tryz.prog 70 #[.slice A n c, .agg #[.string a0, .int .i64 a1, .string a2, .string a3, .string a4, .string a5, .string a6, .string a7, .int .i64 a8, .int .i64 a9, .int .i64 a10]] w (NewFix (nfix ⟨a0, a1, a2, a3, ⟨a4, a5⟩, ⟨a6, a7⟩, a8, a9, a10⟩ xs) w) := by
  obtain ⟨q0, q1, q2, l, N⟩ := nac hm
  have hxl := hx.len
  have n0 := N.name
  have n2 := N.asset
  have n3 := N.other
  have n4 := N.r1
  have n5 := N.r2
  have n6 := N.c1
  have n7 := N.c2
  dsimp only at n0 n2 n3 n4 n5 n6 n7
  have hO := fun W (h : Below w.heap.size w W) => p_of a0 a1 a2 a3 a4 a5 a6 a7 a8 a9 a10 W (hg.below h) (by omega) (by omega) (by omega) (by omega) (by omega) (by omega) (by omega)
  have hpt := npof_ptq hm
  have hW : ∀ d, pval (pofL ⟨a0, a1, a2, a3, ⟨a4, a5⟩, ⟨a6, a7⟩, a8, a9, a10⟩) ⟨a6, a7⟩ xs d = nworth ⟨a0, a1, a2, a3, ⟨a4, a5⟩, ⟨a6, a7⟩, a8, a9, a10⟩ xs d := fun d => by unfold nworth; rw [pofC_yes hm]
  rw [pofC_yes hm, N.parts] at hO
  rw [N.parts] at hpt
  simp only [N.parts] at hW
  have hlen : (⟨q0, ⟨q1, q2⟩⟩ :: l : List Pt).length = l.length + 1 := rfl
  obtain ⟨m, hml⟩ : ∃ m, l.length + 1 = m := ⟨_, rfl⟩
  have hm2 : 1 ≤ m ∧ m ≤ 2 := by have := N.few; omega
  have hone := N.one
  have NM := Lib.hid (fun k => @nmid_all ⟨a0, a1, a2, a3, ⟨a4, a5⟩, ⟨a6, a7⟩, a8, a9, a10⟩ xs hm hf k)
  have NI := Lib.hid (fun k f => @nmid_idle ⟨a0, a1, a2, a3, ⟨a4, a5⟩, ⟨a6, a7⟩, a8, a9, a10⟩ xs k f)
  have NP := Lib.hid (fun k f v => @nmid_put ⟨a0, a1, a2, a3, ⟨a4, a5⟩, ⟨a6, a7⟩, a8, a9, a10⟩ xs hm hf k f v)
  have N0 := nmid_zero ⟨a0, a1, a2, a3, ⟨a4, a5⟩, ⟨a6, a7⟩, a8, a9, a10⟩ xs
  have NX0 := Lib.hid (show nfix ⟨a0, a1, a2, a3, ⟨a4, a5⟩, ⟨a6, a7⟩, a8, a9, a10⟩ xs = nmid ⟨a0, a1, a2, a3, ⟨a4, a5⟩, ⟨a6, a7⟩, a8, a9, a10⟩ xs n by unfold nfix; rw [hxl])
  have NX : nfix ⟨a0, a1, a2, a3, ⟨a4, a5⟩, ⟨a6, a7⟩, a8, a9, a10⟩ xs = nmid ⟨a0, a1, a2, a3, ⟨a4, a5⟩, ⟨a6, a7⟩, a8, a9, a10⟩ xs n := by unfold nfix; rw [hxl]
  have NH : ∀ f, nhit ⟨a0, a1, a2, a3, ⟨a4, a5⟩, ⟨a6, a7⟩, a8, a9, a10⟩ f = (f.asset.toList == q0.toList && decide (a8 ≤ f.day)) := fun f => by unfold nhit; rw [hone]
  rw [NX]
  clear N hone NX
  dsimp only at N0
  obtain ⟨a, ha⟩ : ∃ a : Ac, a = ⟨a0, a1, a2, a3, ⟨a4, a5⟩, ⟨a6, a7⟩, a8, a9, a10⟩ := ⟨_, rfl⟩
  rw [← ha] at NM NI NP N0 hW NH ⊢
  have haa : a.asset = a2 := by rw [ha]
  obtain ⟨L, hL⟩ : ∃ L : List Pt, L = ⟨q0, ⟨q1, q2⟩⟩ :: l := ⟨_, rfl⟩
  rw [← hL] at hO hpt hW hlen
  have hL0 : L[0]? = some ⟨q0, ⟨q1, q2⟩⟩ := by rw [hL]; rfl
  rw [hml] at hlen
  clear hm ha hL hml
  go_enter Tryz.func70, Tryz.ntmps70
  have bx0 : Blk (w.alloc (.cells #[.string a0, .int .i64 a1, .string a2, .string a3, .string a4, .string a5, .string a6, .string a7, .int .i64 a8, .int .i64 a9, .int .i64 a10] 25)) w.heap.size 25 #[.string a0, .int .i64 a1, .string a2, .string a3, .string a4, .string a5, .string a6, .string a7, .int .i64 a8, .int .i64 a9, .int .i64 a10] := Blk.new w _ _
  have BX := Lib.hid bx0
  clear bx0
  go_wp2_with (go_at_call 20; (with_reducible refine (hO _ (by repeat (first | exact Below.refl _ _ | assumption | refine b_then ?_ (by assumption) | refine b_alloc ?_ _ | refine b_drewN ?_ _ | refine Below.drew ?_ | refine b_set ?_ (by first | exact Nat.le_refl _ | (simp; done) | (simp; omega) | omega) _))).mono ?_); rintro e w4 ⟨B, k1, rfl, hR, hb4⟩; revert hR hb4)
  intro hR hb4'
  have hb4 : Below (w.alloc (.cells #[.string a0, .int .i64 a1, .string a2, .string a3, .string a4, .string a5, .string a6, .string a7, .int .i64 a8, .int .i64 a9, .int .i64 a10] 25)).heap.size (w.alloc (.cells #[.string a0, .int .i64 a1, .string a2, .string a3, .string a4, .string a5, .string a6, .string a7, .int .i64 a8, .int .i64 a9, .int .i64 a10] 25)) w4 := by simpa using hb4'
  clear hb4'
  have hB4 : Below w.heap.size w w4 := (by repeat (first | exact Below.refl _ _ | assumption | refine b_then ?_ (by assumption) | refine b_alloc ?_ _ | refine b_drewN ?_ _ | refine Below.drew ?_ | refine b_set ?_ (by first | exact Nat.le_refl _ | (simp; done) | (simp; omega) | omega) _))
  have b4 := BX.out.below hb4
  clear hb4 BX hO
  have hl4 := b4.lt
  have facts : Below w.heap.size w (w4.alloc (.cells #[.slice B m k1, .string a6, .string a7] 28)) ∧ Rd Pt.cs 3 (w4.alloc (.cells #[.slice B m k1, .string a6, .string a7] 28)) B m L ∧ Blk (w4.alloc (.cells #[.slice B m k1, .string a6, .string a7] 28)) w.heap.size 25 #[.string a0, .int .i64 a1, .string a2, .string a3, .string a4, .string a5, .string a6, .string a7, .int .i64 a8, .int .i64 a9, .int .i64 a10] ∧ Blk (w4.alloc (.cells #[.slice B m k1, .string a6, .string a7] 28)) w4.heap.size 28 #[.slice B m k1, .string a6, .string a7] := ⟨b_alloc hB4 _, hR.below (b_alloc (Below.refl _ _) _), b4.alloc _, Blk.new _ _ _⟩
  obtain ⟨Y, hY⟩ : ∃ Y, w4.alloc (.cells #[.slice B m k1, .string a6, .string a7] 28) = Y := ⟨_, rfl⟩
  rw [hY] at facts
  obtain ⟨hBY, RY, bY, PY⟩ := facts
  clear hB4 hR b4
  have hYl := bY.lt
  have hPl := PY.lt
  have hg0 : w.heap.size < Y.heap.size := hYl
  obtain ⟨ad, hB1, hadl, hadc⟩ := RY.cells (by omega)
  subst hB1
  have had : Y.cell? ad = some (.string q0) := by have := hadc 0 _ hL0 0 _ rfl; simpa [Addr.add] using this
  clear hadc
  have hBox : ABox Y w.heap.size a2 a8 := ⟨by simpa using bY.cell 2, by simpa using bY.cell 8, hYl⟩
  have HBox := Lib.hid hBox
  have hC := fun W (h : Below Y.heap.size Y W) => p_clone (c := c) W ((hx.below hBY).below h) (by omega)
  clear hBox
  go_wp2_with (first
    | (go_at_call 74; (with_reducible refine (hC _ (Below.refl _ _)).mono ?_); rintro e w5 ⟨v5, rfl, ho5, hb5⟩; have hs5 := hb5.size; have hB5 := Lib.hid (HBox.out.below hb5))
    | (go_at_call 110; (with_reducible refine (p_ndelete w.heap.size a2 a8 w5 hB5.out hg0 ho5 hs5 (by omega)).mono ?_); rintro e w6 ⟨v6, rfl, ho6, hb6⟩; revert ho6 hb6))
  intro ho6 hb6
  have hB6 : Below Y.heap.size Y w6 := hb5.trans hb6
  rw [← N0] at ho6
  clear hb5 hb6 ho5 hs5 hB5 hC
  have HO := Lib.hid ho6
  clear ho6
  go_wp2
  go_loopw [6, 21] (fun out si wr => ∃ k : Nat, k ≤ n ∧ si = .int .i64 k ∧ Hid (Own Fx.cs 4 47 wr Y.heap.size out (nmid a xs k)) ∧ Hid (Below Y.heap.size Y wr)) (fun _ i _ => n - (intOf i).toNat)
  case atStart => exact ⟨0, Nat.zero_le _, rfl, HO, hB6⟩
  case round =>
    obtain ⟨k, hk, rfl, HO, HB⟩ := hrel
    obtain ⟨A9, c9, hv9, R9⟩ := HO.out.rd Fx.cs_length
    subst hv9
    obtain ⟨n9, hn9⟩ : ∃ n9, (nmid a xs k).length = n9 := ⟨_, rfl⟩
    rw [hn9] at HO R9 ⊢
    have HN9 := Lib.hid hn9
    have hn9' : n9 ≤ 800000 := by have := (NM.out k (by omega)).2.2; omega
    have HR9 := Lib.hid R9
    clear R9 hn9
    have HB' := HB.out
    have hBw : Below w.heap.size w wr := b_then hBY HB'
    have bW := bY.below HB'
    have PW := PY.below HB'
    have k2 := bW.cell 2
    have k8 := bW.cell 8
    have kP := PW.cell 0
    have kP1 := PW.cell 1
    have kP2 := PW.cell 2
    simp at k2 k8 kP kP1 kP2
    have hadw := (HB'.cell (p := ad) hadl).trans had
    have s1 : w.heap.size < wr.heap.size := bW.lt
    have s2 : w4.heap.size < wr.heap.size := PW.lt
    have s3 : ad.block < wr.heap.size := Nat.lt_of_lt_of_le hadl HB'.size
    by_cases hlt : k < n
    · obtain ⟨ad2, b0, b1, b2, b3, rfl, hxk, hl⟩ := fx_in hx hBw hlt
      have HX := Lib.hid hxk
      obtain ⟨x0, x1, x2, x3, x3'⟩ := hl wr (Below.refl _ _)
      clear hxk hl
      by_cases e0 : (b0.toList == q0.toList) = true
      · by_cases e1 : b1 < a8
        · have hI := NI.out k _ HX.out (.inl (by rw [NH]; dsimp only; rw [e0, decide_eq_false (by omega)]; rfl))
          have HO2 : Hid (Own Fx.cs 4 47 wr Y.heap.size (.slice A9 n9 c9) (nmid a xs (k + 1))) := by rw [hI]; exact HO
          clear hI
          go_wp2
          go_quiet (fail)
          go_wp2
          go_roundw
          case rel => exact ⟨k + 1, by omega, by go_num, (HO2.out.alloc _).drewN _, b_drewN (b_alloc HB' _) _⟩
          case measure => simp [intOf]; omega
        · have hhit : nhit a ⟨b0, b1, ⟨b2, b3⟩⟩ = true := by rw [NH]; dsimp only; rw [e0, decide_eq_true (by omega)]; rfl
          have hV := fun W (h : Below Y.heap.size Y W) => p_value (c := k1) (cf := c) a6 a7 b1 W (hg.below (b_then hBY h)) (RY.below h) (by omega) hpt (by omega) (by omega) (hx.below (b_then hBY h)) (by omega) hz
          rw [hW b1] at hV
          have HH := Lib.hid hhit
          clear hhit hW
          cases hv : nworth a xs b1 with
          | none =>
            rw [hv, optR_none] at hV
            have hI := NI.out k _ HX.out (.inr hv)
            have HO2 : Hid (Own Fx.cs 4 47 wr Y.heap.size (.slice A9 n9 c9) (nmid a xs (k + 1))) := by rw [hI]; exact HO
            clear hI hv
            go_wp2
            go_quiet (fail)
            rename_i nq
            go_wp2_with (go_at_call 17; (with_reducible refine (hV _ (b_drewN (b_alloc HB' _) _)).mono ?_); rintro e w5 ⟨rfl, hb5⟩; obtain ⟨hc5, hf5⟩ := bcell hb5; have hs5 := hb5.size; (try simp at hs5); skip)
            go_roundw
            case rel => exact ⟨k + 1, by omega, by go_num, (((HO2.out.alloc _).drewN _).below hb5).alloc _, b_alloc (b_then (b_drewN (b_alloc HB' _) _) hb5) _⟩
            case measure => simp [intOf]; omega
          | some v =>
            obtain ⟨v0, v1⟩ := v
            rw [hv] at hV
            have hP := NP.out k _ _ HX.out HH.out hv
            have hv' : optR (some ⟨v0, v1⟩) = .tuple #[.agg #[.string v0, .string v1], .bool true] := rfl
            rw [hv'] at hV
            clear hv hv'
            have HP := Lib.hid hP
            clear hP
            go_wp2
            go_quiet (fail)
            rename_i nq
            have hBq : Below Y.heap.size Y ((wr.alloc (.cells #[.string b0, .int .i64 b1, .string b2, .string b3] 47)).drewN nq) := b_drewN (b_alloc HB' _) _
            have hO5 := Lib.hid ((HO.out.alloc (.cells #[.string b0, .int .i64 b1, .string b2, .string b3] 47)).drewN nq)
            have hF5 : Blk ((wr.alloc (.cells #[.string b0, .int .i64 b1, .string b2, .string b3] 47)).drewN nq) wr.heap.size 47 #[.string b0, .int .i64 b1, .string b2, .string b3] := (Blk.new wr _ _).drewN nq
            have bW5 := (bW.alloc (.cells #[.string b0, .int .i64 b1, .string b2, .string b3] 47)).drewN nq
            have HF5 := Lib.hid hF5
            have HB5 := Lib.hid bW5
            clear hF5 bW5
            go_wp2_with (first
              | (go_at_call 17; (with_reducible refine (hV _ hBq).mono ?_); rintro e w5 ⟨rfl, hb5⟩; have bB5 := HB5.out.below hb5; have bF5 := HF5.out.below hb5; have y2 := bB5.cell 2; have y3 := bF5.cell 1; have ly2 := bB5.lt; have ly3 := bF5.lt; simp at y2 y3)
              | (go_at_call 78; (with_reducible refine (p_find a2 b1 (w5.alloc (.cells #[.string v0, .string v1] 23)) (HR9.out.below (b_alloc (b_then (b_drewN (b_alloc (Below.refl _ _) _) nq) hb5) _)) (by omega)).mono ?_); rintro e w6 ⟨j, rfl, hj, hb6⟩; revert hj hb6))
            intro hj hb6'
            have hb6 : Below (w5.alloc (.cells #[.string v0, .string v1] 23)).heap.size (w5.alloc (.cells #[.string v0, .string v1] 23)) w6 := by simpa using hb6'
            clear hb6'
            have hj' : bsI (nmid a xs k) ⟨a2, b1, ⟨v0, v1⟩⟩ j j := hj
            have hjl : j ≤ n9 := by have := hj.2.1; rw [HN9.out] at this; exact this
            have hins : (nmid a xs k).take j ++ ⟨a2, b1, ⟨v0, v1⟩⟩ :: (nmid a xs k).drop j = nmid a xs (k + 1) := by
              have h1 := HP.out.2
              rw [haa] at h1
              have hfm := (NM.out k (by omega)).1
              rw [fset_cut hfm hj'] at h1
              split at h1
              · injection h1
              · cases h1
            have hB56 : Below Y.heap.size Y w6 := b_then (b_alloc (b_then hBq hb5) _) hb6
            have bB6 := (bB5.alloc (.cells #[.string v0, .string v1] 23)).below hb6
            have bF6 := (bF5.alloc (.cells #[.string v0, .string v1] 23)).below hb6
            have bR6 := (Blk.new w5 23 #[.string v0, .string v1]).below hb6
            have hO6 := Lib.hid (((hO5.out.below hb5).alloc (.cells #[.string v0, .string v1] 23)).below hb6)
            have hap : (Value.slice A9 n9 c9).ownBlock ≠ some w6.heap.size := fun e => Nat.lt_irrefl _ (hO6.out.lt _ e)
            have hO7 := Lib.hid (hO6.out.alloc (.cells #[.string a2, .int .i64 b1, .string v0, .string v1] 47))
            have hB7 : Blk (w6.alloc (.cells #[.string a2, .int .i64 b1, .string v0, .string v1] 47)) w6.heap.size 47 (Fx.cs ⟨a2, b1, ⟨v0, v1⟩⟩).toArray := Blk.new _ _ _
            have hBs : Below Y.heap.size Y (w6.alloc (.cells #[.string a2, .int .i64 b1, .string v0, .string v1] 47)) := b_alloc hB56 _
            have HI := Lib.hid (hins)
            have hIns := p_ins (i := j) _ hO7.out (by rw [HN9.out]; omega) hBs.size hB7 hap (by rw [HN9.out]; exact hjl)
            unfold InsPost at hIns
            rw [HI.out] at hIns
            have z2 := bB6.cell 2
            have z1 := bF6.cell 1
            have zr0 := bR6.cell 0
            have zr1 := bR6.cell 1
            have l1 := bB6.lt
            have l2 := bF6.lt
            have l3 := bR6.lt
            simp at z2 z1 zr0 zr1
            clear y2 y3 ly2 ly3 bB5 bF5 hb5 hb6 hins hj hj' hV
            go_wp2_with (go_at_call 112; (with_reducible refine hIns.mono ?_); rintro e w7 ⟨v7, rfl, ho7, hb7⟩)
            go_roundw
            case rel => exact ⟨k + 1, by omega, by go_num, ho7, hBs.trans hb7⟩
            case measure => simp [intOf]; omega
      · simp only [Bool.not_eq_true] at e0
        have hI := NI.out k _ HX.out (.inl (by rw [NH]; dsimp only; rw [e0]; rfl))
        have HO2 : Hid (Own Fx.cs 4 47 wr Y.heap.size (.slice A9 n9 c9) (nmid a xs (k + 1))) := by rw [hI]; exact HO
        clear hI
        go_wp2
        go_quiet (fail)
        go_wp2
        go_roundw
        case rel => exact ⟨k + 1, by omega, by go_num, (HO2.out.alloc _).drewN _, b_drewN (b_alloc HB' _) _⟩
        case measure => simp [intOf]; omega
    · obtain rfl : k = n := by omega
      go_wp2
      go_ret
      exact ⟨_, rfl, HO.out.lower (Nat.le_of_lt hYl), hBw⟩
end Go.Proofs.YtdkpbifpafaabaaGreatDoor
