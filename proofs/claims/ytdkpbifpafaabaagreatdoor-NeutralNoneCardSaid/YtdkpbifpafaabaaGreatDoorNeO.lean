/- NeutralNone: the walk (given the fixed calls). -/
import Derived.Test.YtdkpbifpafaabaaGreatDoorNeL
import Derived.Test.YtdkpbifpafaabaaGreatDoorNeK
namespace Go.Proofs.YtdkpbifpafaabaaGreatDoor
open Go.RowKit
set_option linter.unusedVariables false
set_option linter.unusedSimpArgs false


theorem all_snoc {α : Type} {p : α → Bool} {l : List α} {k : Nat} {x : α} (hx : l[k]? = some x) : (l.take (k + 1)).all p = ((l.take k).all p && p x) := by
  rw [List.take_add_one, hx, List.all_append]; simp
def flate (ex : Int) (f : Fx) : Bool := decide (f.day < ex)
def fbare (o : ByteArray) (ex : Int) (f : Fx) : Bool := !(f.asset.toList == o.toList) || decide (f.day < ex)
set_option maxRecDepth 100000 in
set_option maxHeartbeats 8000000 in
theorem l_nnone (HF : Fixed17Ok) (a0 : ByteArray) (a1 : Int) (a2 a3 a4 a5 a6 a7 : ByteArray) (a8 a9 a10 : Int) {A : Option Addr} {n c : Nat} {xs : List Fx} (w : World) (hg : Glob w) (hx : Rd Fx.cs 4 w A n xs) (hz : ∀ f ∈ xs, f.asset.size ≤ 9223372036854775807 ∧ f.p.num.size ≤ 9223372036854775807 ∧ f.p.den.size ≤ 9223372036854775807)
    (h0 : a0.size ≤ 9223372036854775807) (h2 : a2.size ≤ 9223372036854775807) (h3 : a3.size ≤ 9223372036854775807) (h4 : a4.size ≤ 9223372036854775807) (h5 : a5.size ≤ 9223372036854775807) (h6 : a6.size ≤ 9223372036854775807) (h7 : a7.size ≤ 9223372036854775807) :
    Calls Tryz.prog 12 #[.slice A n c, .agg #[.string a0, .int .i64 a1, .string a2, .string a3, .string a4, .string a5, .string a6, .string a7, .int .i64 a8, .int .i64 a9, .int .i64 a10]] w fun e w' => e = .returned (.bool true) ∧ Below w.heap.size w w' := by
  have hF := fun W (h : Below w.heap.size w W) => HF W (hg.below h)
  obtain ⟨p1, hp1⟩ : ∃ b, fsmall xs = b := ⟨_, rfl⟩
  obtain ⟨p2, hp2⟩ : ∃ b, fmay xs = b := ⟨_, rfl⟩
  obtain ⟨p3, hp3⟩ : ∃ b, amay ⟨a0, a1, a2, a3, ⟨a4, a5⟩, ⟨a6, a7⟩, a8, a9, a10⟩ = b := ⟨_, rfl⟩
  have hSm := fun W (h : Below w.heap.size w W) => r12_small (c := c) W (hx.below h) hz
  have hLt := fun W => r15_light a0 a1 a2 a3 a4 a5 a6 a7 a8 a9 a10 W h0 h2 h3 h4 h5 h6 h7
  have hMy := fun (hs : fsmall xs = true) W (h : Below w.heap.size w W) => r12_may (c := c) W (hx.below h) (fun f hf => fxq_sz (fxr_q ((fsmall_r hs).1 f hf) (by omega)))
  have hAm := fun (hs : a4.size ≤ 30 ∧ a5.size ≤ 30 ∧ a6.size ≤ 30 ∧ a7.size ≤ 30) W => r15_may a0 a1 a2 a3 a4 a5 a6 a7 a8 a9 a10 W h0 h2 h3 (by omega) (by omega) (by omega) (by omega)
  rw [hp1] at hSm
  rw [hp2] at hMy
  rw [hp3] at hAm
  have HP1 := Lib.hid hp1
  have HP2 := Lib.hid hp2
  have HP3 := Lib.hid hp3
  have hbig := hx.big
  have hxl := hx.len
  clear hp1 hp2 hp3
  have hOne := fun (hs : fsmall xs = true) (h4 : a4.size ≤ 30 ∧ a5.size ≤ 30 ∧ a6.size ≤ 30 ∧ a7.size ≤ 30) W (h : Below w.heap.size w W) => p_nOne (c := c) a0 a1 a2 a3 a4 a5 a6 a7 a8 a9 a10 W (hg.below h) (hx.below h) (by have := (fsmall_r hs).2; omega) (fun f hf => fxr_mono ((fsmall_r hs).1 f hf) (by omega)) h0 h2 h3 (by omega) (by omega) (by omega) (by omega)
  obtain ⟨ys, hys⟩ : ∃ ys, nout ⟨a0, a1, a2, a3, ⟨a4, a5⟩, ⟨a6, a7⟩, a8, a9, a10⟩ xs = ys := ⟨_, rfl⟩
  obtain ⟨m9, hm9⟩ : ∃ m9, ys.length = m9 := ⟨_, rfl⟩
  rw [hys] at hOne
  have HOne := Lib.hid hOne
  have HYS := Lib.hid hys
  have HM9 := Lib.hid hm9
  clear hys hm9 hOne
  go_enter Tryz.func12, Tryz.ntmps12
  have ba0 : Blk (w.alloc (.cells #[.string a0, .int .i64 a1, .string a2, .string a3, .string a4, .string a5, .string a6, .string a7, .int .i64 a8, .int .i64 a9, .int .i64 a10] 25)) w.heap.size 25 #[.string a0, .int .i64 a1, .string a2, .string a3, .string a4, .string a5, .string a6, .string a7, .int .i64 a8, .int .i64 a9, .int .i64 a10] := Blk.new w _ _
  have BA := Lib.hid ba0
  clear ba0
  go_wp2_with (first | (go_at_call 33; (with_reducible refine (hF _ (by repeat (first | exact Below.refl _ _ | assumption | refine b_then ?_ (by assumption) | refine b_alloc ?_ _ | refine b_drewN ?_ _ | refine Below.drew ?_ | refine b_set ?_ (by first | exact Nat.le_refl _ | (simp; done) | (simp; omega) | omega) _))).mono ?_); rintro e w1 ⟨rfl, hb1⟩; obtain ⟨hc1, hf1⟩ := bcell hb1; have hs1 := hb1.size; (try simp at hs1); have hq1 : w.heap.size < w1.heap.size := (by omega)) | (go_at_call 15; (with_reducible refine (hSm _ (by repeat (first | exact Below.refl _ _ | assumption | refine b_then ?_ (by assumption) | refine b_alloc ?_ _ | refine b_drewN ?_ _ | refine Below.drew ?_ | refine b_set ?_ (by first | exact Nat.le_refl _ | (simp; done) | (simp; omega) | omega) _))).mono ?_); rintro e w' ⟨rfl, rfl⟩; cases p1) | (go_at_call 13; (with_reducible refine (hLt _).mono ?_); rintro e w2 ⟨b, rfl, hbL, hb2⟩; obtain ⟨hc2, hf2⟩ := bcell hb2; have hs2 := hb2.size; (try simp at hs2); have hq2 : w.heap.size < w2.heap.size := (by omega); have HbL := Lib.hid hbL; clear hbL; cases b) | (go_at_call 32; (with_reducible refine (hMy HP1.out _ (by repeat (first | exact Below.refl _ _ | assumption | refine b_then ?_ (by assumption) | refine b_alloc ?_ _ | refine b_drewN ?_ _ | refine Below.drew ?_ | refine b_set ?_ (by first | exact Nat.le_refl _ | (simp; done) | (simp; omega) | omega) _))).mono ?_); rintro e w3 ⟨rfl, hb3⟩; obtain ⟨hc3, hf3⟩ := bcell hb3; have hs3 := hb3.size; (try simp at hs3); have hq3 : w.heap.size < w3.heap.size := (by omega); cases p2) | (go_at_call 29; (with_reducible refine (hAm (HbL.out (by first | rfl | trivial)) _).mono ?_); rintro e w4 ⟨rfl, hb4⟩; obtain ⟨hc4, hf4⟩ := bcell hb4; have hs4 := hb4.size; (try simp at hs4); have hq4 : w.heap.size < w4.heap.size := (by omega); cases p3))
  any_goals
    go_ret
    exact ⟨rfl, (by repeat (first | exact Below.refl _ _ | assumption | refine b_then ?_ (by assumption) | refine b_alloc ?_ _ | refine b_drewN ?_ _ | refine Below.drew ?_ | refine b_set ?_ (by first | exact Nat.le_refl _ | (simp; done) | (simp; omega) | omega) _))⟩
  have hB4 : Below w.heap.size w w4 := b_then (b_then (b_then (b_then (b_alloc (Below.refl _ _) _) hb1) hb3) hb2) hb4
  have bA4 := (((BA.out.below hb1).below hb3).below hb2).below hb4
  have hsz := HbL.out (by first | rfl | trivial)
  have BA4 := Lib.hid bA4
  have hla := bA4.lt
  clear hb1 hc1 hf1 hs1 hq1 hb2 hc2 hf2 hs2 hq2 hb3 hc3 hf3 hs3 hq3 hb4 hc4 hf4 hs4 hq4 HbL BA hF hSm hLt hMy hAm bA4
  go_loopw [5, 6, 7] (fun lt br i wr => ∃ (k : Nat) (lv bv : Bool), k ≤ n ∧ lt = .bool lv ∧ br = .bool bv ∧ i = .int .i64 k ∧ Hid ((xs.take k).all (flate a8) = lv) ∧ Hid ((xs.take k).all (fbare a3 a8) = bv) ∧ Hid (Below w4.heap.size w4 wr)) (fun _ _ i _ => n - (intOf i).toNat)
  case atStart => exact ⟨0, true, true, Nat.zero_le _, rfl, rfl, rfl, rfl, rfl, Below.refl _ _⟩
  case round =>
    obtain ⟨k, lv, bv, hk, rfl, rfl, rfl, HLv, HBv, HB⟩ := hrel
    have hBw4 := HB.out
    have hBw := b_then hB4 hBw4
    have bAr := BA4.out.below hBw4
    have q2 := bAr.cell 2
    have q3 := bAr.cell 3
    have q8 := bAr.cell 8
    simp at q2 q3 q8
    have s1 : w.heap.size < wr.heap.size := bAr.lt
    by_cases hlt : k < n
    · obtain ⟨ad, b0, b1, b2, b3, rfl, hxk, hl⟩ := fx_in hx hBw hlt
      have HX := Lib.hid hxk
      obtain ⟨x0, x1, x2, x3, x4⟩ := hl wr (Below.refl _ _)
      obtain ⟨eb, heb⟩ : ∃ eb, (b0.toList == a3.toList) = eb := ⟨_, rfl⟩
      have H1 : Hid ((xs.take (k + 1)).all (flate a8) = (lv && decide (b1 < a8))) := by unfold Hid; rw [all_snoc HX.out, HLv.out]; rfl
      have H2 : Hid ((xs.take (k + 1)).all (fbare a3 a8) = (bv && (!eb || decide (b1 < a8)))) := by unfold Hid; rw [all_snoc HX.out, HBv.out, ← heb]; rfl
      have HEB := Lib.hid heb
      clear hxk hl heb HX HLv HBv bAr
      by_cases hd : b1 < a8
      all_goals
        cases lv <;> cases bv <;> cases eb
      all_goals
        have hE1 := HEB.out
        go_wp2
        go_quiet (fail)
        go_wp2
        go_quiet (fail)
        go_wp2
        go_roundw
        case rel => exact ⟨k + 1, _, _, by omega, rfl, rfl, by go_num, (by unfold Hid at H1 ⊢; rw [H1]; simp [hd]), (by unfold Hid at H2 ⊢; rw [H2]; simp [hd]), b_drewN hBw4 _⟩
        case measure => simp [intOf]; omega
    · obtain rfl : n = k := by omega
      have hl0 := HLv.out
      have hb0 := HBv.out
      rw [← hxl, List.take_length] at hl0 hb0
      obtain ⟨f1, f2⟩ := fsmall_r HP1.out
      rw [hxl] at f2
      have hfm : fmay xs = true := HP2.out
      have ham : amay ⟨a0, a1, a2, a3, ⟨a4, a5⟩, ⟨a6, a7⟩, a8, a9, a10⟩ = true := HP3.out
      have hyx : ys = nfix ⟨a0, a1, a2, a3, ⟨a4, a5⟩, ⟨a6, a7⟩, a8, a9, a10⟩ xs := by rw [← HYS.out]; exact nout_yes hfm ham
      have HLate : Hid (lv = true → ys = xs) := fun hv => by
        rw [hyx]
        refine nfix_late ham hfm fun f hf => ?_
        rw [hv] at hl0
        exact of_decide_eq_true (List.all_eq_true.1 hl0 f hf)
      have HBare : Hid (bv = true → 3 ≤ a1 → ∀ x ∈ ys, x.asset = a2 → x.day < a8) := fun hv h3 => by
        rw [hyx]
        refine nfix_bare ham hfm (fun f hf e => ?_) h3
        rw [hv] at hb0
        have := List.all_eq_true.1 hb0 f hf
        unfold fbare at this
        rw [e] at this
        simpa using this
      have hlen : m9 ≤ n + n := by
        have := nfix_len ham hfm
        rw [← hyx, HM9.out, hxl] at this
        exact this
      have HRl := Lib.hid (hx.below hBw)
      have HKK := Lib.hid (kinds (amay_of ham))
      clear hl0 hb0 hfm ham hyx HLv HBv
      have hE := HOne.out HP1.out hsz wr hBw
      have hz0 := bAr.cell 0
      have hz1 := bAr.cell 1
      have hz4 := bAr.cell 4
      have hz5 := bAr.cell 5
      have hz6 := bAr.cell 6
      have hz7 := bAr.cell 7
      have hz9 := bAr.cell 9
      have hz10 := bAr.cell 10
      simp at hz0 hz1 hz4 hz5 hz6 hz7 hz9 hz10
      have BAr := Lib.hid bAr
      clear bAr f1
      go_wp2_with (go_at_call 35; (with_reducible refine hE.mono ?_); rintro e w5 hE'; obtain ⟨B5, k5, rfl, R5, hb5⟩ := hE'.is_ HM9.out; revert R5 hb5)
      intro R5 hb5
      have hB5 := b_then hBw hb5
      have BA5 := Lib.hid (BAr.out.below hb5)
      have hS := fun (hv : lv = true) => (r12_same (c := k5) (d := c) w5 R5 (HRl.out.below hb5)).mono fun e w' he => (⟨by rw [he.1]; simp [HLate.out hv], he.2⟩ : e = .returned (.bool true) ∧ Below w5.heap.size w5 w')
      have HYm := Lib.hid hlen
      have hn60 : n ≤ 60 := f2
      have hm5 := R5.len
      have hbig5 := R5.big
      have HR5 := Lib.hid R5
      clear hb5 R5 hz0 hz1 hz4 hz5 hz6 hz7 hz9 hz10 q2 q3 q8 hlen hE
      cases lv
      all_goals
        go_wp2_with (go_at_call 34; (with_reducible refine (hS rfl).mono ?_); rintro e w6 ⟨rfl, hb6⟩)
        go_loopw [9] (fun i wr => ∃ k : Nat, k ≤ m9 ∧ i = .int .i64 k ∧ Hid (Below w5.heap.size w5 wr)) (fun i _ => m9 - (intOf i).toNat)
        case atStart => first | exact ⟨0, Nat.zero_le _, rfl, Below.refl _ _⟩ | exact ⟨0, Nat.zero_le _, rfl, hb6⟩
        case round =>
          obtain ⟨k, hk, rfl, HB⟩ := hrel
          have hBw5 := HB.out
          have hBw := b_then hB5 hBw5
          have bAr := BA5.out.below hBw5
          have q1 := bAr.cell 1
          have q2 := bAr.cell 2
          have q8 := bAr.cell 8
          simp at q1 q2 q8
          have s1 : w.heap.size < wr.heap.size := bAr.lt
          by_cases hlt : k < m9
          · obtain ⟨ad, b0, b1, b2, b3, rfl, hxk, hl⟩ := fx_in HR5.out hBw5 hlt
            have HXm := Lib.hid (List.mem_of_getElem? hxk)
            obtain ⟨x0, x1, x2, x3, x4⟩ := hl wr (Below.refl _ _)
            obtain ⟨eb, heb⟩ : ∃ eb, (b0.toList == a2.toList) = eb := ⟨_, rfl⟩
            have HEB := Lib.hid heb
            clear hxk hl heb bAr
            by_cases h3 : 3 ≤ a1
            · have hB3 : bv = true → eb = true → b1 < a8 := fun e1 e2 => HBare.out e1 h3 _ HXm.out (s_eq.2 (by have := HEB.out; rw [e2] at this; simpa using this))
              cases bv <;> cases eb
              all_goals
                first | (have hb1 : ¬ a8 ≤ b1 := by have := hB3 rfl rfl; omega) | skip
                clear hB3
                have hE1 := HEB.out
                go_wp2
                go_quiet (fail)
                go_wp2
                go_roundw
                case rel => exact ⟨k + 1, by omega, by go_num, b_drewN hBw5 _⟩
                case measure => simp [intOf]; omega
            · have hk3 : a1 = 0 ∨ a1 = 1 ∨ a1 = 2 := by have := HKK.out; omega
              clear h3
              rcases hk3 with rfl | rfl | rfl <;> cases bv
              all_goals
                go_wp2
                go_quiet (fail)
                go_wp2
                go_roundw
                case rel => exact ⟨k + 1, by omega, by go_num, b_drewN hBw5 _⟩
                case measure => simp [intOf]; omega
          · have hle : (m9 : Int) ≤ (n : Int) + (n : Int) := by have := HYm.out; omega
            have hwr : Value.int .i64 (wrap64 ((n : Int) + (n : Int))) = Value.int .i64 ((n : Int) + (n : Int)) := by congr 1; unfold wrap64; omega
            go_wp2
            go_ret
            exact ⟨rfl, hBw⟩
end Go.Proofs.YtdkpbifpafaabaaGreatDoor
