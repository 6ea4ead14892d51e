/- Walks of actions: asset, number, shapes, May; the references' asset, names, number, May, Light. -/
import Derived.Test.YtdkpbifpafaabaaGreatDoorPkA
import Derived.Test.YtdkpbifpafaabaaGreatDoorGhD
namespace Go.Proofs.YtdkpbifpafaabaaGreatDoor
open Go.RowKit
set_option linter.unusedVariables false
set_option linter.unusedSimpArgs false

theorem aasset_no1 {s : ByteArray} (h : isName s = false) : aasset s = false := by unfold aasset; rw [h]; rfl
set_option maxHeartbeats 800000 in
theorem p_asset (s : ByteArray) (w : World) (hs : s.size ≤ 9223372036854775807) :
    Calls Tryz.prog 84 #[.string s] w fun e w' => e = .returned (.bool (aasset s)) ∧ Below w.heap.size w w' := by
  have hN := fun W => p_name s W hs
  cases c1 : isName s with
  | false =>
    rw [c1] at hN
    rw [aasset_no1 c1]
    go_enter Tryz.func84, Tryz.ntmps84
    go_wp2_with (go_at_call 50; (with_reducible refine (hN _).mono ?_); rintro e w1 ⟨rfl, hb1⟩; obtain ⟨hc1, hf1⟩ := bcell hb1; have hs1 := hb1.size; (try simp at hs1))
    go_ret
    exact ⟨rfl, (by repeat (first | exact Below.refl _ _ | assumption | refine b_then ?_ (by assumption) | refine b_alloc ?_ _ | refine b_drewN ?_ _ | refine Below.drew ?_ | refine b_set ?_ (by first | exact Nat.le_refl _ | (simp; done) | (simp; omega) | omega) _))⟩
  | true =>
    rw [c1] at hN
    have h0 : 0 < s.size := (isName_size c1).1
    have hl := lower1_of h0
    unfold aasset
    rw [c1, hl]
    obtain ⟨bv, hbv⟩ : ∃ v : UInt8, s[0] = v := ⟨_, rfl⟩
    rw [hbv]
    have hb0 : (0 : Int) ≤ (bv.toNat : Int) := by omega
    by_cases c2 : 97 ≤ bv.toNat
    · by_cases c3 : bv.toNat ≤ 122
      · have d2 : (97 : Int) ≤ (bv.toNat : Int) := by omega
        have d3 : (bv.toNat : Int) ≤ 122 := by omega
        rw [decide_eq_true c2, decide_eq_true c3]
        go_enter Tryz.func84, Tryz.ntmps84
        go_wp2_with (go_at_call 50; (with_reducible refine (hN _).mono ?_); rintro e w1 ⟨rfl, hb1⟩; obtain ⟨hc1, hf1⟩ := bcell hb1; have hs1 := hb1.size; (try simp at hs1))
        go_ret
        exact ⟨ret_bool (by simp), (by repeat (first | exact Below.refl _ _ | assumption | refine b_then ?_ (by assumption) | refine b_alloc ?_ _ | refine b_drewN ?_ _ | refine Below.drew ?_ | refine b_set ?_ (by first | exact Nat.le_refl _ | (simp; done) | (simp; omega) | omega) _))⟩
      · have d2 : (97 : Int) ≤ (bv.toNat : Int) := by omega
        have d3 : ¬ (bv.toNat : Int) ≤ 122 := by omega
        rw [decide_eq_true c2, decide_eq_false c3]
        go_enter Tryz.func84, Tryz.ntmps84
        go_wp2_with (go_at_call 50; (with_reducible refine (hN _).mono ?_); rintro e w1 ⟨rfl, hb1⟩; obtain ⟨hc1, hf1⟩ := bcell hb1; have hs1 := hb1.size; (try simp at hs1))
        go_ret
        exact ⟨ret_bool (by simp), (by repeat (first | exact Below.refl _ _ | assumption | refine b_then ?_ (by assumption) | refine b_alloc ?_ _ | refine b_drewN ?_ _ | refine Below.drew ?_ | refine b_set ?_ (by first | exact Nat.le_refl _ | (simp; done) | (simp; omega) | omega) _))⟩
    · have d2 : ¬ (97 : Int) ≤ (bv.toNat : Int) := by omega
      rw [decide_eq_false c2]
      go_enter Tryz.func84, Tryz.ntmps84
      go_wp2_with (go_at_call 50; (with_reducible refine (hN _).mono ?_); rintro e w1 ⟨rfl, hb1⟩; obtain ⟨hc1, hf1⟩ := bcell hb1; have hs1 := hb1.size; (try simp at hs1))
      go_ret
      exact ⟨ret_bool (by simp), (by repeat (first | exact Below.refl _ _ | assumption | refine b_then ?_ (by assumption) | refine b_alloc ?_ _ | refine b_drewN ?_ _ | refine Below.drew ?_ | refine b_set ?_ (by first | exact Nat.le_refl _ | (simp; done) | (simp; omega) | omega) _))⟩
set_option maxHeartbeats 800000 in
theorem r15_asset (s : ByteArray) (w : World) (hs : s.size ≤ 9223372036854775807) :
    Calls Tryz.prog 64 #[.string s] w fun e w' => e = .returned (.bool (aasset s)) ∧ Below w.heap.size w w' := by
  have hN := fun W => r6_name s W hs
  cases c1 : isName s with
  | false =>
    rw [c1] at hN
    rw [aasset_no1 c1]
    go_enter Tryz.func64, Tryz.ntmps64
    go_wp2_with (go_at_call 53; (with_reducible refine (hN _).mono ?_); rintro e w' ⟨rfl, rfl⟩)
    go_ret
    exact ⟨rfl, (by repeat (first | exact Below.refl _ _ | assumption | refine b_then ?_ (by assumption) | refine b_alloc ?_ _ | refine b_drewN ?_ _ | refine Below.drew ?_ | refine b_set ?_ (by first | exact Nat.le_refl _ | (simp; done) | (simp; omega) | omega) _))⟩
  | true =>
    rw [c1] at hN
    have h0 : 0 < s.size := (isName_size c1).1
    have hl := lower1_ref c1 h0
    unfold aasset
    rw [c1, hl]
    obtain ⟨bv, hbv⟩ : ∃ v : UInt8, s[0] = v := ⟨_, rfl⟩
    rw [hbv]
    by_cases c2 : bv.toNat = 33
    · have d2 : ((bv.toNat : Int) == 33) = true := by rw [c2]; rfl
      have d2' : ((bv.toNat : Int) != 33) = false := by rw [c2]; rfl
      rw [c2]
      go_enter Tryz.func64, Tryz.ntmps64
      go_wp2_with (go_at_call 53; (with_reducible refine (hN _).mono ?_); rintro e w' ⟨rfl, rfl⟩)
      go_ret
      exact ⟨ret_bool (by simp), (by repeat (first | exact Below.refl _ _ | assumption | refine b_then ?_ (by assumption) | refine b_alloc ?_ _ | refine b_drewN ?_ _ | refine Below.drew ?_ | refine b_set ?_ (by first | exact Nat.le_refl _ | (simp; done) | (simp; omega) | omega) _))⟩
    · have d2 : ((bv.toNat : Int) == 33) = false := by simp; omega
      have d2' : ((bv.toNat : Int) != 33) = true := by simp; omega
      have e2 : (bv.toNat == 33) = false := by simpa using c2
      rw [e2]
      by_cases c3 : bv.toNat < 48
      · have d3 : (bv.toNat : Int) < 48 := by omega
        rw [decide_eq_true c3]
        go_enter Tryz.func64, Tryz.ntmps64
        go_wp2_with (go_at_call 53; (with_reducible refine (hN _).mono ?_); rintro e w' ⟨rfl, rfl⟩)
        go_ret
        exact ⟨ret_bool (by simp), (by repeat (first | exact Below.refl _ _ | assumption | refine b_then ?_ (by assumption) | refine b_alloc ?_ _ | refine b_drewN ?_ _ | refine Below.drew ?_ | refine b_set ?_ (by first | exact Nat.le_refl _ | (simp; done) | (simp; omega) | omega) _))⟩
      · have d3 : ¬ (bv.toNat : Int) < 48 := by omega
        rw [decide_eq_false c3]
        by_cases c4 : bv.toNat ≤ 57
        · have d4 : ¬ (57 : Int) < (bv.toNat : Int) := by omega
          rw [decide_eq_true c4]
          go_enter Tryz.func64, Tryz.ntmps64
          go_wp2_with (go_at_call 53; (with_reducible refine (hN _).mono ?_); rintro e w' ⟨rfl, rfl⟩)
          go_ret
          exact ⟨ret_bool (by simp), (by repeat (first | exact Below.refl _ _ | assumption | refine b_then ?_ (by assumption) | refine b_alloc ?_ _ | refine b_drewN ?_ _ | refine Below.drew ?_ | refine b_set ?_ (by first | exact Nat.le_refl _ | (simp; done) | (simp; omega) | omega) _))⟩
        · have d4 : (57 : Int) < (bv.toNat : Int) := by omega
          rw [decide_eq_false c4]
          go_enter Tryz.func64, Tryz.ntmps64
          go_wp2_with (go_at_call 53; (with_reducible refine (hN _).mono ?_); rintro e w' ⟨rfl, rfl⟩)
          go_ret
          exact ⟨ret_bool (by simp), (by repeat (first | exact Below.refl _ _ | assumption | refine b_then ?_ (by assumption) | refine b_alloc ?_ _ | refine b_drewN ?_ _ | refine Below.drew ?_ | refine b_set ?_ (by first | exact Nat.le_refl _ | (simp; done) | (simp; omega) | omega) _))⟩
theorem enc_zero_v : (enc ((0 : Int) : Rat)).v = .agg #[.string ⟨#[48]⟩, .string ⟨#[49]⟩] := rfl
set_option maxHeartbeats 800000 in
theorem p_number (x0 x1 : ByteArray) (named : Bool) (least : Int) (w : World) (hg : Glob w) (h0 : x0.size ≤ 880000000) (h1 : x1.size ≤ 880000000) :
    Calls Tryz.prog 86 #[.agg #[.string x0, .string x1], .bool named, .int .i64 least] w fun e w' => e = .returned (.bool (anum ⟨x0, x1⟩ named least)) ∧ Below w.heap.size w w' := by
  have hB0 : Below w.heap.size w (w.alloc (.cells #[.string x0, .string x1] 23)) := b_alloc (Below.refl _ _) _
  have hg0 := hg.below hB0
  have hO := fun W (h : Below w.heap.size w W) => p_rof 0 W (hg.below h) (by omega) (by omega)
  rw [enc_zero_v] at hO
  have heq := eqRat
  unfold anum
  cases named with
  | false =>
    go_enter Tryz.func86, Tryz.ntmps86
    go_wp2
    (refine wp_region_after (by kernel_rfl) (by kernel_rfl) ?_; (repeat (first | go_big_quiet_skip | (go_big_quiet_want; go_big_quiet_op; first | go_big_quiet_on | (apply Exists.intro; refine ⟨fun _ => ?_, ?_⟩; (focus ((go_at_call 48; with_reducible exact Calls.after (hO _ (b_then hB0 (After.h _)))))); go_big_quiet_on)))); refine wpQuiet_nil ?_; rintro w1 ⟨⟨_, hb1⟩, rfl⟩; (try dsimp only); obtain ⟨hc1, hf1⟩ := bcell hb1; have hs1 := hb1.size; (try simp at hs1))
    go_wp2
    go_ret
    exact ⟨ret_bool (by simp [tl]), (by repeat (first | exact Below.refl _ _ | assumption | refine b_then ?_ (by assumption) | refine b_alloc ?_ _ | refine b_drewN ?_ _ | refine Below.drew ?_ | refine b_set ?_ (by first | exact Nat.le_refl _ | (simp; done) | (simp; omega) | omega) _))⟩
  | true =>
    have hM := fun W (h : Below w.heap.size w W) => p_rmay x0 x1 W (hg.below h) (by omega) (by omega)
    have hS := fun W (h : Below w.heap.size w W) => p_rsign x0 x1 W (hg.below h) h0 h1
    go_enter Tryz.func86, Tryz.ntmps86
    go_wp2_with (first | (go_at_call 52; (with_reducible refine (hM _ (by repeat (first | exact Below.refl _ _ | assumption | refine b_then ?_ (by assumption) | refine b_alloc ?_ _ | refine b_drewN ?_ _ | refine Below.drew ?_ | refine b_set ?_ (by first | exact Nat.le_refl _ | (simp; done) | (simp; omega) | omega) _))).mono ?_); rintro e w1 ⟨rfl, hb1⟩; obtain ⟨hc1, hf1⟩ := bcell hb1; have hs1 := hb1.size; (try simp at hs1); have hq1 : w.heap.size < w1.heap.size := (by omega)) | (go_at_call 51; (with_reducible refine (hS _ (by repeat (first | exact Below.refl _ _ | assumption | refine b_then ?_ (by assumption) | refine b_alloc ?_ _ | refine b_drewN ?_ _ | refine Below.drew ?_ | refine b_set ?_ (by first | exact Nat.le_refl _ | (simp; done) | (simp; omega) | omega) _))).mono ?_); rintro e w2 ⟨rfl, hb2⟩; obtain ⟨hc2, hf2⟩ := bcell hb2; have hs2 := hb2.size; (try simp at hs2); have hq2 : w.heap.size < w2.heap.size := (by omega)))
    all_goals
      go_ret
      exact ⟨ret_bool (by grind), (by repeat (first | exact Below.refl _ _ | assumption | refine b_then ?_ (by assumption) | refine b_alloc ?_ _ | refine b_drewN ?_ _ | refine Below.drew ?_ | refine b_set ?_ (by first | exact Nat.le_refl _ | (simp; done) | (simp; omega) | omega) _))⟩
set_option maxHeartbeats 800000 in
theorem r15_number (x0 x1 : ByteArray) (named : Bool) (least : Int) (w : World) (h0 : x0.size ≤ 880000000) (h1 : x1.size ≤ 880000000) :
    Calls Tryz.prog 66 #[.agg #[.string x0, .string x1], .bool named, .int .i64 least] w fun e w' => e = .returned (.bool (anum ⟨x0, x1⟩ named least)) ∧ Below w.heap.size w w' := by
  have hO := fun W => r3_of 0 W (by omega) (by omega)
  rw [enc_zero_v] at hO
  have heq := eqRat
  unfold anum
  cases named with
  | false =>
    go_enter Tryz.func66, Tryz.ntmps66
    go_wp2
    (refine wp_region_after (by kernel_rfl) (by kernel_rfl) ?_; (repeat (first | go_big_quiet_skip | (go_big_quiet_want; go_big_quiet_op; first | go_big_quiet_on | (apply Exists.intro; refine ⟨fun _ => ?_, ?_⟩; (focus ((go_at_call 28; with_reducible exact Calls.after (hO _)))); go_big_quiet_on)))); refine wpQuiet_nil ?_; rintro w1 ⟨⟨_, hb1⟩, rfl⟩; (try dsimp only); obtain ⟨hc1, hf1⟩ := bcell hb1; have hs1 := hb1.size; (try simp at hs1))
    go_wp2
    go_ret
    exact ⟨ret_bool (by simp [tl]), (by repeat (first | exact Below.refl _ _ | assumption | refine b_then ?_ (by assumption) | refine b_alloc ?_ _ | refine b_drewN ?_ _ | refine Below.drew ?_ | refine b_set ?_ (by first | exact Nat.le_refl _ | (simp; done) | (simp; omega) | omega) _))⟩
  | true =>
    have hM := fun W => r3_may x0 x1 W (by omega) (by omega)
    have hS := fun W => r3_sign x0 x1 W (by omega) (by omega)
    go_enter Tryz.func66, Tryz.ntmps66
    go_wp2_with (first | (go_at_call 26; (with_reducible refine (hM _).mono ?_); rintro e w1 ⟨rfl, hb1⟩; obtain ⟨hc1, hf1⟩ := bcell hb1; have hs1 := hb1.size; (try simp at hs1); have hq1 : w.heap.size < w1.heap.size := (by omega)) | (go_at_call 30; (with_reducible refine (hS _).mono ?_); rintro e w2 ⟨rfl, hb2⟩; obtain ⟨hc2, hf2⟩ := bcell hb2; have hs2 := hb2.size; (try simp at hs2); have hq2 : w.heap.size < w2.heap.size := (by omega)))
    all_goals
      go_ret
      exact ⟨ret_bool (by grind), (by repeat (first | exact Below.refl _ _ | assumption | refine b_then ?_ (by assumption) | refine b_alloc ?_ _ | refine b_drewN ?_ _ | refine Below.drew ?_ | refine b_set ?_ (by first | exact Nat.le_refl _ | (simp; done) | (simp; omega) | omega) _))⟩
def shapesV : Array Value := #[.string ⟨#[115, 112, 108, 105, 116]⟩, .bool false, .bool true, .bool false, .string ⟨#[115, 116, 111, 99, 107]⟩, .bool false, .bool true, .bool false, .string ⟨#[99, 97, 115, 104]⟩, .bool false, .bool false, .bool true,
  .string ⟨#[115, 112, 105, 110]⟩, .bool true, .bool true, .bool false, .string ⟨#[109, 101, 114, 103, 101, 114]⟩, .bool true, .bool true, .bool true]
theorem hide_world {K : World → Prop} {w W : World} {g : Nat} {T : TypeId} {cs : Array Value} (h : Blk W g T cs) (hb : Below w.heap.size w W) (hh : ∀ W', Blk W' g T cs → Below w.heap.size w W' → K W') : K W := hh W h hb
/-- A store of a struct into a block of its own, all at once. -/
theorem run_store_row {o : Oper} {a : Act} {W : World} {T : TypeId} {i j g n : Nat} {L : List Value} {cur : Array Value} (ho : o.op = .store T (.tmp i) (.tmp j)) (h1 : a.tmps[i]? = some (ptr g)) (h2 : a.tmps[j]? = some (.agg L.toArray))
    (hz : ∀ W, (Go.sizeOf T).run Tryz.prog W = .ok n W) (hL : L.length = n) (hone : ∀ v ∈ L, v.oneCell' = true) (hB : Blk W g T cur) (hc : cur.size = n) : (execOp a.eval o).run Tryz.prog W = .ok .skip (W.setRow g L.toArray) := by
  have hs := run_storeCells_at (P := Tryz.prog) g 0 T L 0 cur W hB (by omega) hone
  have e : (cur.toList.take (0 + 0) ++ L ++ cur.toList.drop (0 + 0 + L.length)).toArray = L.toArray := by
    have : cur.toList.drop (0 + 0 + L.length) = [] := List.drop_eq_nil_of_le (by rw [Array.length_toList]; omega)
    rw [this]; simp
  rw [e] at hs
  simp [execOp, ho, h1, h2, go_sem, hz, hL, hs]
theorem wp_of_run {P : Program} {o : Oper} {a : Act} {W W' : World} {K : Act → World → Prop} {Q : Exit → Act → World → Prop} (hr : (execOp a.eval o).run P W = .ok .skip W') (h : K (a.put o.dst undef) W') : Oper.wp P o a W K Q := by
  unfold Oper.wp
  rw [hr]
  exact h
theorem shapes_size (W : World) : (Go.sizeOf 92).run Tryz.prog W = .ok 20 W := Tryz.sizeOf92 W
set_option maxRecDepth 100000 in
set_option maxHeartbeats 800000 in
theorem p_shapes (w : World) : Calls Tryz.prog 85 #[] w fun e w' => e = .returned (.agg shapesV) ∧ Below w.heap.size w w' := by
  go_enter Tryz.func85, Tryz.ntmps85
  iterate 5 go_step
  have bx := Blk.new w 92 #[.string ⟨#[]⟩, .bool false, .bool false, .bool false, .string ⟨#[]⟩, .bool false, .bool false, .bool false, .string ⟨#[]⟩, .bool false, .bool false, .bool false, .string ⟨#[]⟩, .bool false, .bool false, .bool false, .string ⟨#[]⟩, .bool false, .bool false, .bool false]
  have hb : Below w.heap.size w (w.alloc (.cells #[.string ⟨#[]⟩, .bool false, .bool false, .bool false, .string ⟨#[]⟩, .bool false, .bool false, .bool false, .string ⟨#[]⟩, .bool false, .bool false, .bool false, .string ⟨#[]⟩, .bool false, .bool false, .bool false, .string ⟨#[]⟩, .bool false, .bool false, .bool false] 92)) := b_alloc (Below.refl _ _) _
  generalize w.alloc (.cells #[.string ⟨#[]⟩, .bool false, .bool false, .bool false, .string ⟨#[]⟩, .bool false, .bool false, .bool false, .string ⟨#[]⟩, .bool false, .bool false, .bool false, .string ⟨#[]⟩, .bool false, .bool false, .bool false, .string ⟨#[]⟩, .bool false, .bool false, .bool false] 92) = W at *
  iterate 25 go_step
  refine wp_of_run (run_store_row (L := shapesV.toList) rfl rfl rfl shapes_size rfl ?_ bx rfl) ?_
  · intro v hv
    simp only [shapesV, List.mem_cons, List.not_mem_nil, or_false] at hv
    rcases hv with rfl | rfl | rfl | rfl | rfl | rfl | rfl | rfl | rfl | rfl | rfl | rfl | rfl | rfl | rfl | rfl | rfl | rfl | rfl | rfl <;> rfl
  refine hide_world (w := w) (K := fun W' => _) (cs := shapesV) (bx.row _) (below_row hb (Nat.le_refl _) _) ?_
  intro W' h' hb'
  clear hb bx
  have hv := run_loadVar_row (P := Tryz.prog) W' w.heap.size 92 92 shapesV (0, 0) _ h' Tryz.underlying92 rfl (by kernel_rfl)
  clear h'
  go_wp2
  refine bodyPost_ret (v := .agg shapesV) ?_ rfl ⟨rfl, hb'⟩
  simp [results, Tryz.results85, asAddr, Act.put, hv]
set_option maxHeartbeats 400000 in
theorem r15_names (k : Int) (w : World) : Calls Tryz.prog 65 #[.int .i64 k] w fun e w' => e = .returned (.tuple #[.bool (aoth k), .bool (arat k), .bool (acas k)]) ∧ w = w' := by
  unfold aoth arat acas
  go_enter Tryz.func65, Tryz.ntmps65
  by_cases h : k = 2
  · subst h
    go_wp2
    go_ret3
    exact ⟨rfl, rfl⟩
  · go_wp2
    go_ret3
    exact ⟨by simp [bne], rfl⟩
end Go.Proofs.YtdkpbifpafaabaaGreatDoor
