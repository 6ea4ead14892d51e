/- FixingMany: plain law and walk (given the fixed calls). -/
import Derived.Test.YtpoejheienohjaaGreatDoorLawE
namespace Go.Proofs.YtpoejheienohjaaGreatDoor
open Go.RowKit
set_option linter.unusedVariables false
set_option linter.unusedSimpArgs false

/-- The prices of so many days, from a day on. -/
def tabD (i m : Nat) : List Fx := (List.range m).map fun j => fxI ((i + j : Nat) : Int) ((i + j : Nat) : Int)
theorem tabD_len (i m : Nat) : (tabD i m).length = m := by simp [tabD]
theorem tabD_at {i m j : Nat} (h : j < m) : (tabD i m)[j]? = some (fxI ((i + j : Nat) : Int) ((i + j : Nat) : Int)) := by simp [tabD, h]
theorem tabD_cons (i m : Nat) : fxI (i : Nat) (i : Nat) :: tabD (i + 1) m = tabD i (m + 1) := by
  unfold tabD
  rw [List.range_succ_eq_map, List.map_cons, List.map_map]
  congr 1
  apply List.map_congr_left
  intro j _
  simp only [Function.comp, Nat.succ_eq_add_one]
  rw [show i + 1 + j = i + (j + 1) by omega]
theorem tabD_mem {i m : Nat} {f : Fx} (h : f ∈ tabD i m) : ∃ j, j < m ∧ f = fxI ((i + j : Nat) : Int) ((i + j : Nat) : Int) := by
  unfold tabD at h
  obtain ⟨j, hj, rfl⟩ := List.mem_map.1 h
  exact ⟨j, List.mem_range.1 hj, rfl⟩
theorem tabD_q {i m : Nat} (h : i + m ≤ 9999) : ∀ f ∈ tabD i m, fxq f := fun f hf => by
  obtain ⟨j, hj, rfl⟩ := tabD_mem hf
  exact fxq_I (by omega) (by omega)
theorem tabD_may {i m : Nat} (h : i + m ≤ 9999) : fmay (tabD i m) = true := by
  rw [fmay, Bool.and_eq_true]
  constructor
  · rw [List.all_eq_true]
    intro f hf
    obtain ⟨j, hj, rfl⟩ := tabD_mem hf
    exact fone_I _ (by omega) (by omega)
  · rw [rises_iff]
    intro j a b ha hb
    have hb' : j + 1 < m := by have := (List.getElem?_eq_some_iff.1 hb).1; rwa [tabD_len] at this
    rw [tabD_at (by omega)] at ha
    rw [tabD_at hb'] at hb
    cases ha; cases hb
    rw [fahead_lt]; unfold fxI; rw [fcmp_same]; exact cmpI_lt (by omega)
theorem tabD_set {i m : Nat} (h : i + m + 1 ≤ 9999) : fset (tabD (i + 1) m) (fxI (i : Nat) (i : Nat)) = some (tabD i (m + 1)) := by
  have hb : bsI (tabD (i + 1) m) (fxI (i : Nat) (i : Nat)) 0 0 := ⟨Nat.le_refl _, Nat.zero_le _, fun _ h => absurd h (by omega), fun a ha => by
    have hm : 0 < m := by have := (List.getElem?_eq_some_iff.1 ha).1; rwa [tabD_len] at this
    rw [tabD_at hm] at ha
    cases ha
    unfold fxI; rw [fcmp_same]; exact cmpI_ge (by omega)⟩
  rw [fset_cut (tabD_may (by omega)) hb, fone_I _ (by omega) (by omega)]
  have hf : fat (tabD (i + 1) m) (fxI (i : Nat) (i : Nat)) 0 = false := by
    unfold fat
    by_cases hm : 0 < m
    · rw [tabD_at hm]
      dsimp only
      unfold fxI; rw [fcmp_same]; exact decide_eq_false (fun h => by have := cmpI_eq.1 h; omega)
    · rw [List.getElem?_eq_none (by rw [tabD_len]; omega)]
  rw [hf]
  simp only [List.take_zero, List.drop_zero, List.nil_append, Bool.not_false, Bool.and_self, if_true]
  rw [tabD_cons]
set_option maxRecDepth 100000 in
set_option maxHeartbeats 4000000 in
theorem l_many (HF : FixedOk) (z : Int) (w : World) (hg : Glob w) :
    Calls Tryz.prog 6 #[.int .i64 z] w fun e w' => e = .returned (.bool true) ∧ Below w.heap.size w w' := by
  have HFX := Lib.hid HF
  clear HF
  have heq := eqRat
  by_cases h0 : z < 0
  · go_enter Tryz.func6, Tryz.ntmps6
    go_wp2_with (first
      | (go_at_call 16; (with_reducible refine (HFX.out w hg).mono ?_); rintro e w1 ⟨rfl, hb1⟩)
      | (go_at_call 16; (with_reducible refine (HFX.out w1 (hg.below hb1)).mono ?_); rintro e w2 ⟨rfl, hb2⟩))
    go_ret
    exact ⟨rfl, b_then hb1 hb2⟩
  · by_cases h60 : 60 < z
    · go_enter Tryz.func6, Tryz.ntmps6
      go_wp2_with (first
        | (go_at_call 16; (with_reducible refine (HFX.out w hg).mono ?_); rintro e w1 ⟨rfl, hb1⟩)
        | (go_at_call 16; (with_reducible refine (HFX.out w1 (hg.below hb1)).mono ?_); rintro e w2 ⟨rfl, hb2⟩))
      go_ret
      exact ⟨rfl, b_then hb1 hb2⟩
    · obtain ⟨n, rfl⟩ : ∃ n : Nat, z = (n : Int) := ⟨z.toNat, by omega⟩
      go_enter Tryz.func6, Tryz.ntmps6
      go_wp2_with (go_at_call 16; (with_reducible refine (HFX.out w hg).mono ?_); rintro e w1 ⟨rfl, hb1⟩)
      have hB1 : Below w.heap.size w (w1.alloc (.cells #[] 26)) := b_alloc hb1 _
      go_loopw [3, 4] (fun v i wr => ∃ (k : Nat) (A : Option Addr) (c : Nat), k ≤ n ∧ i = .int .i64 (k : Nat) ∧ v = .slice A (n - k) c ∧ Rd Fx.cs 4 wr A (n - k) (tabD (k + 1) (n - k)) ∧ Below w.heap.size w wr) (fun _ i _ => (intOf i).toNat)
      case atStart => exact ⟨n, some ⟨w1.heap.size, 0, none⟩, 0, Nat.le_refl _, rfl, by rw [Nat.sub_self], by rw [Nat.sub_self]; exact Rd.nil, hB1⟩
      case round =>
        obtain ⟨k, A, c, hk, rfl, rfl, hR, hB⟩ := hrel
        by_cases hk0 : 0 < k
        · obtain ⟨j, rfl⟩ : ∃ j, k = j + 1 := ⟨k - 1, by omega⟩
          have hset := tabD_set (i := j + 1) (m := n - (j + 1)) (by omega)
          have hq : fxq ⟨⟨#[120]⟩, ((j + 1 : Nat) : Int), ⟨iS ((j + 1 : Nat) : Int), nS 1⟩⟩ := fxq_I (d := ((j + 1 : Nat) : Int)) (z := ((j + 1 : Nat) : Int)) (by omega) (by omega)
          have hset' : Hid (fset (tabD (j + 1 + 1) (n - (j + 1))) ⟨⟨#[120]⟩, ((j + 1 : Nat) : Int), ⟨iS ((j + 1 : Nat) : Int), nS 1⟩⟩ = some (tabD (j + 1) (n - (j + 1) + 1))) := hset
          have hqs := tabD_q (i := j + 1 + 1) (m := n - (j + 1)) (by omega)
          have hnj : n - (j + 1) + 1 = n - j := by omega
          rw [hnj] at hset'
          have hlen := tabD_len (j + 1) (n - j)
          clear hset
          obtain ⟨x, hx⟩ : ∃ x : Int, ((j + 1 : Nat) : Int) = x := ⟨_, rfl⟩
          have hx1 : (j : Int) = x - 1 := by omega
          rw [hx] at hset' hq ⊢
          go_wp2_with (first
            | (go_at_call 27; (with_reducible refine (c_ofI x wr (by omega) (by omega)).mono ?_); rintro e w2 ⟨rfl, hb2⟩)
            | (go_at_call 17; (with_reducible refine (p_set_ok ⟨#[120]⟩ (iS x) (nS 1) x (tabD (j + 1) (n - j)) w2 (hg.below (b_then hB hb2)) (hR.below hb2) (by omega) hqs hq hset'.out (n - j) hlen).mono ?_); rintro e w3 ⟨B3, k3, rfl, rd3, hb3⟩))
          go_roundw
          case rel => exact ⟨j, B3, k3, by omega, int_eq (by omega), rfl, rd3, b_then (b_then hB hb2) hb3⟩
          case measure => (simp [intOf]; try omega)
        · obtain rfl : k = 0 := by omega
          rw [Nat.sub_zero] at hR ⊢
          go_wp2
          go_loopw [7] (fun i wr2 => ∃ k : Nat, k ≤ n ∧ i = .int .i64 (k : Nat) ∧ Below wr.heap.size wr wr2) (fun i _ => n - (intOf i).toNat)
          case atStart => exact ⟨0, Nat.zero_le _, rfl, Below.refl _ _⟩
          case round =>
            obtain ⟨k, hk, rfl, hB2⟩ := hrel
            by_cases hkn : k < n
            · obtain ⟨ad, a0, a1, a2, a3, rfl, hxk, hc'⟩ := fx_at hR hB2 hkn
              rw [tabD_at hkn] at hxk
              injection hxk with hxk
              injection hxk with e0 e1 e2
              injection e2 with e2 e3
              obtain ⟨x, hx⟩ : ∃ x : Int, (k : Int) + 1 = x := ⟨_, rfl⟩
              have e1' : a1 = x := by omega
              have e2' : a2 = iS x := by rw [← e2]; congr 1; omega
              subst e1'; subst e2'; subst e3
              have hy1 := fun y => (hc' y).2.1
              have hy2 := fun y => (hc' y).2.2.1
              have hy3 := fun y => (hc' y).2.2.2
              clear e0 e1 e2 hc'
              go_wp2
              (refine wp_region_after (by kernel_rfl) (by kernel_rfl) ?_; (repeat (first | go_big_quiet_skip | (go_big_quiet_want; go_big_quiet_op; first | go_big_quiet_on | (apply Exists.intro; refine ⟨fun _ => ?_, ?_⟩; (focus ((go_at_call 27; exact Calls.after (c_ofI a1 _ (by omega) (by omega))))); go_big_quiet_on)))); refine wpQuiet_nil ?_; rintro w3 ⟨⟨_, hb3⟩, rfl⟩; (try dsimp only); obtain ⟨hc3, hf3⟩ := bcell hb3; have hs3 := hb3.size; (try simp at hs3))
              go_wp2
              go_roundw
              case rel => exact ⟨k + 1, by omega, int_eq (by omega), b_then hB2 hb3⟩
              case measure => (simp [intOf]; try omega)
            · obtain rfl : k = n := by omega
              have hM := fun W (hW : Below w.heap.size w W) (h2 : Rd Fx.cs 4 W A k (tabD 1 k)) => p_may (c := c) W (hg.below hW) h2 (tabD_q (by omega))
              rw [tabD_may (by omega)] at hM
              go_wp2_with (go_at_call 24; (with_reducible refine (hM _ (b_then hB hB2) (hR.below hB2)).mono ?_); rintro e w5 ⟨rfl, hb5⟩)
              go_ret
              exact ⟨rfl, b_then (b_then hB hB2) hb5⟩
end Go.Proofs.YtpoejheienohjaaGreatDoor
