/- TermNodes: the walk (given the fixed calls). -/
import Derived.Test.YtjdofncognaaoaaGreatDoorTnF
namespace Go.Proofs.YtjdofncognaaoaaGreatDoor
open Go.RowKit
set_option linter.unusedVariables false
set_option linter.unusedSimpArgs false

theorem tval_one {T : Type} {node : Nd → List T → Option T} {x : Nd} (h : arity x.op = 0) : tval node [x] = node x [] := by
  unfold tval
  rw [if_pos (by simp), tfold, tstep_at (q := 0) (m := 0) h rfl]
  show (((node x []).map fun y => [y]).bind (fun s => tfold node s [])).bind tone = _
  cases node x [] <;> rfl
theorem tval_one_no {T : Type} {node : Nd → List T → Option T} {x : Nd} (h : ¬ arity x.op = 0) : tval node [x] = none := by
  unfold tval
  rw [if_pos (by simp), tfold]
  have : tstep node [] x = none := by
    unfold tstep
    rw [if_pos]
    simp only [List.length_nil]
    omega
  rw [this]; rfl
theorem tchk_one (x : Nd) : tchk [x] = if arity x.op = 0 ∧ pmay x = true then 0 else 100 := by
  unfold tchk
  by_cases h : arity x.op = 0
  · have hd : tdeep [x] = 1 := by unfold tdeep; rw [tval_one h]; rfl
    by_cases hm : pmay x = true
    · have hp : tprint [x] = some (if x.op ≤ 4 then leafT numT x else upT x.op []) := by
        unfold tprint
        rw [tval_one h]
        unfold ptx
        rw [if_pos hm]
      have hne := tprint_ne hp
      have hv : tval pnode [x] = some (tpr [x]) := by
        have := tpr_val [x]
        rw [hp] at this
        unfold tpr
        cases hv : tval pnode [x] with
        | none => rw [hv] at this; cases this
        | some y => rfl
      rw [tval_one h] at hv
      have hs := pnode_wt hv
      have hs0 : (tpr [x]).size ≤ 200 := by simpa using hs
      have ht := tpr_some hp
      have hc : ¬ (((tpr [x]).toList == []) = true ∨ 20000 < (tpr [x]).size ∨ 150 < tdeep [x]) := by
        rintro (h1 | h1 | h1)
        · have h2 := empty_of h1
          rw [ht] at h2
          have h3 := congrArg bsl h2
          rw [bsl_mkS] at h3
          exact hne h3
        · omega
        · omega
      rw [if_neg hc, if_pos (show arity x.op = 0 ∧ pmay x = true from ⟨h, hm⟩)]
    · have hp : tprint [x] = none := by
        unfold tprint
        rw [tval_one h]
        unfold ptx
        rw [if_neg hm]
      rw [tpr_none hp, if_pos (show (((⟨#[]⟩ : ByteArray).toList == []) = true ∨ 20000 < (⟨#[]⟩ : ByteArray).size ∨ 150 < tdeep [x]) from .inl (by decide +kernel)), if_neg (show ¬ (arity x.op = 0 ∧ pmay x = true) from fun k => hm k.2)]
  · have hp : tprint [x] = none := by
      unfold tprint
      exact tval_one_no h
    rw [tpr_none hp, if_pos (show (((⟨#[]⟩ : ByteArray).toList == []) = true ∨ 20000 < (⟨#[]⟩ : ByteArray).size ∨ 150 < tdeep [x]) from .inl (by decide +kernel)), if_neg (show ¬ (arity x.op = 0 ∧ pmay x = true) from fun k => h k.1)]
theorem ar_leaf (op : Int) : arity op = 0 ↔ 0 ≤ op ∧ op ≤ 4 := by
  unfold arity
  by_cases h1 : op < 0 ∨ 12 < op
  · rw [if_pos h1]; omega
  · rw [if_neg h1]
    by_cases h2 : op ≤ 4
    · rw [if_pos h2]; omega
    · rw [if_neg h2]
      by_cases h3 : op = 5
      · rw [if_pos h3]; omega
      · rw [if_neg h3]
        by_cases h4 : op ≤ 11
        · rw [if_pos h4]; omega
        · rw [if_neg h4]; omega
theorem xs_asset : tasset ⟨#[120]⟩ = true := by decide +kernel
theorem xs_no : ((⟨#[120]⟩ : ByteArray).toList == []) = false := by decide +kernel
theorem rz_yes : rzer ⟨⟨#[]⟩, ⟨#[]⟩⟩ = true := by decide +kernel
theorem rz_no : rzer ⟨⟨#[49]⟩, ⟨#[49]⟩⟩ = false := by decide +kernel
/-- Which nodes may be terms. -/
def ndOk (op a b : Int) : Prop := (2 ≤ op ∧ op ≤ 4 ∧ 0 ≤ a ∧ b ≤ 9999 ∧ a ≤ b ∧ b - a ≤ 59) ∨ (op = 1 ∧ 0 ≤ a ∧ a ≤ 9999 ∧ b = 0)
theorem chk_n (op a b : Int) : tchk [⟨op, ⟨⟨#[]⟩, ⟨#[]⟩⟩, ⟨#[120]⟩, a, b⟩] = 0 ↔ ndOk op a b := by
  rw [tchk_one]
  have key : (arity op = 0 ∧ pmay ⟨op, ⟨⟨#[]⟩, ⟨#[]⟩⟩, ⟨#[120]⟩, a, b⟩ = true) ↔ ndOk op a b := by
    rw [ar_leaf]
    unfold pmay nmay ndOk
    dsimp only
    rw [xs_asset, xs_no, rz_yes]
    by_cases h0 : op = 0
    · subst h0; simp
    · rw [if_neg h0]
      by_cases h1 : op = 1
      · subst h1; simp; omega
      · rw [if_neg h1]
        by_cases h2 : 2 ≤ op ∧ op ≤ 4
        · rw [if_pos h2]; simp; omega
        · rw [if_neg h2]; simp; omega
  by_cases h : arity op = 0 ∧ pmay ⟨op, ⟨⟨#[]⟩, ⟨#[]⟩⟩, ⟨#[120]⟩, a, b⟩ = true
  · rw [if_pos h]; exact ⟨fun _ => key.1 h, fun _ => rfl⟩
  · rw [if_neg h]; exact ⟨fun e => (by cases e), fun e => absurd (key.2 e) h⟩
theorem chk_m (op a b : Int) : tchk [⟨op, ⟨⟨#[49]⟩, ⟨#[49]⟩⟩, ⟨#[120]⟩, a, b⟩] = 100 := by
  rw [tchk_one, if_neg]
  rintro ⟨h, hm⟩
  unfold pmay nmay at hm
  dsimp only at hm
  rw [xs_no, rz_no] at hm
  by_cases h0 : op = 0
  · rw [if_pos h0] at hm; simp at hm
  · rw [if_neg h0] at hm
    simp at hm
theorem chk_val (t : List Nd) : tchk t = 0 ∨ tchk t = 100 := by unfold tchk; split <;> simp
theorem enc1 : enc ((1 : Int) : Rat) = ⟨⟨#[49]⟩, ⟨#[49]⟩⟩ := by decide +kernel
set_option maxRecDepth 100000 in
set_option maxHeartbeats 8000000 in
theorem l_tnodes (HF : Fixed10Ok) (op a b : Int) (w : World) (hg : Glob w) :
    Calls Tryz.prog 6 #[.int .i64 op, .int .i64 a, .int .i64 b] w fun e w' => e = .returned (.bool true) ∧ Below w.heap.size w w' := by
  have hFx : ∀ W : World, Glob W → Calls Tryz.prog 15 #[] W fun e w' => e = .returned (.bool true) ∧ Below W.heap.size W w' := HF
  clear HF
  by_cases hb : -2 ≤ a ∧ -2 ≤ b ∧ a ≤ 10100 ∧ b ≤ 10100
  · obtain ⟨q1, q2, q3, q4⟩ := hb
    have h1 : ∀ W, Calls Tryz.prog 32 #[.int .i64 1] W fun e w' => e = .returned (.agg #[.string ⟨#[49]⟩, .string ⟨#[49]⟩]) ∧ Below W.heap.size W w' := fun W => (r3_of 1 W (by omega) (by omega)).mono fun e w' he => by rw [enc1] at he; exact he
    have hN := fun (V : World) (B : Option Addr) (hg : Glob V) (hr : Rd Nd.cs 6 V B 1 [⟨op, ⟨⟨#[]⟩, ⟨#[]⟩⟩, ⟨#[120]⟩, a, b⟩]) => p_tcheck (c := 1) V hg hr (fun x hx => by simp at hx; subst hx; exact ⟨Nat.le_of_ble_eq_true rfl, Nat.le_of_ble_eq_true rfl, Nat.le_of_ble_eq_true rfl⟩)
    have hM := fun (V : World) (B : Option Addr) (hg : Glob V) (hr : Rd Nd.cs 6 V B 1 [⟨op, ⟨⟨#[49]⟩, ⟨#[49]⟩⟩, ⟨#[120]⟩, a, b⟩]) => p_tcheck (c := 1) V hg hr (fun x hx => by simp at hx; subst hx; exact ⟨Nat.le_of_ble_eq_true rfl, Nat.le_of_ble_eq_true rfl, Nat.le_of_ble_eq_true rfl⟩)
    obtain ⟨V, hV⟩ : ∃ V, tchk [⟨op, ⟨⟨#[]⟩, ⟨#[]⟩⟩, ⟨#[120]⟩, a, b⟩] = V := ⟨_, rfl⟩
    have hVk := chk_n op a b
    have hV2 := chk_val [⟨op, ⟨⟨#[]⟩, ⟨#[]⟩⟩, ⟨#[120]⟩, a, b⟩]
    rw [hV] at hVk hV2 hN
    rw [chk_m] at hM
    clear hV
    by_cases hP : ndOk op a b
    · have hV0 : V = 0 := hVk.2 hP
      subst hV0
      clear hVk
      unfold ndOk at hP
      rcases hP with ⟨o1, o2, o3, o4, o5, o6⟩ | ⟨rfl, o3, o4, rfl⟩
      · have o7 : ¬ op = 1 := by omega
        go_enter Tryz.func6, Tryz.ntmps6
        go_wp2_with (first
              | (go_at_call 15; (with_reducible refine (hFx w hg).mono ?_); rintro e w1 ⟨rfl, hb1⟩; obtain ⟨hc1, hf1⟩ := bcell hb1; have hs1 := hb1.size; (try simp at hs1))
              | (go_at_call 32; (with_reducible refine (h1 _).mono ?_); rintro e w2 ⟨rfl, hb2⟩; obtain ⟨hc2, hf2⟩ := bcell hb2; have hs2 := hb2.size; (try simp at hs2); have hv2 : w1.heap.size < w2.heap.size := (by omega); have hv3 : w1.heap.size + 1 < w2.heap.size := (by omega))
              | (go_at_call 16; (with_reducible refine (hN _ _ ?_ ?_).mono ?_); (· exact hg.below (by repeat (first | exact Below.refl _ _ | assumption | refine b_then ?_ (by assumption) | refine b_alloc ?_ _ | refine b_drewN ?_ _ | refine Below.drew ?_ | refine b_set ?_ (by first | exact Nat.le_refl _ | (simp; done) | (simp; omega) | omega) _))); (· refine Rd.made Nd.cs_length _ _ _ ?_ ?_ ?_ ?_; (· exact Nat.le_of_ble_eq_true rfl); (· rfl); (· first | rfl | simp only [World.size_setCell, World.size_alloc] | simp); (· rfl)); rintro e w3 ⟨rfl, hb3⟩; obtain ⟨hc3, hf3⟩ := bcell hb3; have hs3 := hb3.size; (try simp at hs3))
              | (go_at_call 16; (with_reducible refine (hM _ _ ?_ ?_).mono ?_); (· exact hg.below (by repeat (first | exact Below.refl _ _ | assumption | refine b_then ?_ (by assumption) | refine b_alloc ?_ _ | refine b_drewN ?_ _ | refine Below.drew ?_ | refine b_set ?_ (by first | exact Nat.le_refl _ | (simp; done) | (simp; omega) | omega) _))); (· refine Rd.made Nd.cs_length _ _ _ ?_ ?_ ?_ ?_; (· exact Nat.le_of_ble_eq_true rfl); (· rfl); (· first | rfl | simp only [World.size_setCell, World.size_alloc] | simp); (· rfl)); rintro e w4 ⟨rfl, hb4⟩))
        go_ret
        exact ⟨rfl, (by repeat (first | exact Below.refl _ _ | assumption | refine b_then ?_ (by assumption) | refine b_alloc ?_ _ | refine b_drewN ?_ _ | refine Below.drew ?_ | refine b_set ?_ (by first | exact Nat.le_refl _ | (simp; done) | (simp; omega) | omega) _))⟩
      · go_enter Tryz.func6, Tryz.ntmps6
        go_wp2_with (first
              | (go_at_call 15; (with_reducible refine (hFx w hg).mono ?_); rintro e w1 ⟨rfl, hb1⟩; obtain ⟨hc1, hf1⟩ := bcell hb1; have hs1 := hb1.size; (try simp at hs1))
              | (go_at_call 32; (with_reducible refine (h1 _).mono ?_); rintro e w2 ⟨rfl, hb2⟩; obtain ⟨hc2, hf2⟩ := bcell hb2; have hs2 := hb2.size; (try simp at hs2); have hv2 : w1.heap.size < w2.heap.size := (by omega); have hv3 : w1.heap.size + 1 < w2.heap.size := (by omega))
              | (go_at_call 16; (with_reducible refine (hN _ _ ?_ ?_).mono ?_); (· exact hg.below (by repeat (first | exact Below.refl _ _ | assumption | refine b_then ?_ (by assumption) | refine b_alloc ?_ _ | refine b_drewN ?_ _ | refine Below.drew ?_ | refine b_set ?_ (by first | exact Nat.le_refl _ | (simp; done) | (simp; omega) | omega) _))); (· refine Rd.made Nd.cs_length _ _ _ ?_ ?_ ?_ ?_; (· exact Nat.le_of_ble_eq_true rfl); (· rfl); (· first | rfl | simp only [World.size_setCell, World.size_alloc] | simp); (· rfl)); rintro e w3 ⟨rfl, hb3⟩; obtain ⟨hc3, hf3⟩ := bcell hb3; have hs3 := hb3.size; (try simp at hs3))
              | (go_at_call 16; (with_reducible refine (hM _ _ ?_ ?_).mono ?_); (· exact hg.below (by repeat (first | exact Below.refl _ _ | assumption | refine b_then ?_ (by assumption) | refine b_alloc ?_ _ | refine b_drewN ?_ _ | refine Below.drew ?_ | refine b_set ?_ (by first | exact Nat.le_refl _ | (simp; done) | (simp; omega) | omega) _))); (· refine Rd.made Nd.cs_length _ _ _ ?_ ?_ ?_ ?_; (· exact Nat.le_of_ble_eq_true rfl); (· rfl); (· first | rfl | simp only [World.size_setCell, World.size_alloc] | simp); (· rfl)); rintro e w4 ⟨rfl, hb4⟩))
        go_ret
        exact ⟨rfl, (by repeat (first | exact Below.refl _ _ | assumption | refine b_then ?_ (by assumption) | refine b_alloc ?_ _ | refine b_drewN ?_ _ | refine Below.drew ?_ | refine b_set ?_ (by first | exact Nat.le_refl _ | (simp; done) | (simp; omega) | omega) _))⟩
    · have hV1 : V = 100 := by
        rcases hV2 with h | h
        · exact absurd (hVk.1 h) hP
        · exact h
      subst hV1
      clear hVk hV2
      by_cases p1 : op = 1
      · subst p1
        go_enter Tryz.func6, Tryz.ntmps6
        go_wp2_with (first
              | (go_at_call 15; (with_reducible refine (hFx w hg).mono ?_); rintro e w1 ⟨rfl, hb1⟩; obtain ⟨hc1, hf1⟩ := bcell hb1; have hs1 := hb1.size; (try simp at hs1))
              | (go_at_call 32; (with_reducible refine (h1 _).mono ?_); rintro e w2 ⟨rfl, hb2⟩; obtain ⟨hc2, hf2⟩ := bcell hb2; have hs2 := hb2.size; (try simp at hs2); have hv2 : w1.heap.size < w2.heap.size := (by omega); have hv3 : w1.heap.size + 1 < w2.heap.size := (by omega))
              | (go_at_call 16; (with_reducible refine (hN _ _ ?_ ?_).mono ?_); (· exact hg.below (by repeat (first | exact Below.refl _ _ | assumption | refine b_then ?_ (by assumption) | refine b_alloc ?_ _ | refine b_drewN ?_ _ | refine Below.drew ?_ | refine b_set ?_ (by first | exact Nat.le_refl _ | (simp; done) | (simp; omega) | omega) _))); (· refine Rd.made Nd.cs_length _ _ _ ?_ ?_ ?_ ?_; (· exact Nat.le_of_ble_eq_true rfl); (· rfl); (· first | rfl | simp only [World.size_setCell, World.size_alloc] | simp); (· rfl)); rintro e w3 ⟨rfl, hb3⟩; obtain ⟨hc3, hf3⟩ := bcell hb3; have hs3 := hb3.size; (try simp at hs3))
              | (go_at_call 16; (with_reducible refine (hM _ _ ?_ ?_).mono ?_); (· exact hg.below (by repeat (first | exact Below.refl _ _ | assumption | refine b_then ?_ (by assumption) | refine b_alloc ?_ _ | refine b_drewN ?_ _ | refine Below.drew ?_ | refine b_set ?_ (by first | exact Nat.le_refl _ | (simp; done) | (simp; omega) | omega) _))); (· refine Rd.made Nd.cs_length _ _ _ ?_ ?_ ?_ ?_; (· exact Nat.le_of_ble_eq_true rfl); (· rfl); (· first | rfl | simp only [World.size_setCell, World.size_alloc] | simp); (· rfl)); rintro e w4 ⟨rfl, hb4⟩))
        all_goals (first | (go_ret; exact ⟨rfl, (by repeat (first | exact Below.refl _ _ | assumption | refine b_then ?_ (by assumption) | refine b_alloc ?_ _ | refine b_drewN ?_ _ | refine Below.drew ?_ | refine b_set ?_ (by first | exact Nat.le_refl _ | (simp; done) | (simp; omega) | omega) _))⟩) | (go_ret; exact ⟨ret_bool (by simp; exact Decidable.byContradiction fun h => hP (by unfold ndOk; omega)), (by repeat (first | exact Below.refl _ _ | assumption | refine b_then ?_ (by assumption) | refine b_alloc ?_ _ | refine b_drewN ?_ _ | refine Below.drew ?_ | refine b_set ?_ (by first | exact Nat.le_refl _ | (simp; done) | (simp; omega) | omega) _))⟩) | (exfalso; exact hP (by unfold ndOk; omega)))
      · go_enter Tryz.func6, Tryz.ntmps6
        go_wp2_with (first
              | (go_at_call 15; (with_reducible refine (hFx w hg).mono ?_); rintro e w1 ⟨rfl, hb1⟩; obtain ⟨hc1, hf1⟩ := bcell hb1; have hs1 := hb1.size; (try simp at hs1))
              | (go_at_call 32; (with_reducible refine (h1 _).mono ?_); rintro e w2 ⟨rfl, hb2⟩; obtain ⟨hc2, hf2⟩ := bcell hb2; have hs2 := hb2.size; (try simp at hs2); have hv2 : w1.heap.size < w2.heap.size := (by omega); have hv3 : w1.heap.size + 1 < w2.heap.size := (by omega))
              | (go_at_call 16; (with_reducible refine (hN _ _ ?_ ?_).mono ?_); (· exact hg.below (by repeat (first | exact Below.refl _ _ | assumption | refine b_then ?_ (by assumption) | refine b_alloc ?_ _ | refine b_drewN ?_ _ | refine Below.drew ?_ | refine b_set ?_ (by first | exact Nat.le_refl _ | (simp; done) | (simp; omega) | omega) _))); (· refine Rd.made Nd.cs_length _ _ _ ?_ ?_ ?_ ?_; (· exact Nat.le_of_ble_eq_true rfl); (· rfl); (· first | rfl | simp only [World.size_setCell, World.size_alloc] | simp); (· rfl)); rintro e w3 ⟨rfl, hb3⟩; obtain ⟨hc3, hf3⟩ := bcell hb3; have hs3 := hb3.size; (try simp at hs3))
              | (go_at_call 16; (with_reducible refine (hM _ _ ?_ ?_).mono ?_); (· exact hg.below (by repeat (first | exact Below.refl _ _ | assumption | refine b_then ?_ (by assumption) | refine b_alloc ?_ _ | refine b_drewN ?_ _ | refine Below.drew ?_ | refine b_set ?_ (by first | exact Nat.le_refl _ | (simp; done) | (simp; omega) | omega) _))); (· refine Rd.made Nd.cs_length _ _ _ ?_ ?_ ?_ ?_; (· exact Nat.le_of_ble_eq_true rfl); (· rfl); (· first | rfl | simp only [World.size_setCell, World.size_alloc] | simp); (· rfl)); rintro e w4 ⟨rfl, hb4⟩))
        all_goals (first | (go_ret; exact ⟨rfl, (by repeat (first | exact Below.refl _ _ | assumption | refine b_then ?_ (by assumption) | refine b_alloc ?_ _ | refine b_drewN ?_ _ | refine Below.drew ?_ | refine b_set ?_ (by first | exact Nat.le_refl _ | (simp; done) | (simp; omega) | omega) _))⟩) | (go_ret; exact ⟨ret_bool (by simp; exact Decidable.byContradiction fun h => hP (by unfold ndOk; omega)), (by repeat (first | exact Below.refl _ _ | assumption | refine b_then ?_ (by assumption) | refine b_alloc ?_ _ | refine b_drewN ?_ _ | refine Below.drew ?_ | refine b_set ?_ (by first | exact Nat.le_refl _ | (simp; done) | (simp; omega) | omega) _))⟩) | (exfalso; exact hP (by unfold ndOk; omega)))
  · have h4 : a < -2 ∨ (¬ a < -2 ∧ b < -2) ∨ (¬ a < -2 ∧ ¬ b < -2 ∧ 10100 < a) ∨ (¬ a < -2 ∧ ¬ b < -2 ∧ ¬ 10100 < a ∧ 10100 < b) := by omega
    rcases h4 with h4 | ⟨g1, h4⟩ | ⟨g1, g2, h4⟩ | ⟨g1, g2, g3, h4⟩
    all_goals
      go_enter Tryz.func6, Tryz.ntmps6
      go_wp2_with (first
        | (go_at_call 15; (with_reducible refine (hFx w hg).mono ?_); rintro e w1 ⟨rfl, hb1⟩; obtain ⟨hc1, hf1⟩ := bcell hb1; have hs1 := hb1.size; (try simp at hs1))
        | (go_at_call 15; (with_reducible refine (hFx w1 (hg.below hb1)).mono ?_); rintro e w2 ⟨rfl, hb2⟩; obtain ⟨hc2, hf2⟩ := bcell hb2; have hs2 := hb2.size; (try simp at hs2)))
      go_ret
      exact ⟨rfl, b_then hb1 hb2⟩
end Go.Proofs.YtjdofncognaaoaaGreatDoor
