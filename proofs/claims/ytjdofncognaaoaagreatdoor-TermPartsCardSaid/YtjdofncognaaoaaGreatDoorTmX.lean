/- Walks: term.Depth, term.Check; the reference's begins, Formed, Depth. -/
import Derived.Test.YtjdofncognaaoaaGreatDoorTmW
namespace Go.Proofs.YtjdofncognaaoaaGreatDoor
open Go.RowKit
set_option linter.unusedVariables false
set_option linter.unusedSimpArgs false

theorem ndeep_step {l : List Int} {j : Nat} {x : Int} (h : l[j]? = some x) : ndeep (l.take (j + 1)) = max (ndeep (l.take j)) x := by
  rw [List.take_add_one, h]
  unfold ndeep
  rw [List.foldl_append]; rfl
theorem ndeep_snoc (l : List Int) (x : Int) : ndeep (l ++ [x]) = max (ndeep l) x := by unfold ndeep; rw [List.foldl_append]; rfl
theorem ndeep_b (l : List Int) : 0 ≤ ndeep l ∧ ndeep l ≤ ((l.map Int.natAbs).sum : Nat) := by
  have key : ∀ (l : List Int) (a : Int), a ≤ l.foldl max a ∧ (0 ≤ a → l.foldl max a ≤ a + ((l.map Int.natAbs).sum : Nat)) := by
    intro l
    induction l with
    | nil => intro a; simp
    | cons x l ih =>
      intro a
      obtain ⟨h1, h2⟩ := ih (max a x)
      rw [List.foldl_cons, List.map_cons, List.sum_cons]
      exact ⟨by omega, fun h0 => by have := h2 (by omega); omega⟩
  have := key l 0
  unfold ndeep
  omega
theorem sum_take (l : List Nat) (q : Nat) : (l.take q).sum ≤ l.sum := by
  have : l.sum = (l.take q).sum + (l.drop q).sum := by rw [← List.sum_append, List.take_append_drop]
  omega
theorem ndeep_take (l : List Int) (j : Nat) : 0 ≤ ndeep (l.take j) ∧ ndeep (l.take j) ≤ ((l.map Int.natAbs).sum : Nat) := by
  obtain ⟨h1, h2⟩ := ndeep_b (l.take j)
  rw [List.map_take] at h2
  have := sum_take (l.map Int.natAbs) j
  omega
set_option maxHeartbeats 2000000 in
theorem p_depth1 (a0 : Int) (a1 a2 a3 : ByteArray) (a4 a5 : Int) {B : Option Addr} {m k : Nat} {l : List Int} (w : World) (hr : Rd jCs 1 w B m l) (hs : (l.map Int.natAbs).sum ≤ 1000000) :
    Calls Tryz.prog 59 #[.agg #[.int .i64 a0, .string a1, .string a2, .string a3, .int .i64 a4, .int .i64 a5], .slice B m k] w fun e w' => e = .returned (.tuple #[.int .i64 (ndeep l + 1), .bool true]) ∧ Below w.heap.size w w' := by
  have hbig := hr.big
  obtain ⟨R, hR⟩ : ∃ R, ndeep l = R := ⟨_, rfl⟩
  have HR := Lib.hid hR
  have HL := Lib.hid hr.len
  have HB := Lib.hid (fun j => ndeep_take l j)
  rw [hR]
  clear hR
  go_enter Tryz.func59, Tryz.ntmps59
  go_wp2
  go_loopw [6, 11] (fun dv iv wr => ∃ (j : Nat) (d : Int), j ≤ m ∧ iv = .int .i64 j ∧ dv = .int .i64 d ∧ Hid (d = ndeep (l.take j)) ∧ Below w.heap.size w wr) (fun _ iv _ => m - (intOf iv).toNat)
  case atStart => exact ⟨0, 0, Nat.zero_le _, rfl, rfl, rfl, (by repeat (first | exact Below.refl _ _ | assumption | refine b_then ?_ (by assumption) | refine b_alloc ?_ _ | refine b_drewN ?_ _ | refine Below.drew ?_ | refine b_set ?_ (by first | exact Nat.le_refl _ | (simp; done) | (simp; omega) | omega) _))⟩
  case round =>
    obtain ⟨j, d, hj, rfl, rfl, H, hB⟩ := hrel
    have hb := HB.out j
    rw [← H.out] at hb
    have hb2 : d ≤ 1000000 := by omega
    obtain ⟨hb1, _⟩ := hb
    by_cases hlt : j < m
    · obtain ⟨ad, s, rfl, hsj, hc⟩ := jnt_in hr hB hlt
      have x0 := hc wr (Below.refl _ _)
      have HS := Lib.hid (ndeep_step hsj)
      rw [← H.out] at HS
      clear hc hsj
      go_wp2
      go_roundw
      case rel => exact ⟨j + 1, max d s, by omega, by go_num, rfl, HS.out.symm, hB⟩
      case measure => simp [intOf]; omega
    · obtain rfl : j = m := by omega
      have he := H.out
      rw [← HL.out, List.take_length, HR.out] at he
      have HE := Lib.hid he
      clear he
      go_wp2
      go_ret2
      exact ⟨by rw [HE.out]; rfl, hB⟩
theorem ndep_wt {n : Nd} {l : List Int} {y : Int} (h : ndep n l = some y) : y.natAbs ≤ (l.map Int.natAbs).sum + 1 := by
  unfold ndep at h
  injection h with h
  have := ndeep_b l
  omega
theorem p_depth {A : Option Addr} {n c : Nat} {t : List Nd} (w : World) (hx : Rd Nd.cs 6 w A n t) :
    Calls Tryz.prog 20 #[.slice A n c] w fun e w' => e = .returned (.int .i64 (tdeep t)) ∧ Below w.heap.size w w' := by
  have hF := fold_I (c := c) (node := ndep) (wt := Int.natAbs) (C := 1) w hx (fun x _ l y h => ndep_wt h) (fun a0 a1 a2 a3 a4 a5 l m hmem ha hl hs W B k hW hr hk hB => p_depth1 a0 a1 a2 a3 a4 a5 W hr (by omega))
  have e : ∃ b, optI (tval ndep t) = .tuple #[.int .i64 (tdeep t), .bool b] := by
    unfold tdeep
    cases tval ndep t with
    | none => exact ⟨false, rfl⟩
    | some s => exact ⟨true, rfl⟩
  obtain ⟨b, hb⟩ := e
  rw [hb] at hF
  clear hb
  generalize tdeep t = s at *
  go_enter Tryz.func20, Tryz.ntmps20
  go_wp2_with (go_at_call 58; (with_reducible refine hF.mono ?_); rintro e w1 ⟨rfl, hb1⟩)
  go_ret
  exact ⟨rfl, hb1⟩
theorem tpr_big (t : List Nd) : (tpr t).size ≤ 9223372036854775807 := by
  unfold tpr
  cases hv : tval pnode t with
  | none => decide
  | some s =>
    have hl : t.length ≤ 2000 := (tform_iff.1 (tval_form hv)).1
    unfold tval at hv
    rw [if_pos hl] at hv
    cases hf : tfold pnode [] t with
    | none => rw [hf] at hv; cases hv
    | some st =>
      rw [hf] at hv
      have hv' : tone st = some s := hv
      unfold tone at hv'
      split at hv'
      · injection hv' with e
        subst e
        have := tfold_wt (wt := ByteArray.size) (C := 200) (fun n _ l x h => pnode_wt h) hf
        simp at this
        simp only [Option.getD_some]
        omega
      · cases hv'
theorem p_tcheck {A : Option Addr} {n c : Nat} {t : List Nd} (w : World) (hg : Glob w) (hx : Rd Nd.cs 6 w A n t) (hz : ∀ x ∈ t, nq x) :
    Calls Tryz.prog 16 #[.slice A n c] w fun e w' => e = .returned (.int .i64 (tchk t)) ∧ Below w.heap.size w w' := by
  have hP := p_print (c := c) w hg hx hz
  have hD := fun W (hW : Below w.heap.size w W) => p_depth (c := c) W (hx.below hW)
  have hbg := tpr_big t
  unfold tchk
  generalize tpr t = s at *
  generalize tdeep t = d at *
  cases c1 : (s.toList == []) with
  | true =>
    rw [if_pos (.inl rfl)]
    go_enter Tryz.func16, Tryz.ntmps16
    go_wp2_with (first | (go_at_call 18; (with_reducible refine hP.mono ?_); rintro e w1 ⟨rfl, hb1⟩) | (go_at_call 20; (with_reducible refine (hD _ hb1).mono ?_); rintro e w2 ⟨rfl, hb2⟩; obtain ⟨hc2, hf2⟩ := bcell hb2; have hs2 := hb2.size; (try simp at hs2); skip))
    go_ret
    exact ⟨rfl, (by repeat (first | exact Below.refl _ _ | assumption | refine b_then ?_ (by assumption) | refine b_alloc ?_ _ | refine b_drewN ?_ _ | refine Below.drew ?_ | refine b_set ?_ (by first | exact Nat.le_refl _ | (simp; done) | (simp; omega) | omega) _))⟩
  | false =>
    by_cases c2 : 20000 < s.size
    · rw [if_pos (.inr (.inl c2))]
      have d2 : (20000 : Int) < (s.size : Int) := by omega
      go_enter Tryz.func16, Tryz.ntmps16
      go_wp2_with (first | (go_at_call 18; (with_reducible refine hP.mono ?_); rintro e w1 ⟨rfl, hb1⟩) | (go_at_call 20; (with_reducible refine (hD _ hb1).mono ?_); rintro e w2 ⟨rfl, hb2⟩; obtain ⟨hc2, hf2⟩ := bcell hb2; have hs2 := hb2.size; (try simp at hs2); skip))
      go_ret
      exact ⟨rfl, (by repeat (first | exact Below.refl _ _ | assumption | refine b_then ?_ (by assumption) | refine b_alloc ?_ _ | refine b_drewN ?_ _ | refine Below.drew ?_ | refine b_set ?_ (by first | exact Nat.le_refl _ | (simp; done) | (simp; omega) | omega) _))⟩
    · have d2 : ¬ (20000 : Int) < (s.size : Int) := by omega
      by_cases c3 : 150 < d
      · rw [if_pos (.inr (.inr c3))]
        go_enter Tryz.func16, Tryz.ntmps16
        go_wp2_with (first | (go_at_call 18; (with_reducible refine hP.mono ?_); rintro e w1 ⟨rfl, hb1⟩) | (go_at_call 20; (with_reducible refine (hD _ hb1).mono ?_); rintro e w2 ⟨rfl, hb2⟩; obtain ⟨hc2, hf2⟩ := bcell hb2; have hs2 := hb2.size; (try simp at hs2); skip))
        go_ret
        exact ⟨rfl, (by repeat (first | exact Below.refl _ _ | assumption | refine b_then ?_ (by assumption) | refine b_alloc ?_ _ | refine b_drewN ?_ _ | refine Below.drew ?_ | refine b_set ?_ (by first | exact Nat.le_refl _ | (simp; done) | (simp; omega) | omega) _))⟩
      · rw [if_neg (by simp [c2, c3])]
        go_enter Tryz.func16, Tryz.ntmps16
        go_wp2_with (first | (go_at_call 18; (with_reducible refine hP.mono ?_); rintro e w1 ⟨rfl, hb1⟩) | (go_at_call 20; (with_reducible refine (hD _ hb1).mono ?_); rintro e w2 ⟨rfl, hb2⟩; obtain ⟨hc2, hf2⟩ := bcell hb2; have hs2 := hb2.size; (try simp at hs2); skip))
        go_ret
        exact ⟨rfl, (by repeat (first | exact Below.refl _ _ | assumption | refine b_then ?_ (by assumption) | refine b_alloc ?_ _ | refine b_drewN ?_ _ | refine Below.drew ?_ | refine b_set ?_ (by first | exact Nat.le_refl _ | (simp; done) | (simp; omega) | omega) _))⟩
end Go.Proofs.YtjdofncognaaoaaGreatDoor
