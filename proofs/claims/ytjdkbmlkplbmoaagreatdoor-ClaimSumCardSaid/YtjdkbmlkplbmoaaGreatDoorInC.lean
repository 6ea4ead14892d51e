/- Walks of the program's instructions: one, May. -/
import Derived.Test.YtjdkbmlkplbmoaaGreatDoorInB
namespace Go.Proofs.YtjdkbmlkplbmoaaGreatDoor
open Go.RowKit
set_option linter.unusedVariables false
set_option linter.unusedSimpArgs false

set_option maxRecDepth 100000 in
set_option maxHeartbeats 4000000 in
theorem p_ione (a0 a1 a2 : Int) (a3 a4 a5 a6 a7 a8 a9 : ByteArray) (w : World) (hg : Glob w) (h3 : a3.size ≤ 9000000000) (h4 : a4.size ≤ 9000000000) (h5 : a5.size ≤ 9000000000) (h6 : a6.size ≤ 880000000) (h7 : a7.size ≤ 880000000) (h8 : a8.size ≤ 880000000) (h9 : a9.size ≤ 880000000) :
    Calls Tryz.prog 46 #[.agg #[.int .i64 a0, .int .i64 a1, .int .i64 a2, .string a3, .string a4, .string a5, .string a6, .string a7, .string a8, .string a9]] w fun e w' => e = .returned (.bool (ione ⟨a0, a1, a2, a3, a4, a5, ⟨a6, a7⟩, ⟨a8, a9⟩⟩)) ∧ Below w.heap.size w w' := by
  unfold ione
  dsimp only
  have hN3 := fun W => p_name a3 W (by omega)
  have hN4 := fun W => p_name a4 W (by omega)
  have hN5 := fun W => p_name a5 W (by omega)
  have hS1 := fun W hg => p_rsign a6 a7 W hg (by omega) (by omega)
  have hS2 := fun W hg => p_rsign a8 a9 W hg (by omega) (by omega)
  have hM := fun W hg => p_rmay a8 a9 W hg (by omega) (by omega)
  go_enter Tryz.func46, Tryz.ntmps46
  go_wp2_with (first
    | (go_at_call 82; (with_reducible refine (hN3 _).mono ?_); rintro e w1 ⟨rfl, hb1⟩; obtain ⟨hc1, hf1⟩ := bcell hb1; have hs1 := hb1.size; (try simp at hs1); have hq1 : w.heap.size < w1.heap.size := (by omega))
    | (go_at_call 82; (with_reducible refine (hN4 _).mono ?_); rintro e w2 ⟨rfl, hb2⟩; obtain ⟨hc2, hf2⟩ := bcell hb2; have hs2 := hb2.size; (try simp at hs2); have hq2 : w.heap.size < w2.heap.size := (by omega))
    | (go_at_call 82; (with_reducible refine (hN5 _).mono ?_); rintro e w3 ⟨rfl, hb3⟩; obtain ⟨hc3, hf3⟩ := bcell hb3; have hs3 := hb3.size; (try simp at hs3); have hq3 : w.heap.size < w3.heap.size := (by omega))
    | (go_at_call 48; (with_reducible refine (hS1 _ (hg.below (by repeat (first | exact Below.refl _ _ | assumption | refine b_then ?_ (by assumption) | refine b_alloc ?_ _ | refine b_drewN ?_ _ | refine Below.drew ?_ | refine b_set ?_ (by first | exact Nat.le_refl _ | (simp; done) | (simp; omega) | omega) _)))).mono ?_); rintro e w4 ⟨rfl, hb4⟩; obtain ⟨hc4, hf4⟩ := bcell hb4; have hs4 := hb4.size; (try simp at hs4); have hq4 : w.heap.size < w4.heap.size := (by omega))
    | (go_at_call 83; (with_reducible refine (hM _ (hg.below (by repeat (first | exact Below.refl _ _ | assumption | refine b_then ?_ (by assumption) | refine b_alloc ?_ _ | refine b_drewN ?_ _ | refine Below.drew ?_ | refine b_set ?_ (by first | exact Nat.le_refl _ | (simp; done) | (simp; omega) | omega) _)))).mono ?_); rintro e w5 ⟨rfl, hb5⟩; obtain ⟨hc5, hf5⟩ := bcell hb5; have hs5 := hb5.size; (try simp at hs5); have hq5 : w.heap.size < w5.heap.size := (by omega))
    | (go_at_call 48; (with_reducible refine (hS2 _ (hg.below (by repeat (first | exact Below.refl _ _ | assumption | refine b_then ?_ (by assumption) | refine b_alloc ?_ _ | refine b_drewN ?_ _ | refine Below.drew ?_ | refine b_set ?_ (by first | exact Nat.le_refl _ | (simp; done) | (simp; omega) | omega) _)))).mono ?_); rintro e w6 ⟨rfl, hb6⟩; obtain ⟨hc6, hf6⟩ := bcell hb6; have hs6 := hb6.size; (try simp at hs6)))
  all_goals
    go_ret
    exact ⟨ret_bool (by grind), (by repeat (first | exact Below.refl _ _ | assumption | refine b_then ?_ (by assumption) | refine b_alloc ?_ _ | refine b_drewN ?_ _ | refine Below.drew ?_ | refine b_set ?_ (by first | exact Nat.le_refl _ | (simp; done) | (simp; omega) | omega) _))⟩
/-- The last number so far. -/
def lastId (xs : List In) (k : Nat) : Int := if k = 0 then 0 else ((xs[k - 1]?).map In.id).getD 0
theorem lastId_succ {xs : List In} {k : Nat} {x : In} (hx : xs[k]? = some x) : lastId xs (k + 1) = x.id := by
  unfold lastId
  rw [if_neg (by omega), Nat.add_sub_cancel, hx]; rfl
theorem imay_step {xs : List In} {k : Nat} {x : In} (h : imay (xs.take k) = true) (hx : xs[k]? = some x) (h1 : ione x = true) (h2 : lastId xs k < x.id) : imay (xs.take (k + 1)) = true := by
  by_cases hk : k = 0
  · exact imay_first' hk hx h1
  · have hl : k < xs.length := (List.getElem?_eq_some_iff.1 hx).1
    have hp : xs[k - 1]? = some xs[k - 1] := List.getElem?_eq_getElem (by omega)
    unfold lastId at h2
    rw [if_neg hk, hp] at h2
    exact imay_next h (by omega) hp hx h1 (decide_eq_true h2)
theorem imay_stop {xs : List In} {k : Nat} {x : In} (hx : xs[k]? = some x) (h1 : ione x = true) (h2 : ¬ lastId xs k < x.id) : imay xs = false := by
  by_cases hk : k = 0
  · exfalso
    apply h2
    unfold lastId
    rw [if_pos hk]
    have := (ione_of h1).id
    omega
  · have hl : k < xs.length := (List.getElem?_eq_some_iff.1 hx).1
    have hp : xs[k - 1]? = some xs[k - 1] := List.getElem?_eq_getElem (by omega)
    unfold lastId at h2
    rw [if_neg hk, hp] at h2
    exact imay_back (by omega) hp hx (decide_eq_false h2)
set_option maxRecDepth 100000 in
set_option maxHeartbeats 4000000 in
theorem p_imay {A : Option Addr} {n c : Nat} {xs : List In} (w : World) (hg : Glob w) (hx : Rd In.cs 10 w A n xs) (hn : n ≤ 1000000) (hz : ∀ x ∈ xs, inB 1000000 x) :
    Calls Tryz.prog 20 #[.slice A n c] w fun e w' => e = .returned (.bool (imay xs)) ∧ Below w.heap.size w w' := by
  have hxl := hx.len
  have HXL := Lib.hid hxl
  have HZ := Lib.hid hz
  clear hxl hz
  go_enter Tryz.func20, Tryz.ntmps20
  go_wp2
  go_loopw [3, 8] (fun lv i wr => ∃ k : Nat, k ≤ n ∧ i = .int .i64 (k : Nat) ∧ lv = .int .i64 (lastId xs k) ∧ Hid (imay (xs.take k) = true) ∧ Below w.heap.size w wr) (fun _ i _ => n - (intOf i).toNat)
  case atStart => exact ⟨0, Nat.zero_le _, rfl, rfl, by simp [Hid, imay, rises], Below.refl _ _⟩
  case round =>
    obtain ⟨k, hk, rfl, rfl, H, hB⟩ := hrel
    by_cases hlt : k < n
    · obtain ⟨ad, a0, a1, a2, a3, a4, a5, a6, a7, a8, a9, rfl, hxk, hl⟩ := in_in hx hB hlt
      obtain ⟨z0, z1, z2, z3, z4, z5, z6⟩ := HZ.out _ (List.mem_of_getElem? hxk)
      dsimp only at z0 z1 z2 z3 z4 z5 z6
      have hO := fun W hg => p_ione a0 a1 a2 a3 a4 a5 a6 a7 a8 a9 W hg (by omega) (by omega) (by omega) (by omega) (by omega) (by omega) (by omega)
      have HX := Lib.hid hxk
      have HLS := Lib.hid (lastId_succ hxk)
      dsimp only at HLS
      obtain ⟨y0, y1, y2, y3, y4, y5, y6, y7, y8, y9, y10, y11⟩ := hl wr (Below.refl _ _)
      have hBa := b_alloc hB (.cells #[.int .i64 a0, .int .i64 a1, .int .i64 a2, .string a3, .string a4, .string a5, .string a6, .string a7, .string a8, .string a9] 37)
      have hsw := hB.size
      clear hl hxk
      cases c1 : ione ⟨a0, a1, a2, a3, a4, a5, ⟨a6, a7⟩, ⟨a8, a9⟩⟩ with
      | false =>
        have hbad : Hid (imay xs = false) := imay_bad HX.out c1
        rw [c1] at hO
        clear c1 HLS
        go_wp2_with (go_at_call 46; (with_reducible refine (hO _ (hg.below hBa)).mono ?_); rintro e w1 ⟨rfl, hb1⟩; obtain ⟨hc1, hf1⟩ := bcell hb1; have hs1 := hb1.size; (try simp at hs1))
        go_ret
        exact ⟨ret_bool hbad.out.symm, (by repeat (first | exact Below.refl _ _ | assumption | refine b_then ?_ (by assumption) | refine b_alloc ?_ _ | refine b_drewN ?_ _ | refine Below.drew ?_ | refine b_set ?_ (by first | exact Nat.le_refl _ | (simp; done) | (simp; omega) | omega) _))⟩
      | true =>
        rw [c1] at hO
        have C1 := Lib.hid c1
        clear c1
        obtain ⟨z, hz⟩ : ∃ z, lastId xs k = z := ⟨_, rfl⟩
        have HZ2 := Lib.hid hz
        rw [hz]
        clear hz
        by_cases c2 : z < a0
        · have hc2 : ¬ a0 ≤ z := by omega
          have HS : Hid (imay (xs.take (k + 1)) = true) := imay_step H.out HX.out C1.out (by rw [HZ2.out]; exact c2)
          go_wp2_with (go_at_call 46; (with_reducible refine (hO _ (hg.below hBa)).mono ?_); rintro e w1 ⟨rfl, hb1⟩; obtain ⟨hc1, hf1⟩ := bcell hb1; have hs1 := hb1.size; (try simp at hs1); have hq1 : wr.heap.size < w1.heap.size := (by omega))
          go_roundw
          case rel => exact ⟨k + 1, by omega, by go_num, by rw [HLS.out], HS.out, b_then hBa hb1⟩
          case measure => simp [intOf]; omega
        · have hc2 : a0 ≤ z := by omega
          have hbad : Hid (imay xs = false) := imay_stop HX.out C1.out (by rw [HZ2.out]; exact c2)
          go_wp2_with (go_at_call 46; (with_reducible refine (hO _ (hg.below hBa)).mono ?_); rintro e w1 ⟨rfl, hb1⟩; obtain ⟨hc1, hf1⟩ := bcell hb1; have hs1 := hb1.size; (try simp at hs1); have hq1 : wr.heap.size < w1.heap.size := (by omega))
          go_ret
          exact ⟨ret_bool hbad.out.symm, (by repeat (first | exact Below.refl _ _ | assumption | refine b_then ?_ (by assumption) | refine b_alloc ?_ _ | refine b_drewN ?_ _ | refine Below.drew ?_ | refine b_set ?_ (by first | exact Nat.le_refl _ | (simp; done) | (simp; omega) | omega) _))⟩
    · obtain rfl : k = n := by omega
      have hok : Hid (imay xs = true) := by have := H.out; rwa [← HXL.out, List.take_length] at this
      go_wp2
      go_ret
      exact ⟨ret_bool hok.out.symm, hB⟩
end Go.Proofs.YtjdkbmlkplbmoaaGreatDoor
