/- Walks: slices.IndexFunc at instructions, instruct.Find; the laws' owes. -/
import Derived.Test.YtjdkbmlkplbmoaaGreatDoorInG
namespace Go.Proofs.YtjdkbmlkplbmoaaGreatDoor
open Go.RowKit
set_option linter.unusedVariables false
set_option linter.unusedSimpArgs false

set_option maxHeartbeats 400000 in
theorem p_find1 (id : Int) (g : Nat) (a0 a1 a2 : Int) (a3 a4 a5 a6 a7 a8 a9 : ByteArray) (w : World) (hg : g < w.heap.size) (hc : w.cell? ⟨g, 0, none⟩ = some (.int .i64 id)) :
    Calls Tryz.prog 50 #[.agg #[.int .i64 a0, .int .i64 a1, .int .i64 a2, .string a3, .string a4, .string a5, .string a6, .string a7, .string a8, .string a9], .pointer (some ⟨g, 0, none⟩)] w fun e w' => e = .returned (.bool (a0 == id)) ∧ Below w.heap.size w w' := by
  go_enter Tryz.func50, Tryz.ntmps50
  go_wp2
  go_ret
  exact ⟨rfl, (by repeat (first | exact Below.refl _ _ | assumption | refine b_then ?_ (by assumption) | refine b_alloc ?_ _ | refine b_drewN ?_ _ | refine Below.drew ?_ | refine b_set ?_ (by first | exact Nat.le_refl _ | (simp; done) | (simp; omega) | omega) _))⟩
set_option maxHeartbeats 1000000 in
theorem p_index {A : Option Addr} {n c : Nat} {xs : List In} (id : Int) (g : Nat) (w : World) (hx : Rd In.cs 10 w A n xs) (hg : g < w.heap.size) (hc : w.cell? ⟨g, 0, none⟩ = some (.int .i64 id)) :
    Calls Tryz.prog 49 #[.slice A n c, .func (.func 50) #[] #[.pointer (some ⟨g, 0, none⟩)]] w fun e w' => e = .returned (.int .i64 (ifind xs id)) ∧ Below w.heap.size w w' := by
  have hbig := hx.big
  have HXL := Lib.hid hx.len
  have HC := Lib.hid hc
  clear hc
  go_enter Tryz.func49, Tryz.ntmps49
  go_wp2
  go_loopw [8] (fun i wr => ∃ k : Nat, k ≤ n ∧ i = .int .i64 (k : Nat) ∧ Hid ((xs.take k).all (fun y => !(y.id == id)) = true) ∧ Below w.heap.size w wr) (fun i _ => n - (intOf i).toNat)
  case atStart => exact ⟨0, Nat.zero_le _, rfl, by simp [Hid], Below.refl _ _⟩
  case round =>
    obtain ⟨k, hk, rfl, H, hB⟩ := hrel
    by_cases hlt : k < n
    · obtain ⟨ad, a0, a1, a2, a3, a4, a5, a6, a7, a8, a9, rfl, hxk, hl⟩ := in_in hx hB hlt
      have HX := Lib.hid hxk
      obtain ⟨y0, y1, y2, y3, y4, y5, y6, y7, y8, y9, y10, y11⟩ := hl wr (Below.refl _ _)
      have hF := p_find1 id g a0 a1 a2 a3 a4 a5 a6 a7 a8 a9 wr (Nat.lt_of_lt_of_le hg hB.size) ((hB.cell (p := ⟨g, 0, none⟩) hg).trans HC.out)
      clear hxk hl
      by_cases he : a0 = id
      · have HF := Lib.hid (ifind_hit H.out HX.out he)
        rw [show (a0 == id) = true by rw [he]; simp] at hF
        clear he
        go_wp2_with (go_at_call 50; (with_reducible refine (hF).mono ?_); rintro e w1 ⟨rfl, hb1⟩; obtain ⟨hc1, hf1⟩ := bcell hb1; have hs1 := hb1.size; (try simp at hs1))
        go_ret
        exact ⟨ret_int HF.out.symm, b_then hB hb1⟩
      · have HS := Lib.hid (all_snoc H.out HX.out (by simpa using he))
        rw [show (a0 == id) = false by rw [beq_eq_false_iff_ne]; exact he] at hF
        go_wp2_with (go_at_call 50; (with_reducible refine (hF).mono ?_); rintro e w1 ⟨rfl, hb1⟩; obtain ⟨hc1, hf1⟩ := bcell hb1; have hs1 := hb1.size; (try simp at hs1))
        go_roundw
        case rel => exact ⟨k + 1, by omega, by go_num, HS.out, b_then hB hb1⟩
        case measure => simp [intOf]; omega
    · obtain rfl : k = n := by omega
      have hf : Hid (ifind xs id = -1) := ifind_none (by have := H.out; rwa [← HXL.out, List.take_length] at this)
      go_wp2
      go_ret
      exact ⟨ret_int hf.out.symm, hB⟩
set_option maxHeartbeats 400000 in
theorem p_ifind {A : Option Addr} {n c : Nat} {xs : List In} (id : Int) (w : World) (hx : Rd In.cs 10 w A n xs) :
    Calls Tryz.prog 24 #[.slice A n c, .int .i64 id] w fun e w' => e = .returned (.int .i64 (ifind xs id)) ∧ Below w.heap.size w w' := by
  have hB0 : Below w.heap.size w (w.alloc (.cells #[.int .i64 id] 3)) := b_alloc (Below.refl _ _) _
  have hI := p_index (c := c) id w.heap.size (w.alloc (.cells #[.int .i64 id] 3)) (hx.below hB0) (by simp) (by simp)
  go_enter Tryz.func24, Tryz.ntmps24
  go_wp2_with (go_at_call 49; (with_reducible refine (hI).mono ?_); rintro e w1 ⟨rfl, hb1⟩; obtain ⟨hc1, hf1⟩ := bcell hb1; have hs1 := hb1.size; (try simp at hs1))
  go_ret
  exact ⟨rfl, b_then hB0 hb1⟩
def oweI (id n pay : Int) : In := ⟨id, 0, 0, sBob, sAnn, sX, ⟨iS n, nS 1⟩, ⟨iS pay, nS 1⟩⟩
set_option maxHeartbeats 1000000 in
theorem l8_owes (id n pay : Int) (w : World) (h0 : -9223372036854775808 ≤ n) (h1 : n ≤ 9223372036854775807) (h2 : -9223372036854775808 ≤ pay) (h3 : pay ≤ 9223372036854775807) :
    Calls Tryz.prog 41 #[.int .i64 id, .int .i64 n, .int .i64 pay] w fun e w' => e = .returned (oweI id n pay).v ∧ Below w.heap.size w w' := by
  have hO := fun (z : Int) W (h0 : -9223372036854775808 ≤ z) (h1 : z ≤ 9223372036854775807) => r3_of z W h0 h1
  simp only [enc_of, RT.v] at hO
  have hO1 := fun W => hO n W h0 h1
  have hO2 := fun W => hO pay W h2 h3
  clear hO
  unfold oweI In.v sBob sAnn sX
  dsimp only
  obtain ⟨u, hu⟩ : ∃ u, iS n = u := ⟨_, rfl⟩
  obtain ⟨v, hv⟩ : ∃ u, iS pay = u := ⟨_, rfl⟩
  obtain ⟨o, ho⟩ : ∃ u, nS 1 = u := ⟨_, rfl⟩
  rw [hu, ho] at hO1
  rw [hv, ho] at hO2
  rw [hu, hv, ho]
  clear hu hv ho
  go_enter Tryz.func41, Tryz.ntmps41
  go_wp2_with (first
    | (go_at_call 32; (with_reducible refine (hO1 _).mono ?_); rintro e w1 ⟨rfl, hb1⟩; obtain ⟨hc1, hf1⟩ := bcell hb1; have hs1 := hb1.size; (try simp at hs1); have hq1 : w.heap.size < w1.heap.size := (by omega))
    | (go_at_call 32; (with_reducible refine (hO2 _).mono ?_); rintro e w2 ⟨rfl, hb2⟩; obtain ⟨hc2, hf2⟩ := bcell hb2; have hs2 := hb2.size; (try simp at hs2); have hq2 : w.heap.size < w2.heap.size := (by omega)))
  have hBq : Below w.heap.size w w2 := (by repeat (first | exact Below.refl _ _ | assumption | refine b_then ?_ (by assumption) | refine b_alloc ?_ _ | refine b_drewN ?_ _ | refine Below.drew ?_ | refine b_set ?_ (by first | exact Nat.le_refl _ | (simp; done) | (simp; omega) | omega) _))
  refine bodyPost_ret (v := .agg #[.int .i64 id, .int .i64 0, .int .i64 0, .string ⟨#[98, 111, 98]⟩, .string ⟨#[97, 110, 110]⟩, .string ⟨#[120]⟩, .string u, .string o, .string v, .string o]) ?_ rfl ⟨rfl, by (repeat (with_reducible refine b_set ?_ (Nat.le_refl _) _)); exact hBq⟩
  simp [results, Tryz.results41, go_sem, hc1, hf1, hc2, hf2, hq1, hq2]
end Go.Proofs.YtjdkbmlkplbmoaaGreatDoor
