/- Neutral prices: what is struck; slices.IndexFunc at prices. -/
import Derived.Test.YtdkpbifpafaabaaGreatDoorPkV
namespace Go.Proofs.YtdkpbifpafaabaaGreatDoor
open Go.RowKit
set_option linter.unusedVariables false
set_option linter.unusedSimpArgs false

/-- Is a price struck: of the asset, from the day on? -/
def ndel (s : ByteArray) (ex : Int) (f : Fx) : Bool := f.asset.toList == s.toList && decide (ex ≤ f.day)
/-- An action's box, as far as the closure reads it. -/
def ABox (w : World) (g : Nat) (s : ByteArray) (ex : Int) : Prop := w.cell? ⟨g, 2, none⟩ = some (.string s) ∧ w.cell? ⟨g, 8, none⟩ = some (.int .i64 ex) ∧ g < w.heap.size
theorem ABox.below {w w' : World} {g : Nat} {s : ByteArray} {ex : Int} (h : ABox w g s ex) (hb : Below w.heap.size w w') : ABox w' g s ex :=
  ⟨(hb.cell (p := ⟨g, 2, none⟩) h.2.2).trans h.1, (hb.cell (p := ⟨g, 8, none⟩) h.2.2).trans h.2.1, Nat.lt_of_lt_of_le h.2.2 hb.size⟩
set_option maxHeartbeats 800000 in
theorem p_nk (a0 a2 a3 : ByteArray) (a1 : Int) (g : Nat) (s : ByteArray) (ex : Int) (w : World) (hb : ABox w g s ex) :
    Calls Tryz.prog 111 #[.agg #[.string a0, .int .i64 a1, .string a2, .string a3], .pointer (some ⟨g, 0, none⟩)] w fun e w' => e = .returned (.bool (ndel s ex ⟨a0, a1, ⟨a2, a3⟩⟩)) ∧ Below w.heap.size w w' := by
  unfold ndel
  dsimp only
  obtain ⟨h2, h8, hl⟩ := hb.below (b_alloc (Below.refl _ w) (.cells #[.string a0, .int .i64 a1, .string a2, .string a3] 47))
  have hne : g ≠ w.heap.size := by have := hb.2.2; omega
  go_enter Tryz.func111, Tryz.ntmps111
  go_wp2
  all_goals
    go_ret
    exact ⟨ret_bool (by grind), (by repeat (first | exact Below.refl _ _ | assumption | refine b_then ?_ (by assumption) | refine b_alloc ?_ _ | refine b_drewN ?_ _ | refine Below.drew ?_ | refine b_set ?_ (by first | exact Nat.le_refl _ | (simp; done) | (simp; omega) | omega) _))⟩
def NIdx (xs : List Fx) (s : ByteArray) (ex : Int) (w : World) (e : Ending) (w' : World) : Prop :=
  ((∃ (k : Nat) (a : Fx), e = .returned (.int .i64 (k : Nat)) ∧ xs[k]? = some a ∧ ndel s ex a = true ∧ (xs.take k).all (fun f => !ndel s ex f) = true) ∨ (e = .returned (.int .i64 (-1)) ∧ xs.all (fun f => !ndel s ex f) = true)) ∧ Below w.heap.size w w'
set_option maxHeartbeats 1000000 in
theorem p_nidx {A : Option Addr} {n c : Nat} {xs : List Fx} (g : Nat) (s : ByteArray) (ex : Int) (w : World) (hb : ABox w g s ex) (hx : Rd Fx.cs 4 w A n xs) :
    Calls Tryz.prog 140 #[.slice A n c, .func (.func 111) #[] #[.pointer (some ⟨g, 0, none⟩)]] w (NIdx xs s ex w) := by
  have hbig := hx.big
  have HB := Lib.hid hb
  clear hb
  go_enter Tryz.func140, Tryz.ntmps140
  go_wp2
  go_loopw [8] (fun i wr => ∃ k : Nat, k ≤ n ∧ i = .int .i64 k ∧ Hid ((xs.take k).all (fun f => !ndel s ex f) = true) ∧ Below w.heap.size w wr) (fun i _ => n - (intOf i).toNat)
  case atStart => exact ⟨0, Nat.zero_le _, rfl, by simp [Hid], Below.refl _ _⟩
  case round =>
    obtain ⟨k, hk, rfl, H, hB⟩ := hrel
    by_cases hlt : k < n
    · obtain ⟨ad, a0, a1, a2, a3, rfl, hxk, hl⟩ := fx_in hx hB hlt
      have HX := Lib.hid hxk
      obtain ⟨hx0, hx1, hx2, hx3, hx3'⟩ := hl wr (Below.refl _ _)
      have hN := fun W h => p_nk a0 a2 a3 a1 g s ex W h
      clear hxk hl
      cases hd : ndel s ex ⟨a0, a1, ⟨a2, a3⟩⟩ with
      | false =>
        rw [hd] at hN
        have H2 : Hid ((xs.take (k + 1)).all (fun f => !ndel s ex f) = true) := all_take_succ H.out HX.out (by rw [hd]; rfl)
        clear hd
        go_wp2_with (go_at_call 111; (with_reducible refine (hN _ (HB.out.below hB)).mono ?_); rintro e w1 ⟨rfl, hb1⟩)
        go_roundw
        case rel => exact ⟨k + 1, by omega, by go_num, H2, b_then hB hb1⟩
        case measure => simp [intOf]; omega
      | true =>
        rw [hd] at hN
        have H2 := Lib.hid hd
        clear hd
        go_wp2_with (go_at_call 111; (with_reducible refine (hN _ (HB.out.below hB)).mono ?_); rintro e w1 ⟨rfl, hb1⟩)
        go_ret
        exact ⟨.inl ⟨k, _, rfl, HX.out, H2.out, H.out⟩, b_then hB hb1⟩
    · obtain rfl : k = n := by omega
      have H2 := H.out
      rw [← hx.len, List.take_length] at H2
      have H3 := Lib.hid H2
      clear H2
      go_wp2
      go_ret
      exact ⟨.inr ⟨rfl, H3.out⟩, hB⟩
end Go.Proofs.YtdkpbifpafaabaaGreatDoor
