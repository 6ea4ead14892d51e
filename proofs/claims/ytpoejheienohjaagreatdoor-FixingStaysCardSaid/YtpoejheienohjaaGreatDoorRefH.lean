/- Walks of the references' tables of prices: Get, Last. -/
import Derived.Test.YtpoejheienohjaaGreatDoorRefG
namespace Go.Proofs.YtpoejheienohjaaGreatDoor
open Go.RowKit
set_option linter.unusedVariables false
set_option linter.unusedSimpArgs false

def fhit (a : ByteArray) (d : Int) (f : Fx) : Bool := f.asset.toList == a.toList && f.day == d
def fget (l : List Fx) (a : ByteArray) (d : Int) : Option RT := if fmay l then (l.find? (fhit a d)).map Fx.p else none
def optR (o : Option RT) : Value := .tuple #[.agg #[.string (o.getD rzero).num, .string (o.getD rzero).den], .bool o.isSome]
theorem find_take_succ {α : Type} {p : α → Bool} {l : List α} {k : Nat} {a : α} (h : (l.take k).find? p = none) (ha : l[k]? = some a) (hp : p a = false) : (l.take (k + 1)).find? p = none := by
  rw [List.take_add_one, ha, List.find?_append, h]; simp [hp]
theorem find_hit {α : Type} {p : α → Bool} {l : List α} {k : Nat} {a : α} (h : (l.take k).find? p = none) (ha : l[k]? = some a) (hp : p a = true) : l.find? p = some a := by
  have e : l = l.take (k + 1) ++ l.drop (k + 1) := (List.take_append_drop _ _).symm
  rw [e, List.find?_append, List.take_add_one, ha, List.find?_append, h]; simp [hp]
abbrev W24 (w : World) : World := w.alloc (.cells #[.string ⟨#[]⟩, .string ⟨#[]⟩] 24)
set_option maxHeartbeats 1000000 in
theorem r12_get {A : Option Addr} {n c : Nat} {xs : List Fx} (s : ByteArray) (d : Int) (w : World) (hx : Rd Fx.cs 4 w A n xs) (hz : ∀ f ∈ xs, fxsz f) :
    Calls Tryz.prog 20 #[.slice A n c, .string s, .int .i64 d] w fun e w' => e = .returned (optR (fget xs s d)) ∧ Below w.heap.size w w' := by
  have hbig := hx.big
  go_enter Tryz.func20, Tryz.ntmps20
  go_wp2
  go_loopw [8] (fun i wr => ∃ k : Nat, k ≤ n ∧ i = .int .i64 k ∧ Hid (fmay xs = true → (xs.take k).find? (fhit s d) = none) ∧ Below (W24 w).heap.size (W24 w) wr) (fun i _ => n - (intOf i).toNat)
  case atStart => exact ⟨0, Nat.zero_le _, rfl, by simp [Hid], Below.refl _ _⟩
  case round =>
    obtain ⟨k, hk, rfl, H, hB⟩ := hrel
    have hBw : Below w.heap.size w wr := (by repeat (first | exact Below.refl _ _ | assumption | refine b_then ?_ (by assumption) | refine b_alloc ?_ _ | refine b_drewN ?_ _ | refine b_set ?_ (by first | exact Nat.le_refl _ | (simp; done) | omega) _))
    obtain ⟨hc0, hf0⟩ := bcell hB
    have hs0 : w.heap.size < wr.heap.size := Nat.lt_of_lt_of_le (by simp) hB.size
    by_cases hlt : k < n
    · obtain ⟨ad, a0, a1, a2, a3, rfl, hxk, hl⟩ := fx_in hx hBw hlt
      have HX := Lib.hid hxk
      clear hxk
      obtain ⟨hx0, hx1, hx2, hx3, _⟩ := hl wr (Below.refl _ _)
      have HL := Lib.hid hl
      clear hl
      have HH : Hid (fhit s d ⟨a0, a1, ⟨a2, a3⟩⟩ = (a0.toList == s.toList && a1 == d)) := rfl
      by_cases c1 : (a0.toList == s.toList) = true
      · by_cases c2 : (a1 == d) = true
        · by_cases c3 : fmay xs = true
          · have H3 := Lib.hid c3
            go_wp2_with (go_at_call 25; (with_reducible refine (r12_may _ (hx.below hBw) hz).mono ?_); rintro e w1 ⟨rfl, hb1⟩; obtain ⟨hc1, hf1⟩ := bcell hb1; have hs1 := hb1.size; (try simp at hs1); obtain ⟨_, _, hy2, _, hy4⟩ := HL.out w1 hb1)
            refine bodyPost_ret (v := .tuple #[.agg #[.string a2, .string a3], .bool true]) ?_ rfl ⟨?_, (by repeat (first | exact Below.refl _ _ | assumption | refine b_then ?_ (by assumption) | refine b_alloc ?_ _ | refine b_drewN ?_ _ | refine b_set ?_ (by first | exact Nat.le_refl _ | (simp; done) | omega) _))⟩
            · simp [results, Tryz.results20, go_sem, hc0, hf0, hs0, hc1, hf1, hs1]
            · rw [fget, if_pos H3.out, find_hit (H.out H3.out) HX.out (by rw [HH.out, c1, c2]; rfl)]; rfl
          · simp only [Bool.not_eq_true] at c3
            have H3 := Lib.hid c3
            go_wp2_with (go_at_call 25; (with_reducible refine (r12_may _ (hx.below hBw) hz).mono ?_); rintro e w1 ⟨rfl, hb1⟩; obtain ⟨hc1, hf1⟩ := bcell hb1; have hs1 := hb1.size; (try simp at hs1))
            go_roundw
            case rel => exact ⟨k + 1, by omega, by go_num, fun h => absurd h (by rw [H3.out]; exact Bool.false_ne_true), hB.trans (hb1.mono hB.size)⟩
            case measure => simp [intOf]; omega
        · simp only [Bool.not_eq_true] at c2
          have H2 : Hid (fhit s d ⟨a0, a1, ⟨a2, a3⟩⟩ = false) := by rw [Hid, HH.out, c2, Bool.and_false]
          go_wp2
          go_roundw
          case rel => exact ⟨k + 1, by omega, by go_num, fun h => find_take_succ (H.out h) HX.out H2.out, hB⟩
          case measure => simp [intOf]; omega
      · simp only [Bool.not_eq_true] at c1
        have H2 : Hid (fhit s d ⟨a0, a1, ⟨a2, a3⟩⟩ = false) := by rw [Hid, HH.out, c1, Bool.false_and]
        go_wp2
        go_roundw
        case rel => exact ⟨k + 1, by omega, by go_num, fun h => find_take_succ (H.out h) HX.out H2.out, hB⟩
        case measure => simp [intOf]; omega
    · obtain rfl : k = n := by omega
      have H3 : Hid (optR (fget xs s d) = .tuple #[.agg #[.string ⟨#[]⟩, .string ⟨#[]⟩], .bool false]) := by
        have h := H.out
        rw [← hx.len, List.take_length] at h
        unfold fget Hid
        split
        · rename_i h'; rw [h h']; rfl
        · rfl
      go_wp2
      refine bodyPost_ret (v := .tuple #[.agg #[.string ⟨#[]⟩, .string ⟨#[]⟩], .bool false]) ?_ rfl ⟨by rw [H3.out], (by repeat (first | exact Below.refl _ _ | assumption | refine b_then ?_ (by assumption) | refine b_alloc ?_ _ | refine b_drewN ?_ _ | refine b_set ?_ (by first | exact Nat.le_refl _ | (simp; done) | omega) _))⟩
      simp [results, Tryz.results20, go_sem, hc0, hf0, hs0]

def fupto (a : ByteArray) (d : Int) (f : Fx) : Bool := f.asset.toList == a.toList && decide (f.day ≤ d)
def flast (l : List Fx) (a : ByteArray) (d : Int) : Option RT := if fmay l then ((l.filter (fupto a d)).getLast?).map Fx.p else none
def lastOf (l : List Fx) (a : ByteArray) (d : Int) : Option RT := ((l.filter (fupto a d)).getLast?).map Fx.p
theorem lastOf_yes {l : List Fx} {k : Nat} {f : Fx} {a : ByteArray} {d : Int} (ha : l[k]? = some f) (h : fupto a d f = true) : lastOf (l.take (k + 1)) a d = some f.p := by
  rw [lastOf, List.take_add_one, ha, List.filter_append]; simp [h]
theorem lastOf_no {l : List Fx} {k : Nat} {f : Fx} {a : ByteArray} {d : Int} (ha : l[k]? = some f) (h : fupto a d f = false) : lastOf (l.take (k + 1)) a d = lastOf (l.take k) a d := by
  rw [lastOf, List.take_add_one, ha, List.filter_append]; simp [h, lastOf]
def rcell (o : Option RT) : Array Value := #[.string (o.getD rzero).num, .string (o.getD rzero).den]
set_option maxHeartbeats 2000000 in
theorem r12_last {A : Option Addr} {n c : Nat} {xs : List Fx} (s : ByteArray) (d : Int) (w : World) (hx : Rd Fx.cs 4 w A n xs) (hz : ∀ f ∈ xs, fxsz f) :
    Calls Tryz.prog 22 #[.slice A n c, .string s, .int .i64 d] w fun e w' => e = .returned (optR (flast xs s d)) ∧ Below w.heap.size w w' := by
  have hbig := hx.big
  go_enter Tryz.func22, Tryz.ntmps22
  go_wp2
  go_loopw [9, 10] (fun ok i wr => ∃ (k : Nat) (o : Option RT), k ≤ n ∧ i = .int .i64 k ∧ ok = .bool o.isSome ∧ Hid (lastOf (xs.take k) s d = o) ∧ Hid (k = 0 ∨ fmay xs = true) ∧ Hid (Blk wr w.heap.size 24 (rcell none)) ∧ Hid (Blk wr (w.heap.size + 1) 24 (rcell o)) ∧ Below w.heap.size w wr) (fun _ i _ => n - (intOf i).toNat)
  case atStart => exact ⟨0, none, Nat.zero_le _, rfl, rfl, rfl, .inl rfl, (Blk.new _ _ _).alloc _, Blk.new2 _ _ _ _, (by repeat (first | exact Below.refl _ _ | assumption | refine b_then ?_ (by assumption) | refine b_alloc ?_ _ | refine b_drewN ?_ _ | refine b_set ?_ (by first | exact Nat.le_refl _ | (simp; done) | omega) _))⟩
  case round =>
    obtain ⟨k, o, hk, rfl, rfl, H, H0, hb6, hb8, hB⟩ := hrel
    obtain ⟨p6, q6, f6, g6⟩ := hb6.out.two
    obtain ⟨p8, q8, f8, g8⟩ := hb8.out.two
    have hl6 := hb6.out.lt
    have hl8 := hb8.out.lt
    by_cases hlt : k < n
    · obtain ⟨ad, a0, a1, a2, a3, rfl, hxk, hl⟩ := fx_in hx hB hlt
      have HX := Lib.hid hxk
      have HL := Lib.hid hl
      clear hxk hl
      have HH : Hid (fupto s d ⟨a0, a1, ⟨a2, a3⟩⟩ = (a0.toList == s.toList && decide (a1 ≤ d))) := rfl
      by_cases c3 : fmay xs = true
      · have H3 := Lib.hid c3
        by_cases c1 : (a0.toList == s.toList) = true
        · by_cases c2 : a1 ≤ d
          · have H2 : Hid (fupto s d ⟨a0, a1, ⟨a2, a3⟩⟩ = true) := by rw [Hid, HH.out, c1, decide_eq_true c2]; rfl
            go_wp2_with (go_at_call 25; (with_reducible refine (r12_may _ (hx.below hB) hz).mono ?_); rintro e w1 ⟨rfl, hb1⟩; obtain ⟨hc1, hf1⟩ := bcell hb1; have hs1 := hb1.size; (try simp at hs1); obtain ⟨hx0, hx1, hx2, hx3, hx4⟩ := HL.out w1 hb1)
            go_roundw
            case rel => exact ⟨k + 1, some ⟨a2, a3⟩, by omega, by go_num, rfl, lastOf_yes HX.out H2.out, .inr H3.out, ((hb6.out.below hb1).far (by simp) _).far (by simp) _, Blk.put2 (hb8.out.below hb1) _ _, (by repeat (first | exact Below.refl _ _ | assumption | refine b_then ?_ (by assumption) | refine b_alloc ?_ _ | refine b_drewN ?_ _ | refine b_set ?_ (by first | exact Nat.le_refl _ | (simp; done) | omega) _))⟩
            case measure => simp [intOf]; omega
          · have H2 : Hid (fupto s d ⟨a0, a1, ⟨a2, a3⟩⟩ = false) := by rw [Hid, HH.out, c1, decide_eq_false c2]; rfl
            go_wp2_with (go_at_call 25; (with_reducible refine (r12_may _ (hx.below hB) hz).mono ?_); rintro e w1 ⟨rfl, hb1⟩; obtain ⟨hc1, hf1⟩ := bcell hb1; have hs1 := hb1.size; (try simp at hs1); obtain ⟨hx0, hx1, hx2, hx3, hx4⟩ := HL.out w1 hb1)
            go_roundw
            case rel => exact ⟨k + 1, o, by omega, by go_num, rfl, (lastOf_no HX.out H2.out).trans H.out, .inr H3.out, hb6.out.below hb1, hb8.out.below hb1, (by repeat (first | exact Below.refl _ _ | assumption | refine b_then ?_ (by assumption) | refine b_alloc ?_ _ | refine b_drewN ?_ _ | refine b_set ?_ (by first | exact Nat.le_refl _ | (simp; done) | omega) _))⟩
            case measure => simp [intOf]; omega
        · simp only [Bool.not_eq_true] at c1
          have H2 : Hid (fupto s d ⟨a0, a1, ⟨a2, a3⟩⟩ = false) := by rw [Hid, HH.out, c1]; rfl
          go_wp2_with (go_at_call 25; (with_reducible refine (r12_may _ (hx.below hB) hz).mono ?_); rintro e w1 ⟨rfl, hb1⟩; obtain ⟨hc1, hf1⟩ := bcell hb1; have hs1 := hb1.size; (try simp at hs1); obtain ⟨hx0, hx1, hx2, hx3, hx4⟩ := HL.out w1 hb1)
          go_roundw
          case rel => exact ⟨k + 1, o, by omega, by go_num, rfl, (lastOf_no HX.out H2.out).trans H.out, .inr H3.out, hb6.out.below hb1, hb8.out.below hb1, (by repeat (first | exact Below.refl _ _ | assumption | refine b_then ?_ (by assumption) | refine b_alloc ?_ _ | refine b_drewN ?_ _ | refine b_set ?_ (by first | exact Nat.le_refl _ | (simp; done) | omega) _))⟩
          case measure => simp [intOf]; omega
      · simp only [Bool.not_eq_true] at c3
        have H3 := Lib.hid c3
        have hk0 : k = 0 := by
          rcases H0.out with h | h
          · exact h
          · rw [H3.out] at h; cases h
        have ho : o = none := by rw [← H.out, hk0]; rfl
        have HO : Hid (k = 0 ∧ o = none) := ⟨hk0, ho⟩
        have hfin : Hid (flast xs s d = o) := by rw [Hid, flast, H3.out, ho]; rfl
        clear hk0 ho
        go_wp2_with (go_at_call 25; (with_reducible refine (r12_may _ (hx.below hB) hz).mono ?_); rintro e w1 ⟨rfl, hb1⟩; obtain ⟨hc1, hf1⟩ := bcell hb1; have hs1 := hb1.size; (try simp at hs1))
        refine bodyPost_ret (v := optR o) ?_ rfl ⟨by rw [hfin.out], (by repeat (first | exact Below.refl _ _ | assumption | refine b_then ?_ (by assumption) | refine b_alloc ?_ _ | refine b_drewN ?_ _ | refine b_set ?_ (by first | exact Nat.le_refl _ | (simp; done) | omega) _))⟩
        obtain ⟨r6, t6, _, _⟩ := (hb6.out.below hb1).two
        simp [results, Tryz.results22, go_sem, optR, hc1, hf1, hs1, r6, t6]
    · obtain rfl : k = n := by omega
      have hfin : Hid (flast xs s d = o) := by
        have h := H.out
        rw [← hx.len, List.take_length] at h
        rw [Hid, flast]
        rcases H0.out with h0 | h0
        · have : xs = [] := List.eq_nil_of_length_eq_zero (by rw [hx.len, h0])
          subst this; rw [← h]; rfl
        · rw [if_pos h0]; exact h
      go_wp2
      refine bodyPost_ret (v := optR o) ?_ rfl ⟨by rw [hfin.out], (by repeat (first | exact Below.refl _ _ | assumption | refine b_then ?_ (by assumption) | refine b_alloc ?_ _ | refine b_drewN ?_ _ | refine b_set ?_ (by first | exact Nat.le_refl _ | (simp; done) | omega) _))⟩
      simp [results, Tryz.results22, go_sem, optR, p6, q6]
end Go.Proofs.YtpoejheienohjaaGreatDoor
