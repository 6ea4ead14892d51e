/- Walks of the references' tables of prices: Get, Last. -/
import Derived.Test.YtpoejheienohjaaGreatDoorRefG
import Derived.Test.YtpoejheienohjaaGreatDoorOwn
import Derived.Deep.DeepCutAuto
import Derived.Deep.CutBlock
namespace Go.Proofs.YtpoejheienohjaaGreatDoor
open Go.RowKit
set_option linter.unusedVariables false
set_option linter.unusedSimpArgs false

def fhit (a : ByteArray) (d : Int) (f : Fx) : Bool := f.asset.toList == a.toList && f.day == d
def fget (l : List Fx) (a : ByteArray) (d : Int) : Option RT := if fmay l then (l.find? (fhit a d)).map Fx.p else none
def optR (o : Option RT) : Value := .tuple #[.agg #[.string (o.getD rzero).num, .string (o.getD rzero).den], .bool o.isSome]
theorem find_take_succ {α : Type} {p : α → Bool} {l : List α} {k : Nat} {a : α} (h : (l.take k).find? p = none) (ha : l[k]? = some a) (hp : p a = false) : (l.take (k + 1)).find? p = none := by
  rw [List.take_add_one, ha, List.find?_append, h]; simp [hp]
theorem find_hit {α : Type} {p : α → Bool} {l : List α} {k : Nat} {a : α} (h : (l.take k).find? p = none) (ha : l[k]? = some a) (hp : p a = true) : l.find? p = some a := by
  have e : l = l.take (k + 1) ++ l.drop (k + 1) := (List.take_append_drop _ _).symm
  rw [e, List.find?_append, List.take_add_one, ha, List.find?_append, h]; simp [hp]
abbrev W24 (w : World) : World := w.alloc (.cells #[.string ⟨#[]⟩, .string ⟨#[]⟩] 24)
set_option maxHeartbeats 1000000 in
theorem r12_get {A : Option Addr} {n c : Nat} {xs : List Fx} (s : ByteArray) (d : Int) (w : World) (hx : Rd Fx.cs 4 w A n xs) (hz : ∀ f ∈ xs, fxsz f) :
    Calls Tryz.prog 20 #[.slice A n c, .string s, .int .i64 d] w fun e w' => e = .returned (optR (fget xs s d)) ∧ Below w.heap.size w w' := by
  have hbig := hx.big
  go_enter Tryz.func20, Tryz.ntmps20
  go_wp2
  go_loopw [8] (fun i wr => ∃ k : Nat, k ≤ n ∧ i = .int .i64 k ∧ Hid (fmay xs = true → (xs.take k).find? (fhit s d) = none) ∧ Below (W24 w).heap.size (W24 w) wr) (fun i _ => n - (intOf i).toNat)
  case atStart => exact ⟨0, Nat.zero_le _, rfl, by simp [Hid], Below.refl _ _⟩
  case round =>
    obtain ⟨k, hk, rfl, H, hB⟩ := hrel
    have hBw : Below w.heap.size w wr := (by repeat (first | exact Below.refl _ _ | assumption | refine b_then ?_ (by assumption) | refine b_alloc ?_ _ | refine b_drewN ?_ _ | refine Below.drew ?_ | refine b_set ?_ (by first | exact Nat.le_refl _ | (simp; done) | (simp; omega) | omega) _))
    obtain ⟨hc0, hf0⟩ := bcell hB
    have hs0 : w.heap.size < wr.heap.size := Nat.lt_of_lt_of_le (by simp) hB.size
    by_cases hlt : k < n
    · obtain ⟨ad, a0, a1, a2, a3, rfl, hxk, hl⟩ := fx_in hx hBw hlt
      have HX := Lib.hid hxk
      clear hxk
      obtain ⟨hx0, hx1, hx2, hx3, _⟩ := hl wr (Below.refl _ _)
      have HL := Lib.hid hl
      clear hl
      have HH : Hid (fhit s d ⟨a0, a1, ⟨a2, a3⟩⟩ = (a0.toList == s.toList && a1 == d)) := rfl
      by_cases c1 : (a0.toList == s.toList) = true
      · by_cases c2 : (a1 == d) = true
        · by_cases c3 : fmay xs = true
          · have H3 := Lib.hid c3
            go_wp2_with (go_at_call 25; (with_reducible refine (r12_may _ (hx.below hBw) hz).mono ?_); rintro e w1 ⟨rfl, hb1⟩; obtain ⟨hc1, hf1⟩ := bcell hb1; have hs1 := hb1.size; (try simp at hs1); obtain ⟨_, _, hy2, _, hy4⟩ := HL.out w1 hb1)
            refine bodyPost_ret (v := .tuple #[.agg #[.string a2, .string a3], .bool true]) ?_ rfl ⟨?_, (by repeat (first | exact Below.refl _ _ | assumption | refine b_then ?_ (by assumption) | refine b_alloc ?_ _ | refine b_drewN ?_ _ | refine Below.drew ?_ | refine b_set ?_ (by first | exact Nat.le_refl _ | (simp; done) | (simp; omega) | omega) _))⟩
            · simp [results, Tryz.results20, go_sem, hc0, hf0, hs0, hc1, hf1, hs1]
            · rw [fget, if_pos H3.out, find_hit (H.out H3.out) HX.out (by rw [HH.out, c1, c2]; rfl)]; rfl
          · simp only [Bool.not_eq_true] at c3
            have H3 := Lib.hid c3
            go_wp2_with (go_at_call 25; (with_reducible refine (r12_may _ (hx.below hBw) hz).mono ?_); rintro e w1 ⟨rfl, hb1⟩; obtain ⟨hc1, hf1⟩ := bcell hb1; have hs1 := hb1.size; (try simp at hs1))
            go_roundw
            case rel => exact ⟨k + 1, by omega, by go_num, fun h => absurd h (by rw [H3.out]; exact Bool.false_ne_true), hB.trans (hb1.mono hB.size)⟩
            case measure => simp [intOf]; omega
        · simp only [Bool.not_eq_true] at c2
          have H2 : Hid (fhit s d ⟨a0, a1, ⟨a2, a3⟩⟩ = false) := by rw [Hid, HH.out, c2, Bool.and_false]
          go_wp2
          go_roundw
          case rel => exact ⟨k + 1, by omega, by go_num, fun h => find_take_succ (H.out h) HX.out H2.out, hB⟩
          case measure => simp [intOf]; omega
      · simp only [Bool.not_eq_true] at c1
        have H2 : Hid (fhit s d ⟨a0, a1, ⟨a2, a3⟩⟩ = false) := by rw [Hid, HH.out, c1, Bool.false_and]
        go_wp2
        go_roundw
        case rel => exact ⟨k + 1, by omega, by go_num, fun h => find_take_succ (H.out h) HX.out H2.out, hB⟩
        case measure => simp [intOf]; omega
    · obtain rfl : k = n := by omega
      have H3 : Hid (optR (fget xs s d) = .tuple #[.agg #[.string ⟨#[]⟩, .string ⟨#[]⟩], .bool false]) := by
        have h := H.out
        rw [← hx.len, List.take_length] at h
        unfold fget Hid
        split
        · rename_i h'; rw [h h']; rfl
        · rfl
      go_wp2
      refine bodyPost_ret (v := .tuple #[.agg #[.string ⟨#[]⟩, .string ⟨#[]⟩], .bool false]) ?_ rfl ⟨by rw [H3.out], (by repeat (first | exact Below.refl _ _ | assumption | refine b_then ?_ (by assumption) | refine b_alloc ?_ _ | refine b_drewN ?_ _ | refine Below.drew ?_ | refine b_set ?_ (by first | exact Nat.le_refl _ | (simp; done) | (simp; omega) | omega) _))⟩
      simp [results, Tryz.results20, go_sem, hc0, hf0, hs0]

def fupto (a : ByteArray) (d : Int) (f : Fx) : Bool := f.asset.toList == a.toList && decide (f.day ≤ d)
def flast (l : List Fx) (a : ByteArray) (d : Int) : Option RT := if fmay l then ((l.filter (fupto a d)).getLast?).map Fx.p else none
def lastOf (l : List Fx) (a : ByteArray) (d : Int) : Option RT := ((l.filter (fupto a d)).getLast?).map Fx.p
theorem lastOf_yes {l : List Fx} {k : Nat} {f : Fx} {a : ByteArray} {d : Int} (ha : l[k]? = some f) (h : fupto a d f = true) : lastOf (l.take (k + 1)) a d = some f.p := by
  rw [lastOf, List.take_add_one, ha, List.filter_append]; simp [h]
theorem lastOf_no {l : List Fx} {k : Nat} {f : Fx} {a : ByteArray} {d : Int} (ha : l[k]? = some f) (h : fupto a d f = false) : lastOf (l.take (k + 1)) a d = lastOf (l.take k) a d := by
  rw [lastOf, List.take_add_one, ha, List.filter_append]; simp [h, lastOf]
def rcell (o : Option RT) : Array Value := #[.string (o.getD rzero).num, .string (o.getD rzero).den]
set_option maxHeartbeats 2000000 in
theorem r12_last {A : Option Addr} {n c : Nat} {xs : List Fx} (s : ByteArray) (d : Int) (w : World) (hx : Rd Fx.cs 4 w A n xs) (hz : ∀ f ∈ xs, fxsz f) :
    Calls Tryz.prog 22 #[.slice A n c, .string s, .int .i64 d] w fun e w' => e = .returned (optR (flast xs s d)) ∧ Below w.heap.size w w' := by
  have hbig := hx.big
  go_enter Tryz.func22, Tryz.ntmps22
  go_wp2
  go_loopw [9, 10] (fun ok i wr => ∃ (k : Nat) (o : Option RT), k ≤ n ∧ i = .int .i64 k ∧ ok = .bool o.isSome ∧ Hid (lastOf (xs.take k) s d = o) ∧ Hid (k = 0 ∨ fmay xs = true) ∧ Hid (Blk wr w.heap.size 24 (rcell none)) ∧ Hid (Blk wr (w.heap.size + 1) 24 (rcell o)) ∧ Below w.heap.size w wr) (fun _ i _ => n - (intOf i).toNat)
  case atStart => exact ⟨0, none, Nat.zero_le _, rfl, rfl, rfl, .inl rfl, (Blk.new _ _ _).alloc _, Blk.new2 _ _ _ _, (by repeat (first | exact Below.refl _ _ | assumption | refine b_then ?_ (by assumption) | refine b_alloc ?_ _ | refine b_drewN ?_ _ | refine Below.drew ?_ | refine b_set ?_ (by first | exact Nat.le_refl _ | (simp; done) | (simp; omega) | omega) _))⟩
  case round =>
    obtain ⟨k, o, hk, rfl, rfl, H, H0, hb6, hb8, hB⟩ := hrel
    obtain ⟨p6, q6, f6, g6⟩ := hb6.out.two
    obtain ⟨p8, q8, f8, g8⟩ := hb8.out.two
    have hl6 := hb6.out.lt
    have hl8 := hb8.out.lt
    by_cases hlt : k < n
    · obtain ⟨ad, a0, a1, a2, a3, rfl, hxk, hl⟩ := fx_in hx hB hlt
      have HX := Lib.hid hxk
      have HL := Lib.hid hl
      clear hxk hl
      have HH : Hid (fupto s d ⟨a0, a1, ⟨a2, a3⟩⟩ = (a0.toList == s.toList && decide (a1 ≤ d))) := rfl
      by_cases c3 : fmay xs = true
      · have H3 := Lib.hid c3
        by_cases c1 : (a0.toList == s.toList) = true
        · by_cases c2 : a1 ≤ d
          · have H2 : Hid (fupto s d ⟨a0, a1, ⟨a2, a3⟩⟩ = true) := by rw [Hid, HH.out, c1, decide_eq_true c2]; rfl
            go_wp2_with (go_at_call 25; (with_reducible refine (r12_may _ (hx.below hB) hz).mono ?_); rintro e w1 ⟨rfl, hb1⟩; obtain ⟨hc1, hf1⟩ := bcell hb1; have hs1 := hb1.size; (try simp at hs1); obtain ⟨hx0, hx1, hx2, hx3, hx4⟩ := HL.out w1 hb1)
            go_roundw
            case rel => exact ⟨k + 1, some ⟨a2, a3⟩, by omega, by go_num, rfl, lastOf_yes HX.out H2.out, .inr H3.out, ((hb6.out.below hb1).far (by simp) _).far (by simp) _, Blk.put2 (hb8.out.below hb1) _ _, (by repeat (first | exact Below.refl _ _ | assumption | refine b_then ?_ (by assumption) | refine b_alloc ?_ _ | refine b_drewN ?_ _ | refine Below.drew ?_ | refine b_set ?_ (by first | exact Nat.le_refl _ | (simp; done) | (simp; omega) | omega) _))⟩
            case measure => simp [intOf]; omega
          · have H2 : Hid (fupto s d ⟨a0, a1, ⟨a2, a3⟩⟩ = false) := by rw [Hid, HH.out, c1, decide_eq_false c2]; rfl
            go_wp2_with (go_at_call 25; (with_reducible refine (r12_may _ (hx.below hB) hz).mono ?_); rintro e w1 ⟨rfl, hb1⟩; obtain ⟨hc1, hf1⟩ := bcell hb1; have hs1 := hb1.size; (try simp at hs1); obtain ⟨hx0, hx1, hx2, hx3, hx4⟩ := HL.out w1 hb1)
            go_roundw
            case rel => exact ⟨k + 1, o, by omega, by go_num, rfl, (lastOf_no HX.out H2.out).trans H.out, .inr H3.out, hb6.out.below hb1, hb8.out.below hb1, (by repeat (first | exact Below.refl _ _ | assumption | refine b_then ?_ (by assumption) | refine b_alloc ?_ _ | refine b_drewN ?_ _ | refine Below.drew ?_ | refine b_set ?_ (by first | exact Nat.le_refl _ | (simp; done) | (simp; omega) | omega) _))⟩
            case measure => simp [intOf]; omega
        · simp only [Bool.not_eq_true] at c1
          have H2 : Hid (fupto s d ⟨a0, a1, ⟨a2, a3⟩⟩ = false) := by rw [Hid, HH.out, c1]; rfl
          go_wp2_with (go_at_call 25; (with_reducible refine (r12_may _ (hx.below hB) hz).mono ?_); rintro e w1 ⟨rfl, hb1⟩; obtain ⟨hc1, hf1⟩ := bcell hb1; have hs1 := hb1.size; (try simp at hs1); obtain ⟨hx0, hx1, hx2, hx3, hx4⟩ := HL.out w1 hb1)
          go_roundw
          case rel => exact ⟨k + 1, o, by omega, by go_num, rfl, (lastOf_no HX.out H2.out).trans H.out, .inr H3.out, hb6.out.below hb1, hb8.out.below hb1, (by repeat (first | exact Below.refl _ _ | assumption | refine b_then ?_ (by assumption) | refine b_alloc ?_ _ | refine b_drewN ?_ _ | refine Below.drew ?_ | refine b_set ?_ (by first | exact Nat.le_refl _ | (simp; done) | (simp; omega) | omega) _))⟩
          case measure => simp [intOf]; omega
      · simp only [Bool.not_eq_true] at c3
        have H3 := Lib.hid c3
        have hk0 : k = 0 := by
          rcases H0.out with h | h
          · exact h
          · rw [H3.out] at h; cases h
        have ho : o = none := by rw [← H.out, hk0]; rfl
        have HO : Hid (k = 0 ∧ o = none) := ⟨hk0, ho⟩
        have hfin : Hid (flast xs s d = o) := by rw [Hid, flast, H3.out, ho]; rfl
        clear hk0 ho
        go_wp2_with (go_at_call 25; (with_reducible refine (r12_may _ (hx.below hB) hz).mono ?_); rintro e w1 ⟨rfl, hb1⟩; obtain ⟨hc1, hf1⟩ := bcell hb1; have hs1 := hb1.size; (try simp at hs1))
        refine bodyPost_ret (v := optR o) ?_ rfl ⟨by rw [hfin.out], (by repeat (first | exact Below.refl _ _ | assumption | refine b_then ?_ (by assumption) | refine b_alloc ?_ _ | refine b_drewN ?_ _ | refine Below.drew ?_ | refine b_set ?_ (by first | exact Nat.le_refl _ | (simp; done) | (simp; omega) | omega) _))⟩
        obtain ⟨r6, t6, _, _⟩ := (hb6.out.below hb1).two
        simp [results, Tryz.results22, go_sem, optR, hc1, hf1, hs1, r6, t6]
    · obtain rfl : k = n := by omega
      have hfin : Hid (flast xs s d = o) := by
        have h := H.out
        rw [← hx.len, List.take_length] at h
        rw [Hid, flast]
        rcases H0.out with h0 | h0
        · have : xs = [] := List.eq_nil_of_length_eq_zero (by rw [hx.len, h0])
          subst this; rw [← h]; rfl
        · rw [if_pos h0]; exact h
      go_wp2
      refine bodyPost_ret (v := optR o) ?_ rfl ⟨by rw [hfin.out], (by repeat (first | exact Below.refl _ _ | assumption | refine b_then ?_ (by assumption) | refine b_alloc ?_ _ | refine b_drewN ?_ _ | refine Below.drew ?_ | refine b_set ?_ (by first | exact Nat.le_refl _ | (simp; done) | (simp; omega) | omega) _))⟩
      simp [results, Tryz.results22, go_sem, optR, p6, q6]
end Go.Proofs.YtpoejheienohjaaGreatDoor

/- Walk of the references' tables of prices: Set. -/
namespace Go.Proofs.YtpoejheienohjaaGreatDoor
open Go.RowKit
set_option linter.unusedVariables false
set_option linter.unusedSimpArgs false

theorem Tryz.elemFix : Elem Tryz.prog 22 26 4 56 := ⟨Tryz.underlying22, ⟨.agg #[.string ⟨#[]⟩, .int .i64 0, .string ⟨#[]⟩, .string ⟨#[]⟩], by kernel_rfl, rfl⟩⟩
theorem Fx.cs_length (x : Fx) : (Fx.cs x).length = 4 := rfl
theorem Fx.cs_one (x : Fx) : ∀ u ∈ Fx.cs x, u.oneCell' = true := by
  intro u hu
  simp only [Fx.cs, List.mem_cons, List.not_mem_nil, or_false] at hu
  rcases hu with rfl | rfl | rfl | rfl <;> rfl
/-- f laid into a list ahead of the first one that does not stand ahead of it. -/
def fins (l : List Fx) (f : Fx) : List Fx := l.takeWhile (fahead · f) ++ f :: l.dropWhile (fahead · f)
def fset (l : List Fx) (f : Fx) : Option (List Fx) := if fmay l && fmay (fins l f) then some (fins l f) else none
theorem takeWhile_all {α : Type} {p : α → Bool} {l : List α} (h : l.all p = true) : l.takeWhile p = l ∧ l.dropWhile p = [] := by
  induction l with
  | nil => simp
  | cons a l ih =>
    simp only [List.all_cons, Bool.and_eq_true] at h
    obtain ⟨i1, i2⟩ := ih h.2
    simp [List.takeWhile_cons, List.dropWhile_cons, h.1, i1, i2]
theorem while_append {α : Type} {p : α → Bool} {l : List α} (h : l.all p = false) (m : List α) : (l ++ m).takeWhile p = l.takeWhile p ∧ (l ++ m).dropWhile p = l.dropWhile p ++ m := by
  induction l with
  | nil => simp at h
  | cons a l ih =>
    by_cases ha : p a = true
    · have h' : l.all p = false := by simpa [ha] using h
      obtain ⟨i1, i2⟩ := ih h'
      simp [List.takeWhile_cons, List.dropWhile_cons, ha, i1, i2]
    · simp [List.takeWhile_cons, List.dropWhile_cons, ha]
theorem fins_all {l : List Fx} {f : Fx} (h : l.all (fahead · f) = true) : fins l f = l ++ [f] := by
  obtain ⟨h1, h2⟩ := takeWhile_all h
  rw [fins, h1, h2]
theorem fins_first {l : List Fx} {f x : Fx} {k : Nat} (h : (l.take k).all (fahead · f) = true) (hx : l[k]? = some x) (hp : fahead x f = false) : fins (l.take (k + 1)) f = l.take k ++ [f] ++ [x] := by
  rw [List.take_add_one, hx]
  obtain ⟨h1, h2⟩ := takeWhile_all h
  have e1 : ∀ (l : List Fx), l.all (fahead · f) = true → (l ++ [x]).takeWhile (fahead · f) = l ∧ (l ++ [x]).dropWhile (fahead · f) = [x] := by
    intro l hl
    induction l with
    | nil => simp [List.takeWhile_cons, List.dropWhile_cons, hp]
    | cons a l ih =>
      simp only [List.all_cons, Bool.and_eq_true] at hl
      obtain ⟨i1, i2⟩ := ih hl.2
      simp [List.takeWhile_cons, List.dropWhile_cons, hl.1, i1, i2]
  obtain ⟨e2, e3⟩ := e1 _ h
  simp only [Option.toList_some]
  rw [fins, e2, e3]; simp
theorem fins_more {l : List Fx} {f x : Fx} {k : Nat} (h : (l.take k).all (fahead · f) = false) (hx : l[k]? = some x) : fins (l.take (k + 1)) f = fins (l.take k) f ++ [x] := by
  rw [List.take_add_one, hx]
  obtain ⟨h1, h2⟩ := while_append h [x]
  simp only [Option.toList_some]
  rw [fins, h1, h2, fins]; simp
theorem all_take_no {α : Type} {p : α → Bool} {l : List α} {k : Nat} {a : α} (ha : l[k]? = some a) (hp : p a = false) : (l.take (k + 1)).all p = false := by
  rw [List.take_add_one, ha, List.all_append]; simp [hp]
theorem all_take_more {α : Type} {p : α → Bool} {l : List α} {k : Nat} {a : α} (h : (l.take k).all p = false) (ha : l[k]? = some a) : (l.take (k + 1)).all p = false := by
  rw [List.take_add_one, ha, List.all_append, h, Bool.false_and]
def laidTo (l : List Fx) (f : Fx) (k : Nat) (laid : Bool) (ys : List Fx) : Prop := (l.take k).all (fahead · f) = !laid ∧ ys = if laid then fins (l.take k) f else l.take k
theorem laidTo_len {l : List Fx} {f : Fx} {k : Nat} {laid : Bool} {ys : List Fx} (h : laidTo l f k laid ys) (hk : k ≤ 1000000) : ys.length ≤ 1000001 := by
  rw [h.2]
  split
  · have h1 : (fins (l.take k) f).length = (l.take k).length + 1 := by
      have := congrArg List.length (List.takeWhile_append_dropWhile (p := (fahead · f)) (l := l.take k))
      rw [List.length_append] at this
      rw [fins, List.length_append, List.length_cons]; omega
    rw [h1, List.length_take]; omega
  · rw [List.length_take]; omega
theorem laidTo_yes {l : List Fx} {f x : Fx} {k : Nat} {ys : List Fx} (h : laidTo l f k true ys) (hx : l[k]? = some x) : laidTo l f (k + 1) true (ys ++ [x]) := by
  obtain ⟨h1, h2⟩ := h
  simp only [Bool.not_true, if_true] at h1 h2
  exact ⟨by simp only [Bool.not_true]; exact all_take_more h1 hx, by simp only [if_true]; rw [h2, fins_more h1 hx]⟩
theorem laidTo_now {l : List Fx} {f x : Fx} {k : Nat} {ys : List Fx} (h : laidTo l f k false ys) (hx : l[k]? = some x) (hp : fahead x f = false) : laidTo l f (k + 1) true (ys ++ [f] ++ [x]) := by
  obtain ⟨h1, h2⟩ := h
  simp only [Bool.not_false, Bool.false_eq_true, if_false] at h1 h2
  exact ⟨by simp only [Bool.not_true]; exact all_take_no hx hp, by simp only [if_true]; rw [h2, fins_first h1 hx hp]⟩
theorem laidTo_not {l : List Fx} {f x : Fx} {k : Nat} {ys : List Fx} (h : laidTo l f k false ys) (hx : l[k]? = some x) (hp : fahead x f = true) : laidTo l f (k + 1) false (ys ++ [x]) := by
  obtain ⟨h1, h2⟩ := h
  simp only [Bool.not_false, Bool.false_eq_true, if_false] at h1 h2
  exact ⟨by simp only [Bool.not_false]; exact all_take_succ h1 hx hp, by simp only [Bool.false_eq_true, if_false]; rw [h2, List.take_add_one, hx]; rfl⟩
theorem fins_mem {l : List Fx} {f g : Fx} (h : g ∈ fins l f) : g = f ∨ g ∈ l := by
  rw [fins, List.mem_append, List.mem_cons] at h
  rcases h with h | h | h
  · exact .inr (List.takeWhile_sublist _ |>.mem h)
  · exact .inl h
  · exact .inr (List.dropWhile_sublist _ |>.mem h)
/-- What Set answers: a table of the call's own, or none. -/
def SetPost (xs : List Fx) (f : Fx) (w : World) (e : Ending) (w' : World) : Prop := ∃ v, e = .returned (.tuple #[v, .bool (fset xs f).isSome]) ∧ Own Fx.cs 4 26 w' w.heap.size v ((fset xs f).getD []) ∧ Below w.heap.size w w'
theorem setPost_yes {xs : List Fx} {f : Fx} {w w' : World} {base : Nat} {v : Value} {ys : List Fx} (h : fset xs f = some ys) (ho : Own Fx.cs 4 26 w' base v ys) (hb : w.heap.size ≤ base) (hB : Below w.heap.size w w') : SetPost xs f w (.returned (.tuple #[v, .bool true])) w' :=
  ⟨v, by rw [h]; rfl, by rw [h]; exact ho.lower hb, hB⟩
theorem setPost_no {xs : List Fx} {f : Fx} {w w' : World} (h : fset xs f = none) (hB : Below w.heap.size w w') : SetPost xs f w (.returned (.tuple #[.slice none 0 0, .bool false])) w' :=
  ⟨_, by rw [h]; rfl, by rw [h]; exact Own.nil, hB⟩
theorem fset_yes {xs : List Fx} {f : Fx} (h1 : fmay xs = true) (h2 : fmay (fins xs f) = true) : fset xs f = some (fins xs f) := by rw [fset, h1, h2]; rfl
theorem fset_no1 {xs : List Fx} {f : Fx} (h1 : fmay xs = false) : fset xs f = none := by rw [fset, h1]; rfl
theorem fset_no2 {xs : List Fx} {f : Fx} (h2 : fmay (fins xs f) = false) : fset xs f = none := by rw [fset, h2, Bool.and_false]; rfl
set_option maxHeartbeats 4000000 in
set_option maxRecDepth 100000 in
theorem r12_set {A : Option Addr} {n c : Nat} {xs : List Fx} (a0 a2 a3 : ByteArray) (a1 : Int) (w : World) (hx : Rd Fx.cs 4 w A n xs) (hn : n ≤ 1000000) (hz : ∀ f ∈ xs, fxsz f) (hf : fxsz ⟨a0, a1, ⟨a2, a3⟩⟩) :
    Calls Tryz.prog 18 #[.slice A n c, .agg #[.string a0, .int .i64 a1, .string a2, .string a3]] w fun e w' => SetPost xs ⟨a0, a1, ⟨a2, a3⟩⟩ w e w' := by
  go_enter Tryz.func18, Tryz.ntmps18
  go_wp2
  go_loopw [6, 7, 8] (fun out ld i wr => ∃ (k : Nat) (laid : Bool) (ys : List Fx), k ≤ n ∧ i = .int .i64 k ∧ ld = .bool laid ∧ Hid (laidTo xs ⟨a0, a1, ⟨a2, a3⟩⟩ k laid ys) ∧ Own Fx.cs 4 26 wr (w.heap.size + 1) out ys ∧ Blk wr w.heap.size 26 #[.string a0, .int .i64 a1, .string a2, .string a3] ∧ Below w.heap.size w wr) (fun _ _ i _ => n - (intOf i).toNat)
  case atStart => exact ⟨0, false, [], Nat.zero_le _, rfl, rfl, ⟨by simp, by simp⟩, by have := Own.made0 (e := Fx.cs) (z := 4) (T := 26) (w := w.alloc (.cells #[.string a0, .int .i64 a1, .string a2, .string a3] 26)) (base := w.heap.size + 1) (by simp); simpa using this, (Blk.new _ _ _).alloc _, (by repeat (first | exact Below.refl _ _ | assumption | refine b_then ?_ (by assumption) | refine b_alloc ?_ _ | refine b_drewN ?_ _ | refine Below.drew ?_ | refine b_set ?_ (by first | exact Nat.le_refl _ | (simp; done) | (simp; omega) | omega) _))⟩
  case round =>
    obtain ⟨k, laid, ys, hk, rfl, rfl, H, hown, hblk, hB⟩ := hrel
    have hq0 := hblk.cell 0
    have hq1 := hblk.cell 1
    have hq2 := hblk.cell 2
    have hq3 := hblk.cell 3
    have HB := Lib.hid hblk
    clear hblk
    simp at hq0 hq1 hq2 hq3
    have hbl := HB.out.lt
    have hlen := laidTo_len H.out (by omega)
    by_cases hlt : k < n
    · obtain ⟨ad, b0, b1, b2, b3, rfl, hxk, hl⟩ := fx_in hx hB hlt
      have HX := Lib.hid hxk
      have HL := Lib.hid hl
      clear hxk hl
      cases laid with
      | true =>
        go_wp2_with fail
        (refine wp_region_after (by kernel_rfl) (by kernel_rfl) ?_; (repeat (first | go_big_quiet_skip | (go_big_quiet_want; go_big_quiet_op; first | go_big_quiet_on | (apply Exists.intro; refine ⟨fun _ => ?_, ?_⟩; (focus (fail)); go_big_quiet_on)))); refine wpQuiet_nil ?_; rintro w1 ⟨⟨_, hb1⟩, rfl⟩; (try dsimp only); obtain ⟨hc1, hf1⟩ := bcell hb1; have hs1 := hb1.size; (try simp at hs1))
        obtain ⟨hx0, hx1, hx2, hx3, hx4⟩ := HL.out w1 hb1
        have hown1 := hown.below hb1
        have hB1 := b_then hB hb1
        have hs0 := hB.size
        go_wp2_with (at_builtin; refine wpList_app (v := u6) Tryz.elemFix (by omega) Fx.cs_length Fx.cs_one rfl (.tmp 31) (.tmp 36) rfl rfl (hown1.alloc _) ⟨w1.heap.size, 0, none⟩ 1 ⟨b0, b1, ⟨b2, b3⟩⟩ rfl (new_cells _ _ _ _ rfl) (by first | omega | (simp; omega)) (by first | omega | (simp; omega)) (by first | omega | (simp; omega)) ?_; intro v2 w2 hown2 hg2 hat2)
        go_roundw
        case rel => exact ⟨k + 1, true, _, by omega, by go_num, rfl, laidTo_yes H.out HX.out, hown2, ((HB.out.below hb1).alloc _).grown hg2 (hown1.apart (by omega)), (hown1.alloc _).frame (b_alloc hB1 _) (by omega) hg2⟩
        case measure => simp [intOf]; omega
      | false =>
        have hy0 := fun y : After wr => (HL.out y.W y.h).c0
        have hy1 := fun y : After wr => (HL.out y.W y.h).c1
        have hy2 := fun y : After wr => (HL.out y.W y.h).c2
        have hy3 := fun y : After wr => (HL.out y.W y.h).c3
        have hs0 := hB.size
        by_cases c1 : fahead ⟨b0, b1, ⟨b2, b3⟩⟩ ⟨a0, a1, ⟨a2, a3⟩⟩ = true
        · go_wp2_with fail
          (refine wp_region_after (by kernel_rfl) (by kernel_rfl) ?_; (repeat (first | go_big_quiet_skip | (go_big_quiet_want; go_big_quiet_op; first | go_big_quiet_on | (apply Exists.intro; refine ⟨fun _ => ?_, ?_⟩; (focus ((go_at_call 59; with_reducible exact Calls.after_of (r12_ahead _ _ _ _ _ _ _ _ _) (congrArg Value.bool c1)))); go_big_quiet_on)))); refine wpQuiet_nil ?_; rintro w1 ⟨⟨_, hb1⟩, rfl⟩; (try dsimp only); obtain ⟨hc1, hf1⟩ := bcell hb1; have hs1 := hb1.size; (try simp at hs1))
          obtain ⟨hx0, hx1, hx2, hx3, hx4⟩ := HL.out w1 hb1
          have hown1 := hown.below hb1
          have hB1 := b_then hB hb1
          go_wp2_with (at_builtin; refine wpList_app (v := u6) Tryz.elemFix (by omega) Fx.cs_length Fx.cs_one rfl (.tmp 31) (.tmp 36) rfl rfl (hown1.alloc _) ⟨w1.heap.size, 0, none⟩ 1 ⟨b0, b1, ⟨b2, b3⟩⟩ rfl (new_cells _ _ _ _ rfl) (by first | omega | (simp; omega)) (by first | omega | (simp; omega)) (by first | omega | (simp; omega)) ?_; intro v2 w2 hown2 hg2 hat2)
          go_roundw
          case rel => exact ⟨k + 1, false, _, by omega, by go_num, rfl, laidTo_not H.out HX.out c1, hown2, ((HB.out.below hb1).alloc _).grown hg2 (hown1.apart (by omega)), (hown1.alloc _).frame (b_alloc hB1 _) (by omega) hg2⟩
          case measure => simp [intOf]; omega
        · simp only [Bool.not_eq_true] at c1
          go_wp2_with fail
          (refine wp_region_after (by kernel_rfl) (by kernel_rfl) ?_; (repeat (first | go_big_quiet_skip | (go_big_quiet_want; go_big_quiet_op; first | go_big_quiet_on | (apply Exists.intro; refine ⟨fun _ => ?_, ?_⟩; (focus ((go_at_call 59; with_reducible exact Calls.after_of (r12_ahead _ _ _ _ _ _ _ _ _) (congrArg Value.bool c1)))); go_big_quiet_on)))); refine wpQuiet_nil ?_; rintro w1 ⟨⟨_, hb1⟩, rfl⟩; (try dsimp only); obtain ⟨hc1, hf1⟩ := bcell hb1; have hs1 := hb1.size; (try simp at hs1))
          obtain ⟨hx0, hx1, hx2, hx3, hx4⟩ := HL.out w1 hb1
          have hown1 := hown.below hb1
          have hB1 := b_then hB hb1
          have HB1 := Lib.hid (HB.out.below hb1)
          obtain ⟨p0, p1, p2, p3⟩ : w1.cell? ⟨w.heap.size, 0, none⟩ = some (.string a0) ∧ w1.cell? ⟨w.heap.size, 1, none⟩ = some (.int .i64 a1) ∧ w1.cell? ⟨w.heap.size, 2, none⟩ = some (.string a2) ∧ w1.cell? ⟨w.heap.size, 3, none⟩ = some (.string a3) := ⟨HB1.out.cell 0, HB1.out.cell 1, HB1.out.cell 2, HB1.out.cell 3⟩
          go_upto_region 9 with (at_builtin; refine wpList_app (v := u6) Tryz.elemFix (by omega) Fx.cs_length Fx.cs_one rfl (.tmp 27) (.tmp 29) rfl rfl (hown1.alloc _) ⟨w1.heap.size, 0, none⟩ 1 ⟨a0, a1, ⟨a2, a3⟩⟩ rfl (new_cells _ _ _ _ rfl) (by first | omega | (simp; omega)) (by first | omega | (simp; omega)) (by first | omega | (simp; omega)) ?_; intro v2 w2 hown2 hg2 hat2)
          have hB2 := (hown1.alloc (.cells #[.string a0, .int .i64 a1, .string a2, .string a3] 26)).frame (b_alloc hB1 _) (by omega) hg2
          have HB2 := Lib.hid (((HB1.out).alloc _).grown hg2 (hown1.apart (by omega)))
          obtain ⟨hz0, hz1, hz2, hz3, hz4⟩ := fx_get hx hB2 hlt HX.out
          have hs2 := hB2.size
          clear hc1 hf1 hx0 hx1 hx2 hx3 hx4 p0 p1 p2 p3 hq0 hq1 hq2 hq3 hy0 hy1 hy2 hy3
          go_wp2_with (at_builtin; refine wpList_app (v := v2) Tryz.elemFix (by omega) Fx.cs_length Fx.cs_one rfl (.tmp 31) (.tmp 36) rfl rfl (hown2.alloc _) ⟨w2.heap.size, 0, none⟩ 1 ⟨b0, b1, ⟨b2, b3⟩⟩ rfl (new_cells _ _ _ _ rfl) (by first | omega | (simp; omega)) (by first | omega | (simp; omega)) (by first | omega | (simp; omega)) ?_; intro v3 w3 hown3 hg3 hat3)
          go_roundw
          case rel => exact ⟨k + 1, true, _, by omega, by go_num, rfl, laidTo_now H.out HX.out c1, hown3, ((HB2.out).alloc _).grown hg3 (hown2.apart (by omega)), (hown2.alloc _).frame (b_alloc hB2 _) (by omega) hg3⟩
          case measure => simp [intOf]; omega
    · obtain rfl : k = n := by omega
      have hzz : ∀ g ∈ fins xs ⟨a0, a1, ⟨a2, a3⟩⟩, fxsz g := fun g hg => by
        rcases fins_mem hg with rfl | h
        · exact hf
        · exact hz g h
      have htk : xs.take k = xs := by rw [← hx.len, List.take_length]
      have HT := Lib.hid htk
      clear htk
      cases laid with
      | true =>
        obtain rfl : ys = fins xs ⟨a0, a1, ⟨a2, a3⟩⟩ := by have := H.out.2; rw [HT.out] at this; exact this
        obtain ⟨A', c', rfl, hrd⟩ := hown.rd Fx.cs_length
        by_cases c1 : fmay xs = true
        · by_cases c2 : fmay (fins xs ⟨a0, a1, ⟨a2, a3⟩⟩) = true
          · have HP := Lib.hid (fset_yes c1 c2)
            go_wp2_with (first | (go_at_call 25; (with_reducible refine (r12_may _ (hx.below hB) hz).mono ?_); rintro e w8 ⟨rfl, hb8⟩; obtain ⟨hc8, hf8⟩ := bcell hb8; have hs8 := hb8.size; (try simp at hs8)) | (go_at_call 25; (with_reducible refine (r12_may _ (hrd.below hb8) hzz).mono ?_); rintro e w9 ⟨rfl, hb9⟩; obtain ⟨hc9, hf9⟩ := bcell hb9; have hs9 := hb9.size; (try simp at hs9)))
            go_ret2
            exact setPost_yes HP.out ((hown.below hb8).below hb9) (by omega) (b_then (b_then hB hb8) hb9)
          · simp only [Bool.not_eq_true] at c2
            have HP := Lib.hid (fset_no2 c2)
            go_wp2_with (first | (go_at_call 25; (with_reducible refine (r12_may _ (hx.below hB) hz).mono ?_); rintro e w8 ⟨rfl, hb8⟩; obtain ⟨hc8, hf8⟩ := bcell hb8; have hs8 := hb8.size; (try simp at hs8)) | (go_at_call 25; (with_reducible refine (r12_may _ (hrd.below hb8) hzz).mono ?_); rintro e w9 ⟨rfl, hb9⟩; obtain ⟨hc9, hf9⟩ := bcell hb9; have hs9 := hb9.size; (try simp at hs9)))
            go_ret2
            exact setPost_no HP.out (b_then (b_then hB hb8) hb9)
        · simp only [Bool.not_eq_true] at c1
          have HP := Lib.hid (fset_no1 (f := ⟨a0, a1, ⟨a2, a3⟩⟩) c1)
          go_wp2_with (go_at_call 25; (with_reducible refine (r12_may _ (hx.below hB) hz).mono ?_); rintro e w8 ⟨rfl, hb8⟩; obtain ⟨hc8, hf8⟩ := bcell hb8; have hs8 := hb8.size; (try simp at hs8))
          go_ret2
          exact setPost_no HP.out (b_then hB hb8)
      | false =>
        have hall : xs.all (fahead · ⟨a0, a1, ⟨a2, a3⟩⟩) = true := by have := H.out.1; rw [HT.out] at this; exact this
        obtain rfl : ys = xs := by have := H.out.2; rw [HT.out] at this; exact this
        have HA := Lib.hid (fins_all hall)
        clear hall
        have hs0 := hB.size
        have hlx : ys.length ≤ 1000000 := by rw [hx.len]; exact hn
        go_upto_region 12 with (at_builtin; refine wpList_app (v := u6) Tryz.elemFix (by omega) Fx.cs_length Fx.cs_one rfl (.tmp 40) (.tmp 42) rfl rfl (hown.alloc _) ⟨wr.heap.size, 0, none⟩ 1 ⟨a0, a1, ⟨a2, a3⟩⟩ rfl (new_cells _ _ _ _ rfl) (by first | omega | (simp; omega)) (by first | omega | (simp; omega)) (by first | omega | (simp; omega)) ?_; intro v2 w2 hown2 hg2 hat2)
        rw [← HA.out] at hown2
        have hB2 := (hown.alloc (.cells #[.string a0, .int .i64 a1, .string a2, .string a3] 26)).frame (b_alloc hB _) (by omega) hg2
        clear hg2 hat2 hq0 hq1 hq2 hq3
        obtain ⟨A', c', rfl, hrd⟩ := hown2.rd Fx.cs_length
        by_cases c1 : fmay ys = true
        · by_cases c2 : fmay (fins ys ⟨a0, a1, ⟨a2, a3⟩⟩) = true
          · have HP := Lib.hid (fset_yes c1 c2)
            go_wp2_with (first | (go_at_call 25; (with_reducible refine (r12_may _ (hx.below hB2) hz).mono ?_); rintro e w8 ⟨rfl, hb8⟩; obtain ⟨hc8, hf8⟩ := bcell hb8; have hs8 := hb8.size; (try simp at hs8)) | (go_at_call 25; (with_reducible refine (r12_may _ (hrd.below hb8) hzz).mono ?_); rintro e w9 ⟨rfl, hb9⟩; obtain ⟨hc9, hf9⟩ := bcell hb9; have hs9 := hb9.size; (try simp at hs9)))
            go_ret2
            exact setPost_yes HP.out ((hown2.below hb8).below hb9) (by omega) (b_then (b_then hB2 hb8) hb9)
          · simp only [Bool.not_eq_true] at c2
            have HP := Lib.hid (fset_no2 c2)
            go_wp2_with (first | (go_at_call 25; (with_reducible refine (r12_may _ (hx.below hB2) hz).mono ?_); rintro e w8 ⟨rfl, hb8⟩; obtain ⟨hc8, hf8⟩ := bcell hb8; have hs8 := hb8.size; (try simp at hs8)) | (go_at_call 25; (with_reducible refine (r12_may _ (hrd.below hb8) hzz).mono ?_); rintro e w9 ⟨rfl, hb9⟩; obtain ⟨hc9, hf9⟩ := bcell hb9; have hs9 := hb9.size; (try simp at hs9)))
            go_ret2
            exact setPost_no HP.out (b_then (b_then hB2 hb8) hb9)
        · simp only [Bool.not_eq_true] at c1
          have HP := Lib.hid (fset_no1 (f := ⟨a0, a1, ⟨a2, a3⟩⟩) c1)
          go_wp2_with (go_at_call 25; (with_reducible refine (r12_may _ (hx.below hB2) hz).mono ?_); rintro e w8 ⟨rfl, hb8⟩; obtain ⟨hc8, hf8⟩ := bcell hb8; have hs8 := hb8.size; (try simp at hs8))
          go_ret2
          exact setPost_no HP.out (b_then hB2 hb8)
end Go.Proofs.YtpoejheienohjaaGreatDoor
