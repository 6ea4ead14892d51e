/- The fixed calls of instructions. -/
import Derived.Test.YtjdkbmlkplbmoaaGreatDoorInH
import Derived.Test.YtjdkbmlkplbmoaaGreatDoorInG
import Derived.Test.YtjdkbmlkplbmoaaGreatDoorInE
import Derived.Test.YtjdkbmlkplbmoaaGreatDoorInC
namespace Go.Proofs.YtjdkbmlkplbmoaaGreatDoor
open Go.RowKit
set_option linter.unusedVariables false
set_option linter.unusedSimpArgs false

theorem RunIs.of {p : (List Ln × List In × List Int) × Int} {w w' : World} {e : Ending} {ys : List Ln} {rs : List In} {ds : List Int} {z : Int} {m r d : Nat} (h : RunIs p w e w') (hp : p = ((ys, rs, ds), z)) (hm : ys.length = m) (hr : rs.length = r) (hd : ds.length = d) :
    ∃ B c R c2 D c3, e = .returned (.tuple #[.slice B m c, .slice R r c2, .slice D d c3, .int .i64 z]) ∧ Rd Ln.cs 4 w' B m ys ∧ Rd In.cs 10 w' R r rs ∧ Rd iCs 1 w' D d ds ∧ Below w.heap.size w w' := by
  obtain ⟨B, m', c, R, r', c2, D, d', c3, he, h1, h2, h3, hb⟩ := h
  subst hp
  dsimp only at he h1 h2 h3
  have e1 := h1.len
  have e2 := h2.len
  have e3 := h3.len
  obtain rfl : m' = m := by omega
  obtain rfl : r' = r := by omega
  obtain rfl : d' = d := by omega
  exact ⟨B, c, R, c2, D, c3, he, h1, h2, h3, hb⟩
theorem Rd.of_newAt {α : Type} {e : α → List Value} {z : Nat} (he : ∀ x, (e x).length = z) (w : World) (T : TypeId) (xs : List α) (hb : xs.length ≤ 9223372036854775807) {arr : Array Value} (ha : arr = (xs.flatMap e).toArray) {g n : Nat} (hg : g = w.heap.size) (hn : xs.length = n) : Rd e z (w.alloc (.cells arr T)) (some ⟨g, 0, none⟩) n xs := by
  subst hg; subst hn
  exact Rd.of_new he w T xs hb ha
abbrev o8a : In := oweI 1 3 0
abbrev o8b : In := oweI 2 1 0
abbrev o8c : In := oweI 4 1 5
abbrev o8d : In := oweI 7 1 0
abbrev o8e : In := ⟨7, 0, 3, sBob, sAnn, sX, ⟨iS 1, nS 1⟩, ⟨iS 0, nS 1⟩⟩
abbrev b8 : List Ln := [⟨sBob, sX, ⟨iS 2, nS 1⟩⟩]
abbrev b8c : List Ln := [⟨sAnn, sX, ⟨iS 1, nS 1⟩⟩, ⟨sBob, sX, ⟨iS 1, nS 1⟩⟩]
theorem f8_r1 : iRun b8 [o8a, o8b, o8c] 0 = ((b8c, [o8a, o8c], [2]), 0) := by decide +kernel
theorem f8_r2 : iRun b8 [o8e] 2 = ((b8, [o8e], []), 0) := by decide +kernel
theorem f8_l : (ilines (oweI 1 3 5)).length = 4 := by decide +kernel
theorem f8_m1 : imay [o8a, o8c] = true := by decide +kernel
theorem f8_m2 : imay [oweI 0 1 0] = false := by decide +kernel
theorem f8_f1 : ifind [o8a, o8c] 4 = 1 := by decide +kernel
theorem f8_f2 : ifind [o8a, o8c] 2 = -1 := by decide +kernel
theorem f8_z1 : ∀ f ∈ b8, lnB 200 f := fun f hf => by
  simp only [List.mem_cons, List.not_mem_nil, or_false] at hf
  subst hf
  exact ⟨by decide +kernel, by decide +kernel, by decide +kernel, by decide +kernel⟩
theorem f8_zi : ∀ f ∈ [o8a, o8b, o8c, o8d, o8e, oweI 0 1 0, oweI 1 3 5], inB 199 f := fun f hf => by
  simp only [List.mem_cons, List.not_mem_nil, or_false] at hf
  rcases hf with h | h | h | h | h | h | h <;> subst h <;> exact ⟨by decide +kernel, by decide +kernel, by decide +kernel, by decide +kernel, by decide +kernel, by decide +kernel, by decide +kernel⟩
abbrev Fixed8Ok : Prop := ∀ w : World, Glob w → Calls Tryz.prog 14 #[] w fun e w' => e = .returned (.bool true) ∧ Below w.heap.size w w'
theorem f8_zr : ∀ f ∈ [o8a, o8c], inB 199 f := fun f hf => f8_zi f (by simp at hf ⊢; rcases hf with h | h <;> simp [h])
set_option maxRecDepth 100000 in
set_option maxHeartbeats 400000 in
theorem p_fixed8 : Fixed8Ok := by
  intro w hg
  have hB0 := Below.refl w.heap.size w
  have hO := fun W => r3_of 2 W (by omega) (by omega)
  simp only [enc_of, RT.v] at hO
  have hw := fun (id n pay : Int) W (h0 : -9223372036854775808 ≤ n) (h1 : n ≤ 9223372036854775807) (h2 : -9223372036854775808 ≤ pay) (h3 : pay ≤ 9223372036854775807) => l8_owes id n pay W h0 h1 h2 h3
  have h1 := fun W => hw 1 3 0 W (by omega) (by omega) (by omega) (by omega)
  have h2 := fun W => hw 2 1 0 W (by omega) (by omega) (by omega) (by omega)
  have h3 := fun W => hw 4 1 5 W (by omega) (by omega) (by omega) (by omega)
  have h4 := fun W => hw 7 1 0 W (by omega) (by omega) (by omega) (by omega)
  have h5 := fun W => hw 1 3 5 W (by omega) (by omega) (by omega) (by omega)
  have h6 := fun W => hw 0 1 0 W (by omega) (by omega) (by omega) (by omega)
  clear hw
  simp only [oweI, In.v] at h1 h2 h3 h4 h5 h6
  have kR : ∀ {xs ys : List Ln} {ls rs : List In} {ds : List Int} {z : Int} {m r d : Nat} {A A2 : Option Addr} {n c n2 c2 : Nat} (day : Int) W, Below w.heap.size w W → Rd Ln.cs 4 W A n xs → Rd In.cs 10 W A2 n2 ls → iRun xs ls day = ((ys, rs, ds), z) → ys.length = m → rs.length = r → ds.length = d → (∀ f ∈ xs, lnB 200 f) → (∀ f ∈ ls, inB 199 f) → n ≤ 100 → n2 ≤ 100 → Calls Tryz.prog 15 #[.slice A n c, .slice A2 n2 c2, .int .i64 day] W fun e w' => ∃ B c R c2 D c3, e = .returned (.tuple #[.slice B m c, .slice R r c2, .slice D d c3, .int .i64 z]) ∧ Rd Ln.cs 4 w' B m ys ∧ Rd In.cs 10 w' R r rs ∧ Rd iCs 1 w' D d ds ∧ Below W.heap.size W w' :=
    fun day W hW hx hy hp hm hr hd hz hzl hn hn2 => (p_run day W (hg.below hW) hx (by omega) (fun f hf => lnB_mono (hz f hf) (by omega)) hy hn2 hzl).mono fun e w' h => h.of hp hm hr hd
  have hL9 : ∀ W, Below w.heap.size w W → Calls Tryz.prog 18 #[.agg #[.int .i64 1, .int .i64 0, .int .i64 0, .string sBob, .string sAnn, .string sX, .string (iS 3), .string (nS 1), .string (iS 5), .string (nS 1)]] W fun e w' => ∃ B k, e = .returned (.slice B 4 k) ∧ Below W.heap.size W w' := fun W hW => by
    have hz := f8_zi (oweI 1 3 5) (by simp)
    refine (p_lines 1 0 0 sBob sAnn sX (iS 3) (nS 1) (iS 5) (nS 1) W (hg.below hW) hz.1 hz.2.1 hz.2.2.1 (Nat.le_trans hz.2.2.2.1 (by omega)) (Nat.le_trans hz.2.2.2.2.1 (by omega)) (Nat.le_trans hz.2.2.2.2.2.1 (by omega)) (Nat.le_trans hz.2.2.2.2.2.2 (by omega))).mono ?_
    rintro e w' ⟨B, m, k, rfl, hr, hb⟩
    have := hr.len
    obtain rfl : m = 4 := by rw [← f8_l]; exact this.symm
    exact ⟨B, k, rfl, hb⟩
  have hM1 : ∀ {A : Option Addr} {c : Nat} W, Below w.heap.size w W → Rd In.cs 10 W A 2 [o8a, o8c] → Calls Tryz.prog 20 #[.slice A 2 c] W fun e w' => e = .returned (.bool true) ∧ Below W.heap.size W w' := fun {A c} W hW hr => by
    have := p_imay (c := c) W (hg.below hW) hr (by omega) (fun x hx => inB_mono (f8_zr x hx) (by omega))
    rw [f8_m1] at this
    exact this
  have hM2 : ∀ {A : Option Addr} {c : Nat} W, Below w.heap.size w W → Rd In.cs 10 W A 1 [oweI 0 1 0] → Calls Tryz.prog 20 #[.slice A 1 c] W fun e w' => e = .returned (.bool false) ∧ Below W.heap.size W w' := fun {A c} W hW hr => by
    have := p_imay (c := c) W (hg.below hW) hr (by omega) (fun x hx => inB_mono (f8_zi x (by simp at hx ⊢; simp [hx])) (by omega))
    rw [f8_m2] at this
    exact this
  have hI8 : ∀ {A B : Option Addr} {c d : Nat} W, Rd iCs 1 W A 1 [2] → Rd iCs 1 W B 1 [2] → Calls Tryz.prog 23 #[.slice A 1 c, .slice B 1 d] W fun e w' => e = .returned (.bool true) ∧ Below W.heap.size W w' := fun {A B c d} W h h' => by
    have := r8_ints (c := c) (d := d) W h h'
    rw [decide_eq_true rfl] at this
    exact this
  have hF1 : ∀ {A : Option Addr} {c : Nat} W, Rd In.cs 10 W A 2 [o8a, o8c] → Calls Tryz.prog 24 #[.slice A 2 c, .int .i64 4] W fun e w' => e = .returned (.int .i64 1) ∧ Below W.heap.size W w' := fun {A c} W hr => by
    have := p_ifind (c := c) 4 W hr
    rw [f8_f1] at this
    exact this
  have hF2 : ∀ {A : Option Addr} {c : Nat} W, Rd In.cs 10 W A 2 [o8a, o8c] → Calls Tryz.prog 24 #[.slice A 2 c, .int .i64 2] W fun e w' => e = .returned (.int .i64 (-1)) ∧ Below W.heap.size W w' := fun {A c} W hr => by
    have := p_ifind (c := c) 2 W hr
    rw [f8_f2] at this
    exact this
  have hM2' : ∀ W : World, Rd In.cs 10 (W.alloc (.cells #[.int .i64 0, .int .i64 0, .int .i64 0, .string sBob, .string sAnn, .string sX, .string (iS 1), .string (nS 1), .string (iS 0), .string (nS 1)] 37)) (some ⟨W.heap.size, 0, none⟩) 1 [oweI 0 1 0] := fun W => Rd.of_newAt In.cs_length W 37 [oweI 0 1 0] (by simp) rfl rfl rfl
  go_enter Tryz.func14, Tryz.ntmps14
  go_wp2_with (first
    | (go_at_call 32; (with_reducible refine (hO _).mono ?_); rintro e w1 ⟨rfl, hb1⟩; obtain ⟨hc1, hf1⟩ := bcell hb1; have hs1 := hb1.size; (try simp at hs1))
    | (go_at_call 41; (with_reducible refine (h1 _).mono ?_); rintro e w2 ⟨rfl, hb2⟩; obtain ⟨hc2, hf2⟩ := bcell hb2; have hs2 := hb2.size; (try simp at hs2))
    | (go_at_call 41; (with_reducible refine (h2 _).mono ?_); rintro e w3 ⟨rfl, hb3⟩; obtain ⟨hc3, hf3⟩ := bcell hb3; have hs3 := hb3.size; (try simp at hs3))
    | (go_at_call 41; (with_reducible refine (h3 _).mono ?_); rintro e w4 ⟨rfl, hb4⟩; obtain ⟨hc4, hf4⟩ := bcell hb4; have hs4 := hb4.size; (try simp at hs4)))
  have hA := b_then hB0 hb1
  have R1 : Rd Ln.cs 4 (w1.alloc (.cells #[.string ⟨#[98, 111, 98]⟩, .string ⟨#[120]⟩, .string (iS 2), .string (nS 1)] 46)) (some ⟨w1.heap.size, 0, none⟩) 1 b8 := Rd.of_new Ln.cs_length w1 46 b8 (by simp) rfl
  have hA4 := b_then (b_then (b_then (b_alloc hA _) hb2) hb3) hb4
  have R4 := ((R1.below hb2).below hb3).below hb4
  have S4 : Rd In.cs 10 (w4.alloc (.cells #[.int .i64 1, .int .i64 0, .int .i64 0, .string sBob, .string sAnn, .string sX, .string (iS 3), .string (nS 1), .string (iS 0), .string (nS 1), .int .i64 2, .int .i64 0, .int .i64 0, .string sBob, .string sAnn, .string sX, .string (iS 1), .string (nS 1), .string (iS 0), .string (nS 1), .int .i64 4, .int .i64 0, .int .i64 0, .string sBob, .string sAnn, .string sX, .string (iS 1), .string (nS 1), .string (iS 5), .string (nS 1)] 37)) (some ⟨w4.heap.size, 0, none⟩) 3 [o8a, o8b, o8c] := Rd.of_new In.cs_length w4 37 [o8a, o8b, o8c] (by simp) rfl
  have hA5 := b_alloc hA4 (.cells #[.int .i64 1, .int .i64 0, .int .i64 0, .string sBob, .string sAnn, .string sX, .string (iS 3), .string (nS 1), .string (iS 0), .string (nS 1), .int .i64 2, .int .i64 0, .int .i64 0, .string sBob, .string sAnn, .string sX, .string (iS 1), .string (nS 1), .string (iS 0), .string (nS 1), .int .i64 4, .int .i64 0, .int .i64 0, .string sBob, .string sAnn, .string sX, .string (iS 1), .string (nS 1), .string (iS 5), .string (nS 1)] 37)
  have hR5 := kR (c := 1) (c2 := 3) 0 _ hA5 (R4.below (b_alloc (Below.refl _ _) _)) S4 f8_r1 rfl rfl rfl f8_z1 (fun f hf => f8_zi f (by simp at hf ⊢; rcases hf with h | h | h <;> simp [h])) (by simp) (by simp)
  have hR7 : ∀ w5 w6, Below w.heap.size w w5 → Below (w4.alloc (.cells #[.int .i64 1, .int .i64 0, .int .i64 0, .string sBob, .string sAnn, .string sX, .string (iS 3), .string (nS 1), .string (iS 0), .string (nS 1), .int .i64 2, .int .i64 0, .int .i64 0, .string sBob, .string sAnn, .string sX, .string (iS 1), .string (nS 1), .string (iS 0), .string (nS 1), .int .i64 4, .int .i64 0, .int .i64 0, .string sBob, .string sAnn, .string sX, .string (iS 1), .string (nS 1), .string (iS 5), .string (nS 1)] 37)).heap.size (w4.alloc (.cells #[.int .i64 1, .int .i64 0, .int .i64 0, .string sBob, .string sAnn, .string sX, .string (iS 3), .string (nS 1), .string (iS 0), .string (nS 1), .int .i64 2, .int .i64 0, .int .i64 0, .string sBob, .string sAnn, .string sX, .string (iS 1), .string (nS 1), .string (iS 0), .string (nS 1), .int .i64 4, .int .i64 0, .int .i64 0, .string sBob, .string sAnn, .string sX, .string (iS 1), .string (nS 1), .string (iS 5), .string (nS 1)] 37)) w6 → Below w5.heap.size w5 w6 → ∀ W, Below w6.heap.size w6 W → Rd In.cs 10 W (some ⟨w6.heap.size + 1, 0, none⟩) 1 [o8e] → Calls Tryz.prog 15 #[.slice (some ⟨w1.heap.size, 0, none⟩) 1 1, .slice (some ⟨w6.heap.size + 1, 0, none⟩) 1 1, .int .i64 2] W fun e w' => ∃ B c R c2 D c3, e = .returned (.tuple #[.slice B 1 c, .slice R 1 c2, .slice D 0 c3, .int .i64 0]) ∧ Rd Ln.cs 4 w' B 1 b8 ∧ Rd In.cs 10 w' R 1 [o8e] ∧ Rd iCs 1 w' D 0 [] ∧ Below w6.heap.size w6 w' := fun w5 w6 k5 k46 k56 W hW hl =>
    (kR (c := 1) (c2 := 1) 2 W (b_then (b_then k5 k56) hW) (((R4.below (b_alloc (Below.refl _ _) _)).below k46).below hW) hl f8_r2 rfl rfl rfl f8_z1 (fun f hf => f8_zi f (by simp at hf ⊢; simp [hf])) (by omega) (by omega)).mono fun e w' ⟨B, c, R, c2, D, c3, he, q1, q2, q3, hb⟩ => ⟨B, c, R, c2, D, c3, he, q1, q2, q3, b_then hW hb⟩
  clear hb1 hc1 hf1 hs1 hb2 hc2 hf2 hs2 hb3 hc3 hf3 hs3 hb4 hc4 hf4 hs4
  go_wp2_with (first
    | (go_at_call 15; (with_reducible refine hR5.mono ?_); rintro e w5 ⟨B5, c5, D5, d5, E5, e5, rfl, Q5, T5, U5, hb5⟩; have hB5 := b_then hA5 hb5)
    | (go_at_call 41; (with_reducible refine (h4 _).mono ?_); rintro e w6 ⟨rfl, hb6⟩; obtain ⟨hc6, hf6⟩ := bcell hb6; have hs6 := hb6.size; (try simp at hs6))
    | (go_at_call 15; (with_reducible refine Calls.mono (hR7 w5 w6 (b_then hA5 hb5) (b_then hb5 hb6) hb6 _ ?bq7 ?rq7) ?_); rotate_right; (rintro e w7 ⟨B7, c7, D7, d7, E7, e7, rfl, Q7, T7, U7, hb7⟩); have hB7 := b_then (b_then hB5 hb6) hb7; have b57 := b_then hb6 hb7; have T57 : Rd In.cs 10 w7 D5 2 [o8a, o8c] := T5.below b57; have U57 : Rd iCs 1 (w7.alloc (.cells #[.int .i64 2] 3)) E5 1 [2] := (U5.below b57).below (b_alloc (Below.refl w7.heap.size w7) (.cells #[.int .i64 2] 3)); have U7' : Rd iCs 1 (w7.alloc (.cells #[.int .i64 2] 3)) (some ⟨w7.heap.size, 0, none⟩) 1 [2] := Rd.of_newAt iCs_length w7 3 [2] (by simp) rfl rfl rfl)
    | (go_at_call 23; (with_reducible refine Calls.mono (hI8 _ U57 U7') ?_); rintro e w8 ⟨rfl, hb8⟩; have b78 := b_then (b_alloc (Below.refl w7.heap.size w7) _) hb8; have T8 := T57.below b78)
    | (go_at_call 41; (with_reducible refine (h5 _).mono ?_); rintro e w9 ⟨rfl, hb9⟩; obtain ⟨hc9, hf9⟩ := bcell hb9; have hs9 := hb9.size; (try simp at hs9))
    | (go_at_call 18; (with_reducible refine Calls.mono (hL9 _ (b_then hB7 (b_then b78 hb9))) ?_); rintro e w10 ⟨B10, k10, rfl, hb10⟩; have T10 := (T8.below hb9).below hb10; have hB10 := b_then (b_then hB7 (b_then b78 hb9)) hb10)
    | (go_at_call 20; (with_reducible refine Calls.mono (hM1 w10 hB10 T10) ?_); rintro e w11 ⟨rfl, hb11⟩)
    | ((go_at_call 41; (with_reducible refine (h6 _).mono ?_); rintro e w12 ⟨rfl, hb12⟩; obtain ⟨hc12, hf12⟩ := bcell hb12; have hs12 := hb12.size; (try simp at hs12)); have V12 := hM2' w12)
    | (go_at_call 20; (with_reducible refine Calls.mono (hM2 _ (b_alloc (b_then (b_then hB10 hb11) hb12) _) V12) ?_); rintro e w13 ⟨rfl, hb13⟩; have b1 := b_then (b_then hb11 hb12) (b_then (b_alloc (Below.refl w12.heap.size w12) _) hb13); have T13 := T10.below b1)
    | (go_at_call 24; (with_reducible refine Calls.mono (hF2 w14 (T13.below hb14)) ?_); rintro e w15 ⟨rfl, hb15⟩)
    | (go_at_call 24; (with_reducible refine Calls.mono (hF1 w13 T13) ?_); rintro e w14 ⟨rfl, hb14⟩))
  case bq7 => exact b_alloc (b_alloc (Below.refl _ _) _) _
  case rq7 => exact Rd.of_newAt In.cs_length _ 37 [o8e] (by simp) rfl (by simp) rfl
  go_ret
  exact ⟨rfl, b_then (b_then hB10 b1) (b_then hb14 hb15)⟩
end Go.Proofs.YtjdkbmlkplbmoaaGreatDoor
