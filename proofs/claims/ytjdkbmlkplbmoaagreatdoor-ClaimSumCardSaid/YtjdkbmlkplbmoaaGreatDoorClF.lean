/- Claims: the fixed calls. -/
import Derived.Test.YtjdkbmlkplbmoaaGreatDoorClE
import Derived.Test.YtjdkbmlkplbmoaaGreatDoorInT
namespace Go.Proofs.YtjdkbmlkplbmoaaGreatDoor
open Go.RowKit
set_option linter.unusedVariables false
set_option linter.unusedSimpArgs false

abbrev sIss20 : ByteArray := ⟨#[33, 105, 115, 115, 117, 101, 114]⟩
abbrev zBob : ByteArray := ⟨#[98, 111, 98]⟩
abbrev zAnn : ByteArray := ⟨#[97, 110, 110]⟩
abbrev zX : ByteArray := ⟨#[120]⟩
abbrev sY20 : ByteArray := ⟨#[121]⟩
abbrev oSold : In := ⟨1, 2, 9, zBob, zAnn, zX, ⟨iS 4, nS 1⟩, ⟨iS 0, nS 1⟩⟩
abbrev b20 : List Ln := [⟨sIss20, zX, ⟨iS (-10), nS 1⟩⟩, ⟨zBob, zX, ⟨iS 10, nS 1⟩⟩]
abbrev w20 : List Ln := [⟨zAnn, zX, ⟨iS 4, nS 1⟩⟩, ⟨zBob, zX, ⟨iS 6, nS 1⟩⟩]
theorem f20_e1 : ceff b20 [oSold] zX 3 = w20 := by decide +kernel
theorem f20_e2 : (ceff b20 [oSold] zX 2).length = 1 := by decide +kernel
theorem f20_p1 : ipend [oSold] zBob zX 3 = ⟨iS (-4), nS 1⟩ := by decide +kernel
theorem f20_p2 : ipend [oSold] zBob zX 2 = ⟨iS 0, nS 1⟩ := by decide +kernel
theorem f20_p3 : ipend [oSold] zBob sY20 3 = ⟨iS 0, nS 1⟩ := by decide +kernel
theorem f20_zb : ∀ f ∈ b20, lnB 1000 f := fun f hf => by
  simp only [List.mem_cons, List.not_mem_nil, or_false] at hf
  rcases hf with h | h <;> subst h <;> exact ⟨by decide +kernel, by decide +kernel, by decide +kernel, by decide +kernel⟩
theorem f20_zi : ∀ f ∈ [oSold], inB 1000 f := fun f hf => by
  simp only [List.mem_cons, List.not_mem_nil, or_false] at hf
  subst hf
  exact ⟨by decide +kernel, by decide +kernel, by decide +kernel, by decide +kernel, by decide +kernel, by decide +kernel, by decide +kernel⟩
abbrev Fixed20Ok : Prop := ∀ w : World, Glob w → Calls Tryz.prog 35 #[] w fun e w' => e = .returned (.bool true) ∧ Below w.heap.size w w'
set_option maxHeartbeats 400000 in
theorem l20_sold (w : World) : Calls Tryz.prog 63 #[] w fun e w' => ∃ A, e = .returned (.slice A 1 1) ∧ Rd In.cs 10 w' A 1 [oSold] ∧ Below w.heap.size w w' := by
  have hO := fun z W h0 h1 => r3_of z W h0 h1
  simp only [enc_of, RT.v] at hO
  go_enter Tryz.func63, Tryz.ntmps63
  go_wp2_with (first
    | (go_at_call 32; (with_reducible refine (hO 0 w1 (by omega) (by omega)).mono ?_); rintro e w2 ⟨rfl, hb2⟩; obtain ⟨hc2, hf2⟩ := bcell hb2; have hs2 := hb2.size; (try simp at hs2))
    | (go_at_call 32; (with_reducible refine (hO 4 w (by omega) (by omega)).mono ?_); rintro e w1 ⟨rfl, hb1⟩; obtain ⟨hc1, hf1⟩ := bcell hb1; have hs1 := hb1.size; (try simp at hs1)))
  go_ret
  exact ⟨_, rfl, Rd.of_newAt In.cs_length w2 37 [oSold] (by simp) rfl rfl rfl, b_alloc (b_then hb1 hb2) _⟩
set_option maxRecDepth 100000 in
set_option maxHeartbeats 4000000 in
theorem p_fixed20 : Fixed20Ok := by
  intro w hg
  have hO := fun z W h0 h1 => r3_of z W h0 h1
  simp only [enc_of, RT.v] at hO
  have kS := fun W => l20_sold W
  have kE : ∀ {A A2 : Option Addr} {c : Nat} {ys : List Ln} {m : Nat} (ex : Int) W, Below w.heap.size w W → Rd Ln.cs 4 W A 2 b20 → Rd In.cs 10 W A2 1 [oSold] → ceff b20 [oSold] zX ex = ys → ys.length = m → Calls Tryz.prog 36 #[.slice A 2 c, .slice A2 1 1, .string zX, .int .i64 ex] W fun e w' => ∃ B k, e = .returned (.slice B m k) ∧ Rd Ln.cs 4 w' B m ys ∧ Below W.heap.size W w' :=
    fun ex W hW hx hy hp hm => (p_eff zX ex W (hg.below hW) hx (by omega) f20_zb hy (by omega) f20_zi).mono fun e w' h => by rw [hp] at h; exact h.is_ hm
  have kP : ∀ {A2 : Option Addr} {t u : ByteArray} (a s : ByteArray) (ex : Int) W, Below w.heap.size w W → Rd In.cs 10 W A2 1 [oSold] → ipend [oSold] a s ex = ⟨t, u⟩ → Calls Tryz.prog 38 #[.slice A2 1 1, .string a, .string s, .int .i64 ex] W fun e w' => e = .returned (.agg #[.string t, .string u]) ∧ Below W.heap.size W w' :=
    fun a s ex W hW hy hp => by
      have := p_pend (c := 1) a s ex W (hg.below hW) hy (by omega) f20_zi
      rw [hp] at this
      exact this
  have kM : ∀ {A B : Option Addr} {c d : Nat} W, Rd Ln.cs 4 W A 2 w20 → Rd Ln.cs 4 W B 2 w20 → Calls Tryz.prog 17 #[.slice A 2 c, .slice B 2 d] W fun e w' => e = .returned (.bool true) ∧ Below W.heap.size W w' := fun W h h' => (r6_same W h h').mono fun e w' he => ⟨by rw [he.1]; simp, he.2⟩
  have heq := eqRat
  go_enter Tryz.func35, Tryz.ntmps35
  go_wp2_with (first
    | (go_at_call 32; (with_reducible refine (hO 0 w17 (by omega) (by omega)).mono ?_); rintro e w18 ⟨rfl, hb18⟩; obtain ⟨hc18, hf18⟩ := bcell hb18; have hs18 := hb18.size; (try simp at hs18))
    | (go_at_call 38; (with_reducible refine (kP zBob sY20 3 w16 hB16 R16 f20_p3).mono ?_); rintro e w17 ⟨rfl, hb17⟩)
    | (go_at_call 63; (with_reducible refine (kS w15).mono ?_); rintro e w16 ⟨A16, rfl, R16, hb16⟩; have hB16 := b_then (b_then hB14 hb15) hb16)
    | (go_at_call 32; (with_reducible refine (hO 0 w14 (by omega) (by omega)).mono ?_); rintro e w15 ⟨rfl, hb15⟩; obtain ⟨hc15, hf15⟩ := bcell hb15; have hs15 := hb15.size; (try simp at hs15))
    | (go_at_call 38; (with_reducible refine (kP zBob zX 2 w13 hB13 R13 f20_p2).mono ?_); rintro e w14 ⟨rfl, hb14⟩; have hB14 := b_then hB13 hb14)
    | (go_at_call 63; (with_reducible refine (kS w12).mono ?_); rintro e w13 ⟨A13, rfl, R13, hb13⟩; have hB13 := b_then (b_then hB11 hb12) hb13)
    | (go_at_call 32; (with_reducible refine (hO (-4) w11 (by omega) (by omega)).mono ?_); rintro e w12 ⟨rfl, hb12⟩; obtain ⟨hc12, hf12⟩ := bcell hb12; have hs12 := hb12.size; (try simp at hs12))
    | (go_at_call 38; (with_reducible refine (kP zBob zX 3 w10 hB10 R10 f20_p1).mono ?_); rintro e w11 ⟨rfl, hb11⟩; have hB11 := b_then hB10 hb11)
    | (go_at_call 63; (with_reducible refine (kS w9).mono ?_); rintro e w10 ⟨A10, rfl, R10, hb10⟩; have hB10 := b_then hB9 hb10)
    | (go_at_call 17; (with_reducible refine (kM _ Q4 V8).mono ?_); rintro e w9 ⟨rfl, hb9⟩; have hB9 := b_then hB8 hb9)
    | ((go_at_call 32; (with_reducible refine (hO 6 w7 (by omega) (by omega)).mono ?_); rintro e w8 ⟨rfl, hb8⟩; obtain ⟨hc8, hf8⟩ := bcell hb8; have hs8 := hb8.size; (try simp at hs8)); have V8 : Rd Ln.cs 4 (w8.alloc (.cells #[.string zAnn, .string zX, .string (iS 4), .string (nS 1), .string zBob, .string zX, .string (iS 6), .string (nS 1)] 46)) (some ⟨w8.heap.size, 0, none⟩) 2 w20 := Rd.of_newAt Ln.cs_length w8 46 w20 (by simp) rfl rfl rfl; have Q4 := (((((R4.below hb5).below hb6).below hb7).below hb8).below (b_alloc (Below.refl w8.heap.size w8) (.cells #[.string zAnn, .string zX, .string (iS 4), .string (nS 1), .string zBob, .string zX, .string (iS 6), .string (nS 1)] 46))); have hB8 := b_alloc (b_then (b_then hB6 hb7) hb8) (.cells #[.string zAnn, .string zX, .string (iS 4), .string (nS 1), .string zBob, .string zX, .string (iS 6), .string (nS 1)] 46))
    | (go_at_call 32; (with_reducible refine (hO 4 w6 (by omega) (by omega)).mono ?_); rintro e w7 ⟨rfl, hb7⟩; obtain ⟨hc7, hf7⟩ := bcell hb7; have hs7 := hb7.size; (try simp at hs7))
    | (go_at_call 36; (with_reducible refine (kE 2 w5 hB5 (R1.below (b_then (b_then hb3 hb4) hb5)) R5 rfl f20_e2).mono ?_); rintro e w6 ⟨B6, k6, rfl, R6, hb6⟩; have hB6 := b_then hB5 hb6)
    | (go_at_call 63; (with_reducible refine (kS w4).mono ?_); rintro e w5 ⟨A5, rfl, R5, hb5⟩; have hB5 := b_then hB4 hb5)
    | (go_at_call 36; (with_reducible refine (kE 3 w3 hB3 (R1.below hb3) R3 f20_e1 (m := 2) rfl).mono ?_); rintro e w4 ⟨B4, k4, rfl, R4, hb4⟩; have hB4 := b_then hB3 hb4)
    | (go_at_call 63; (with_reducible refine (kS _).mono ?_); rintro e w3 ⟨A3, rfl, R3, hb3⟩; have hB3 := b_then hB2 hb3)
    | ((go_at_call 32; (with_reducible refine (hO 10 w1 (by omega) (by omega)).mono ?_); rintro e w2 ⟨rfl, hb2⟩; obtain ⟨hc2, hf2⟩ := bcell hb2; have hs2 := hb2.size; (try simp at hs2)); have R1 : Rd Ln.cs 4 (w2.alloc (.cells #[.string sIss20, .string zX, .string (iS (-10)), .string (nS 1), .string zBob, .string zX, .string (iS 10), .string (nS 1)] 46)) (some ⟨w2.heap.size, 0, none⟩) 2 b20 := Rd.of_newAt Ln.cs_length w2 46 b20 (by simp) rfl rfl rfl; have hB2 := b_alloc (b_then hb1 hb2) (.cells #[.string sIss20, .string zX, .string (iS (-10)), .string (nS 1), .string zBob, .string zX, .string (iS 10), .string (nS 1)] 46))
    | (go_at_call 32; (with_reducible refine (hO (-10) w (by omega) (by omega)).mono ?_); rintro e w1 ⟨rfl, hb1⟩; obtain ⟨hc1, hf1⟩ := bcell hb1; have hs1 := hb1.size; (try simp at hs1)))
  go_ret
  exact ⟨ret_bool (by simp), b_then (b_then hB16 hb17) hb18⟩
end Go.Proofs.YtjdkbmlkplbmoaaGreatDoor
