/- Walk of the fixed calls of the book's laws. -/
import Derived.Test.YtpoejheienohjaaGreatDoorBkJ
namespace Go.Proofs.YtpoejheienohjaaGreatDoor
open Go.RowKit
set_option linter.unusedVariables false
set_option linter.unusedSimpArgs false

theorem AddPost.rd {xs ys : List Ln} {l : Ln} {w w' : World} {e : Ending} (h : AddPost xs l w e w') (hb : badd xs l = some ys) {m : Nat} (hm : ys.length = m) : ∃ A c, e = .returned (.tuple #[.slice A m c, .bool true]) ∧ Rd Ln.cs 4 w' A m ys ∧ Below w.heap.size w w' := by
  obtain ⟨v, he, ho, hB⟩ := h
  rw [hb] at he ho
  obtain ⟨A, c, hv, hr⟩ := ho.rd Ln.cs_length
  subst hv
  rw [show (Option.getD (some ys) []) = ys from rfl, hm] at he hr
  exact ⟨A, c, he, hr, hB⟩
theorem AddPost.no {xs : List Ln} {l : Ln} {w w' : World} {e : Ending} (h : AddPost xs l w e w') (hb : badd xs l = none) : ∃ A c, e = .returned (.tuple #[.slice A 0 c, .bool false]) ∧ Below w.heap.size w w' := by
  obtain ⟨v, he, ho, hB⟩ := h
  rw [hb] at he ho
  obtain ⟨A, c, hv, hr⟩ := ho.rd Ln.cs_length
  subst hv
  exact ⟨A, c, he, hB⟩
def sAnn : ByteArray := ⟨#[97, 110, 110]⟩
def sX : ByteArray := ⟨#[120]⟩
def sIss : ByteArray := ⟨#[33, 105, 115, 115, 117, 101, 114]⟩
def sBob : ByteArray := ⟨#[98, 111, 98]⟩
def sAB : ByteArray := ⟨#[97, 32, 98]⟩
def lAnn : Ln := ⟨sAnn, sX, ⟨iS 3, nS 1⟩⟩
def lIss : Ln := ⟨sIss, sX, ⟨iS (-3), nS 1⟩⟩
theorem f6_add1 : badd [] lAnn = some [lAnn] := by decide +kernel
theorem f6_add2 : badd [lAnn] ⟨sAnn, sX, ⟨iS (-3), nS 1⟩⟩ = some [] := by decide +kernel
theorem f6_add3 : badd [lAnn] lIss = some [lIss, lAnn] := by decide +kernel
theorem f6_add4 : badd [lAnn] ⟨sAB, sX, ⟨iS 1, nS 1⟩⟩ = none := by decide +kernel
theorem f6_get1 : bget [lAnn] sAnn sX = ⟨iS 3, nS 1⟩ := by decide +kernel
theorem f6_get2 : bget [lAnn] sBob sX = ⟨iS 0, nS 1⟩ := by decide +kernel
theorem f6_tot : btotal [lIss, lAnn] sX = ⟨iS 0, nS 1⟩ := by decide +kernel
theorem f6_hold : (bholders [lIss, lAnn] sX).length = 2 := by decide +kernel
theorem f6_may : bmay [lIss, lAnn] = true := by decide +kernel
theorem f6_may0 : bmay [⟨⟨#[]⟩, ⟨#[]⟩, rzero⟩] = false := by decide +kernel
theorem f6_n1 : isName ⟨#[97, 49]⟩ = true := by decide +kernel
theorem f6_n2 : isName ⟨#[]⟩ = false := by decide +kernel
theorem f6_n3 : isName ⟨#[97, 33]⟩ = false := by decide +kernel
theorem f6_q (l : Ln) (h : l = lAnn ∨ l = lIss) : lnS l := by
  rcases h with rfl | rfl <;> exact ⟨by decide +kernel, by decide +kernel, by decide +kernel, by decide +kernel⟩
theorem f6_lq {l : Ln} (h : l = lAnn ∨ l = lIss) : lnq l := lnS_q (f6_q l h)
theorem f6_qs {xs : List Ln} (h : ∀ l ∈ xs, l = lAnn ∨ l = lIss) : ∀ l ∈ xs, lnq l := fun l hl => f6_lq (h l hl)
abbrev Fixed6Ok : Prop := ∀ w : World, Glob w → Calls Tryz.prog 29 #[] w fun e w' => e = .returned (.bool true) ∧ Below w.heap.size w w'
theorem iss_at {w wr : World} {A : Option Addr} (h : Rd Ln.cs 4 w A 2 [lIss, lAnn]) (hB : Below w.heap.size w wr) : ∃ ad, A = some ad ∧ wr.cell? ad = some (.string ⟨#[33, 105, 115, 115, 117, 101, 114]⟩) := by
  obtain ⟨ad, a0, a1, a2, a3, e, hx, hc⟩ := ln_at h hB (k := 0) (by omega)
  have := (hc ⟨wr, Below.refl _ _⟩).1
  obtain rfl : sIss = a0 := by simp [lIss] at hx; exact hx.1
  refine ⟨ad, e, ?_⟩
  simp [Addr.add] at this
  exact this
set_option maxRecDepth 100000 in
set_option maxHeartbeats 4000000 in
theorem p_fixed6 : Fixed6Ok := by
  intro w hg
  have q1 : ∀ l ∈ [lAnn], l = lAnn ∨ l = lIss := by intro l hl; left; simpa using hl
  have q2 : ∀ l ∈ [lIss, lAnn], l = lAnn ∨ l = lIss := by intro l hl; simp at hl; rcases hl with h | h; exact .inr h; exact .inl h
  have hO := fun (z : Int) W (h0 : -9223372036854775808 ≤ z) (h1 : z ≤ 9223372036854775807) => r3_of z W h0 h1
  simp only [enc_of, RT.v] at hO
  have hO3 := fun W => hO 3 W (by omega) (by omega)
  have hOm := fun W => hO (-3) W (by omega) (by omega)
  have hO1 := fun W => hO 1 W (by omega) (by omega)
  have hO0 := fun W => hO 0 W (by omega) (by omega)
  have k1 : ∀ W, Glob W → Calls Tryz.prog 30 #[.slice none 0 0, .agg #[.string ⟨#[97, 110, 110]⟩, .string ⟨#[120]⟩, .string (iS 3), .string (nS 1)]] W fun e w' => ∃ A c, e = .returned (.tuple #[.slice A 1 c, .bool true]) ∧ Rd Ln.cs 4 w' A 1 [lAnn] ∧ Below W.heap.size W w' := fun W hgw =>
    (b_add ⟨#[97, 110, 110]⟩ ⟨#[120]⟩ (iS 3) (nS 1) W hgw (Rd.nil (A := none)) (by omega) (fun f hf => by cases hf) (f6_lq (.inl rfl))).mono fun e w' h => AddPost.rd h f6_add1 rfl
  have k2 : ∀ A c W, Glob W → Rd Ln.cs 4 W A 1 [lAnn] → Calls Tryz.prog 30 #[.slice A 1 c, .agg #[.string ⟨#[97, 110, 110]⟩, .string ⟨#[120]⟩, .string (iS (-3)), .string (nS 1)]] W fun e w' => ∃ A c, e = .returned (.tuple #[.slice A 0 c, .bool true]) ∧ Rd Ln.cs 4 w' A 0 ([] : List Ln) ∧ Below W.heap.size W w' := fun A c W hgw hr =>
    (b_add ⟨#[97, 110, 110]⟩ ⟨#[120]⟩ (iS (-3)) (nS 1) W hgw hr (by omega) (f6_qs q1) (by exact ⟨by decide +kernel, by decide +kernel, by decide +kernel, by decide +kernel⟩)).mono fun e w' h => AddPost.rd h f6_add2 rfl
  have k3 : ∀ A c W, Glob W → Rd Ln.cs 4 W A 1 [lAnn] → Calls Tryz.prog 30 #[.slice A 1 c, .agg #[.string ⟨#[33, 105, 115, 115, 117, 101, 114]⟩, .string ⟨#[120]⟩, .string (iS (-3)), .string (nS 1)]] W fun e w' => ∃ A c, e = .returned (.tuple #[.slice A 2 c, .bool true]) ∧ Rd Ln.cs 4 w' A 2 [lIss, lAnn] ∧ Below W.heap.size W w' := fun A c W hgw hr =>
    (b_add ⟨#[33, 105, 115, 115, 117, 101, 114]⟩ ⟨#[120]⟩ (iS (-3)) (nS 1) W hgw hr (by omega) (f6_qs q1) (f6_lq (.inr rfl))).mono fun e w' h => AddPost.rd h f6_add3 rfl
  have k4 : ∀ A c W, Glob W → Rd Ln.cs 4 W A 1 [lAnn] → Calls Tryz.prog 30 #[.slice A 1 c, .agg #[.string ⟨#[97, 32, 98]⟩, .string ⟨#[120]⟩, .string (iS 1), .string (nS 1)]] W fun e w' => ∃ A c, e = .returned (.tuple #[.slice A 0 c, .bool false]) ∧ Below W.heap.size W w' := fun A c W hgw hr =>
    (b_add ⟨#[97, 32, 98]⟩ ⟨#[120]⟩ (iS 1) (nS 1) W hgw hr (by omega) (f6_qs q1) (by exact ⟨by decide +kernel, by decide +kernel, by decide +kernel, by decide +kernel⟩)).mono fun e w' h => AddPost.no h f6_add4
  have k5 : ∀ A c W, Glob W → Rd Ln.cs 4 W A 1 [lAnn] → Calls Tryz.prog 37 #[.slice A 1 c, .string ⟨#[97, 110, 110]⟩, .string ⟨#[120]⟩] W fun e w' => e = .returned (.agg #[.string (iS 3), .string (nS 1)]) ∧ Below W.heap.size W w' := fun A c W hgw hr => by
    have := b_get (c := c) ⟨#[97, 110, 110]⟩ ⟨#[120]⟩ W hgw hr (by omega) (f6_qs q1)
    rw [show bget [lAnn] ⟨#[97, 110, 110]⟩ ⟨#[120]⟩ = _ from f6_get1] at this
    exact this
  have k6 : ∀ A c W, Glob W → Rd Ln.cs 4 W A 1 [lAnn] → Calls Tryz.prog 37 #[.slice A 1 c, .string ⟨#[98, 111, 98]⟩, .string ⟨#[120]⟩] W fun e w' => e = .returned (.agg #[.string (iS 0), .string (nS 1)]) ∧ Below W.heap.size W w' := fun A c W hgw hr => by
    have := b_get (c := c) ⟨#[98, 111, 98]⟩ ⟨#[120]⟩ W hgw hr (by omega) (f6_qs q1)
    rw [show bget [lAnn] ⟨#[98, 111, 98]⟩ ⟨#[120]⟩ = _ from f6_get2] at this
    exact this
  have k7 : ∀ A c W, Glob W → Rd Ln.cs 4 W A 2 [lIss, lAnn] → Calls Tryz.prog 39 #[.slice A 2 c, .string ⟨#[120]⟩] W fun e w' => e = .returned (.agg #[.string (iS 0), .string (nS 1)]) ∧ Below W.heap.size W w' := fun A c W hgw hr => by
    have := b_total (c := c) ⟨#[120]⟩ W hgw hr (by omega) (fun l hl => f6_q l (q2 l hl))
    rw [show btotal [lIss, lAnn] ⟨#[120]⟩ = _ from f6_tot] at this
    exact this
  have k8 : ∀ A c W, Glob W → Rd Ln.cs 4 W A 2 [lIss, lAnn] → Calls Tryz.prog 41 #[.slice A 2 c, .string ⟨#[120]⟩] W fun e w' => ∃ A c, e = .returned (.slice A 2 c) ∧ Below W.heap.size W w' := fun A c W hgw hr =>
    (b_holders (c := c) ⟨#[120]⟩ W hgw hr (by omega) (f6_qs q2)).mono fun e w' ⟨v, he, ho, hb⟩ => by
      obtain ⟨A', c', hv, _⟩ := ho.rd Ln.cs_length
      rw [show (bholders [lIss, lAnn] ⟨#[120]⟩).length = 2 from f6_hold] at hv
      exact ⟨A', c', by rw [he, hv], hb⟩
  have k9 : ∀ A c W, Glob W → Rd Ln.cs 4 W A 2 [lIss, lAnn] → Calls Tryz.prog 33 #[.slice A 2 c] W fun e w' => e = .returned (.bool true) ∧ Below W.heap.size W w' := fun A c W hgw hr => by
    have := b_may (c := c) W hgw hr (f6_qs q2)
    rw [f6_may] at this
    exact this
  have k10 : ∀ W c, Glob W → Calls Tryz.prog 33 #[.slice (some ⟨W.heap.size, 0, none⟩) 1 c] (W.alloc (.cells #[.string ⟨#[]⟩, .string ⟨#[]⟩, .string ⟨#[]⟩, .string ⟨#[]⟩] 43)) fun e w' => e = .returned (.bool false) ∧ Below (W.alloc (.cells #[.string ⟨#[]⟩, .string ⟨#[]⟩, .string ⟨#[]⟩, .string ⟨#[]⟩] 43)).heap.size (W.alloc (.cells #[.string ⟨#[]⟩, .string ⟨#[]⟩, .string ⟨#[]⟩, .string ⟨#[]⟩] 43)) w' := fun W c hgw => by
    have hr : Rd Ln.cs 4 (W.alloc (.cells #[.string ⟨#[]⟩, .string ⟨#[]⟩, .string ⟨#[]⟩, .string ⟨#[]⟩] 43)) (some ⟨W.heap.size, 0, none⟩) 1 [⟨⟨#[]⟩, ⟨#[]⟩, rzero⟩] :=
      ⟨rfl, by omega, fun _ => ⟨_, rfl, by simp, fun j x hj i u hu => by
        obtain rfl : j = 0 := by have := (List.getElem?_eq_some_iff.1 hj).1; simpa using this
        obtain rfl : (⟨⟨#[]⟩, ⟨#[]⟩, rzero⟩ : Ln) = x := by simpa using hj
        exact new_cells W 43 _ (Ln.cs ⟨⟨#[]⟩, ⟨#[]⟩, rzero⟩) rfl (0 * 4 + i) u (by simpa using hu)⟩⟩
    have := b_may (c := c) _ (hgw.below (b_alloc (Below.refl _ _) _)) hr (fun f hf => by rw [List.mem_singleton.1 hf]; exact ⟨by decide +kernel, by decide +kernel, by decide +kernel, by decide +kernel⟩)
    rw [f6_may0] at this
    exact this
  have n1 := fun W => p_name ⟨#[97, 49]⟩ W (by decide)
  have n2 := fun W => p_name ⟨#[]⟩ W (by decide)
  have n3 := fun W => p_name ⟨#[97, 33]⟩ W (by decide)
  rw [f6_n1] at n1
  rw [f6_n2] at n2
  rw [f6_n3] at n3
  have heq := eqRat
  clear hO q1 q2
  go_enter Tryz.func29, Tryz.ntmps29
  go_wp2_with (first
    | (go_at_call 27; (with_reducible refine (hO3 w).mono ?_); rintro e w1 ⟨rfl, hb1⟩; obtain ⟨hc1, hf1⟩ := bcell hb1; have hs1 := hb1.size; (try simp at hs1))
    | (go_at_call 30; (with_reducible refine (k1 _ (hg.below (by repeat (first | exact Below.refl _ _ | assumption | refine b_then ?_ (by assumption) | refine b_alloc ?_ _ | refine b_drewN ?_ _ | refine Below.drew ?_ | refine b_set ?_ (by first | exact Nat.le_refl _ | (simp; done) | (simp; omega) | omega) _)))).mono ?_); rintro e w2 ⟨A2, c2, rfl, R2, hb2⟩)
    | (go_at_call 27; (with_reducible refine (hOm w2).mono ?_); rintro e w3 ⟨rfl, hb3⟩; obtain ⟨hc3, hf3⟩ := bcell hb3; have hs3 := hb3.size; (try simp at hs3))
    | (go_at_call 30; (with_reducible refine (k2 A2 c2 w3 (hg.below (by repeat (first | exact Below.refl _ _ | assumption | refine b_then ?_ (by assumption) | refine b_alloc ?_ _ | refine b_drewN ?_ _ | refine Below.drew ?_ | refine b_set ?_ (by first | exact Nat.le_refl _ | (simp; done) | (simp; omega) | omega) _))) (R2.below (by repeat (first | exact Below.refl _ _ | assumption | refine b_then ?_ (by assumption) | refine b_alloc ?_ _ | refine b_drewN ?_ _ | refine Below.drew ?_ | refine b_set ?_ (by first | exact Nat.le_refl _ | (simp; done) | (simp; omega) | omega) _)))).mono ?_); rintro e w4 ⟨A4, c4, rfl, R4, hb4⟩)
    | (go_at_call 27; (with_reducible refine (hOm w4).mono ?_); rintro e w5 ⟨rfl, hb5⟩; obtain ⟨hc5, hf5⟩ := bcell hb5; have hs5 := hb5.size; (try simp at hs5))
    | (go_at_call 30; (with_reducible refine (k3 A2 c2 w5 (hg.below (by repeat (first | exact Below.refl _ _ | assumption | refine b_then ?_ (by assumption) | refine b_alloc ?_ _ | refine b_drewN ?_ _ | refine Below.drew ?_ | refine b_set ?_ (by first | exact Nat.le_refl _ | (simp; done) | (simp; omega) | omega) _))) (R2.below (by repeat (first | exact Below.refl _ _ | assumption | refine b_then ?_ (by assumption) | refine b_alloc ?_ _ | refine b_drewN ?_ _ | refine Below.drew ?_ | refine b_set ?_ (by first | exact Nat.le_refl _ | (simp; done) | (simp; omega) | omega) _)))).mono ?_); rintro e w6 ⟨A6, c6, rfl, R6, hb6⟩)
    | (go_at_call 27; (with_reducible refine (hO1 w6).mono ?_); rintro e w7 ⟨rfl, hb7⟩; obtain ⟨hc7, hf7⟩ := bcell hb7; have hs7 := hb7.size; (try simp at hs7))
    | (go_at_call 30; (with_reducible refine (k4 A2 c2 w7 (hg.below (by repeat (first | exact Below.refl _ _ | assumption | refine b_then ?_ (by assumption) | refine b_alloc ?_ _ | refine b_drewN ?_ _ | refine Below.drew ?_ | refine b_set ?_ (by first | exact Nat.le_refl _ | (simp; done) | (simp; omega) | omega) _))) (R2.below (by repeat (first | exact Below.refl _ _ | assumption | refine b_then ?_ (by assumption) | refine b_alloc ?_ _ | refine b_drewN ?_ _ | refine Below.drew ?_ | refine b_set ?_ (by first | exact Nat.le_refl _ | (simp; done) | (simp; omega) | omega) _)))).mono ?_); rintro e w8 ⟨A8, c8, rfl, hb8⟩; obtain ⟨ad, rfl, hx0⟩ := iss_at R6 (b_then hb7 hb8))
    | (go_at_call 37; (with_reducible refine (k5 A2 c2 w8 (hg.below (by repeat (first | exact Below.refl _ _ | assumption | refine b_then ?_ (by assumption) | refine b_alloc ?_ _ | refine b_drewN ?_ _ | refine Below.drew ?_ | refine b_set ?_ (by first | exact Nat.le_refl _ | (simp; done) | (simp; omega) | omega) _))) (R2.below (by repeat (first | exact Below.refl _ _ | assumption | refine b_then ?_ (by assumption) | refine b_alloc ?_ _ | refine b_drewN ?_ _ | refine Below.drew ?_ | refine b_set ?_ (by first | exact Nat.le_refl _ | (simp; done) | (simp; omega) | omega) _)))).mono ?_); rintro e w9 ⟨rfl, hb9⟩; obtain ⟨hc9, hf9⟩ := bcell hb9; have hs9 := hb9.size; (try simp at hs9))
    | (go_at_call 27; (with_reducible refine (hO3 w9).mono ?_); rintro e w10 ⟨rfl, hb10⟩; obtain ⟨hc10, hf10⟩ := bcell hb10; have hs10 := hb10.size; (try simp at hs10))
    | (go_at_call 37; (with_reducible refine (k6 A2 c2 w10 (hg.below (by repeat (first | exact Below.refl _ _ | assumption | refine b_then ?_ (by assumption) | refine b_alloc ?_ _ | refine b_drewN ?_ _ | refine Below.drew ?_ | refine b_set ?_ (by first | exact Nat.le_refl _ | (simp; done) | (simp; omega) | omega) _))) (R2.below (by repeat (first | exact Below.refl _ _ | assumption | refine b_then ?_ (by assumption) | refine b_alloc ?_ _ | refine b_drewN ?_ _ | refine Below.drew ?_ | refine b_set ?_ (by first | exact Nat.le_refl _ | (simp; done) | (simp; omega) | omega) _)))).mono ?_); rintro e w11 ⟨rfl, hb11⟩; obtain ⟨hc11, hf11⟩ := bcell hb11; have hs11 := hb11.size; (try simp at hs11))
    | (go_at_call 27; (with_reducible refine (hO0 w11).mono ?_); rintro e w12 ⟨rfl, hb12⟩; obtain ⟨hc12, hf12⟩ := bcell hb12; have hs12 := hb12.size; (try simp at hs12))
    | (go_at_call 39; (with_reducible refine (k7 (some ad) c6 w12 (hg.below (by repeat (first | exact Below.refl _ _ | assumption | refine b_then ?_ (by assumption) | refine b_alloc ?_ _ | refine b_drewN ?_ _ | refine Below.drew ?_ | refine b_set ?_ (by first | exact Nat.le_refl _ | (simp; done) | (simp; omega) | omega) _))) (R6.below (by repeat (first | exact Below.refl _ _ | assumption | refine b_then ?_ (by assumption) | refine b_alloc ?_ _ | refine b_drewN ?_ _ | refine Below.drew ?_ | refine b_set ?_ (by first | exact Nat.le_refl _ | (simp; done) | (simp; omega) | omega) _)))).mono ?_); rintro e w13 ⟨rfl, hb13⟩; obtain ⟨hc13, hf13⟩ := bcell hb13; have hs13 := hb13.size; (try simp at hs13))
    | (go_at_call 27; (with_reducible refine (hO0 w13).mono ?_); rintro e w14 ⟨rfl, hb14⟩; obtain ⟨hc14, hf14⟩ := bcell hb14; have hs14 := hb14.size; (try simp at hs14))
    | (go_at_call 41; (with_reducible refine (k8 (some ad) c6 w14 (hg.below (by repeat (first | exact Below.refl _ _ | assumption | refine b_then ?_ (by assumption) | refine b_alloc ?_ _ | refine b_drewN ?_ _ | refine Below.drew ?_ | refine b_set ?_ (by first | exact Nat.le_refl _ | (simp; done) | (simp; omega) | omega) _))) (R6.below (by repeat (first | exact Below.refl _ _ | assumption | refine b_then ?_ (by assumption) | refine b_alloc ?_ _ | refine b_drewN ?_ _ | refine Below.drew ?_ | refine b_set ?_ (by first | exact Nat.le_refl _ | (simp; done) | (simp; omega) | omega) _)))).mono ?_); rintro e w15 ⟨A15, c15, rfl, hb15⟩)
    | (go_at_call 33; (with_reducible refine (k9 (some ad) c6 w15 (hg.below (by repeat (first | exact Below.refl _ _ | assumption | refine b_then ?_ (by assumption) | refine b_alloc ?_ _ | refine b_drewN ?_ _ | refine Below.drew ?_ | refine b_set ?_ (by first | exact Nat.le_refl _ | (simp; done) | (simp; omega) | omega) _))) (R6.below (by repeat (first | exact Below.refl _ _ | assumption | refine b_then ?_ (by assumption) | refine b_alloc ?_ _ | refine b_drewN ?_ _ | refine Below.drew ?_ | refine b_set ?_ (by first | exact Nat.le_refl _ | (simp; done) | (simp; omega) | omega) _)))).mono ?_); rintro e w16 ⟨rfl, hb16⟩; obtain ⟨hc16, hf16⟩ := bcell hb16; have hs16 := hb16.size; (try simp at hs16))
    | (go_at_call 33; (with_reducible refine (k10 w16 _ (hg.below (by repeat (first | exact Below.refl _ _ | assumption | refine b_then ?_ (by assumption) | refine b_alloc ?_ _ | refine b_drewN ?_ _ | refine Below.drew ?_ | refine b_set ?_ (by first | exact Nat.le_refl _ | (simp; done) | (simp; omega) | omega) _)))).mono ?_); rintro e w17 ⟨rfl, hb17⟩; obtain ⟨hc17, hf17⟩ := bcell hb17; have hs17 := hb17.size; (try simp at hs17))
    | (go_at_call 35; (with_reducible refine (n1 w17).mono ?_); rintro e w18 ⟨rfl, hb18⟩; obtain ⟨hc18, hf18⟩ := bcell hb18; have hs18 := hb18.size; (try simp at hs18))
    | (go_at_call 35; (with_reducible refine (n2 w18).mono ?_); rintro e w19 ⟨rfl, hb19⟩; obtain ⟨hc19, hf19⟩ := bcell hb19; have hs19 := hb19.size; (try simp at hs19))
    | (go_at_call 35; (with_reducible refine (n3 w19).mono ?_); rintro e w20 ⟨rfl, hb20⟩; obtain ⟨hc20, hf20⟩ := bcell hb20; have hs20 := hb20.size; (try simp at hs20)))
  go_ret
  exact ⟨rfl, (by repeat (first | exact Below.refl _ _ | assumption | refine b_then ?_ (by assumption) | refine b_alloc ?_ _ | refine b_drewN ?_ _ | refine Below.drew ?_ | refine b_set ?_ (by first | exact Nat.le_refl _ | (simp; done) | (simp; omega) | omega) _))⟩
end Go.Proofs.YtpoejheienohjaaGreatDoor
