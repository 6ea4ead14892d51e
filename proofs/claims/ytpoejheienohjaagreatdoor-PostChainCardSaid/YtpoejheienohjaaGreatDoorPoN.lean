/- PostBack: the walk (given the fixed calls). -/
import Derived.Test.YtpoejheienohjaaGreatDoorPoL
import Derived.Test.YtpoejheienohjaaGreatDoorGhA
namespace Go.Proofs.YtpoejheienohjaaGreatDoor
open Go.RowKit
set_option linter.unusedVariables false
set_option linter.unusedSimpArgs false

theorem dsum_neg : ∀ l : List Ln, dsum (l.map lneg) = -(dsum l)
  | [] => by rw [List.map_nil, dsum_nil]; rfl
  | x :: l => by
    rw [List.map_cons, dsum_cons, dsum_cons, dsum_neg l]
    show dec (enc (-(dec x.q))) + _ = _
    rw [dec_enc]
    grind
theorem dtot_neg (l : List Ln) (a : ByteArray) : dtot (l.map lneg) a = -(dtot l a) := by
  unfold dtot
  rw [List.filter_map, dsum_neg]
  rfl
theorem dpost_neg (l : List Ln) (s a : ByteArray) : dpost (l.map lneg) s a = -(dpost l s a) := by
  unfold dpost
  rw [List.filter_map, dsum_neg]
  rfl
theorem dpost_append (l m : List Ln) (s a : ByteArray) : dpost (l ++ m) s a = dpost l s a + dpost m s a := by
  unfold dpost
  rw [List.filter_append, dsum_append]
theorem lbal_all {ls : List Ln} (h : lbal ls = true) (a : ByteArray) : dtot ls a = 0 := by
  cases hc : ls.any (fun x => x.asset.toList == a.toList) with
  | false => exact dtot_none hc
  | true =>
    obtain ⟨x, hx, e⟩ := List.any_eq_true.1 hc
    have e' : x.asset = a := s_eq.2 (beq_iff_eq.1 e)
    rw [← e']
    exact lbal_zero h hx
theorem lbal_mk {ls : List Ln} (h : ∀ x ∈ ls, lone x = true) (h0 : ∀ a, dtot ls a = 0) : lbal ls = true := by
  unfold lbal
  rw [Bool.and_eq_true, List.all_eq_true, List.all_eq_true]
  exact ⟨h, fun x hx => decide_eq_true (h0 _)⟩
theorem lbal_neg {ls : List Ln} (h : lbal ls = true) : lbal (ls.map lneg) = true := by
  refine lbal_mk (fun x hx => ?_) fun a => by rw [dtot_neg, lbal_all h]; rfl
  obtain ⟨y, hy, rfl⟩ := List.mem_map.1 hx
  exact lone_neg (lbal_lone h y hy)
theorem lbal_append {ls ms : List Ln} (h : lbal ls = true) (k : lbal ms = true) : lbal (ls ++ ms) = true := by
  refine lbal_mk (fun x hx => ?_) fun a => by rw [dtot_append, lbal_all h, lbal_all k, Rat.add_zero]
  rcases List.mem_append.1 hx with h' | h'
  · exact lbal_lone h x h'
  · exact lbal_lone k x h'
theorem papply_free {xs ls : List Ln} (hm : bmay xs = true) (hb : lbal ls = true) : papply xs ls false = (bposts xs ls, 0) := by
  unfold papply
  rw [if_pos hm, if_pos hb]; rfl
theorem papply_un {xs ls : List Ln} (hm : bmay xs = true) (hb : lbal ls = false) (cov : Bool) : papply xs ls cov = ([], 70) := by
  unfold papply
  rw [if_pos hm, hb]; rfl
/-- What is posted, and then with the other signs, is as it was. -/
theorem posts_same {xs ls : List Ln} (hm : bmay xs = true) (h : ∀ x ∈ ls, lone x = true) (h0 : ∀ s a, dpost ls s a = 0) : bposts xs ls = xs := by
  refine bext (posts_may hm h) hm fun s a => ?_
  rw [posts_get s a hm h, h0, Rat.add_zero, enc_dec (bget_may hm s a)]
theorem posts_back {xs ls : List Ln} (hm : bmay xs = true) (hb : lbal ls = true) : bposts (bposts xs ls) (ls.map lneg) = xs := by
  rw [← posts_append]
  refine posts_same hm (fun x hx => ?_) fun s a => by rw [dpost_append, dpost_neg]; grind
  rcases List.mem_append.1 hx with h' | h'
  · exact lbal_lone hb x h'
  · exact lbal_lone (lbal_neg hb) x h'
theorem lneg_B {x : Ln} (h : lnB 100 x) (hl : lone x = true) : lnB 200 (lneg x) := by
  obtain ⟨q, hq, hqd, hqs⟩ := rat_of (lone_of hl).2.2 h.2.2.1 h.2.2.2
  have := enc_size (rsmall_neg hqs)
  unfold lneg
  rw [hqd]
  exact ⟨h.1, h.2.1, by dsimp only; omega, by dsimp only; omega⟩
theorem map_take_succ {α β : Type} (f : α → β) {l : List α} {k : Nat} {x : α} (hx : l[k]? = some x) : (l.take (k + 1)).map f = (l.take k).map f ++ [f x] := by
  rw [List.take_add_one, hx, List.map_append]; rfl
set_option maxRecDepth 100000 in
set_option maxHeartbeats 4000000 in
theorem l_back7 (HF : Fixed7Ok) {A A2 A3 : Option Addr} {n c n2 c2 n3 c3 : Nat} {xs ls ms : List Ln} (w : World) (hg : Glob w) (hx : Rd Ln.cs 4 w A n xs) (hy : Rd Ln.cs 4 w A2 n2 ls) (hv : Rd Ln.cs 4 w A3 n3 ms) (hz : ∀ f ∈ xs, lnok f) (hzl : ∀ f ∈ ls, lnok f) (hzm : ∀ f ∈ ms, lnok f) :
    Calls Tryz.prog 13 #[.slice A n c, .slice A2 n2 c2, .slice A3 n3 c3] w fun e w' => e = .returned (.bool true) ∧ Below w.heap.size w w' := by
  have HFX := Lib.hid HF
  clear HF
  have hS := fun W (h : Below w.heap.size w W) => r6_small (c := c) W (hx.below h) hz
  have hS2 := fun W (h : Below w.heap.size w W) => r6_small (c := c2) W (hy.below h) hzl
  have hS3 := fun W (h : Below w.heap.size w W) => r6_small (c := c3) W (hv.below h) hzm
  cases d1 : lsmall xs with
  | false =>
    rw [d1] at hS
    go_enter Tryz.func13, Tryz.ntmps13
    go_wp2_with (first | (go_at_call 46; (with_reducible refine (HFX.out w hg).mono ?_); rintro e w1 ⟨rfl, hb1⟩; obtain ⟨hc1, hf1⟩ := bcell hb1; have hs1 := hb1.size; (try simp at hs1)) | (go_at_call 28; (with_reducible refine (hS _ hb1).mono ?_); rintro e w2 ⟨rfl, hb2⟩; obtain ⟨hc2, hf2⟩ := bcell hb2; have hs2 := hb2.size; (try simp at hs2)) | (go_at_call 46; (with_reducible refine (HFX.out w2 (hg.below (by repeat (first | exact Below.refl _ _ | assumption | refine b_then ?_ (by assumption) | refine b_alloc ?_ _ | refine b_drewN ?_ _ | refine Below.drew ?_ | refine b_set ?_ (by first | exact Nat.le_refl _ | (simp; done) | (simp; omega) | omega) _)))).mono ?_); rintro e w3 ⟨rfl, hb3⟩; obtain ⟨hc3, hf3⟩ := bcell hb3; have hs3 := hb3.size; (try simp at hs3)))
    go_ret
    exact ⟨rfl, (by repeat (first | exact Below.refl _ _ | assumption | refine b_then ?_ (by assumption) | refine b_alloc ?_ _ | refine b_drewN ?_ _ | refine Below.drew ?_ | refine b_set ?_ (by first | exact Nat.le_refl _ | (simp; done) | (simp; omega) | omega) _))⟩
  | true =>
  rw [d1] at hS
  cases d2 : lsmall ls with
  | false =>
    rw [d2] at hS2
    go_enter Tryz.func13, Tryz.ntmps13
    go_wp2_with (first | (go_at_call 46; (with_reducible refine (HFX.out w hg).mono ?_); rintro e w1 ⟨rfl, hb1⟩; obtain ⟨hc1, hf1⟩ := bcell hb1; have hs1 := hb1.size; (try simp at hs1)) | (go_at_call 28; (with_reducible refine (hS _ hb1).mono ?_); rintro e w2 ⟨rfl, hb2⟩; obtain ⟨hc2, hf2⟩ := bcell hb2; have hs2 := hb2.size; (try simp at hs2)) | (go_at_call 28; (with_reducible refine (hS2 w2 (b_then hb1 hb2)).mono ?_); rintro e w3 ⟨rfl, hb3⟩; obtain ⟨hc3, hf3⟩ := bcell hb3; have hs3 := hb3.size; (try simp at hs3)) | (go_at_call 46; (with_reducible refine (HFX.out w3 (hg.below (by repeat (first | exact Below.refl _ _ | assumption | refine b_then ?_ (by assumption) | refine b_alloc ?_ _ | refine b_drewN ?_ _ | refine Below.drew ?_ | refine b_set ?_ (by first | exact Nat.le_refl _ | (simp; done) | (simp; omega) | omega) _)))).mono ?_); rintro e w4 ⟨rfl, hb4⟩; obtain ⟨hc4, hf4⟩ := bcell hb4; have hs4 := hb4.size; (try simp at hs4)))
    go_ret
    exact ⟨rfl, (by repeat (first | exact Below.refl _ _ | assumption | refine b_then ?_ (by assumption) | refine b_alloc ?_ _ | refine b_drewN ?_ _ | refine Below.drew ?_ | refine b_set ?_ (by first | exact Nat.le_refl _ | (simp; done) | (simp; omega) | omega) _))⟩
  | true =>
  rw [d2] at hS2
  cases d3 : lsmall ms with
  | false =>
    rw [d3] at hS3
    go_enter Tryz.func13, Tryz.ntmps13
    go_wp2_with (first | (go_at_call 46; (with_reducible refine (HFX.out w hg).mono ?_); rintro e w1 ⟨rfl, hb1⟩; obtain ⟨hc1, hf1⟩ := bcell hb1; have hs1 := hb1.size; (try simp at hs1)) | (go_at_call 28; (with_reducible refine (hS _ hb1).mono ?_); rintro e w2 ⟨rfl, hb2⟩; obtain ⟨hc2, hf2⟩ := bcell hb2; have hs2 := hb2.size; (try simp at hs2)) | (go_at_call 28; (with_reducible refine (hS2 w2 (b_then hb1 hb2)).mono ?_); rintro e w3 ⟨rfl, hb3⟩; obtain ⟨hc3, hf3⟩ := bcell hb3; have hs3 := hb3.size; (try simp at hs3)) | (go_at_call 28; (with_reducible refine (hS3 w3 (b_then (b_then hb1 hb2) hb3)).mono ?_); rintro e w4 ⟨rfl, hb4⟩; obtain ⟨hc4, hf4⟩ := bcell hb4; have hs4 := hb4.size; (try simp at hs4)) | (go_at_call 46; (with_reducible refine (HFX.out w4 (hg.below (by repeat (first | exact Below.refl _ _ | assumption | refine b_then ?_ (by assumption) | refine b_alloc ?_ _ | refine b_drewN ?_ _ | refine Below.drew ?_ | refine b_set ?_ (by first | exact Nat.le_refl _ | (simp; done) | (simp; omega) | omega) _)))).mono ?_); rintro e w5 ⟨rfl, hb5⟩; obtain ⟨hc5, hf5⟩ := bcell hb5; have hs5 := hb5.size; (try simp at hs5)))
    go_ret
    exact ⟨rfl, (by repeat (first | exact Below.refl _ _ | assumption | refine b_then ?_ (by assumption) | refine b_alloc ?_ _ | refine b_drewN ?_ _ | refine Below.drew ?_ | refine b_set ?_ (by first | exact Nat.le_refl _ | (simp; done) | (simp; omega) | omega) _))⟩
  | true =>
  rw [d3] at hS3
  obtain ⟨hxB, hxn⟩ := lsmall_B d1
  obtain ⟨hyB, hyn⟩ := lsmall_B d2
  obtain ⟨hvB, hvn⟩ := lsmall_B d3
  have hM := fun W (h : Below w.heap.size w W) => r6_may (c := c) W (hx.below h) (fun f hf => lnB_q (hxB f hf) (by omega))
  cases d4 : bmay xs with
  | false =>
    rw [d4] at hM
    clear d1 d2 d3 hxB hyB hvB hxn hyn hvn d4
    go_enter Tryz.func13, Tryz.ntmps13
    go_wp2_with (first | (go_at_call 46; (with_reducible refine (HFX.out w hg).mono ?_); rintro e w1 ⟨rfl, hb1⟩; obtain ⟨hc1, hf1⟩ := bcell hb1; have hs1 := hb1.size; (try simp at hs1)) | (go_at_call 28; (with_reducible refine (hS _ hb1).mono ?_); rintro e w2 ⟨rfl, hb2⟩; obtain ⟨hc2, hf2⟩ := bcell hb2; have hs2 := hb2.size; (try simp at hs2)) | (go_at_call 28; (with_reducible refine (hS2 w2 (b_then hb1 hb2)).mono ?_); rintro e w3 ⟨rfl, hb3⟩; obtain ⟨hc3, hf3⟩ := bcell hb3; have hs3 := hb3.size; (try simp at hs3)) | (go_at_call 28; (with_reducible refine (hS3 w3 (b_then (b_then hb1 hb2) hb3)).mono ?_); rintro e w4 ⟨rfl, hb4⟩; obtain ⟨hc4, hf4⟩ := bcell hb4; have hs4 := hb4.size; (try simp at hs4)) | (go_at_call 34; (with_reducible refine (hM w4 (b_then (b_then (b_then hb1 hb2) hb3) hb4)).mono ?_); rintro e w5 ⟨rfl, hb5⟩; obtain ⟨hc5, hf5⟩ := bcell hb5; have hs5 := hb5.size; (try simp at hs5)) | (go_at_call 46; (with_reducible refine (HFX.out w5 (hg.below (by repeat (first | exact Below.refl _ _ | assumption | refine b_then ?_ (by assumption) | refine b_alloc ?_ _ | refine b_drewN ?_ _ | refine Below.drew ?_ | refine b_set ?_ (by first | exact Nat.le_refl _ | (simp; done) | (simp; omega) | omega) _)))).mono ?_); rintro e w6 ⟨rfl, hb6⟩; obtain ⟨hc6, hf6⟩ := bcell hb6; have hs6 := hb6.size; (try simp at hs6)))
    go_ret
    exact ⟨rfl, (by repeat (first | exact Below.refl _ _ | assumption | refine b_then ?_ (by assumption) | refine b_alloc ?_ _ | refine b_drewN ?_ _ | refine Below.drew ?_ | refine b_set ?_ (by first | exact Nat.le_refl _ | (simp; done) | (simp; omega) | omega) _))⟩
  | true =>
  rw [d4] at hM
  have hxl := hx.len
  have hyl := hy.len
  have hvl := hv.len
  have hn2 : n2 ≤ 40 := by omega
  have hn3 : n3 ≤ 40 := by omega
  have KA : ∀ {us ts ys : List Ln} {B C : Option Addr} {b b' e e' : Nat} {z : Int} {m : Nat} W, Below w.heap.size w W → Rd Ln.cs 4 W B b us → Rd Ln.cs 4 W C e ts → b ≤ 200 → e ≤ 200 → (∀ f ∈ us, lnB 10000 f) → (∀ f ∈ ts, lnB 200 f) → papply us ts false = (ys, z) → ys.length = m → Calls Tryz.prog 47 #[.slice B b b', .slice C e e', .bool false] W fun e w' => ∃ B k, e = .returned (.tuple #[.slice B m k, .int .i64 z]) ∧ Rd Ln.cs 4 w' B m ys ∧ Below W.heap.size W w' := fun W hW hu ht hb he h1 h2 hp hm => (p_apply false W (hg.below hW) hu hb h1 ht he h2).mono fun e w' h => h.of hp hm
  have hxB4 : ∀ f ∈ xs, lnB 10000 f := fun f hf => lnB_mono (hxB f hf) (by omega)
  have hyB2 : ∀ f ∈ ls, lnB 200 f := fun f hf => lnB_mono (hyB f hf) (by omega)
  have hvB2 : ∀ f ∈ ms, lnB 200 f := fun f hf => lnB_mono (hvB f hf) (by omega)
  cases d5 : lbal ls with
  | false =>
    have hA := fun W (hW : Below w.heap.size w W) => (KA W hW (hx.below hW) (hy.below hW) (by omega) (by omega) hxB4 hyB2 (papply_un d4 d5 false) (m := 0) rfl : Calls Tryz.prog 47 #[.slice A n c, .slice A2 n2 c2, .bool false] W fun e w' => ∃ B k, e = .returned (.tuple #[.slice B 0 k, .int .i64 70]) ∧ Rd Ln.cs 4 w' B 0 ([] : List Ln) ∧ Below W.heap.size W w')
    obtain ⟨zs, z2, hp2⟩ : ∃ zs z2, papply [] ms false = (zs, z2) := ⟨_, _, rfl⟩
    obtain ⟨m2, hm2⟩ : ∃ m, zs.length = m := ⟨_, rfl⟩
    have hA2 := fun W B k (hW : Below w.heap.size w W) (hr : Rd Ln.cs 4 W B 0 ([] : List Ln)) => (KA W hW hr (hv.below hW) (by omega) (by omega) (fun f hf => by cases hf) hvB2 hp2 hm2 : Calls Tryz.prog 47 #[.slice B 0 k, .slice A3 n3 c3, .bool false] W fun e w' => ∃ B k, e = .returned (.tuple #[.slice B m2 k, .int .i64 z2]) ∧ Rd Ln.cs 4 w' B m2 zs ∧ Below W.heap.size W w')
    clear d1 d2 d3 d4 d5 hxB hyB hvB hxn hyn hvn hxl hyl hvl KA hp2 hm2 hxB4 hyB2 hvB2
    go_enter Tryz.func13, Tryz.ntmps13
    go_wp2_with (first
      | (go_at_call 46; (with_reducible refine (HFX.out w hg).mono ?_); rintro e w1 ⟨rfl, hb1⟩; obtain ⟨hc1, hf1⟩ := bcell hb1; have hs1 := hb1.size; (try simp at hs1))
      | (go_at_call 28; (with_reducible refine (hS _ hb1).mono ?_); rintro e w2 ⟨rfl, hb2⟩; obtain ⟨hc2, hf2⟩ := bcell hb2; have hs2 := hb2.size; (try simp at hs2))
      | (go_at_call 28; (with_reducible refine (hS2 w2 (b_then hb1 hb2)).mono ?_); rintro e w3 ⟨rfl, hb3⟩; obtain ⟨hc3, hf3⟩ := bcell hb3; have hs3 := hb3.size; (try simp at hs3))
      | (go_at_call 28; (with_reducible refine (hS3 w3 (b_then (b_then hb1 hb2) hb3)).mono ?_); rintro e w4 ⟨rfl, hb4⟩; obtain ⟨hc4, hf4⟩ := bcell hb4; have hs4 := hb4.size; (try simp at hs4))
      | (go_at_call 34; (with_reducible refine (hM w4 (b_then (b_then (b_then hb1 hb2) hb3) hb4)).mono ?_); rintro e w5 ⟨rfl, hb5⟩; obtain ⟨hc5, hf5⟩ := bcell hb5; have hs5 := hb5.size; (try simp at hs5))
      | (go_at_call 47; (with_reducible refine (hA w5 (b_then (b_then (b_then (b_then hb1 hb2) hb3) hb4) hb5)).mono ?_); rintro e w6 ⟨B6, k6, rfl, R6, hb6⟩)
      | (go_at_call 47; (with_reducible refine (hA2 w6 B6 k6 (b_then (b_then (b_then (b_then (b_then hb1 hb2) hb3) hb4) hb5) hb6) R6).mono ?_); rintro e w7 ⟨B7, k7, rfl, R7, hb7⟩))
    go_ret
    exact ⟨ret_bool (by simp), (by repeat (first | exact Below.refl _ _ | assumption | refine b_then ?_ (by assumption) | refine b_alloc ?_ _ | refine b_drewN ?_ _ | refine Below.drew ?_ | refine b_set ?_ (by first | exact Nat.le_refl _ | (simp; done) | (simp; omega) | omega) _))⟩
  | true =>
  have hlo := lbal_lone d5
  obtain ⟨ys, hys⟩ : ∃ ys, bposts xs ls = ys := ⟨_, rfl⟩
  have hp1 : papply xs ls false = (ys, 0) := by rw [papply_free d4 d5, hys]
  obtain ⟨m1, hm1⟩ : ∃ m, ys.length = m := ⟨_, rfl⟩
  have hym : bmay ys = true := by rw [← hys]; exact posts_may d4 hlo
  have hyz : ∀ f ∈ ys, lnB 10000 f := fun f hf => lnB_mono (posts_B (k := 100) (l := ls) d4 hlo hxB (by omega) hyB f (by rw [hys]; exact hf)) (by have : ls.length * 102 ≤ 40 * 102 := Nat.mul_le_mul_right _ hyn; omega)
  have hml : m1 ≤ 80 := by have := posts_len (l := ls) d4 hlo; rw [hys] at this; omega
  have hA := fun W (hW : Below w.heap.size w W) => (KA W hW (hx.below hW) (hy.below hW) (by omega) (by omega) hxB4 hyB2 hp1 hm1 : Calls Tryz.prog 47 #[.slice A n c, .slice A2 n2 c2, .bool false] W fun e w' => ∃ B k, e = .returned (.tuple #[.slice B m1 k, .int .i64 0]) ∧ Rd Ln.cs 4 w' B m1 ys ∧ Below W.heap.size W w')
  cases d6 : lbal ms with
  | false =>
    have hA2 := fun W B k (hW : Below w.heap.size w W) (hr : Rd Ln.cs 4 W B m1 ys) => (KA W hW hr (hv.below hW) (by omega) (by omega) hyz hvB2 (papply_un hym d6 false) (m := 0) rfl : Calls Tryz.prog 47 #[.slice B m1 k, .slice A3 n3 c3, .bool false] W fun e w' => ∃ B k, e = .returned (.tuple #[.slice B 0 k, .int .i64 70]) ∧ Rd Ln.cs 4 w' B 0 ([] : List Ln) ∧ Below W.heap.size W w')
    clear d1 d2 d3 d4 d5 d6 hxB hyB hvB hxn hyn hvn hxl hyl hvl KA hxB4 hyB2 hvB2 hlo hys hp1 hm1 hym hyz
    go_enter Tryz.func13, Tryz.ntmps13
    go_wp2_with (first
      | (go_at_call 46; (with_reducible refine (HFX.out w hg).mono ?_); rintro e w1 ⟨rfl, hb1⟩; obtain ⟨hc1, hf1⟩ := bcell hb1; have hs1 := hb1.size; (try simp at hs1))
      | (go_at_call 28; (with_reducible refine (hS _ hb1).mono ?_); rintro e w2 ⟨rfl, hb2⟩; obtain ⟨hc2, hf2⟩ := bcell hb2; have hs2 := hb2.size; (try simp at hs2))
      | (go_at_call 28; (with_reducible refine (hS2 w2 (b_then hb1 hb2)).mono ?_); rintro e w3 ⟨rfl, hb3⟩; obtain ⟨hc3, hf3⟩ := bcell hb3; have hs3 := hb3.size; (try simp at hs3))
      | (go_at_call 28; (with_reducible refine (hS3 w3 (b_then (b_then hb1 hb2) hb3)).mono ?_); rintro e w4 ⟨rfl, hb4⟩; obtain ⟨hc4, hf4⟩ := bcell hb4; have hs4 := hb4.size; (try simp at hs4))
      | (go_at_call 34; (with_reducible refine (hM w4 (b_then (b_then (b_then hb1 hb2) hb3) hb4)).mono ?_); rintro e w5 ⟨rfl, hb5⟩; obtain ⟨hc5, hf5⟩ := bcell hb5; have hs5 := hb5.size; (try simp at hs5))
      | (go_at_call 47; (with_reducible refine (hA w5 (b_then (b_then (b_then (b_then hb1 hb2) hb3) hb4) hb5)).mono ?_); rintro e w6 ⟨B6, k6, rfl, R6, hb6⟩)
      | (go_at_call 47; (with_reducible refine (hA2 w6 B6 k6 (b_then (b_then (b_then (b_then (b_then hb1 hb2) hb3) hb4) hb5) hb6) R6).mono ?_); rintro e w7 ⟨B7, k7, rfl, R7, hb7⟩))
    go_ret
    exact ⟨ret_bool (by simp), (by repeat (first | exact Below.refl _ _ | assumption | refine b_then ?_ (by assumption) | refine b_alloc ?_ _ | refine b_drewN ?_ _ | refine Below.drew ?_ | refine b_set ?_ (by first | exact Nat.le_refl _ | (simp; done) | (simp; omega) | omega) _))⟩
  | true =>
  obtain ⟨zs, hzs⟩ : ∃ zs, bposts ys ms = zs := ⟨_, rfl⟩
  have hp2 : papply ys ms false = (zs, 0) := by rw [papply_free hym d6, hzs]
  obtain ⟨m2, hm2⟩ : ∃ m, zs.length = m := ⟨_, rfl⟩
  have hA2 := fun W B k (hW : Below w.heap.size w W) (hr : Rd Ln.cs 4 W B m1 ys) => (KA W hW hr (hv.below hW) (by omega) (by omega) hyz hvB2 hp2 hm2 : Calls Tryz.prog 47 #[.slice B m1 k, .slice A3 n3 c3, .bool false] W fun e w' => ∃ B k, e = .returned (.tuple #[.slice B m2 k, .int .i64 0]) ∧ Rd Ln.cs 4 w' B m2 zs ∧ Below W.heap.size W w')
  have hp3 : papply ys (ls.map lneg) false = (xs, 0) := by rw [papply_free hym (lbal_neg d5), ← hys, posts_back d4 d5]
  have hp4 : papply xs (ls ++ ms) false = (zs, 0) := by rw [papply_free d4 (lbal_append d5 d6), posts_append, hys, hzs]
  have hnB : ∀ f ∈ ls.map lneg, lnB 200 f := fun f hf => by
    obtain ⟨y, hy, rfl⟩ := List.mem_map.1 hf
    exact lneg_B (hyB y hy) (hlo y hy)
  have haB : ∀ f ∈ ls ++ ms, lnB 200 f := fun f hf => (List.mem_append.1 hf).elim (hyB2 f) (hvB2 f)
  have KA3 := Lib.hid (fun W (hW : Below w.heap.size w W) {B C : Option Addr} {b' e' : Nat} (hr : Rd Ln.cs 4 W B m1 ys) (hc : Rd Ln.cs 4 W C n2 (ls.map lneg)) => (KA W hW hr hc (by omega) (by omega) hyz hnB hp3 hxl : Calls Tryz.prog 47 #[.slice B m1 b', .slice C n2 e', .bool false] W fun e w' => ∃ B k, e = .returned (.tuple #[.slice B n k, .int .i64 0]) ∧ Rd Ln.cs 4 w' B n xs ∧ Below W.heap.size W w'))
  have KA4 := Lib.hid (fun W (hW : Below w.heap.size w W) {C : Option Addr} {b' e' : Nat} (hc : Rd Ln.cs 4 W C (n2 + n3) (ls ++ ms)) => (KA W hW (hx.below hW) hc (by omega) (by omega) hxB4 haB hp4 hm2 : Calls Tryz.prog 47 #[.slice A n b', .slice C (n2 + n3) e', .bool false] W fun e w' => ∃ B k, e = .returned (.tuple #[.slice B m2 k, .int .i64 0]) ∧ Rd Ln.cs 4 w' B m2 zs ∧ Below W.heap.size W w'))
  have hHO : ∀ W : World, Own Ln.cs 4 43 (W.alloc (.cells #[] 43)) W.heap.size (.slice (some ⟨W.heap.size, 0, none⟩) 0 0) ([] : List Ln) := fun W => Own.made0 (Nat.le_refl _)
  have KHO := Lib.hid hHO
  have HYB := Lib.hid hyB
  have HLO := Lib.hid hlo
  have HYL := Lib.hid hyl
  have HVL := Lib.hid hvl
  clear d1 d2 d3 d4 d5 d6 hxB hyB hvB hxn hyn hvn hxl hyl hvl KA hxB4 hyB2 hvB2 hlo hys hp1 hm1 hym hyz hzs hp2 hm2 hp3 hp4 hnB haB hHO
  go_enter Tryz.func13, Tryz.ntmps13
  go_wp2_with (first
      | (go_at_call 46; (with_reducible refine (HFX.out w hg).mono ?_); rintro e w1 ⟨rfl, hb1⟩; obtain ⟨hc1, hf1⟩ := bcell hb1; have hs1 := hb1.size; (try simp at hs1))
      | (go_at_call 28; (with_reducible refine (hS _ hb1).mono ?_); rintro e w2 ⟨rfl, hb2⟩; obtain ⟨hc2, hf2⟩ := bcell hb2; have hs2 := hb2.size; (try simp at hs2))
      | (go_at_call 28; (with_reducible refine (hS2 w2 (b_then hb1 hb2)).mono ?_); rintro e w3 ⟨rfl, hb3⟩; obtain ⟨hc3, hf3⟩ := bcell hb3; have hs3 := hb3.size; (try simp at hs3))
      | (go_at_call 28; (with_reducible refine (hS3 w3 (b_then (b_then hb1 hb2) hb3)).mono ?_); rintro e w4 ⟨rfl, hb4⟩; obtain ⟨hc4, hf4⟩ := bcell hb4; have hs4 := hb4.size; (try simp at hs4))
      | (go_at_call 34; (with_reducible refine (hM w4 (b_then (b_then (b_then hb1 hb2) hb3) hb4)).mono ?_); rintro e w5 ⟨rfl, hb5⟩; obtain ⟨hc5, hf5⟩ := bcell hb5; have hs5 := hb5.size; (try simp at hs5))
      | (go_at_call 47; (with_reducible refine (hA w5 (b_then (b_then (b_then (b_then hb1 hb2) hb3) hb4) hb5)).mono ?_); rintro e w6 ⟨B6, k6, rfl, R6, hb6⟩)
      | (go_at_call 47; (with_reducible refine (hA2 w6 B6 k6 (b_then (b_then (b_then (b_then (b_then hb1 hb2) hb3) hb4) hb5) hb6) R6).mono ?_); rintro e w7 ⟨B7, k7, rfl, R7, hb7⟩))
  have hB7 := b_then (b_then (b_then (b_then (b_then (b_then hb1 hb2) hb3) hb4) hb5) hb6) hb7
  have R67 := R6.below hb7
  have ho7 := KHO.out w7
  have hBa := b_alloc hB7 (.cells #[] 43)
  have R6a := R67.below (b_alloc (Below.refl _ _) (.cells #[] 43))
  have R7a := R7.below (b_alloc (Below.refl _ _) (.cells #[] 43))
  have h7a : Below w7.heap.size w7 (w7.alloc (.cells #[] 43)) := b_alloc (Below.refl _ _) _
  have hsz7 := hB7.size
  clear hb1 hc1 hf1 hs1 hb2 hc2 hf2 hs2 hb3 hc3 hf3 hs3 hb4 hc4 hf4 hs4 hb5 hc5 hf5 hs5 hb6 hb7 hS hS2 hS3 hM hA hA2 R6
  go_loopw [11, 12] (fun ov iv wr => ∃ k : Nat, k ≤ n2 ∧ iv = .int .i64 (k : Nat) ∧ Own Ln.cs 4 43 wr w7.heap.size ov ((ls.take k).map lneg) ∧ Below w7.heap.size w7 wr) (fun _ i _ => n2 - (intOf i).toNat)
  case atStart => exact ⟨0, Nat.zero_le _, rfl, ho7, h7a⟩
  case round =>
    clear ho7 hBa R6a R7a h7a
    obtain ⟨k, hk, rfl, hown, hB⟩ := hrel
    have hBw := b_then hB7 hB
    have hsw := hB.size
    by_cases hlt : k < n2
    · obtain ⟨ad, a0, a1, a2, a3, rfl, hxk, hl⟩ := ln_in hy hBw hlt
      have hmem := List.mem_of_getElem? hxk
      obtain ⟨q, hq, hqd, hqs⟩ := rat_of (x := ⟨a2, a3⟩) (lone_of (HLO.out _ hmem)).2.2 (HYB.out _ hmem).2.2.1 (HYB.out _ hmem).2.2.2
      injection hq with q1 q2
      subst q1; subst q2
      have hN := fun W => r3_neg q W (rsmall_mono hqs (by omega))
      simp only [enc_v] at hN
      have HS : Hid ((ls.take (k + 1)).map lneg = (ls.take k).map lneg ++ [⟨a0, a1, ⟨iS (-q).num, nS (-q).den⟩⟩]) := by
        unfold Hid
        rw [map_take_succ lneg hxk]
        unfold lneg
        dsimp only
        rw [hqd]; rfl
      obtain ⟨u, hu⟩ : ∃ u, iS (-q).num = u := ⟨_, rfl⟩
      obtain ⟨v, hv'⟩ : ∃ v, nS (-q).den = v := ⟨_, rfl⟩
      rw [hu, hv'] at hN HS
      have hlen : ((ls.take k).map lneg).length ≤ 40 := by rw [List.length_map, List.length_take]; omega
      obtain ⟨hx0, hx1, hx2, hx3, hx4⟩ := hl wr (Below.refl _ _)
      have hy0 := fun (x : After wr) (y : After x.W) => (hl y.W (b_then x.h y.h)).c0
      have hy1 := fun (x : After wr) (y : After x.W) => (hl y.W (b_then x.h y.h)).c1
      have hy2 := fun (x : After wr) (y : After x.W) => (hl y.W (b_then x.h y.h)).c2
      have hy4 := fun (x : After wr) (y : After x.W) => (hl y.W (b_then x.h y.h)).c4
      clear hxk hmem hqd hqs hu hv' hl
      go_wp2
      (refine wp_region_src 19 18 89 1 (fun B W => Rd Ln.cs 4 W B 1 [⟨a0, a1, ⟨u, v⟩⟩]) ?srcA9 (by kernel_rfl) (fun p => by kernel_rfl) (fun p x => ?srcH9) ⟨by kernel_rfl, by kernel_rfl, by decide, by decide, ?srcK9, fun B W W' h hb => h.below hb, ?srcG9, ?srcQ9⟩; (case srcH9 => (simp only [srcl, List.modify_succ_cons, List.modify_zero_cons, repV, List.take_succ_cons, List.take_zero]; (have hxs := x.h.size); (try simp at hxs); (repeat (first | go_big_quiet_skip | (go_big_quiet_want; go_big_quiet_op; first | go_big_quiet_on | (apply Exists.intro; refine ⟨fun _ => ?_, ?_⟩; (focus ((go_at_call 44; with_reducible exact Calls.after (hN _)))); go_big_quiet_on)))); refine wpQuiet_nil ?_; rfl)); (case srcK9 => (intro p; refine ⟨_, rfl, rfl, fun a W hW hgv => ?_⟩; have g := (hgv 17 _ 88 rfl rfl (by kernel_rfl)).trans rfl; exact src_built (b := .cells #[.string a0, .string a1, .string u, .string v] 43) (k := 1) rfl rfl rfl (by simp [execOp, go_sem, g]) (Rd.of_new Ln.cs_length _ 43 [⟨a0, a1, ⟨u, v⟩⟩] (by simp) rfl))); (case srcG9 => (intro p; first | rfl | (simp; exact ⟨rfl, rfl⟩))); rintro ⟨B9, k9⟩ w9 R9 hb9; (try dsimp only at R9); simp only [List.drop_succ_cons, List.drop_zero, Sl.v]; obtain ⟨hc9, hf9⟩ := bcell hb9; have hs9 := hb9.size; (try simp at hs9))
      have hown9 := hown.below hb9
      have hB9 := b_then hB hb9
      go_wp2_with (at_builtin; refine wpList_apps0 (v := u11) Tryz.elemLines (by omega) Ln.cs_length Ln.cs_one rfl (.tmp 71) (.tmp 89) rfl rfl hown9 B9 1 k9 [⟨a0, a1, ⟨u, v⟩⟩] rfl R9 (by omega) (by omega) (by omega) ?_; intro v10 w10 hown10 hg10 hat10)
      go_roundw
      case rel => exact ⟨k + 1, by omega, by go_num, by rw [HS.out]; exact hown10, hown9.frame hB9 (Nat.le_refl _) hg10⟩
      case measure => simp [intOf]; omega
    · obtain rfl : k = n2 := by omega
      have hls : ls.take k = ls := by rw [← HYL.out, List.take_length]
      rw [hls] at hown
      obtain ⟨C, k', hv', hr⟩ := hown.rd Ln.cs_length
      have hl' : (ls.map lneg).length = k := by rw [List.length_map, HYL.out]
      rw [hl'] at hv' hr
      subst hv'
      clear hls hl' hown
      have R6w := R67.below hB
      have R7w := R7.below hB
      clear R67 R7 hB hB7 hsw hsz7
      go_wp2_with (first
        | (go_at_call 47; (with_reducible refine (KA3.out wr hBw R6w hr).mono ?_); rintro e w10 ⟨B10, k10, rfl, R10, hb10⟩; have hB10 := b_then hBw hb10; have hs10 := hB10.size; have R7x := R7w.below hb10)
        | (at_builtin; refine wpList_apps0 (v := .slice (some ⟨w10.heap.size, 0, none⟩) 0 0) Tryz.elemLines (by omega) Ln.cs_length Ln.cs_one rfl (.tmp 99) (.tmp 100) rfl rfl (KHO.out w10) A2 k c2 ls rfl (hy.below (b_alloc hB10 _)) (by simp; omega) (by simp; omega) (by simp) ?_; intro v11 w11 hown11 hg11 hat11; have hB11 := (KHO.out w10).frame (b_alloc (Below.refl w10.heap.size w10) _) (Nat.le_refl _) hg11; rw [List.nil_append] at hown11)
        | (at_builtin; refine wpList_apps0 (v := v11) Tryz.elemLines (by omega) Ln.cs_length Ln.cs_one rfl (.tmp 101) (.tmp 102) rfl rfl hown11 A3 n3 c3 ms rfl (hv.below (b_then hB10 hB11)) (by rw [HYL.out]; omega) (by rw [HYL.out]; omega) (by have := hB11.size; omega) ?_; intro v12 w12 hown12 hg12 hat12; have hB12 := hown11.frame hB11 (Nat.le_refl _) hg12; obtain ⟨C12, k12, hv12, hr12⟩ := hown12.rd Ln.cs_length; rw [List.length_append, HYL.out, HVL.out] at hv12 hr12; subst hv12)
        | (go_at_call 47; (with_reducible refine (KA4.out w12 (b_then hB10 hB12) hr12).mono ?_); rintro e w13 ⟨B13, k13, rfl, R13, hb13⟩; have hB13 := b_then (b_then hB10 hB12) hb13)
        | (go_at_call 32; (with_reducible refine (r6_same w13 ((R10.below hB12).below hb13) (hx.below hB13)).mono ?_); rintro e w14 ⟨rfl, hb14⟩)
        | (go_at_call 32; (with_reducible refine (r6_same w14 (R13.below hb14) (((R7x.below hB12).below hb13).below hb14)).mono ?_); rintro e w15 ⟨rfl, hb15⟩))
      go_ret
      exact ⟨ret_bool (by simp), b_then (b_then hB13 hb14) hb15⟩
end Go.Proofs.YtpoejheienohjaaGreatDoor
