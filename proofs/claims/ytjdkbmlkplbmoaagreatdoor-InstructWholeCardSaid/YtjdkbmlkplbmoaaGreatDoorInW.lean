/- InstructWhole: the walk (given the fixed calls). -/
import Derived.Test.YtjdkbmlkplbmoaaGreatDoorInV
import Derived.Test.YtjdkbmlkplbmoaaGreatDoorInT
namespace Go.Proofs.YtjdkbmlkplbmoaaGreatDoor
open Go.RowKit
set_option linter.unusedVariables false
set_option linter.unusedSimpArgs false

/-- The book behind so many. -/
def bkI (xs : List Ln) (ls : List In) (day : Int) (k : Nat) : List Ln := (irun xs (ls.take k) day).1
theorem bkI_zero (xs : List Ln) (ls : List In) (day : Int) : bkI xs ls day 0 = xs := by unfold bkI; rw [List.take_zero]; rfl
theorem bkI_all (xs : List Ln) (ls : List In) (day : Int) : bkI xs ls day ls.length = (irun xs ls day).1 := by unfold bkI; rw [List.take_length]
structure BkOk (b : List Ln) : Prop where
  may : bmay b = true
  len : b.length ≤ 200
  B : ∀ f ∈ b, lnB 100000 f
theorem bkI_ok {xs : List Ln} {ls : List In} {day : Int} (hb : bmay xs = true) (hn : xs.length ≤ 40) (hz : ∀ f ∈ xs, lnB 100 f) (hl : ∀ x ∈ ls, inB 100 x) (hln : ls.length ≤ 40) (k : Nat) : BkOk (bkI xs ls day k) := by
  have h := run_ok (b := xs) (J := 100) (n := 40) (day := day) hb hn hz (by omega) (l := ls.take k) (fun x hx => inB_mono (hl x (List.mem_of_mem_take hx)) (by omega))
  have h3 : (ls.take k).length ≤ 40 := by rw [List.length_take]; omega
  refine ⟨h.may, by have := h.len; unfold bkI; omega, fun f hf => lnB_mono (h.B f hf) ?_⟩
  have : 4 * (ls.take k).length * 203 ≤ 4 * 40 * 203 := Nat.mul_le_mul_right _ (Nat.mul_le_mul_left _ h3)
  omega
theorem r6_addpost {bs us : List Ln} {j mm kk : Nat} {B : Option Addr} {a0 a1 a2 a3 : ByteArray} (W : World) (hb : BkOk bs) (hu : ∀ f ∈ us, lone f = true) (huB : ∀ f ∈ us, lnB 201 f) (hu4 : us.length ≤ 4) (hj : us[j]? = some ⟨a0, a1, ⟨a2, a3⟩⟩) (hr : Rd Ln.cs 4 W B mm (bposts bs (us.take j))) :
    Calls Tryz.prog 27 #[.slice B mm kk, .agg #[.string a0, .string a1, .string a2, .string a3]] W fun e w' => ∃ B m k, e = .returned (.tuple #[.slice B m k, .bool true]) ∧ Rd Ln.cs 4 w' B m (bposts bs (us.take (j + 1))) ∧ Below W.heap.size W w' := by
  have hmem := List.mem_of_getElem? hj
  have ht : ∀ f ∈ us.take j, lone f = true := fun f hf => hu f (List.mem_of_mem_take hf)
  have h1 := posts_len (l := us.take j) hb.may ht
  have h0 := hb.len
  have h2 := hr.len
  have h3 : (us.take j).length ≤ 4 := by rw [List.length_take]; omega
  have h4 := posts_B (k := 201) (l := us.take j) hb.may ht hb.B (by omega) fun f hf => huB f (List.mem_of_mem_take hf)
  rw [posts_take hj]
  refine (r6_add (c := kk) a0 a1 a2 a3 W hr (by omega) (fun f hf => lnB_q (h4 f hf) (by have : (us.take j).length * 203 ≤ 4 * 203 := Nat.mul_le_mul_right _ h3; omega)) (lnB_q (huB _ hmem) (by omega))).mono fun e w' h => ?_
  obtain ⟨B, m, k, e1, e2, e3, _⟩ := h.put (posts_may hb.may ht) (hu _ hmem)
  exact ⟨B, m, k, e1, e2, e3⟩
theorem any_snoc_yes {l : List Int} {j : Nat} {a : Int} (h : (l.take j).any (fun i => i == a) = true) : (l.take (j + 1)).any (fun i => i == a) = true := by
  rw [List.any_eq_true] at h ⊢
  obtain ⟨x, hx, e⟩ := h
  exact ⟨x, (List.take_subset_take_left l (Nat.le_succ j)) hx, e⟩
theorem any_snoc_at {l : List Int} {j : Nat} {a s : Int} (h : (l.take j).any (fun i => i == a) = false) (hs : l[j]? = some s) : (l.take (j + 1)).any (fun i => i == a) = (s == a) := by
  rw [List.take_add_one, hs, List.any_append, h]
  simp
theorem rsign_up {x : RT} (h : ¬ rsign x < 0) : rsign x = 0 ∨ rsign x = 1 := by
  unfold rsign at h ⊢
  split at h
  · rename_i hm
    rw [if_pos hm]
    rcases Int.lt_trichotomy (rnum x) 0 with h1 | h1 | h1
    · rw [Int.sign_eq_neg_one_of_neg h1] at h; omega
    · rw [h1]; exact .inl rfl
    · rw [Int.sign_eq_one_of_pos h1]; exact .inr rfl
  · rename_i hm
    rw [if_neg hm]; exact .inl rfl
set_option maxRecDepth 100000 in
set_option maxHeartbeats 8000000 in
theorem l_iwhole (HF : Fixed8Ok) {A A2 : Option Addr} {n c n2 c2 : Nat} {xs : List Ln} {ls : List In} (day : Int) (w : World) (hg : Glob w) (hx : Rd Ln.cs 4 w A n xs) (hy : Rd In.cs 10 w A2 n2 ls) (hz : ∀ f ∈ xs, lnok f) (hzl : ∀ f ∈ ls, inok f) :
    Calls Tryz.prog 4 #[.slice A n c, .slice A2 n2 c2, .int .i64 day] w fun e w' => e = .returned (.bool true) ∧ Below w.heap.size w w' := by
  have HFX := Lib.hid HF
  clear HF
  have hS := fun W (h : Below w.heap.size w W) => r6_small (c := c) W (hx.below h) hz
  have hS2 := fun W (h : Below w.heap.size w W) => r8_small (c := c2) W (hy.below h) hzl
  cases d1 : lsmall xs with
  | false =>
    rw [d1] at hS
    go_enter Tryz.func4, Tryz.ntmps4
    go_wp2_with (first | (go_at_call 14; (with_reducible refine (HFX.out w hg).mono ?_); rintro e w1 ⟨rfl, hb1⟩; obtain ⟨hc1, hf1⟩ := bcell hb1; have hs1 := hb1.size; (try simp at hs1)) | (go_at_call 12; (with_reducible refine (hS _ hb1).mono ?_); rintro e w2 ⟨rfl, hb2⟩; obtain ⟨hc2, hf2⟩ := bcell hb2; have hs2 := hb2.size; (try simp at hs2)) | (go_at_call 14; (with_reducible refine (HFX.out w2 (hg.below (by repeat (first | exact Below.refl _ _ | assumption | refine b_then ?_ (by assumption) | refine b_alloc ?_ _ | refine b_drewN ?_ _ | refine Below.drew ?_ | refine b_set ?_ (by first | exact Nat.le_refl _ | (simp; done) | (simp; omega) | omega) _)))).mono ?_); rintro e w3 ⟨rfl, hb3⟩; obtain ⟨hc3, hf3⟩ := bcell hb3; have hs3 := hb3.size; (try simp at hs3)))
    go_ret
    exact ⟨rfl, (by repeat (first | exact Below.refl _ _ | assumption | refine b_then ?_ (by assumption) | refine b_alloc ?_ _ | refine b_drewN ?_ _ | refine Below.drew ?_ | refine b_set ?_ (by first | exact Nat.le_refl _ | (simp; done) | (simp; omega) | omega) _))⟩
  | true =>
  rw [d1] at hS
  cases d2 : ismall ls with
  | false =>
    rw [d2] at hS2
    go_enter Tryz.func4, Tryz.ntmps4
    go_wp2_with (first | (go_at_call 14; (with_reducible refine (HFX.out w hg).mono ?_); rintro e w1 ⟨rfl, hb1⟩; obtain ⟨hc1, hf1⟩ := bcell hb1; have hs1 := hb1.size; (try simp at hs1)) | (go_at_call 12; (with_reducible refine (hS _ hb1).mono ?_); rintro e w2 ⟨rfl, hb2⟩; obtain ⟨hc2, hf2⟩ := bcell hb2; have hs2 := hb2.size; (try simp at hs2)) | (go_at_call 13; (with_reducible refine (hS2 w2 (b_then hb1 hb2)).mono ?_); rintro e w3 ⟨rfl, hb3⟩; obtain ⟨hc3, hf3⟩ := bcell hb3; have hs3 := hb3.size; (try simp at hs3)) | (go_at_call 14; (with_reducible refine (HFX.out w3 (hg.below (by repeat (first | exact Below.refl _ _ | assumption | refine b_then ?_ (by assumption) | refine b_alloc ?_ _ | refine b_drewN ?_ _ | refine Below.drew ?_ | refine b_set ?_ (by first | exact Nat.le_refl _ | (simp; done) | (simp; omega) | omega) _)))).mono ?_); rintro e w4 ⟨rfl, hb4⟩; obtain ⟨hc4, hf4⟩ := bcell hb4; have hs4 := hb4.size; (try simp at hs4)))
    go_ret
    exact ⟨rfl, (by repeat (first | exact Below.refl _ _ | assumption | refine b_then ?_ (by assumption) | refine b_alloc ?_ _ | refine b_drewN ?_ _ | refine Below.drew ?_ | refine b_set ?_ (by first | exact Nat.le_refl _ | (simp; done) | (simp; omega) | omega) _))⟩
  | true =>
  rw [d2] at hS2
  obtain ⟨hxB, hxn⟩ := lsmall_B d1
  obtain ⟨hyB, hyn⟩ := ismall_B d2
  have hxl := hx.len
  have hyl := hy.len
  have hM := fun W (h : Below w.heap.size w W) => r6_may (c := c) W (hx.below h) (fun f hf => lnB_q (hxB f hf) (by omega))
  have hM2 := fun W (h : Below w.heap.size w W) => r8_may (c := c2) W (hy.below h) (by omega) (fun f hf => inB_mono (hyB f hf) (by omega))
  cases d3 : bmay xs with
  | false =>
    rw [d3] at hM
    clear d1 d2 d3 hxB hyB hxn hyn hxl hyl
    go_enter Tryz.func4, Tryz.ntmps4
    go_wp2_with (first | (go_at_call 14; (with_reducible refine (HFX.out w hg).mono ?_); rintro e w1 ⟨rfl, hb1⟩; obtain ⟨hc1, hf1⟩ := bcell hb1; have hs1 := hb1.size; (try simp at hs1)) | (go_at_call 12; (with_reducible refine (hS _ hb1).mono ?_); rintro e w2 ⟨rfl, hb2⟩; obtain ⟨hc2, hf2⟩ := bcell hb2; have hs2 := hb2.size; (try simp at hs2)) | (go_at_call 13; (with_reducible refine (hS2 w2 (b_then hb1 hb2)).mono ?_); rintro e w3 ⟨rfl, hb3⟩; obtain ⟨hc3, hf3⟩ := bcell hb3; have hs3 := hb3.size; (try simp at hs3)) | (go_at_call 26; (with_reducible refine (hM w3 (b_then (b_then hb1 hb2) hb3)).mono ?_); rintro e w4 ⟨rfl, hb4⟩; obtain ⟨hc4, hf4⟩ := bcell hb4; have hs4 := hb4.size; (try simp at hs4)) | (go_at_call 14; (with_reducible refine (HFX.out w4 (hg.below (by repeat (first | exact Below.refl _ _ | assumption | refine b_then ?_ (by assumption) | refine b_alloc ?_ _ | refine b_drewN ?_ _ | refine Below.drew ?_ | refine b_set ?_ (by first | exact Nat.le_refl _ | (simp; done) | (simp; omega) | omega) _)))).mono ?_); rintro e w5 ⟨rfl, hb5⟩; obtain ⟨hc5, hf5⟩ := bcell hb5; have hs5 := hb5.size; (try simp at hs5)))
    go_ret
    exact ⟨rfl, (by repeat (first | exact Below.refl _ _ | assumption | refine b_then ?_ (by assumption) | refine b_alloc ?_ _ | refine b_drewN ?_ _ | refine Below.drew ?_ | refine b_set ?_ (by first | exact Nat.le_refl _ | (simp; done) | (simp; omega) | omega) _))⟩
  | true =>
  rw [d3] at hM
  cases d4 : imay ls with
  | false =>
    rw [d4] at hM2
    clear d1 d2 d3 d4 hxB hyB hxn hyn hxl hyl
    go_enter Tryz.func4, Tryz.ntmps4
    go_wp2_with (first | (go_at_call 14; (with_reducible refine (HFX.out w hg).mono ?_); rintro e w1 ⟨rfl, hb1⟩; obtain ⟨hc1, hf1⟩ := bcell hb1; have hs1 := hb1.size; (try simp at hs1)) | (go_at_call 12; (with_reducible refine (hS _ hb1).mono ?_); rintro e w2 ⟨rfl, hb2⟩; obtain ⟨hc2, hf2⟩ := bcell hb2; have hs2 := hb2.size; (try simp at hs2)) | (go_at_call 13; (with_reducible refine (hS2 w2 (b_then hb1 hb2)).mono ?_); rintro e w3 ⟨rfl, hb3⟩; obtain ⟨hc3, hf3⟩ := bcell hb3; have hs3 := hb3.size; (try simp at hs3)) | (go_at_call 26; (with_reducible refine (hM w3 (b_then (b_then hb1 hb2) hb3)).mono ?_); rintro e w4 ⟨rfl, hb4⟩; obtain ⟨hc4, hf4⟩ := bcell hb4; have hs4 := hb4.size; (try simp at hs4)) | (go_at_call 21; (with_reducible refine (hM2 w4 (b_then (b_then (b_then hb1 hb2) hb3) hb4)).mono ?_); rintro e w5 ⟨rfl, hb5⟩; obtain ⟨hc5, hf5⟩ := bcell hb5; have hs5 := hb5.size; (try simp at hs5)) | (go_at_call 14; (with_reducible refine (HFX.out w5 (hg.below (by repeat (first | exact Below.refl _ _ | assumption | refine b_then ?_ (by assumption) | refine b_alloc ?_ _ | refine b_drewN ?_ _ | refine Below.drew ?_ | refine b_set ?_ (by first | exact Nat.le_refl _ | (simp; done) | (simp; omega) | omega) _)))).mono ?_); rintro e w6 ⟨rfl, hb6⟩; obtain ⟨hc6, hf6⟩ := bcell hb6; have hs6 := hb6.size; (try simp at hs6)))
    go_ret
    exact ⟨rfl, (by repeat (first | exact Below.refl _ _ | assumption | refine b_then ?_ (by assumption) | refine b_alloc ?_ _ | refine b_drewN ?_ _ | refine Below.drew ?_ | refine b_set ?_ (by first | exact Nat.le_refl _ | (simp; done) | (simp; omega) | omega) _))⟩
  | true =>
  rw [d4] at hM2
  obtain ⟨ys, rs, ds, hr⟩ : ∃ ys rs ds, irun xs ls day = (ys, rs, ds) := ⟨_, _, _, rfl⟩
  have hok := run_ok (b := xs) (J := 100) (n := n) (day := day) d3 (by omega) hxB (by omega) (l := ls) (fun x hx => inB_mono (hyB x hx) (by omega))
  have hbk := bkI_ok (day := day) d3 hxn hxB hyB hyn
  have hall := bkI_all xs ls day
  have hpart := irun_part (b := xs) (day := day) d4
  have htot := irun_tot (day := day) d3 sCash ls
  have hbel := fun (x : Ln) hx h1 h2 => irun_below (day := day) (l := ls) d3 (x := x) hx h1 h2
  rw [hr] at hok hpart htot hbel hall
  obtain ⟨o1, o2, o3, o4⟩ := hok
  dsimp only at o1 o2 o3 o4 hpart htot hbel hall
  have hyB2 : ∀ f ∈ ys, lnB 100000 f := fun f hf => lnB_mono (o4 f hf) (by have : 4 * ls.length * 203 ≤ 4 * 40 * 203 := Nat.mul_le_mul_right _ (Nat.mul_le_mul_left _ (by omega)); omega)
  obtain ⟨m, hm⟩ : ∃ m, ys.length = m := ⟨_, rfl⟩
  obtain ⟨r, hrl⟩ : ∃ m, rs.length = m := ⟨_, rfl⟩
  obtain ⟨d, hd⟩ : ∃ m, ds.length = m := ⟨_, rfl⟩
  have hm2 : m ≤ 200 := by omega
  have hn2 : n2 ≤ 40 := by omega
  have hd40 : d ≤ 40 := by omega
  have hR1 : iRun xs ls day = ((ys, rs, ds), 0) := by rw [iRun_yes d3 d4, hr]
  have k1 := fun W (h : Below w.heap.size w W) => (p_run (c := c) (c2 := c2) day W (hg.below h) (hx.below h) (by omega) (fun f hf => lnB_mono (hxB f hf) (by omega)) (hy.below h) (by omega) (fun x hx => inB_mono (hyB x hx) (by omega))).mono fun e w' h => h.of hR1 hm hrl hd
  have hMy : ∀ {B : Option Addr} {u : Nat} W, Rd Ln.cs 4 W B m ys → Calls Tryz.prog 26 #[.slice B m u] W fun e w' => e = .returned (.bool true) ∧ Below W.heap.size W w' := fun W hr => (r6_may W hr (fun f hf => lnB_q (hyB2 f hf) (by omega))).mono fun e w' he => ⟨by rw [he.1, o1], he.2⟩
  have hcnt2 : (r : Int) + (d : Int) = (n2 : Int) := by omega
  have hwr : wrap64 (n2 : Int) = (n2 : Int) := by unfold wrap64; omega
  have HBK := Lib.hid hbk
  have HPART := Lib.hid hpart
  have HBEL := Lib.hid hbel
  have HO1 := Lib.hid o1
  have HD3 := Lib.hid d3
  have HXB := Lib.hid hxB
  have HYB := Lib.hid hyB
  have HYB2 := Lib.hid hyB2
  have HDL := Lib.hid hd
  have HALL := Lib.hid (show bkI xs ls day n2 = ys by rw [← hyl]; exact hall)
  obtain ⟨t0, t1, ht⟩ : ∃ t0 t1, (btotal xs sCash).v = .agg #[.string t0, .string t1] := ⟨_, _, rfl⟩
  have KTx := Lib.hid (fun W (h : Below w.heap.size w W) => (by
      have := r6_total (c := c) sCash W (hx.below h) (by omega) (fun f hf => lnB_S (hxB f hf) (by omega))
      rw [ht] at this
      exact this : Calls Tryz.prog 30 #[.slice A n c, .string sCash] W fun e w' => e = .returned (.agg #[.string t0, .string t1]) ∧ Below W.heap.size W w'))
  have KTy := Lib.hid (fun (B : Option Addr) (u : Nat) W (h : Rd Ln.cs 4 W B m ys) => (by
      have := r6_total (c := u) sCash W h (by omega) (fun f hf => lnB_S (hyB2 f hf) (by omega))
      rw [htot, ht] at this
      exact this : Calls Tryz.prog 30 #[.slice B m u, .string sCash] W fun e w' => e = .returned (.agg #[.string t0, .string t1]) ∧ Below W.heap.size W w'))
  have heq := eqRat
  clear d1 d2 d3 d4 hxB hyB hyB2 hxn hyn hxl hyl hr hm hrl hd hR1 o1 o2 o3 o4 hbk hpart htot hbel hall ht
  go_enter Tryz.func4, Tryz.ntmps4
  go_wp2_with (first
    | (go_at_call 14; (with_reducible refine (HFX.out w hg).mono ?_); rintro e w1 ⟨rfl, hb1⟩; obtain ⟨hc1, hf1⟩ := bcell hb1; have hs1 := hb1.size; (try simp at hs1))
    | (go_at_call 12; (with_reducible refine (hS _ hb1).mono ?_); rintro e w2 ⟨rfl, hb2⟩; obtain ⟨hc2, hf2⟩ := bcell hb2; have hs2 := hb2.size; (try simp at hs2))
    | (go_at_call 13; (with_reducible refine (hS2 w2 (b_then hb1 hb2)).mono ?_); rintro e w3 ⟨rfl, hb3⟩; obtain ⟨hc3, hf3⟩ := bcell hb3; have hs3 := hb3.size; (try simp at hs3))
    | (go_at_call 26; (with_reducible refine (hMy w6 Q6).mono ?_); rintro e w7 ⟨rfl, hb7⟩; obtain ⟨hc7, hf7⟩ := bcell hb7; have hs7 := hb7.size; (try simp at hs7))
    | (go_at_call 26; (with_reducible refine (hM w3 (b_then (b_then hb1 hb2) hb3)).mono ?_); rintro e w4 ⟨rfl, hb4⟩; obtain ⟨hc4, hf4⟩ := bcell hb4; have hs4 := hb4.size; (try simp at hs4))
    | (go_at_call 21; (with_reducible refine (hM2 w4 (b_then (b_then (b_then hb1 hb2) hb3) hb4)).mono ?_); rintro e w5 ⟨rfl, hb5⟩; obtain ⟨hc5, hf5⟩ := bcell hb5; have hs5 := hb5.size; (try simp at hs5))
    | (go_at_call 15; (with_reducible refine (k1 w5 (b_then (b_then (b_then (b_then hb1 hb2) hb3) hb4) hb5)).mono ?_); rintro e w6 ⟨B6, c6, D6, d6, E6, e6, rfl, Q6, T6, U6, hb6⟩))
  have hB7 := b_then (b_then (b_then (b_then (b_then (b_then hb1 hb2) hb3) hb4) hb5) hb6) hb7
  have Q7 := Q6.below hb7
  have T7 := T6.below hb7
  have U7 := U6.below hb7
  have R0 : Rd Ln.cs 4 w7 A n (bkI xs ls day 0) := by rw [bkI_zero]; exact hx.below hB7
  clear hb1 hc1 hf1 hs1 hb2 hc2 hf2 hs2 hb3 hc3 hf3 hs3 hb4 hc4 hf4 hs4 hb5 hc5 hf5 hs5 hb6 hb7 hc7 hf7 hs7 hS hS2 hM hM2 hMy k1 Q6 T6 U6 hcnt2 hwr
  go_loopw [11, 12] (fun wv iv wr => ∃ (k : Nat) (B : Option Addr) (mm kk : Nat), k ≤ n2 ∧ iv = .int .i64 (k : Nat) ∧ wv = .slice B mm kk ∧ Rd Ln.cs 4 wr B mm (bkI xs ls day k) ∧ Below w7.heap.size w7 wr) (fun _ i _ => n2 - (intOf i).toNat)
  case atStart => exact ⟨0, A, n, c, Nat.zero_le _, rfl, rfl, R0, Below.refl _ _⟩
  case round =>
    clear R0
    obtain ⟨k, B, mm, kk, hk, rfl, rfl, RB, hB⟩ := hrel
    by_cases hlt : k < n2
    · obtain ⟨ad, a0, a1, a2, a3, a4, a5, a6, a7, a8, a9, rfl, hxk, hl⟩ := in_in hy (b_then hB7 hB) hlt
      have hmem := List.mem_of_getElem? hxk
      obtain ⟨p1, p2⟩ := HPART.out k _ hxk
      dsimp only at p1 p2
      have hF := fun W (h : Below w7.heap.size w7 W) => r8_find (c := d6) a0 W (T7.below h)
      have hfa := ifind_any rs a0
      obtain ⟨z, hz⟩ : ∃ z, ifind rs a0 = z := ⟨_, rfl⟩
      rw [hz] at hF hfa
      rw [p1] at hfa
      obtain ⟨z0, z1, z2, z3, z4, z5, z6⟩ := HYB.out _ hmem
      dsimp only at z0 z1 z2 z3 z4 z5 z6
      obtain ⟨us, hus⟩ : ∃ us, ilines ⟨a0, a1, a2, a3, a4, a5, ⟨a6, a7⟩, ⟨a8, a9⟩⟩ = us := ⟨_, rfl⟩
      obtain ⟨mu, hmu⟩ : ∃ mu, us.length = mu := ⟨_, rfl⟩
      have KL := Lib.hid (fun W => (r8_lines a0 a1 a2 a3 a4 a5 a6 a7 a8 a9 W (by omega) (by omega) (by omega) (by omega) (by omega) (by omega) (by omega)).mono fun e w' h => by rw [hus] at h; exact h.is_ hmu)
      have hu4 : us.length ≤ 4 := by rw [← hus]; exact ilines_len _
      have huo : ∀ f ∈ us, lone f = true := by rw [← hus]; exact ilines_lone
      have huB : ∀ f ∈ us, lnB 201 f := fun f hf => lnB_mono (ilines_B (HYB.out _ hmem) f (by rw [hus]; exact hf)) (by omega)
      have KAD := Lib.hid (fun (j mm kk : Nat) (B : Option Addr) (b0 b1 b2 b3 : ByteArray) (W : World) (hj : us[j]? = some ⟨b0, b1, ⟨b2, b3⟩⟩) (hr : Rd Ln.cs 4 W B mm (bposts (bkI xs ls day k) (us.take j))) => r6_addpost (kk := kk) W (HBK.out k) huo huB hu4 hj hr)
      have hmu4 : mu ≤ 4 := by omega
      have HL := Lib.hid hl
      obtain ⟨y0, _⟩ := hl wr (Below.refl _ _)
      cases dd : idid xs ls day k ⟨a0, a1, a2, a3, a4, a5, ⟨a6, a7⟩, ⟨a8, a9⟩⟩ with
      | true =>
        rw [dd] at p2 hfa
        have hz2 : ¬ 0 ≤ z := by simpa using hfa
        have hdue : a2 ≤ day := idid_due dd
        have HNEXT : Hid (bkI xs ls day (k + 1) = bposts (bkI xs ls day k) us) := by rw [← hus]; exact irun_yes hxk dd
        have HP2 := Lib.hid p2
        have HMU := Lib.hid hmu
        clear hl hmem hxk hz hfa p1 p2 z0 z1 z2 z3 z4 z5 z6 hus hmu hu4 huo huB dd
        go_wp2_with (go_at_call 25; (with_reducible refine (hF _ hB).mono ?_); rintro e w8 ⟨rfl, hb8⟩; obtain ⟨hc8, hf8⟩ := bcell hb8; have hs8 := hb8.size; (try simp at hs8))
        clear y0
        go_loopw [14, 15] (fun dv jv wr' => ∃ (j : Nat) (bd : Bool), j ≤ d ∧ jv = .int .i64 (j : Nat) ∧ dv = .bool bd ∧ Hid ((ds.take j).any (fun i => i == a0) = bd) ∧ Below w8.heap.size w8 wr') (fun _ i _ => d - (intOf i).toNat)
        case atStart => exact ⟨0, false, Nat.zero_le _, rfl, rfl, by simp [Hid], Below.refl _ _⟩
        case round =>
          obtain ⟨j, bd, hj, rfl, rfl, H, hBj⟩ := hrel
          by_cases hlt2 : j < d
          · obtain ⟨ad2, s, rfl, hsj, hlj⟩ := int_in U7 (b_then hB (b_then hb8 hBj)) hlt2
            have x0 := fun y : After wr => hlj y.W y.h
            have y0 := fun y : After wr => (HL.out y.W (b_then (b_then hb8 hBj) y.h)).c0
            have HSJ := Lib.hid hsj
            clear hsj hlj
            cases bd with
            | true =>
              have HS := Lib.hid (any_snoc_yes H.out)
              go_wp2
              (refine wp_region_after (by kernel_rfl) (by kernel_rfl) ?_; (repeat (first | go_big_quiet_skip | (go_big_quiet_want; go_big_quiet_op; first | go_big_quiet_on | (apply Exists.intro; refine ⟨fun _ => ?_, ?_⟩; (focus (fail)); go_big_quiet_on)))); refine wpQuiet_nil ?_; rintro w9 ⟨⟨_, hb9⟩, rfl⟩; (try dsimp only); obtain ⟨hc9, hf9⟩ := bcell hb9; have hs9 := hb9.size; (try simp at hs9))
              go_wp2
              go_roundw
              case rel => exact ⟨j + 1, true, by omega, by go_num, rfl, HS.out, b_then hBj hb9⟩
              case measure => simp [intOf]; omega
            | false =>
              have HS := Lib.hid (any_snoc_at H.out HSJ.out)
              cases he : (s == a0) with
              | true =>
                rw [he] at HS
                go_wp2
                (refine wp_region_after (by kernel_rfl) (by kernel_rfl) ?_; (repeat (first | go_big_quiet_skip | (go_big_quiet_want; go_big_quiet_op; first | go_big_quiet_on | (apply Exists.intro; refine ⟨fun _ => ?_, ?_⟩; (focus (fail)); go_big_quiet_on)))); refine wpQuiet_nil ?_; rintro w9 ⟨⟨_, hb9⟩, rfl⟩; (try dsimp only); obtain ⟨hc9, hf9⟩ := bcell hb9; have hs9 := hb9.size; (try simp at hs9))
                go_wp2
                go_roundw
                case rel => exact ⟨j + 1, true, by omega, by go_num, rfl, HS.out, b_then hBj hb9⟩
                case measure => simp [intOf]; omega
              | false =>
                rw [he] at HS
                go_wp2
                (refine wp_region_after (by kernel_rfl) (by kernel_rfl) ?_; (repeat (first | go_big_quiet_skip | (go_big_quiet_want; go_big_quiet_op; first | go_big_quiet_on | (apply Exists.intro; refine ⟨fun _ => ?_, ?_⟩; (focus (fail)); go_big_quiet_on)))); refine wpQuiet_nil ?_; rintro w9 ⟨⟨_, hb9⟩, rfl⟩; (try dsimp only); obtain ⟨hc9, hf9⟩ := bcell hb9; have hs9 := hb9.size; (try simp at hs9))
                go_wp2
                go_roundw
                case rel => exact ⟨j + 1, false, by omega, by go_num, rfl, HS.out, b_then hBj hb9⟩
                case measure => simp [intOf]; omega
          · obtain rfl : j = d := by omega
            have hb1 : bd = true := by rw [← H.out, ← HDL.out, List.take_length]; exact HP2.out
            subst hb1
            obtain ⟨y0, y1, y2, y3, y4, y5, y6, y7, y8, y9, y10, y11⟩ := HL.out wr (b_then hb8 hBj)
            go_wp2_with (go_at_call 19; (with_reducible refine (KL.out wr).mono ?_); rintro e w9 ⟨D9, c9, rfl, R9, hb9⟩)
            clear y0 y1 y2 y3 y4 y5 y6 y7 y8 y9 y10 y11
            have hBo := b_then (b_then hb8 hBj) hb9
            have RB9 : Rd Ln.cs 4 w9 B mm (bposts (bkI xs ls day k) (us.take 0)) := by rw [List.take_zero, posts_nil]; exact RB.below hBo
            go_loopw [11, 17] (fun wv jv wr2 => ∃ (j' : Nat) (B' : Option Addr) (mm' kk' : Nat), j' ≤ mu ∧ jv = .int .i64 (j' : Nat) ∧ wv = .slice B' mm' kk' ∧ Rd Ln.cs 4 wr2 B' mm' (bposts (bkI xs ls day k) (us.take j')) ∧ Below w9.heap.size w9 wr2) (fun _ i _ => mu - (intOf i).toNat)
            case atStart => exact ⟨0, B, mm, kk, Nat.zero_le _, rfl, rfl, RB9, Below.refl _ _⟩
            case round =>
              clear RB9
              obtain ⟨j', B', mm', kk', hj', rfl, rfl, RB', hBi⟩ := hrel
              by_cases hlt3 : j' < mu
              · obtain ⟨ad3, b0, b1, b2, b3, rfl, hxj, hlj⟩ := ln_in R9 hBi hlt3
                obtain ⟨x0, x1, x2, x3, x4⟩ := hlj wr (Below.refl _ _)
                have HXJ := Lib.hid hxj
                clear hxj hlj
                go_wp2_with (go_at_call 27; (with_reducible refine (KAD.out _ _ _ _ _ _ _ _ wr HXJ.out RB').mono ?_); rintro e w10 ⟨B10, m10, k10, rfl, R10, hb10⟩)
                go_roundw
                case rel => exact ⟨j' + 1, B10, m10, k10, by omega, by go_num, rfl, R10, b_then hBi hb10⟩
                case measure => simp [intOf]; omega
              · obtain rfl : j' = mu := by omega
                have RN : Rd Ln.cs 4 wr B' mm' (bkI xs ls day (k + 1)) := by rw [HNEXT.out]; have h := RB'; rwa [← HMU.out, List.take_length] at h
                go_wp2
                go_roundw
                case rel => exact ⟨k + 1, B', mm', kk', by omega, by go_num, rfl, RN, b_then hB (b_then hBo hBi)⟩
                case measure => simp [intOf]; omega
      | false =>
        rw [dd] at p2 hfa
        have hz2 : 0 ≤ z := by simpa using hfa
        have HNEXT : Hid (bkI xs ls day (k + 1) = bkI xs ls day k) := irun_no hxk dd
        have HP2 := Lib.hid p2
        have HMU := Lib.hid hmu
        clear hl hmem hxk hz hfa p1 p2 z0 z1 z2 z3 z4 z5 z6 hus hmu hu4 huo huB dd
        go_wp2_with (go_at_call 25; (with_reducible refine (hF _ hB).mono ?_); rintro e w8 ⟨rfl, hb8⟩; obtain ⟨hc8, hf8⟩ := bcell hb8; have hs8 := hb8.size; (try simp at hs8))
        clear y0
        go_loopw [14, 15] (fun dv jv wr' => ∃ (j : Nat) (bd : Bool), j ≤ d ∧ jv = .int .i64 (j : Nat) ∧ dv = .bool bd ∧ Hid ((ds.take j).any (fun i => i == a0) = bd) ∧ Below w8.heap.size w8 wr') (fun _ i _ => d - (intOf i).toNat)
        case atStart => exact ⟨0, false, Nat.zero_le _, rfl, rfl, by simp [Hid], Below.refl _ _⟩
        case round =>
          obtain ⟨j, bd, hj, rfl, rfl, H, hBj⟩ := hrel
          by_cases hlt2 : j < d
          · obtain ⟨ad2, s, rfl, hsj, hlj⟩ := int_in U7 (b_then hB (b_then hb8 hBj)) hlt2
            have x0 := fun y : After wr => hlj y.W y.h
            have y0 := fun y : After wr => (HL.out y.W (b_then (b_then hb8 hBj) y.h)).c0
            have HSJ := Lib.hid hsj
            clear hsj hlj
            cases bd with
            | true =>
              have HS := Lib.hid (any_snoc_yes H.out)
              go_wp2
              (refine wp_region_after (by kernel_rfl) (by kernel_rfl) ?_; (repeat (first | go_big_quiet_skip | (go_big_quiet_want; go_big_quiet_op; first | go_big_quiet_on | (apply Exists.intro; refine ⟨fun _ => ?_, ?_⟩; (focus (fail)); go_big_quiet_on)))); refine wpQuiet_nil ?_; rintro w9 ⟨⟨_, hb9⟩, rfl⟩; (try dsimp only); obtain ⟨hc9, hf9⟩ := bcell hb9; have hs9 := hb9.size; (try simp at hs9))
              go_wp2
              go_roundw
              case rel => exact ⟨j + 1, true, by omega, by go_num, rfl, HS.out, b_then hBj hb9⟩
              case measure => simp [intOf]; omega
            | false =>
              have HS := Lib.hid (any_snoc_at H.out HSJ.out)
              cases he : (s == a0) with
              | true =>
                rw [he] at HS
                go_wp2
                (refine wp_region_after (by kernel_rfl) (by kernel_rfl) ?_; (repeat (first | go_big_quiet_skip | (go_big_quiet_want; go_big_quiet_op; first | go_big_quiet_on | (apply Exists.intro; refine ⟨fun _ => ?_, ?_⟩; (focus (fail)); go_big_quiet_on)))); refine wpQuiet_nil ?_; rintro w9 ⟨⟨_, hb9⟩, rfl⟩; (try dsimp only); obtain ⟨hc9, hf9⟩ := bcell hb9; have hs9 := hb9.size; (try simp at hs9))
                go_wp2
                go_roundw
                case rel => exact ⟨j + 1, true, by omega, by go_num, rfl, HS.out, b_then hBj hb9⟩
                case measure => simp [intOf]; omega
              | false =>
                rw [he] at HS
                go_wp2
                (refine wp_region_after (by kernel_rfl) (by kernel_rfl) ?_; (repeat (first | go_big_quiet_skip | (go_big_quiet_want; go_big_quiet_op; first | go_big_quiet_on | (apply Exists.intro; refine ⟨fun _ => ?_, ?_⟩; (focus (fail)); go_big_quiet_on)))); refine wpQuiet_nil ?_; rintro w9 ⟨⟨_, hb9⟩, rfl⟩; (try dsimp only); obtain ⟨hc9, hf9⟩ := bcell hb9; have hs9 := hb9.size; (try simp at hs9))
                go_wp2
                go_roundw
                case rel => exact ⟨j + 1, false, by omega, by go_num, rfl, HS.out, b_then hBj hb9⟩
                case measure => simp [intOf]; omega
          · obtain rfl : j = d := by omega
            have hb1 : bd = false := by rw [← H.out, ← HDL.out, List.take_length]; exact HP2.out
            subst hb1
            obtain ⟨y0, y1, y2, y3, y4, y5, y6, y7, y8, y9, y10, y11⟩ := HL.out wr (b_then hb8 hBj)
            go_wp2_with (go_at_call 19; (with_reducible refine (KL.out wr).mono ?_); rintro e w9 ⟨D9, c9, rfl, R9, hb9⟩)
            clear y0 y1 y2 y3 y4 y5 y6 y7 y8 y9 y10 y11
            have hBo := b_then (b_then hb8 hBj) hb9
            go_loopw [11, 17] (fun wv jv wr2 => wv = .slice B mm kk ∧ Below w9.heap.size w9 wr2) (fun _ i _ => 0)
            case atStart => exact ⟨rfl, Below.refl _ _⟩
            case round =>
              obtain ⟨rfl, hBi⟩ := hrel
              have RN : Rd Ln.cs 4 wr B mm (bkI xs ls day (k + 1)) := by rw [HNEXT.out]; exact RB.below (b_then hBo hBi)
              go_wp2
              go_roundw
              case rel => exact ⟨k + 1, B, mm, kk, by omega, by go_num, rfl, RN, b_then hB (b_then hBo hBi)⟩
              case measure => simp [intOf]; omega
    · obtain rfl : k = n2 := by omega
      rw [HALL.out] at RB
      go_wp2
      go_loopw [20] (fun iv wr' => ∃ j : Nat, j ≤ m ∧ iv = .int .i64 (j : Nat) ∧ Below wr.heap.size wr wr') (fun i _ => m - (intOf i).toNat)
      case atStart => exact ⟨0, Nat.zero_le _, rfl, Below.refl _ _⟩
      case round =>
        obtain ⟨j, hj, rfl, hBj⟩ := hrel
        by_cases hlt2 : j < m
        · obtain ⟨ad, b0, b1, b2, b3, rfl, hxj, hlj⟩ := ln_in Q7 (b_then hB hBj) hlt2
          have hmem := List.mem_of_getElem? hxj
          have hlo := lgood_of (bmay_all HO1.out _ hmem)
          have hz := HYB2.out _ hmem
          have hnm := (isName_size hlo.1).1
          dsimp only at hnm
          obtain ⟨t2, t3, ht⟩ : ∃ t2 t3, bgetL xs b0 b1 = ⟨t2, t3⟩ := ⟨_, _, rfl⟩
          obtain ⟨p, hp, hps⟩ := get_rat HXB.out (by omega) HD3.out b0 b1
          have hp' := hp
          rw [ht] at hp'
          injection hp' with e2 e3
          have hGb : ∀ W, Below w.heap.size w W → Calls Tryz.prog 29 #[.slice A n c, .string b0, .string b1] W fun e w' => e = .returned (.agg #[.string t2, .string t3]) ∧ Below W.heap.size W w' := fun W hW => by
            have := r6_get (c := c) b0 b1 W (hx.below hW) (fun f hf => lnB_q (HXB.out f hf) (by omega))
            rw [bget_yes HD3.out, ht] at this
            exact this
          have hS1 := fun W => r3_sign b2 b3 W (by have := hz.2.2.1; dsimp only at this; omega) (by have := hz.2.2.2; dsimp only at this; omega)
          have hS2 := fun W => r3_sign t2 t3 W (by rw [e2]; have := iS_sz hps.1; omega) (by rw [e3, nS_size]; have := hps.2; omega)
          have hbl := HBEL.out _ hmem
          dsimp only at hbl
          rw [ht] at hbl
          have hup := rsign_up (x := ⟨b2, b3⟩)
          obtain ⟨s1, hs1'⟩ : ∃ s, rsign ⟨b2, b3⟩ = s := ⟨_, rfl⟩
          obtain ⟨s2, hs2'⟩ : ∃ s, rsign ⟨t2, t3⟩ = s := ⟨_, rfl⟩
          rw [hs1'] at hS1 hbl hup
          rw [hs2'] at hS2 hbl
          have x0 := fun y : After wr => (hlj y.W y.h).c0
          have x1 := fun y : After wr => (hlj y.W y.h).c1
          have x2 := fun y : After wr => (hlj y.W y.h).c2
          have x4 := fun y : After wr => (hlj y.W y.h).c4
          have hfp := pfree_pos hnm
          have hBw := b_then hB7 (b_then hB hBj)
          clear hxj hlj hmem hlo hz ht hp hps e2 e3 hs1' hs2'
          cases hpf : pfree b0 with
          | true =>
            rw [hpf] at hfp
            have hf33 : b0[0] = 33 := by simpa using hfp.symm
            clear hpf hfp hbl hup
            go_wp2
            (refine wp_region_after (by kernel_rfl) (by kernel_rfl) ?_; (repeat (first | go_big_quiet_skip | (go_big_quiet_want; go_big_quiet_op; first | go_big_quiet_on | (apply Exists.intro; refine ⟨fun _ => ?_, ?_⟩; (focus (fail)); go_big_quiet_on)))); refine wpQuiet_nil ?_; rintro w9 ⟨⟨_, hb9⟩, rfl⟩; (try dsimp only); obtain ⟨hc9, hf9⟩ := bcell hb9; have hs9 := hb9.size; (try simp at hs9))
            go_wp2
            go_roundw
            case rel => exact ⟨j + 1, by omega, by go_num, b_then hBj hb9⟩
            case measure => simp [intOf]; omega
          | false =>
            rw [hpf] at hfp
            have hf33 : ¬ b0[0] = 33 := by simpa using hfp.symm
            obtain ⟨bv, hbv⟩ : ∃ v : UInt8, b0[0] = v := ⟨_, rfl⟩
            rw [hbv] at hf33
            have hf34 : ((bv.toNat : Int) == 33) = false := by
              rw [beq_eq_false_iff_ne]
              intro e
              exact hf33 (UInt8.toNat_inj.1 (by show bv.toNat = 33; omega))
            have hf35 : ((bv.toNat : Int) != 33) = true := by rw [bne, hf34]; rfl
            have hbl := hbl hpf
            clear hpf hfp hf33
            by_cases hs0 : s1 < 0
            · have hs2n : ¬ 0 ≤ s2 := by have := hbl hs0; omega
              clear hbl hup
              go_wp2
              (refine wp_region_after (by kernel_rfl) (by kernel_rfl) ?_; (repeat (first | go_big_quiet_skip | (go_big_quiet_want; go_big_quiet_op; first | go_big_quiet_on | (apply Exists.intro; refine ⟨fun _ => ?_, ?_⟩; (focus (first | (go_at_call 28; with_reducible exact Calls.after (hS1 _)) | (go_at_call 29; with_reducible exact Calls.after (hGb _ (b_then hBw (After.h _)))) | (go_at_call 28; with_reducible exact Calls.after (hS2 _)))); go_big_quiet_on)))); refine wpQuiet_nil ?_; rintro w9 ⟨⟨_, hb9⟩, rfl⟩; (try dsimp only); obtain ⟨hc9, hf9⟩ := bcell hb9; have hs9 := hb9.size; (try simp at hs9))
              go_wp2
              go_roundw
              case rel => exact ⟨j + 1, by omega, by go_num, b_then hBj hb9⟩
              case measure => simp [intOf]; omega
            · clear hbl
              rcases hup hs0 with rfl | rfl
              all_goals
                clear hup hs0
                go_wp2
                (refine wp_region_after (by kernel_rfl) (by kernel_rfl) ?_; (repeat (first | go_big_quiet_skip | (go_big_quiet_want; go_big_quiet_op; first | go_big_quiet_on | (apply Exists.intro; refine ⟨fun _ => ?_, ?_⟩; (focus ((go_at_call 28; with_reducible exact Calls.after (hS1 _)))); go_big_quiet_on)))); refine wpQuiet_nil ?_; rintro w9 ⟨⟨_, hb9⟩, rfl⟩; (try dsimp only); obtain ⟨hc9, hf9⟩ := bcell hb9; have hs9 := hb9.size; (try simp at hs9))
                go_wp2
                go_roundw
                case rel => exact ⟨j + 1, by omega, by go_num, b_then hBj hb9⟩
                case measure => simp [intOf]; omega
        · obtain rfl : j = m := by omega
          have hBw := b_then hB7 (b_then hB hBj)
          have Q8 := Q7.below (b_then hB hBj)
          have R8' := RB.below hBj
          have hml := R8'.len
          have hml2 := Q8.len
          have hsm : Calls Tryz.prog 17 #[.slice B6 j c6, .slice B mm kk] wr fun e w' => e = .returned (.bool true) ∧ Below wr.heap.size wr w' := (r6_same wr Q8 R8').mono fun e w' he => ⟨by rw [he.1, decide_eq_true rfl], he.2⟩
          unfold sCash at KTx KTy
          go_wp2_with (first
            | (go_at_call 17; (with_reducible refine (hsm).mono ?_); rintro e w9 ⟨rfl, hb9⟩; obtain ⟨hc9, hf9⟩ := bcell hb9; have hs9 := hb9.size; (try simp at hs9))
            | (go_at_call 30; (with_reducible refine (KTx.out w10 (b_then hBw (b_then hb9 hb10))).mono ?_); rintro e w11 ⟨rfl, hb11⟩; obtain ⟨hc11, hf11⟩ := bcell hb11; have hs11 := hb11.size; (try simp at hs11))
            | (go_at_call 30; (with_reducible refine (KTy.out _ _ w9 (Q8.below hb9)).mono ?_); rintro e w10 ⟨rfl, hb10⟩; obtain ⟨hc10, hf10⟩ := bcell hb10; have hs10 := hb10.size; (try simp at hs10)))
          go_ret
          exact ⟨ret_bool (by simp), b_then hBw (b_then (b_then hb9 hb10) hb11)⟩
end Go.Proofs.YtjdkbmlkplbmoaaGreatDoor
