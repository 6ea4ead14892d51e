/- ClaimSettles: the walk (given the fixed calls). -/
import Derived.Test.YtjdkbmlkplbmoaaGreatDoorClG
namespace Go.Proofs.YtjdkbmlkplbmoaaGreatDoor
open Go.RowKit
set_option linter.unusedVariables false
set_option linter.unusedSimpArgs false

theorem r6_addq {bs us : List Ln} {j mm kk : Nat} {B : Option Addr} {a0 a1 a2 a3 : ByteArray} (W : World) (hb : bmay bs = true) (hl : bs.length ≤ 200) (hz : ∀ f ∈ bs, lnB 100000 f) (hu : ∀ f ∈ us, lone f = true) (huB : ∀ f ∈ us, lnB 201 f) (hu4 : us.length ≤ 4) (hj : us[j]? = some ⟨a0, a1, ⟨a2, a3⟩⟩) (hr : Rd Ln.cs 4 W B mm (bposts bs (us.take j))) :
    Calls Tryz.prog 27 #[.slice B mm kk, .agg #[.string a0, .string a1, .string a2, .string a3]] W fun e w' => ∃ B m k, e = .returned (.tuple #[.slice B m k, .bool true]) ∧ Rd Ln.cs 4 w' B m (bposts bs (us.take (j + 1))) ∧ Below W.heap.size W w' := by
  have hmem := List.mem_of_getElem? hj
  have ht : ∀ f ∈ us.take j, lone f = true := fun f hf => hu f (List.mem_of_mem_take hf)
  have h1 := posts_len (l := us.take j) hb ht
  have h3 : (us.take j).length ≤ 4 := by rw [List.length_take]; omega
  have h4 := posts_B (k := 201) (l := us.take j) hb ht hz (by omega) fun f hf => huB f (List.mem_of_mem_take hf)
  rw [posts_take hj]
  exact r6_put W (posts_may hb ht) (by omega) (fun f hf => lnB_mono (h4 f hf) (by have : (us.take j).length * 203 ≤ 4 * 203 := Nat.mul_le_mul_right _ h3; omega)) (hu _ hmem) (lnB_mono (huB _ hmem) (by omega)) hr
theorem ilines_two {x : In} (h : ione x = true) : ∃ r, ilines x = [⟨x.src, x.asset, enc (-(dec x.q))⟩, ⟨x.dst, x.asset, x.q⟩] ++ r := by rw [ilines_yes h]; exact ⟨_, rfl⟩
theorem Rd.tail_ {α : Type} {e : α → List Value} {z : Nat} {w : World} {ad : Addr} {n : Nat} {x : α} {xs : List α} (h : Rd e z w (some ad) n (x :: xs)) : Rd e z w (some (ad.add z)) (n - 1) xs := by
  have hl := h.len
  rw [List.length_cons] at hl
  refine ⟨by omega, by have := h.big; omega, fun hn => ?_⟩
  obtain ⟨ad', ha, h1, h2⟩ := h.cells (by omega)
  injection ha with ha
  subst ha
  refine ⟨_, rfl, by rw [add_block]; exact h1, fun j y hj i u hu => ?_⟩
  rw [add_add]
  have := h2 (j + 1) y (by simpa using hj) i u hu
  rw [← this]
  congr 2
  rw [Nat.add_mul]
  omega
set_option maxRecDepth 100000 in
set_option maxHeartbeats 8000000 in
theorem l_csettles (HF : Fixed20Ok) {A A2 : Option Addr} {n c n2 c2 : Nat} {xs : List Ln} {ls : List In} (ex : Int) (w : World) (hg : Glob w) (hx : Rd Ln.cs 4 w A n xs) (hy : Rd In.cs 10 w A2 n2 ls) (hz : ∀ f ∈ xs, lnok f) (hzl : ∀ f ∈ ls, inok f) (hcap : n2 ≤ c2) :
    Calls Tryz.prog 9 #[.slice A n c, .slice A2 n2 c2, .int .i64 ex] w fun e w' => e = .returned (.bool true) ∧ Below w.heap.size w w' := by
  have HFX := Lib.hid HF
  clear HF
  have hS := fun W (h : Below w.heap.size w W) => r6_small (c := c) W (hx.below h) hz
  have hS2 := fun W (h : Below w.heap.size w W) => r8_small (c := c2) W (hy.below h) hzl
  cases d1 : lsmall xs with
  | false =>
    rw [d1] at hS
    go_enter Tryz.func9, Tryz.ntmps9
    go_wp2_with (first
      | (go_at_call 35; (with_reducible refine (HFX.out w2 (hg.below (by repeat (first | exact Below.refl _ _ | assumption | refine b_then ?_ (by assumption) | refine b_alloc ?_ _ | refine b_drewN ?_ _ | refine Below.drew ?_ | refine b_set ?_ (by first | exact Nat.le_refl _ | (simp; done) | (simp; omega) | omega) _)))).mono ?_); rintro e w3 ⟨rfl, hb3⟩; obtain ⟨hc3, hf3⟩ := bcell hb3; have hs3 := hb3.size; (try simp at hs3))
      | (go_at_call 35; (with_reducible refine (HFX.out w hg).mono ?_); rintro e w1 ⟨rfl, hb1⟩; obtain ⟨hc1, hf1⟩ := bcell hb1; have hs1 := hb1.size; (try simp at hs1))
      | (go_at_call 12; (with_reducible refine (hS _ hb1).mono ?_); rintro e w2 ⟨rfl, hb2⟩; obtain ⟨hc2, hf2⟩ := bcell hb2; have hs2 := hb2.size; (try simp at hs2)))
    go_ret
    exact ⟨rfl, (by repeat (first | exact Below.refl _ _ | assumption | refine b_then ?_ (by assumption) | refine b_alloc ?_ _ | refine b_drewN ?_ _ | refine Below.drew ?_ | refine b_set ?_ (by first | exact Nat.le_refl _ | (simp; done) | (simp; omega) | omega) _))⟩
  | true =>
  rw [d1] at hS
  cases d2 : ismall ls with
  | false =>
    rw [d2] at hS2
    go_enter Tryz.func9, Tryz.ntmps9
    go_wp2_with (first
      | (go_at_call 35; (with_reducible refine (HFX.out w3 (hg.below (by repeat (first | exact Below.refl _ _ | assumption | refine b_then ?_ (by assumption) | refine b_alloc ?_ _ | refine b_drewN ?_ _ | refine Below.drew ?_ | refine b_set ?_ (by first | exact Nat.le_refl _ | (simp; done) | (simp; omega) | omega) _)))).mono ?_); rintro e w4 ⟨rfl, hb4⟩; obtain ⟨hc4, hf4⟩ := bcell hb4; have hs4 := hb4.size; (try simp at hs4))
      | (go_at_call 35; (with_reducible refine (HFX.out w hg).mono ?_); rintro e w1 ⟨rfl, hb1⟩; obtain ⟨hc1, hf1⟩ := bcell hb1; have hs1 := hb1.size; (try simp at hs1))
      | (go_at_call 12; (with_reducible refine (hS _ hb1).mono ?_); rintro e w2 ⟨rfl, hb2⟩; obtain ⟨hc2, hf2⟩ := bcell hb2; have hs2 := hb2.size; (try simp at hs2))
      | (go_at_call 13; (with_reducible refine (hS2 w2 (b_then hb1 hb2)).mono ?_); rintro e w3 ⟨rfl, hb3⟩; obtain ⟨hc3, hf3⟩ := bcell hb3; have hs3 := hb3.size; (try simp at hs3)))
    go_ret
    exact ⟨rfl, (by repeat (first | exact Below.refl _ _ | assumption | refine b_then ?_ (by assumption) | refine b_alloc ?_ _ | refine b_drewN ?_ _ | refine Below.drew ?_ | refine b_set ?_ (by first | exact Nat.le_refl _ | (simp; done) | (simp; omega) | omega) _))⟩
  | true =>
  rw [d2] at hS2
  obtain ⟨hxB, hxn⟩ := lsmall_B d1
  obtain ⟨hyB, hyn⟩ := ismall_B d2
  have hxl := hx.len
  have hyl := hy.len
  have hM := fun W (h : Below w.heap.size w W) => r6_may (c := c) W (hx.below h) (fun f hf => lnB_q (hxB f hf) (by omega))
  have hM2 := fun W (h : Below w.heap.size w W) => r8_may (c := c2) W (hy.below h) (by omega) (fun f hf => inB_mono (hyB f hf) (by omega))
  cases d3 : bmay xs with
  | false =>
    rw [d3] at hM
    clear d1 d2 d3 hxB hyB hxn hyn hxl hyl
    go_enter Tryz.func9, Tryz.ntmps9
    go_wp2_with (first
      | (go_at_call 35; (with_reducible refine (HFX.out w4 (hg.below (by repeat (first | exact Below.refl _ _ | assumption | refine b_then ?_ (by assumption) | refine b_alloc ?_ _ | refine b_drewN ?_ _ | refine Below.drew ?_ | refine b_set ?_ (by first | exact Nat.le_refl _ | (simp; done) | (simp; omega) | omega) _)))).mono ?_); rintro e w5 ⟨rfl, hb5⟩; obtain ⟨hc5, hf5⟩ := bcell hb5; have hs5 := hb5.size; (try simp at hs5))
      | (go_at_call 35; (with_reducible refine (HFX.out w hg).mono ?_); rintro e w1 ⟨rfl, hb1⟩; obtain ⟨hc1, hf1⟩ := bcell hb1; have hs1 := hb1.size; (try simp at hs1))
      | (go_at_call 12; (with_reducible refine (hS _ hb1).mono ?_); rintro e w2 ⟨rfl, hb2⟩; obtain ⟨hc2, hf2⟩ := bcell hb2; have hs2 := hb2.size; (try simp at hs2))
      | (go_at_call 13; (with_reducible refine (hS2 w2 (b_then hb1 hb2)).mono ?_); rintro e w3 ⟨rfl, hb3⟩; obtain ⟨hc3, hf3⟩ := bcell hb3; have hs3 := hb3.size; (try simp at hs3))
      | (go_at_call 26; (with_reducible refine (hM w3 (b_then (b_then hb1 hb2) hb3)).mono ?_); rintro e w4 ⟨rfl, hb4⟩; obtain ⟨hc4, hf4⟩ := bcell hb4; have hs4 := hb4.size; (try simp at hs4)))
    go_ret
    exact ⟨rfl, (by repeat (first | exact Below.refl _ _ | assumption | refine b_then ?_ (by assumption) | refine b_alloc ?_ _ | refine b_drewN ?_ _ | refine Below.drew ?_ | refine b_set ?_ (by first | exact Nat.le_refl _ | (simp; done) | (simp; omega) | omega) _))⟩
  | true =>
  rw [d3] at hM
  cases d4 : imay ls with
  | false =>
    rw [d4] at hM2
    clear d1 d2 d3 d4 hxB hyB hxn hyn hxl hyl
    go_enter Tryz.func9, Tryz.ntmps9
    go_wp2_with (first
      | (go_at_call 35; (with_reducible refine (HFX.out w5 (hg.below (by repeat (first | exact Below.refl _ _ | assumption | refine b_then ?_ (by assumption) | refine b_alloc ?_ _ | refine b_drewN ?_ _ | refine Below.drew ?_ | refine b_set ?_ (by first | exact Nat.le_refl _ | (simp; done) | (simp; omega) | omega) _)))).mono ?_); rintro e w6 ⟨rfl, hb6⟩; obtain ⟨hc6, hf6⟩ := bcell hb6; have hs6 := hb6.size; (try simp at hs6))
      | (go_at_call 35; (with_reducible refine (HFX.out w hg).mono ?_); rintro e w1 ⟨rfl, hb1⟩; obtain ⟨hc1, hf1⟩ := bcell hb1; have hs1 := hb1.size; (try simp at hs1))
      | (go_at_call 12; (with_reducible refine (hS _ hb1).mono ?_); rintro e w2 ⟨rfl, hb2⟩; obtain ⟨hc2, hf2⟩ := bcell hb2; have hs2 := hb2.size; (try simp at hs2))
      | (go_at_call 13; (with_reducible refine (hS2 w2 (b_then hb1 hb2)).mono ?_); rintro e w3 ⟨rfl, hb3⟩; obtain ⟨hc3, hf3⟩ := bcell hb3; have hs3 := hb3.size; (try simp at hs3))
      | (go_at_call 26; (with_reducible refine (hM w3 (b_then (b_then hb1 hb2) hb3)).mono ?_); rintro e w4 ⟨rfl, hb4⟩; obtain ⟨hc4, hf4⟩ := bcell hb4; have hs4 := hb4.size; (try simp at hs4))
      | (go_at_call 21; (with_reducible refine (hM2 w4 (b_then (b_then (b_then hb1 hb2) hb3) hb4)).mono ?_); rintro e w5 ⟨rfl, hb5⟩; obtain ⟨hc5, hf5⟩ := bcell hb5; have hs5 := hb5.size; (try simp at hs5)))
    go_ret
    exact ⟨rfl, (by repeat (first | exact Below.refl _ _ | assumption | refine b_then ?_ (by assumption) | refine b_alloc ?_ _ | refine b_drewN ?_ _ | refine Below.drew ?_ | refine b_set ?_ (by first | exact Nat.le_refl _ | (simp; done) | (simp; omega) | omega) _))⟩
  | true =>
  rw [d4] at hM2
  have hx1 : ∀ f ∈ xs, lnB 1000 f := fun f hf => lnB_mono (hxB f hf) (by omega)
  have hy1 : ∀ x ∈ ls, inB 1000 x := fun x hx => inB_mono (hyB x hx) (by omega)
  by_cases hn0 : 0 < n2
  case neg =>
    obtain rfl : n2 = 0 := by omega
    clear d1 d2 d3 d4 hxB hyB hxn hyn hxl hyl hx1 hy1
    go_enter Tryz.func9, Tryz.ntmps9
    go_wp2_with (first
      | (go_at_call 35; (with_reducible refine (HFX.out w5 (hg.below (by repeat (first | exact Below.refl _ _ | assumption | refine b_then ?_ (by assumption) | refine b_alloc ?_ _ | refine b_drewN ?_ _ | refine Below.drew ?_ | refine b_set ?_ (by first | exact Nat.le_refl _ | (simp; done) | (simp; omega) | omega) _)))).mono ?_); rintro e w6 ⟨rfl, hb6⟩; obtain ⟨hc6, hf6⟩ := bcell hb6; have hs6 := hb6.size; (try simp at hs6))
      | (go_at_call 35; (with_reducible refine (HFX.out w hg).mono ?_); rintro e w1 ⟨rfl, hb1⟩; obtain ⟨hc1, hf1⟩ := bcell hb1; have hs1 := hb1.size; (try simp at hs1))
      | (go_at_call 12; (with_reducible refine (hS _ hb1).mono ?_); rintro e w2 ⟨rfl, hb2⟩; obtain ⟨hc2, hf2⟩ := bcell hb2; have hs2 := hb2.size; (try simp at hs2))
      | (go_at_call 13; (with_reducible refine (hS2 w2 (b_then hb1 hb2)).mono ?_); rintro e w3 ⟨rfl, hb3⟩; obtain ⟨hc3, hf3⟩ := bcell hb3; have hs3 := hb3.size; (try simp at hs3))
      | (go_at_call 26; (with_reducible refine (hM w3 (b_then (b_then hb1 hb2) hb3)).mono ?_); rintro e w4 ⟨rfl, hb4⟩; obtain ⟨hc4, hf4⟩ := bcell hb4; have hs4 := hb4.size; (try simp at hs4))
      | (go_at_call 21; (with_reducible refine (hM2 w4 (b_then (b_then (b_then hb1 hb2) hb3) hb4)).mono ?_); rintro e w5 ⟨rfl, hb5⟩; obtain ⟨hc5, hf5⟩ := bcell hb5; have hs5 := hb5.size; (try simp at hs5)))
    go_ret
    exact ⟨rfl, (by repeat (first | exact Below.refl _ _ | assumption | refine b_then ?_ (by assumption) | refine b_alloc ?_ _ | refine b_drewN ?_ _ | refine Below.drew ?_ | refine b_set ?_ (by first | exact Nat.le_refl _ | (simp; done) | (simp; omega) | omega) _))⟩
  case pos =>
  obtain ⟨x, l', rfl⟩ : ∃ x l', ls = x :: l' := by
    cases ls with
    | nil => simp at hyl; omega
    | cons x l' => exact ⟨x, l', rfl⟩
  obtain ⟨ad, a0, a1, a2, a3, a4, a5, a6, a7, a8, a9, rfl, hxk, hl⟩ := in_in hy (Below.refl _ _) hn0
  have hx0 : x = ⟨a0, a1, a2, a3, a4, a5, ⟨a6, a7⟩, ⟨a8, a9⟩⟩ := by simpa using hxk
  subst hx0
  have he0 : ad.add (0 * 10) = ad := by first | rfl | simp
  rw [he0] at hl
  have hone := imay_all d4 _ (List.mem_cons_self ..)
  obtain ⟨z0, z1, z2, z3, z4, z5, z6⟩ := hyB _ (List.mem_cons_self ..)
  dsimp only at z0 z1 z2 z3 z4 z5 z6
  obtain ⟨us, hus⟩ : ∃ us, ilines ⟨a0, a1, a2, a3, a4, a5, ⟨a6, a7⟩, ⟨a8, a9⟩⟩ = us := ⟨_, rfl⟩
  obtain ⟨mu, hmu⟩ : ∃ mu, us.length = mu := ⟨_, rfl⟩
  have KL := Lib.hid (fun W => (r8_lines a0 a1 a2 a3 a4 a5 a6 a7 a8 a9 W (by omega) (by omega) (by omega) (by omega) (by omega) (by omega) (by omega)).mono fun e w' h => by rw [hus] at h; exact h.is_ hmu)
  have hu4 : us.length ≤ 4 := by rw [← hus]; exact ilines_len _
  have huo : ∀ f ∈ us, lone f = true := by rw [← hus]; exact ilines_lone
  have huB : ∀ f ∈ us, lnB 201 f := fun f hf => lnB_mono (ilines_B (hyB _ (List.mem_cons_self ..)) f (by rw [hus]; exact hf)) (by omega)
  obtain ⟨r, hr⟩ := ilines_two hone
  rw [hus] at hr
  dsimp only at hr
  have hmu2 : 2 ≤ mu := by rw [← hmu, hr]; simp
  have hxl200 : xs.length ≤ 200 := by omega
  have hxB5 : ∀ f ∈ xs, lnB 100000 f := fun f hf => lnB_mono (hxB f hf) (by omega)
  have KAD := Lib.hid (fun (j mm kk : Nat) (B : Option Addr) (b0 b1 b2 b3 : ByteArray) (W : World) (hj : us[j]? = some ⟨b0, b1, ⟨b2, b3⟩⟩) (hr : Rd Ln.cs 4 W B mm (bposts xs (us.take j))) => r6_addq (kk := kk) W d3 hxl200 hxB5 huo huB hu4 hj hr)
  have hnext : imay l' = true := imay_sub d4 (List.sublist_cons_self _ _)
  obtain ⟨cbk, hcbk⟩ : ∃ cbk, bposts xs (us.take 2) = cbk := ⟨_, rfl⟩
  have htl : ∀ f ∈ us.take 2, lone f = true := fun f hf => huo f (List.mem_of_mem_take hf)
  have h2l : (us.take 2).length ≤ 2 := by rw [List.length_take]; omega
  have hcl := posts_len (l := us.take 2) d3 htl
  have hcB : ∀ f ∈ cbk, lnB 1000 f := fun f hf => lnB_mono (posts_B (j := 100) (k := 201) (l := us.take 2) d3 htl hxB (by omega) (fun f hf => huB f (List.mem_of_mem_take hf)) f (by rw [hcbk]; exact hf)) (by have : (us.take 2).length * 203 ≤ 2 * 203 := Nat.mul_le_mul_right _ h2l; omega)
  rw [hcbk] at hcl
  obtain ⟨es, hes⟩ : ∃ es, ceff xs (⟨a0, a1, a2, a3, a4, a5, ⟨a6, a7⟩, ⟨a8, a9⟩⟩ :: l') a5 ex = es := ⟨_, rfl⟩
  obtain ⟨me, hme⟩ : ∃ me, es.length = me := ⟨_, rfl⟩
  have hset : a1 < ex → ceff cbk l' a5 ex = es := fun hd => by
    rw [← hes, ← hcbk, hr, ceff_settle d3 d4 hd]
    rfl
  have kE := fun W (h : Below w.heap.size w W) => (p_eff (c := c) (c2 := c2) a5 ex W (hg.below h) (hx.below h) (by omega) hx1 (hy.below h) (by omega) hy1).mono fun e w' h => by rw [hes] at h; exact h.is_ hme
  have kF := fun (hd : a1 < ex) (B : Option Addr) (mm kk : Nat) (B2 : Option Addr) (k2 : Nat) W (h : Below w.heap.size w W) (hr : Rd Ln.cs 4 W B mm cbk) (hr2 : Rd In.cs 10 W B2 (n2 - 1) l') => (p_eff (A := B) (n := mm) (c := kk) (A2 := B2) (n2 := n2 - 1) (c2 := k2) (xs := cbk) (ls := l') a5 ex W (hg.below h) hr (by have := hr.len; omega) hcB hr2 (by omega) (fun x hx => hy1 x (List.mem_cons_of_mem _ hx))).mono fun e w' h => by rw [hset hd] at h; exact h.is_ hme
  have KE := Lib.hid kE
  have KF := Lib.hid kF
  have HCB := Lib.hid hcbk
  have HMU := Lib.hid hmu
  clear d1 d2 d3 d4 hxB hyB hxn hyn hxl hyl hx1 hy1 hxk he0 hone z0 z1 z2 z3 z4 z5 z6 hus hmu hu4 huo huB hr hxl200 hxB5 hnext htl h2l hcl hcB hes hme hset kE kF hcbk
  by_cases hd : a1 < ex
  case neg =>
    have hd2 : ex ≤ a1 := by omega
    clear KL KAD KE KF
    go_enter Tryz.func9, Tryz.ntmps9
    go_wp2_with (first
      | (go_at_call 35; (with_reducible refine (HFX.out w hg).mono ?_); rintro e w1 ⟨rfl, hb1⟩; obtain ⟨hc1, hf1⟩ := bcell hb1; have hs1 := hb1.size; (try simp at hs1))
      | (go_at_call 12; (with_reducible refine (hS _ hb1).mono ?_); rintro e w2 ⟨rfl, hb2⟩; obtain ⟨hc2, hf2⟩ := bcell hb2; have hs2 := hb2.size; (try simp at hs2))
      | (go_at_call 13; (with_reducible refine (hS2 w2 (b_then hb1 hb2)).mono ?_); rintro e w3 ⟨rfl, hb3⟩; obtain ⟨hc3, hf3⟩ := bcell hb3; have hs3 := hb3.size; (try simp at hs3))
      | (go_at_call 26; (with_reducible refine (hM w3 (b_then (b_then hb1 hb2) hb3)).mono ?_); rintro e w4 ⟨rfl, hb4⟩; obtain ⟨hc4, hf4⟩ := bcell hb4; have hs4 := hb4.size; (try simp at hs4))
      | ((go_at_call 21; (with_reducible refine (hM2 w4 (b_then (b_then (b_then hb1 hb2) hb3) hb4)).mono ?_); rintro e w5 ⟨rfl, hb5⟩; obtain ⟨hc5, hf5⟩ := bcell hb5; have hs5 := hb5.size; (try simp at hs5)); obtain ⟨y0, y1, y2, y3, y4, y5, y6, y7, y8, y9, y10, y11⟩ := hl w5 (b_then (b_then (b_then (b_then hb1 hb2) hb3) hb4) hb5)))
    go_ret
    exact ⟨rfl, (by repeat (first | exact Below.refl _ _ | assumption | refine b_then ?_ (by assumption) | refine b_alloc ?_ _ | refine b_drewN ?_ _ | refine Below.drew ?_ | refine b_set ?_ (by first | exact Nat.le_refl _ | (simp; done) | (simp; omega) | omega) _))⟩
  case pos =>
  go_enter Tryz.func9, Tryz.ntmps9
  go_wp2_with (first
    | (go_at_call 19; (with_reducible refine (KL.out _).mono ?_); rintro e w6 ⟨B6, k6, rfl, R6, hb6⟩)
    | (go_at_call 35; (with_reducible refine (HFX.out w hg).mono ?_); rintro e w1 ⟨rfl, hb1⟩; obtain ⟨hc1, hf1⟩ := bcell hb1; have hs1 := hb1.size; (try simp at hs1))
    | (go_at_call 12; (with_reducible refine (hS _ hb1).mono ?_); rintro e w2 ⟨rfl, hb2⟩; obtain ⟨hc2, hf2⟩ := bcell hb2; have hs2 := hb2.size; (try simp at hs2))
    | (go_at_call 13; (with_reducible refine (hS2 w2 (b_then hb1 hb2)).mono ?_); rintro e w3 ⟨rfl, hb3⟩; obtain ⟨hc3, hf3⟩ := bcell hb3; have hs3 := hb3.size; (try simp at hs3))
    | (go_at_call 26; (with_reducible refine (hM w3 (b_then (b_then hb1 hb2) hb3)).mono ?_); rintro e w4 ⟨rfl, hb4⟩; obtain ⟨hc4, hf4⟩ := bcell hb4; have hs4 := hb4.size; (try simp at hs4))
    | ((go_at_call 21; (with_reducible refine (hM2 w4 (b_then (b_then (b_then hb1 hb2) hb3) hb4)).mono ?_); rintro e w5 ⟨rfl, hb5⟩; obtain ⟨hc5, hf5⟩ := bcell hb5; have hs5 := hb5.size; (try simp at hs5)); obtain ⟨y0, y1, y2, y3, y4, y5, y6, y7, y8, y9, y10, y11⟩ := hl w5 (b_then (b_then (b_then (b_then hb1 hb2) hb3) hb4) hb5)))
  have hB5 := b_then (b_then (b_then (b_then hb1 hb2) hb3) hb4) hb5
  have bx6 := (Blk.new w5 37 #[.int .i64 a0, .int .i64 a1, .int .i64 a2, .string a3, .string a4, .string a5, .string a6, .string a7, .string a8, .string a9]).below hb6
  have hB6 := b_then (b_alloc hB5 (.cells #[.int .i64 a0, .int .i64 a1, .int .i64 a2, .string a3, .string a4, .string a5, .string a6, .string a7, .string a8, .string a9] 37)) hb6
  have R0 : Rd Ln.cs 4 w6 A n (bposts xs (us.take 0)) := by rw [List.take_zero, posts_nil]; exact hx.below hB6
  clear hb1 hc1 hf1 hs1 hb2 hc2 hf2 hs2 hb3 hc3 hf3 hs3 hb4 hc4 hf4 hs4 hb5 hc5 hf5 hs5 hb6 hS hS2 hM hM2 y0 y1 y2 y3 y4 y5 y6 y7 y8 y9 y10 y11 KL
  go_loopw [8, 10] (fun cv iv wr => ∃ (j : Nat) (B : Option Addr) (mm kk : Nat), j ≤ 2 ∧ iv = .int .i64 (j : Nat) ∧ cv = .slice B mm kk ∧ Rd Ln.cs 4 wr B mm (bposts xs (us.take j)) ∧ Below w6.heap.size w6 wr) (fun _ i _ => 2 - (intOf i).toNat)
  case atStart => exact ⟨0, A, n, c, Nat.zero_le _, rfl, rfl, R0, Below.refl _ _⟩
  case round =>
    clear R0
    obtain ⟨j, B, mm, kk, hj, rfl, rfl, RB, hB⟩ := hrel
    by_cases hlt : j < 2
    · obtain ⟨ad3, b0, b1, b2, b3, rfl, hxj, hlj⟩ := ln_in R6 hB (show j < mu by omega)
      obtain ⟨x0, x1, x2, x3, x4⟩ := hlj wr (Below.refl _ _)
      have HXJ := Lib.hid hxj
      clear hxj hlj
      go_wp2_with (go_at_call 27; (with_reducible refine (KAD.out _ _ _ _ _ _ _ _ wr HXJ.out RB).mono ?_); rintro e w10 ⟨B10, m10, k10, rfl, R10, hb10⟩)
      go_roundw
      case rel => exact ⟨j + 1, B10, m10, k10, by omega, by go_num, rfl, R10, b_then hB hb10⟩
      case measure => simp [intOf]; omega
    · obtain rfl : j = 2 := by omega
      have RC : Rd Ln.cs 4 wr B mm cbk := by rw [← HCB.out]; exact RB
      have y5 := fun (x : After wr) (y : After x.W) => (in_bx ((bx6.below hB).below (b_then x.h y.h))).c5
      have hB8 := b_then hB6 hB
      clear RB hlt hj KAD HCB bx6 hB R6
      have hn1 : (1 : Int) ≤ (n2 : Int) := by omega
      by_cases hc1 : c2 = 1
      · have RD2 : ∀ W, Below w.heap.size w W → Rd In.cs 10 W (some ad) (n2 - 1) l' := fun W h => by
          have h1 := hy.tail_.below h
          have h0 : n2 - 1 = 0 := by omega
          rw [h0] at h1 ⊢
          have := h1.len
          obtain rfl : l' = [] := List.eq_nil_of_length_eq_zero this
          exact Rd.nil
        go_wp2
        refine wp_region_multi [(5, 70, me), (12, 77, me)] [(13, 78, .bool true)] (fun i B k W => Rd Ln.cs 4 W B me es) ?mAu (by kernel_rfl) (fun p => by kernel_rfl) (fun p x => ?mHu)
          ⟨by kernel_rfl, by kernel_rfl, by simp, by simp, ?mku, ?mtu, fun i B k W W' h hb => h.below hb, ?mhAu, ?mQu⟩
        case mHu =>
          simp only [mods, mkS_, List.map_cons, List.map_nil, List.append_eq, List.cons_append, List.nil_append, List.modify_succ_cons, List.modify_zero_cons, repV]
          have hxs := x.h.size
          (try simp at hxs)
          (repeat (first | go_big_quiet_skip | (go_big_quiet_want; go_big_quiet_op; first | go_big_quiet_on | (apply Exists.intro; refine ⟨fun _ => ?_, ?_⟩; (focus (fail)); go_big_quiet_on))))
          refine wpQuiet_nil ?_
          rfl
        case mku =>
          intro y hy' p
          simp only [List.mem_cons, List.not_mem_nil, or_false] at hy'
          rcases hy' with rfl | rfl
          · refine ⟨_, rfl, rfl, fun a W hW hgv => ?_⟩
            have g1 := (hgv 0 _ 65 rfl rfl (by kernel_rfl)).trans rfl
            have g2 := (hgv 1 _ 66 rfl rfl (by kernel_rfl)).trans rfl
            have g3 := (hgv 3 _ 68 rfl rfl (by kernel_rfl)).trans rfl
            have g4 := (hgv 4 _ 69 rfl rfl (by kernel_rfl)).trans rfl
            exact mk_call rfl rfl (wanted_none rfl) (by simp [execOp, go_sem, g1, g2, g3, g4]) (KE.out W (b_then hB8 hW))
          · refine ⟨_, rfl, rfl, fun a W hW hgv => ?_⟩
            have g1 := (hgv 6 _ 71 rfl rfl (by kernel_rfl)).trans rfl
            have g2 := (hgv 8 _ 73 rfl rfl (by kernel_rfl)).trans rfl
            have g3 := (hgv 10 _ 75 rfl rfl (by kernel_rfl)).trans rfl
            have g4 := (hgv 11 _ 76 rfl rfl (by kernel_rfl)).trans rfl
            exact mk_call rfl rfl (wanted_none rfl) (by simp [execOp, go_sem, g1, g2, g3, g4]) (KF.out hd B mm kk (some ad) 0 W (b_then hB8 hW) (RC.below hW) (RD2 W (b_then hB8 hW)))
        case mtu =>
          intro y hy' p
          simp only [List.mem_cons, List.not_mem_nil, or_false] at hy'
          subst hy'
          refine ⟨_, rfl, rfl, fun a W hW hR hgv => ?_⟩
          have g1 := (hgv 5 _ 70 rfl rfl (by kernel_rfl)).trans rfl
          have g2 := (hgv 12 _ 77 rfl rfl (by kernel_rfl)).trans rfl
          exact tk_call rfl rfl (wanted_none rfl) (by simp [execOp, go_sem, g1, g2]) ((r6_same (c := (p 5).2) (d := (p 12).2) W (hR (5, 70, me) (by simp) (by kernel_rfl)) (hR (12, 77, me) (by simp) (by kernel_rfl))).mono fun e w' he => ⟨by rw [he.1]; simp, he.2⟩)
        case mhAu => exact fun p => rfl
        case mQu =>
          intro p w9 hb9 hR
          go_wp2
          go_ret
          exact ⟨ret_bool (by simp), b_then hB8 hb9⟩
      · have RD2 : ∀ W, Below w.heap.size w W → Rd In.cs 10 W (some ⟨ad.block, ad.off + 10, none⟩) (n2 - 1) l' := fun W h => by
          have := hy.tail_.below h
          rwa [show ad.add 10 = ⟨ad.block, ad.off + 10, none⟩ by first | rfl | simp [Addr.add]] at this
        go_wp2
        refine wp_region_multi [(5, 70, me), (12, 77, me)] [(13, 78, .bool true)] (fun i B k W => Rd Ln.cs 4 W B me es) ?mAv (by kernel_rfl) (fun p => by kernel_rfl) (fun p x => ?mHv)
          ⟨by kernel_rfl, by kernel_rfl, by simp, by simp, ?mkv, ?mtv, fun i B k W W' h hb => h.below hb, ?mhAv, ?mQv⟩
        case mHv =>
          simp only [mods, mkS_, List.map_cons, List.map_nil, List.append_eq, List.cons_append, List.nil_append, List.modify_succ_cons, List.modify_zero_cons, repV]
          have hxs := x.h.size
          (try simp at hxs)
          (repeat (first | go_big_quiet_skip | (go_big_quiet_want; go_big_quiet_op; first | go_big_quiet_on | (apply Exists.intro; refine ⟨fun _ => ?_, ?_⟩; (focus (fail)); go_big_quiet_on))))
          refine wpQuiet_nil ?_
          rfl
        case mkv =>
          intro y hy' p
          simp only [List.mem_cons, List.not_mem_nil, or_false] at hy'
          rcases hy' with rfl | rfl
          · refine ⟨_, rfl, rfl, fun a W hW hgv => ?_⟩
            have g1 := (hgv 0 _ 65 rfl rfl (by kernel_rfl)).trans rfl
            have g2 := (hgv 1 _ 66 rfl rfl (by kernel_rfl)).trans rfl
            have g3 := (hgv 3 _ 68 rfl rfl (by kernel_rfl)).trans rfl
            have g4 := (hgv 4 _ 69 rfl rfl (by kernel_rfl)).trans rfl
            exact mk_call rfl rfl (wanted_none rfl) (by simp [execOp, go_sem, g1, g2, g3, g4]) (KE.out W (b_then hB8 hW))
          · refine ⟨_, rfl, rfl, fun a W hW hgv => ?_⟩
            have g1 := (hgv 6 _ 71 rfl rfl (by kernel_rfl)).trans rfl
            have g2 := (hgv 8 _ 73 rfl rfl (by kernel_rfl)).trans rfl
            have g3 := (hgv 10 _ 75 rfl rfl (by kernel_rfl)).trans rfl
            have g4 := (hgv 11 _ 76 rfl rfl (by kernel_rfl)).trans rfl
            exact mk_call rfl rfl (wanted_none rfl) (by simp [execOp, go_sem, g1, g2, g3, g4]) (KF.out hd B mm kk (some ⟨ad.block, ad.off + 10, none⟩) (c2 - 1) W (b_then hB8 hW) (RC.below hW) (RD2 W (b_then hB8 hW)))
        case mtv =>
          intro y hy' p
          simp only [List.mem_cons, List.not_mem_nil, or_false] at hy'
          subst hy'
          refine ⟨_, rfl, rfl, fun a W hW hR hgv => ?_⟩
          have g1 := (hgv 5 _ 70 rfl rfl (by kernel_rfl)).trans rfl
          have g2 := (hgv 12 _ 77 rfl rfl (by kernel_rfl)).trans rfl
          exact tk_call rfl rfl (wanted_none rfl) (by simp [execOp, go_sem, g1, g2]) ((r6_same (c := (p 5).2) (d := (p 12).2) W (hR (5, 70, me) (by simp) (by kernel_rfl)) (hR (12, 77, me) (by simp) (by kernel_rfl))).mono fun e w' he => ⟨by rw [he.1]; simp, he.2⟩)
        case mhAv => exact fun p => rfl
        case mQv =>
          intro p w9 hb9 hR
          go_wp2
          go_ret
          exact ⟨ret_bool (by simp), b_then hB8 hb9⟩
end Go.Proofs.YtjdkbmlkplbmoaaGreatDoor
