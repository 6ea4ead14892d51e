/- InstructAgain: plain laws, and the walk (given the fixed calls). -/
import Derived.Test.YtjdkbmlkplbmoaaGreatDoorInP
namespace Go.Proofs.YtjdkbmlkplbmoaaGreatDoor
open Go.RowKit
set_option linter.unusedVariables false
set_option linter.unusedSimpArgs false

theorem irises_pw {l : List In} : rises iahead l = true ↔ l.Pairwise (fun a b => iahead a b = true) := by
  induction l with
  | nil => simp [rises]
  | cons a l ih =>
    rw [List.pairwise_cons, ← ih]
    cases l with
    | nil => simp [rises]
    | cons b l =>
      rw [rises, Bool.and_eq_true]
      constructor
      · rintro ⟨h1, h2⟩
        refine ⟨fun x hx => ?_, h2⟩
        rcases List.mem_cons.1 hx with rfl | hx
        · exact h1
        · have h3 := (List.pairwise_cons.1 (ih.1 h2)).1 x hx
          unfold iahead at h1 h3 ⊢
          rw [decide_eq_true_eq] at h1 h3 ⊢
          omega
      · rintro ⟨h1, h2⟩
        exact ⟨h1 b (by simp), h2⟩
theorem irun_sub (b : List Ln) (day : Int) (l : List In) : (irun b l day).2.1.Sublist l := by
  refine list_rev_ind (p := fun l => (irun b l day).2.1.Sublist l) (List.Sublist.refl _) ?_ l
  intro l x ih
  rw [irun_snoc]
  unfold istep
  split
  · exact ih.trans (List.sublist_append_left _ _)
  · exact ih.append (List.Sublist.refl _)
theorem imay_sub {l r : List In} (h : imay l = true) (hs : r.Sublist l) : imay r = true := by
  unfold imay at h ⊢
  rw [Bool.and_eq_true, List.all_eq_true] at h ⊢
  exact ⟨fun x hx => h.1 x (hs.subset hx), irises_pw.2 ((irises_pw.1 h.2).sublist hs)⟩
theorem irun_none {b : List Ln} {day : Int} {l : List In} : (irun b l day).2.2 = [] → irun b l day = (b, l, []) := by
  refine list_rev_ind (p := fun l => (irun b l day).2.2 = [] → irun b l day = (b, l, [])) (fun _ => rfl) ?_ l
  intro l x ih h
  rw [irun_snoc] at h ⊢
  unfold istep at h ⊢
  split at h
  · simp at h
  · rename_i hc
    rw [if_neg hc, ih h]

set_option maxRecDepth 100000 in
set_option maxHeartbeats 4000000 in
theorem l_iagain (HF : Fixed8Ok) {A A2 : Option Addr} {n c n2 c2 : Nat} {xs : List Ln} {ls : List In} (day : Int) (w : World) (hg : Glob w) (hx : Rd Ln.cs 4 w A n xs) (hy : Rd In.cs 10 w A2 n2 ls) (hz : ∀ f ∈ xs, lnok f) (hzl : ∀ f ∈ ls, inok f) :
    Calls Tryz.prog 5 #[.slice A n c, .slice A2 n2 c2, .int .i64 day] w fun e w' => e = .returned (.bool true) ∧ Below w.heap.size w w' := by
  have HFX := Lib.hid HF
  clear HF
  have hS := fun W (h : Below w.heap.size w W) => r6_small (c := c) W (hx.below h) hz
  have hS2 := fun W (h : Below w.heap.size w W) => r8_small (c := c2) W (hy.below h) hzl
  cases d1 : lsmall xs with
  | false =>
    rw [d1] at hS
    go_enter Tryz.func5, Tryz.ntmps5
    go_wp2_with (first | (go_at_call 14; (with_reducible refine (HFX.out w hg).mono ?_); rintro e w1 ⟨rfl, hb1⟩; obtain ⟨hc1, hf1⟩ := bcell hb1; have hs1 := hb1.size; (try simp at hs1)) | (go_at_call 12; (with_reducible refine (hS _ hb1).mono ?_); rintro e w2 ⟨rfl, hb2⟩; obtain ⟨hc2, hf2⟩ := bcell hb2; have hs2 := hb2.size; (try simp at hs2)) | (go_at_call 14; (with_reducible refine (HFX.out w2 (hg.below (by repeat (first | exact Below.refl _ _ | assumption | refine b_then ?_ (by assumption) | refine b_alloc ?_ _ | refine b_drewN ?_ _ | refine Below.drew ?_ | refine b_set ?_ (by first | exact Nat.le_refl _ | (simp; done) | (simp; omega) | omega) _)))).mono ?_); rintro e w3 ⟨rfl, hb3⟩; obtain ⟨hc3, hf3⟩ := bcell hb3; have hs3 := hb3.size; (try simp at hs3)))
    go_ret
    exact ⟨rfl, (by repeat (first | exact Below.refl _ _ | assumption | refine b_then ?_ (by assumption) | refine b_alloc ?_ _ | refine b_drewN ?_ _ | refine Below.drew ?_ | refine b_set ?_ (by first | exact Nat.le_refl _ | (simp; done) | (simp; omega) | omega) _))⟩
  | true =>
  rw [d1] at hS
  cases d2 : ismall ls with
  | false =>
    rw [d2] at hS2
    go_enter Tryz.func5, Tryz.ntmps5
    go_wp2_with (first | (go_at_call 14; (with_reducible refine (HFX.out w hg).mono ?_); rintro e w1 ⟨rfl, hb1⟩; obtain ⟨hc1, hf1⟩ := bcell hb1; have hs1 := hb1.size; (try simp at hs1)) | (go_at_call 12; (with_reducible refine (hS _ hb1).mono ?_); rintro e w2 ⟨rfl, hb2⟩; obtain ⟨hc2, hf2⟩ := bcell hb2; have hs2 := hb2.size; (try simp at hs2)) | (go_at_call 13; (with_reducible refine (hS2 w2 (b_then hb1 hb2)).mono ?_); rintro e w3 ⟨rfl, hb3⟩; obtain ⟨hc3, hf3⟩ := bcell hb3; have hs3 := hb3.size; (try simp at hs3)) | (go_at_call 14; (with_reducible refine (HFX.out w3 (hg.below (by repeat (first | exact Below.refl _ _ | assumption | refine b_then ?_ (by assumption) | refine b_alloc ?_ _ | refine b_drewN ?_ _ | refine Below.drew ?_ | refine b_set ?_ (by first | exact Nat.le_refl _ | (simp; done) | (simp; omega) | omega) _)))).mono ?_); rintro e w4 ⟨rfl, hb4⟩; obtain ⟨hc4, hf4⟩ := bcell hb4; have hs4 := hb4.size; (try simp at hs4)))
    go_ret
    exact ⟨rfl, (by repeat (first | exact Below.refl _ _ | assumption | refine b_then ?_ (by assumption) | refine b_alloc ?_ _ | refine b_drewN ?_ _ | refine Below.drew ?_ | refine b_set ?_ (by first | exact Nat.le_refl _ | (simp; done) | (simp; omega) | omega) _))⟩
  | true =>
  rw [d2] at hS2
  obtain ⟨hxB, hxn⟩ := lsmall_B d1
  obtain ⟨hyB, hyn⟩ := ismall_B d2
  have hxl := hx.len
  have hyl := hy.len
  have hM := fun W (h : Below w.heap.size w W) => r6_may (c := c) W (hx.below h) (fun f hf => lnB_q (hxB f hf) (by omega))
  have hM2 := fun W (h : Below w.heap.size w W) => r8_may (c := c2) W (hy.below h) (by omega) (fun f hf => inB_mono (hyB f hf) (by omega))
  cases d3 : bmay xs with
  | false =>
    rw [d3] at hM
    clear d1 d2 d3 hxB hyB hxn hyn hxl hyl
    go_enter Tryz.func5, Tryz.ntmps5
    go_wp2_with (first | (go_at_call 14; (with_reducible refine (HFX.out w hg).mono ?_); rintro e w1 ⟨rfl, hb1⟩; obtain ⟨hc1, hf1⟩ := bcell hb1; have hs1 := hb1.size; (try simp at hs1)) | (go_at_call 12; (with_reducible refine (hS _ hb1).mono ?_); rintro e w2 ⟨rfl, hb2⟩; obtain ⟨hc2, hf2⟩ := bcell hb2; have hs2 := hb2.size; (try simp at hs2)) | (go_at_call 13; (with_reducible refine (hS2 w2 (b_then hb1 hb2)).mono ?_); rintro e w3 ⟨rfl, hb3⟩; obtain ⟨hc3, hf3⟩ := bcell hb3; have hs3 := hb3.size; (try simp at hs3)) | (go_at_call 26; (with_reducible refine (hM w3 (b_then (b_then hb1 hb2) hb3)).mono ?_); rintro e w4 ⟨rfl, hb4⟩; obtain ⟨hc4, hf4⟩ := bcell hb4; have hs4 := hb4.size; (try simp at hs4)) | (go_at_call 14; (with_reducible refine (HFX.out w4 (hg.below (by repeat (first | exact Below.refl _ _ | assumption | refine b_then ?_ (by assumption) | refine b_alloc ?_ _ | refine b_drewN ?_ _ | refine Below.drew ?_ | refine b_set ?_ (by first | exact Nat.le_refl _ | (simp; done) | (simp; omega) | omega) _)))).mono ?_); rintro e w5 ⟨rfl, hb5⟩; obtain ⟨hc5, hf5⟩ := bcell hb5; have hs5 := hb5.size; (try simp at hs5)))
    go_ret
    exact ⟨rfl, (by repeat (first | exact Below.refl _ _ | assumption | refine b_then ?_ (by assumption) | refine b_alloc ?_ _ | refine b_drewN ?_ _ | refine Below.drew ?_ | refine b_set ?_ (by first | exact Nat.le_refl _ | (simp; done) | (simp; omega) | omega) _))⟩
  | true =>
  rw [d3] at hM
  cases d4 : imay ls with
  | false =>
    rw [d4] at hM2
    clear d1 d2 d3 d4 hxB hyB hxn hyn hxl hyl
    go_enter Tryz.func5, Tryz.ntmps5
    go_wp2_with (first | (go_at_call 14; (with_reducible refine (HFX.out w hg).mono ?_); rintro e w1 ⟨rfl, hb1⟩; obtain ⟨hc1, hf1⟩ := bcell hb1; have hs1 := hb1.size; (try simp at hs1)) | (go_at_call 12; (with_reducible refine (hS _ hb1).mono ?_); rintro e w2 ⟨rfl, hb2⟩; obtain ⟨hc2, hf2⟩ := bcell hb2; have hs2 := hb2.size; (try simp at hs2)) | (go_at_call 13; (with_reducible refine (hS2 w2 (b_then hb1 hb2)).mono ?_); rintro e w3 ⟨rfl, hb3⟩; obtain ⟨hc3, hf3⟩ := bcell hb3; have hs3 := hb3.size; (try simp at hs3)) | (go_at_call 26; (with_reducible refine (hM w3 (b_then (b_then hb1 hb2) hb3)).mono ?_); rintro e w4 ⟨rfl, hb4⟩; obtain ⟨hc4, hf4⟩ := bcell hb4; have hs4 := hb4.size; (try simp at hs4)) | (go_at_call 21; (with_reducible refine (hM2 w4 (b_then (b_then (b_then hb1 hb2) hb3) hb4)).mono ?_); rintro e w5 ⟨rfl, hb5⟩; obtain ⟨hc5, hf5⟩ := bcell hb5; have hs5 := hb5.size; (try simp at hs5)) | (go_at_call 14; (with_reducible refine (HFX.out w5 (hg.below (by repeat (first | exact Below.refl _ _ | assumption | refine b_then ?_ (by assumption) | refine b_alloc ?_ _ | refine b_drewN ?_ _ | refine Below.drew ?_ | refine b_set ?_ (by first | exact Nat.le_refl _ | (simp; done) | (simp; omega) | omega) _)))).mono ?_); rintro e w6 ⟨rfl, hb6⟩; obtain ⟨hc6, hf6⟩ := bcell hb6; have hs6 := hb6.size; (try simp at hs6)))
    go_ret
    exact ⟨rfl, (by repeat (first | exact Below.refl _ _ | assumption | refine b_then ?_ (by assumption) | refine b_alloc ?_ _ | refine b_drewN ?_ _ | refine Below.drew ?_ | refine b_set ?_ (by first | exact Nat.le_refl _ | (simp; done) | (simp; omega) | omega) _))⟩
  | true =>
  rw [d4] at hM2
  obtain ⟨ys, rs, ds, hr⟩ : ∃ ys rs ds, irun xs ls day = (ys, rs, ds) := ⟨_, _, _, rfl⟩
  have hok := run_ok (b := xs) (J := 100) (n := n) (day := day) d3 (by omega) hxB (by omega) (l := ls) (fun x hx => inB_mono (hyB x hx) (by omega))
  have hsub := irun_sub xs day ls
  have hno := irun_none (b := xs) (day := day) (l := ls)
  rw [hr] at hok hsub hno
  dsimp only at hsub hno
  obtain ⟨o1, o2, o3, o4⟩ := hok
  dsimp only at o1 o2 o3 o4
  have hrm := imay_sub d4 hsub
  have hrB : ∀ x ∈ rs, inB 199 x := fun x hx => inB_mono (hyB x (hsub.subset hx)) (by omega)
  have hyB2 : ∀ f ∈ ys, lnB 100000 f := fun f hf => lnB_mono (o4 f hf) (by have : 4 * ls.length * 203 ≤ 4 * 40 * 203 := Nat.mul_le_mul_right _ (Nat.mul_le_mul_left _ (by omega)); omega)
  obtain ⟨m, hm⟩ : ∃ m, ys.length = m := ⟨_, rfl⟩
  obtain ⟨r, hrl⟩ : ∃ m, rs.length = m := ⟨_, rfl⟩
  obtain ⟨d, hd⟩ : ∃ m, ds.length = m := ⟨_, rfl⟩
  have hR1 : iRun xs ls day = ((ys, rs, ds), 0) := by rw [iRun_yes d3 d4, hr]
  have k1 := fun W (h : Below w.heap.size w W) => (p_run (c := c) (c2 := c2) day W (hg.below h) (hx.below h) (by omega) (fun f hf => lnB_mono (hxB f hf) (by omega)) (hy.below h) (by omega) (fun x hx => inB_mono (hyB x hx) (by omega))).mono fun e w' h => h.of hR1 hm hrl hd
  obtain ⟨zs, ts, es, hr2⟩ : ∃ zs ts es, irun ys rs day = (zs, ts, es) := ⟨_, _, _, rfl⟩
  obtain ⟨m2, hm2⟩ : ∃ m, zs.length = m := ⟨_, rfl⟩
  obtain ⟨r2, hrl2⟩ : ∃ m, ts.length = m := ⟨_, rfl⟩
  obtain ⟨d', hd2⟩ : ∃ m, es.length = m := ⟨_, rfl⟩
  have hR2 : iRun ys rs day = ((zs, ts, es), 0) := by rw [iRun_yes o1 hrm, hr2]
  have hcnt : r2 + d' = r := by
    have := (run_ok (b := ys) (J := 100000) (n := ys.length) (day := day) o1 (Nat.le_refl _) hyB2 (by omega) (l := rs) (fun x hx => inB_mono (hrB x hx) (by omega))).cnt
    rw [hr2] at this
    dsimp only at this
    omega
  have k2 : ∀ {B R : Option Addr} {u v : Nat} W, Below w.heap.size w W → Rd Ln.cs 4 W B m ys → Rd In.cs 10 W R r rs → Calls Tryz.prog 15 #[.slice B m u, .slice R r v, .int .i64 day] W fun e w' => ∃ B c R c2 D c3, e = .returned (.tuple #[.slice B m2 c, .slice R r2 c2, .slice D d' c3, .int .i64 0]) ∧ Rd Ln.cs 4 w' B m2 zs ∧ Rd In.cs 10 w' R r2 ts ∧ Rd iCs 1 w' D d' es ∧ Below W.heap.size W w' :=
    fun W h h1 h2 => (p_run day W (hg.below h) h1 (by omega) hyB2 h2 (by omega) hrB).mono fun e w' h => h.of hR2 hm2 hrl2 hd2
  have hcnt2 : (r2 : Int) + (d' : Int) = (r : Int) := by omega
  have hr40 : r ≤ 40 := by have := hsub.length_le; omega
  have hwr : wrap64 (r : Int) = (r : Int) := by unfold wrap64; omega
  by_cases hd0 : 0 < d
  · have hd1 : ¬ d = 0 := by omega
    clear hno d1 d2 d3 d4 hxB hyB hxn hyn hxl hyl hr hm hrl hd hR1 hR2 hsub o1 o2 o3 o4 hrm hrB hyB2 hr2 hm2 hrl2 hd2
    go_enter Tryz.func5, Tryz.ntmps5
    go_wp2_with (first
      | (go_at_call 14; (with_reducible refine (HFX.out w hg).mono ?_); rintro e w1 ⟨rfl, hb1⟩; obtain ⟨hc1, hf1⟩ := bcell hb1; have hs1 := hb1.size; (try simp at hs1))
      | (go_at_call 12; (with_reducible refine (hS _ hb1).mono ?_); rintro e w2 ⟨rfl, hb2⟩; obtain ⟨hc2, hf2⟩ := bcell hb2; have hs2 := hb2.size; (try simp at hs2))
      | (go_at_call 13; (with_reducible refine (hS2 w2 (b_then hb1 hb2)).mono ?_); rintro e w3 ⟨rfl, hb3⟩; obtain ⟨hc3, hf3⟩ := bcell hb3; have hs3 := hb3.size; (try simp at hs3))
      | (go_at_call 26; (with_reducible refine (hM w3 (b_then (b_then hb1 hb2) hb3)).mono ?_); rintro e w4 ⟨rfl, hb4⟩; obtain ⟨hc4, hf4⟩ := bcell hb4; have hs4 := hb4.size; (try simp at hs4))
      | (go_at_call 21; (with_reducible refine (hM2 w4 (b_then (b_then (b_then hb1 hb2) hb3) hb4)).mono ?_); rintro e w5 ⟨rfl, hb5⟩; obtain ⟨hc5, hf5⟩ := bcell hb5; have hs5 := hb5.size; (try simp at hs5))
      | (go_at_call 15; (with_reducible refine (k2 w6 (b_then (b_then (b_then (b_then (b_then hb1 hb2) hb3) hb4) hb5) hb6) Q6 T6).mono ?_); rintro e w7 ⟨B7, c7, D7, d7, E7, e7, rfl, Q7, T7, U7, hb7⟩)
      | (go_at_call 15; (with_reducible refine (k1 w5 (b_then (b_then (b_then (b_then hb1 hb2) hb3) hb4) hb5)).mono ?_); rintro e w6 ⟨B6, c6, D6, d6, E6, e6, rfl, Q6, T6, U6, hb6⟩))
    go_ret
    exact ⟨ret_bool (by simp), b_then (b_then (b_then (b_then (b_then (b_then hb1 hb2) hb3) hb4) hb5) hb6) hb7⟩
  · have hds : ds = [] := List.length_eq_zero_iff.1 (by omega)
    have h0 := hno hds
    injection h0 with e1 h0
    injection h0 with e2 e3
    subst e1; subst e2
    rw [hr] at hr2
    injection hr2 with e4 h0
    injection h0 with e5 e6
    subst e4; subst e5; subst e6
    have hd1 : 0 = d := by omega
    have hd2' : 0 = d' := by omega
    have hmn : n = m := by omega
    have hmn2 : n = m2 := by omega
    have hrn : n2 = r := by omega
    have hrn2 : n2 = r2 := by omega
    clear hm hm2 hrl hrl2 hd hd2 hcnt hcnt2
    subst hmn; subst hmn2; subst hrn; subst hrn2; subst hd1; subst hd2'
    have hsm1 : ∀ {B : Option Addr} {u : Nat} W (h : Below w.heap.size w W), Rd Ln.cs 4 W B n ys → Calls Tryz.prog 17 #[.slice B n u, .slice A n c] W fun e w' => e = .returned (.bool true) ∧ Below W.heap.size W w' := fun W h hr => (r6_same W hr (hx.below h)).mono fun e w' he => ⟨by rw [he.1, decide_eq_true rfl], he.2⟩
    have hsm2 : ∀ {B : Option Addr} {u : Nat} W (h : Below w.heap.size w W), Rd In.cs 10 W B n2 rs → Calls Tryz.prog 22 #[.slice B n2 u, .slice A2 n2 c2] W fun e w' => e = .returned (.bool true) ∧ Below W.heap.size W w' := fun W h hr => (r8_same W hr (hy.below h)).mono fun e w' he => ⟨by rw [he.1, decide_eq_true rfl], he.2⟩
    clear hno d1 d2 d3 d4 hxB hyB hxn hyn hxl hyl hr hR1 hR2 hsub o1 o2 o3 o4 hrm hrB hyB2 hds
    go_enter Tryz.func5, Tryz.ntmps5
    go_wp2_with (first
      | (go_at_call 14; (with_reducible refine (HFX.out w hg).mono ?_); rintro e w1 ⟨rfl, hb1⟩; obtain ⟨hc1, hf1⟩ := bcell hb1; have hs1 := hb1.size; (try simp at hs1))
      | (go_at_call 12; (with_reducible refine (hS _ hb1).mono ?_); rintro e w2 ⟨rfl, hb2⟩; obtain ⟨hc2, hf2⟩ := bcell hb2; have hs2 := hb2.size; (try simp at hs2))
      | (go_at_call 13; (with_reducible refine (hS2 w2 (b_then hb1 hb2)).mono ?_); rintro e w3 ⟨rfl, hb3⟩; obtain ⟨hc3, hf3⟩ := bcell hb3; have hs3 := hb3.size; (try simp at hs3))
      | (go_at_call 26; (with_reducible refine (hM w3 (b_then (b_then hb1 hb2) hb3)).mono ?_); rintro e w4 ⟨rfl, hb4⟩; obtain ⟨hc4, hf4⟩ := bcell hb4; have hs4 := hb4.size; (try simp at hs4))
      | (go_at_call 21; (with_reducible refine (hM2 w4 (b_then (b_then (b_then hb1 hb2) hb3) hb4)).mono ?_); rintro e w5 ⟨rfl, hb5⟩; obtain ⟨hc5, hf5⟩ := bcell hb5; have hs5 := hb5.size; (try simp at hs5))
      | (go_at_call 15; (with_reducible refine (k2 w6 hB6 Q6 T6).mono ?_); rintro e w7 ⟨B7, c7, D7, d7, E7, e7, rfl, Q7, T7, U7, hb7⟩; have hB7 := b_then hB6 hb7; have Q67 := Q6.below hb7)
      | (go_at_call 15; (with_reducible refine (k1 w5 (b_then (b_then (b_then (b_then hb1 hb2) hb3) hb4) hb5)).mono ?_); rintro e w6 ⟨B6, c6, D6, d6, E6, e6, rfl, Q6, T6, U6, hb6⟩; have hB6 := b_then (b_then (b_then (b_then (b_then hb1 hb2) hb3) hb4) hb5) hb6)
      | (go_at_call 17; (with_reducible refine (hsm1 w8 (b_then hB7 hb8) (Q7.below hb8)).mono ?_); rintro e w9 ⟨rfl, hb9⟩)
      | (go_at_call 17; (with_reducible refine (hsm1 w7 hB7 Q67).mono ?_); rintro e w8 ⟨rfl, hb8⟩)
      | (go_at_call 22; (with_reducible refine (hsm2 w9 (b_then (b_then hB7 hb8) hb9) ((T7.below hb8).below hb9)).mono ?_); rintro e w10 ⟨rfl, hb10⟩))
    go_ret
    exact ⟨ret_bool (by simp), b_then (b_then (b_then hB7 hb8) hb9) hb10⟩
end Go.Proofs.YtjdkbmlkplbmoaaGreatDoor
