/- PostKeeps: the walk (given the fixed calls). -/
import Derived.Test.YtpoejheienohjaaGreatDoorPoK
namespace Go.Proofs.YtpoejheienohjaaGreatDoor
open Go.RowKit
set_option linter.unusedVariables false
set_option linter.unusedSimpArgs false

theorem dpost_take {l : List Ln} {k : Nat} {x : Ln} (s a : ByteArray) (hx : l[k]? = some x) : dpost (l.take (k + 1)) s a = dpost (l.take k) s a + if s = x.acct ∧ a = x.asset then dec x.q else 0 := by
  unfold dpost
  rw [List.take_add_one, hx, List.filter_append, dsum_append]
  congr 1
  have := dpost_cons x [] s a
  rw [dpost_nil, Rat.add_zero] at this
  exact this
/-- What is wanted, so far. -/
def wantI (xs ls : List Ln) (s a : ByteArray) (j : Nat) (z : Rat) : Prop := z = dec (bgetL xs s a) + dpost (ls.take j) s a ∧ rsmall (100 + j * 101) z
theorem wantI_zero {xs ls : List Ln} {s a : ByteArray} {p : Rat} (hp : bgetL xs s a = enc p) (hs : rsmall 100 p) : wantI xs ls s a 0 p :=
  ⟨by rw [hp, dec_enc, List.take_zero, dpost_nil, Rat.add_zero], hs⟩
theorem wantI_yes {xs ls : List Ln} {s a : ByteArray} {j : Nat} {z q : Rat} {x : Ln} (h : wantI xs ls s a j z) (hx : ls[j]? = some x) (hs : s = x.acct) (ha : a = x.asset) (hq : dec x.q = q) (hqs : rsmall 100 q) : wantI xs ls s a (j + 1) (z + q) :=
  ⟨by rw [dpost_take s a hx, if_pos ⟨hs, ha⟩, hq, h.1, Rat.add_assoc], rsmall_mono (rsmall_add h.2 hqs) (by omega)⟩
theorem wantI_no {xs ls : List Ln} {s a : ByteArray} {j : Nat} {z : Rat} {x : Ln} (h : wantI xs ls s a j z) (hx : ls[j]? = some x) (hn : ¬ (s = x.acct ∧ a = x.asset)) : wantI xs ls s a (j + 1) z :=
  ⟨by rw [dpost_take s a hx, if_neg hn, Rat.add_zero, h.1], rsmall_mono h.2 (by omega)⟩
theorem wantI_end {xs ls ys : List Ln} {s a : ByteArray} {z : Rat} (h : wantI xs ls s a ls.length z) (hm : bmay xs = true) (hl : ∀ x ∈ ls, lone x = true) (hy : bposts xs ls = ys) : bgetL ys s a = enc z := by
  rw [← hy, posts_get s a hm hl, h.1, List.take_length]
theorem lbal_zero {ls : List Ln} (h : lbal ls = true) {x : Ln} (hx : x ∈ ls) : dtot ls x.asset = 0 := by
  unfold lbal at h
  rw [Bool.and_eq_true] at h
  have := List.all_eq_true.1 h.2 x hx
  exact of_decide_eq_true this
theorem keeps_total {xs ls ys : List Ln} (hm : bmay xs = true) (hb : lbal ls = true) (hy : bposts xs ls = ys) {x : Ln} (hx : x ∈ ls) : btotal ys x.asset = btotal xs x.asset := by
  have hl := lbal_lone hb
  rw [← hy, btotal_enc (posts_may hm hl), btotal_enc hm, posts_tot _ hm hl, lbal_zero hb hx, Rat.add_zero]
/-- What papply gives where all is right. -/
theorem papply_ok {xs ls ys : List Ln} {cov : Bool} (h : papply xs ls cov = (ys, 0)) : bmay xs = true ∧ lbal ls = true ∧ bposts xs ls = ys ∧ (cov = true → ∀ x ∈ ls, pshort xs ys x = false) := by
  unfold papply at h
  split at h
  · rename_i h1
    split at h
    · rename_i h2
      split at h
      · cases h
      · rename_i h3
        have e : bposts xs ls = ys := congrArg Prod.fst h
        refine ⟨h1, h2, e, fun hc x hx => ?_⟩
        rw [hc, Bool.true_and, e] at h3
        rw [← Bool.not_eq_true]
        intro hh
        exact h3 (List.any_eq_true.2 ⟨x, hx, hh⟩)
    · cases h
  · cases h
theorem papply_bad {xs ls : List Ln} {cov : Bool} (h : (papply xs ls cov).2 ≠ 0) (hm : bmay xs = true) : papply xs ls cov = ([], 70) ∨ (cov = true ∧ papply xs ls cov = ([], 71)) := by
  unfold papply at h ⊢
  rw [if_pos hm] at h ⊢
  split
  · rename_i h2
    rw [if_pos h2] at h
    split
    · rename_i h3
      right
      rw [Bool.and_eq_true] at h3
      exact ⟨h3.1, rfl⟩
    · rename_i h3
      rw [if_neg h3] at h
      exact absurd rfl h
  · exact .inl rfl
theorem short_neg {z p : Rat} (h : (!false && (decide (z < 0) && decide (z < p))) = false) (hz : z < 0) : p < 0 := by
  simp [hz] at h
  grind
set_option maxRecDepth 100000 in
set_option maxHeartbeats 4000000 in
theorem l_keeps (HF : Fixed7Ok) {A A2 : Option Addr} {n c n2 c2 : Nat} {xs ls : List Ln} (cov : Bool) (w : World) (hg : Glob w) (hx : Rd Ln.cs 4 w A n xs) (hy : Rd Ln.cs 4 w A2 n2 ls) (hz : ∀ f ∈ xs, lnok f) (hzl : ∀ f ∈ ls, lnok f) :
    Calls Tryz.prog 12 #[.slice A n c, .slice A2 n2 c2, .bool cov] w fun e w' => e = .returned (.bool true) ∧ Below w.heap.size w w' := by
  have HFX := Lib.hid HF
  clear HF
  have hS := fun W (h : Below w.heap.size w W) => r6_small (c := c) W (hx.below h) hz
  have hS2 := fun W (h : Below w.heap.size w W) => r6_small (c := c2) W (hy.below h) hzl
  cases c1 : lsmall xs with
  | false =>
    rw [c1] at hS
    go_enter Tryz.func12, Tryz.ntmps12
    go_wp2_with (first | (go_at_call 46; (with_reducible refine (HFX.out w hg).mono ?_); rintro e w1 ⟨rfl, hb1⟩; obtain ⟨hc1, hf1⟩ := bcell hb1; have hs1 := hb1.size; (try simp at hs1)) | (go_at_call 28; (with_reducible refine (hS _ hb1).mono ?_); rintro e w2 ⟨rfl, hb2⟩; obtain ⟨hc2, hf2⟩ := bcell hb2; have hs2 := hb2.size; (try simp at hs2)) | (go_at_call 46; (with_reducible refine (HFX.out w2 (hg.below (by repeat (first | exact Below.refl _ _ | assumption | refine b_then ?_ (by assumption) | refine b_alloc ?_ _ | refine b_drewN ?_ _ | refine Below.drew ?_ | refine b_set ?_ (by first | exact Nat.le_refl _ | (simp; done) | (simp; omega) | omega) _)))).mono ?_); rintro e w3 ⟨rfl, hb3⟩; obtain ⟨hc3, hf3⟩ := bcell hb3; have hs3 := hb3.size; (try simp at hs3)))
    go_ret
    exact ⟨rfl, (by repeat (first | exact Below.refl _ _ | assumption | refine b_then ?_ (by assumption) | refine b_alloc ?_ _ | refine b_drewN ?_ _ | refine Below.drew ?_ | refine b_set ?_ (by first | exact Nat.le_refl _ | (simp; done) | (simp; omega) | omega) _))⟩
  | true =>
  rw [c1] at hS
  cases c2' : lsmall ls with
  | false =>
    rw [c2'] at hS2
    go_enter Tryz.func12, Tryz.ntmps12
    go_wp2_with (first | (go_at_call 46; (with_reducible refine (HFX.out w hg).mono ?_); rintro e w1 ⟨rfl, hb1⟩; obtain ⟨hc1, hf1⟩ := bcell hb1; have hs1 := hb1.size; (try simp at hs1)) | (go_at_call 28; (with_reducible refine (hS _ hb1).mono ?_); rintro e w2 ⟨rfl, hb2⟩; obtain ⟨hc2, hf2⟩ := bcell hb2; have hs2 := hb2.size; (try simp at hs2)) | (go_at_call 28; (with_reducible refine (hS2 w2 (b_then hb1 hb2)).mono ?_); rintro e w3 ⟨rfl, hb3⟩; obtain ⟨hc3, hf3⟩ := bcell hb3; have hs3 := hb3.size; (try simp at hs3)) | (go_at_call 46; (with_reducible refine (HFX.out w3 (hg.below (by repeat (first | exact Below.refl _ _ | assumption | refine b_then ?_ (by assumption) | refine b_alloc ?_ _ | refine b_drewN ?_ _ | refine Below.drew ?_ | refine b_set ?_ (by first | exact Nat.le_refl _ | (simp; done) | (simp; omega) | omega) _)))).mono ?_); rintro e w4 ⟨rfl, hb4⟩; obtain ⟨hc4, hf4⟩ := bcell hb4; have hs4 := hb4.size; (try simp at hs4)))
    go_ret
    exact ⟨rfl, (by repeat (first | exact Below.refl _ _ | assumption | refine b_then ?_ (by assumption) | refine b_alloc ?_ _ | refine b_drewN ?_ _ | refine Below.drew ?_ | refine b_set ?_ (by first | exact Nat.le_refl _ | (simp; done) | (simp; omega) | omega) _))⟩
  | true =>
  rw [c2'] at hS2
  obtain ⟨hxB, hxn⟩ := lsmall_B c1
  obtain ⟨hyB, hyn⟩ := lsmall_B c2'
  have hM := fun W (h : Below w.heap.size w W) => r6_may (c := c) W (hx.below h) (fun f hf => lnB_q (hxB f hf) (by omega))
  cases c3 : bmay xs with
  | false =>
    rw [c3] at hM
    clear c1 c2' hxB hyB hxn hyn c3
    go_enter Tryz.func12, Tryz.ntmps12
    go_wp2_with (first | (go_at_call 46; (with_reducible refine (HFX.out w hg).mono ?_); rintro e w1 ⟨rfl, hb1⟩; obtain ⟨hc1, hf1⟩ := bcell hb1; have hs1 := hb1.size; (try simp at hs1)) | (go_at_call 28; (with_reducible refine (hS _ hb1).mono ?_); rintro e w2 ⟨rfl, hb2⟩; obtain ⟨hc2, hf2⟩ := bcell hb2; have hs2 := hb2.size; (try simp at hs2)) | (go_at_call 28; (with_reducible refine (hS2 w2 (b_then hb1 hb2)).mono ?_); rintro e w3 ⟨rfl, hb3⟩; obtain ⟨hc3, hf3⟩ := bcell hb3; have hs3 := hb3.size; (try simp at hs3)) | (go_at_call 34; (with_reducible refine (hM _ (b_then (b_then hb1 hb2) hb3)).mono ?_); rintro e w4 ⟨rfl, hb4⟩; obtain ⟨hc4, hf4⟩ := bcell hb4; have hs4 := hb4.size; (try simp at hs4)) | (go_at_call 46; (with_reducible refine (HFX.out w4 (hg.below (by repeat (first | exact Below.refl _ _ | assumption | refine b_then ?_ (by assumption) | refine b_alloc ?_ _ | refine b_drewN ?_ _ | refine Below.drew ?_ | refine b_set ?_ (by first | exact Nat.le_refl _ | (simp; done) | (simp; omega) | omega) _)))).mono ?_); rintro e w5 ⟨rfl, hb5⟩; obtain ⟨hc5, hf5⟩ := bcell hb5; have hs5 := hb5.size; (try simp at hs5)))
    go_ret
    exact ⟨rfl, (by repeat (first | exact Below.refl _ _ | assumption | refine b_then ?_ (by assumption) | refine b_alloc ?_ _ | refine b_drewN ?_ _ | refine Below.drew ?_ | refine b_set ?_ (by first | exact Nat.le_refl _ | (simp; done) | (simp; omega) | omega) _))⟩
  | true =>
  rw [c3] at hM
  have hxl := hx.len
  have hyl := hy.len
  have hn2 : n2 ≤ 40 := by omega
  have hn40 : n ≤ 40 := by omega
  have KA : ∀ {ys : List Ln} {z : Int} {m : Nat} W, Below w.heap.size w W → papply xs ls cov = (ys, z) → ys.length = m → Calls Tryz.prog 47 #[.slice A n c, .slice A2 n2 c2, .bool cov] W fun e w' => ∃ B k, e = .returned (.tuple #[.slice B m k, .int .i64 z]) ∧ Rd Ln.cs 4 w' B m ys ∧ Below W.heap.size W w' := fun W hW hp hm => (p_apply (c := c) (c2 := c2) cov W (hg.below hW) (hx.below hW) (by omega) (fun f hf => lnB_mono (hxB f hf) (by omega)) (hy.below hW) (by omega) (fun f hf => lnB_mono (hyB f hf) (by omega))).mono fun e w' h => h.of hp hm
  by_cases c4 : (papply xs ls cov).2 = 0
  case neg =>
    have hbad := papply_bad c4 c3
    rcases hbad with hbad | ⟨rfl, hbad⟩
    all_goals
      have hA := fun W hW => KA (m := 0) W hW hbad rfl
      clear c1 c2' hxB hyB hxn hyn c3 c4 hbad KA hxl hyl
      go_enter Tryz.func12, Tryz.ntmps12
      go_wp2_with (first
        | (go_at_call 46; (with_reducible refine (HFX.out w hg).mono ?_); rintro e w1 ⟨rfl, hb1⟩; obtain ⟨hc1, hf1⟩ := bcell hb1; have hs1 := hb1.size; (try simp at hs1))
        | (go_at_call 28; (with_reducible refine (hS _ hb1).mono ?_); rintro e w2 ⟨rfl, hb2⟩; obtain ⟨hc2, hf2⟩ := bcell hb2; have hs2 := hb2.size; (try simp at hs2))
        | (go_at_call 28; (with_reducible refine (hS2 w2 (b_then hb1 hb2)).mono ?_); rintro e w3 ⟨rfl, hb3⟩; obtain ⟨hc3, hf3⟩ := bcell hb3; have hs3 := hb3.size; (try simp at hs3))
        | (go_at_call 34; (with_reducible refine (hM _ (b_then (b_then hb1 hb2) hb3)).mono ?_); rintro e w4 ⟨rfl, hb4⟩; obtain ⟨hc4, hf4⟩ := bcell hb4; have hs4 := hb4.size; (try simp at hs4))
        | (go_at_call 47; (with_reducible refine (hA w4 (b_then (b_then (b_then hb1 hb2) hb3) hb4)).mono ?_); rintro e w5 ⟨B5, k5, rfl, R5, hb5⟩))
      go_ret
      exact ⟨ret_bool (by simp), (by repeat (first | exact Below.refl _ _ | assumption | refine b_then ?_ (by assumption) | refine b_alloc ?_ _ | refine b_drewN ?_ _ | refine Below.drew ?_ | refine b_set ?_ (by first | exact Nat.le_refl _ | (simp; done) | (simp; omega) | omega) _))⟩
  case pos =>
    obtain ⟨ys, hys⟩ : ∃ ys, (papply xs ls cov).1 = ys := ⟨_, rfl⟩
    have hp : papply xs ls cov = (ys, 0) := by rw [← hys, ← c4]
    obtain ⟨m, hm⟩ : ∃ m, ys.length = m := ⟨_, rfl⟩
    have hA := fun W hW => KA (m := m) W hW hp hm
    obtain ⟨_, hbal, hpo, hsh⟩ := papply_ok hp
    have hlo := lbal_lone hbal
    have hmy : bmay ys = true := by rw [← hpo]; exact posts_may c3 hlo
    have hyz : ∀ f ∈ ys, lnB 60000 f := fun f hf => lnB_mono (posts_B (k := 100) (l := ls) c3 hlo hxB (by omega) hyB f (by rw [hpo]; exact hf)) (by have : ls.length * 102 ≤ 40 * 102 := Nat.mul_le_mul_right _ hyn; omega)
    have hml : m ≤ 200 := by have := posts_len (l := ls) c3 hlo; rw [hpo] at this; omega
    have HC3 := Lib.hid c3
    have HBAL := Lib.hid hbal
    have HPO := Lib.hid hpo
    have HSH := Lib.hid hsh
    have HLO := Lib.hid hlo
    have HMY := Lib.hid hmy
    have HYZ := Lib.hid hyz
    have HXB := Lib.hid hxB
    have HYB := Lib.hid hyB
    have HYL := Lib.hid hyl
    have KM := Lib.hid (fun W (h : Below w.heap.size w W) {B : Option Addr} {k : Nat} (hr : Rd Ln.cs 4 W B m ys) => ((r6_may (c := k) W hr (fun f hf => lnB_q (hyz f hf) (by omega))).mono fun e w' he => ⟨by rw [he.1, hmy], he.2⟩ : Calls Tryz.prog 34 #[.slice B m k] W fun e w' => e = .returned (.bool true) ∧ Below W.heap.size W w'))
    clear c1 c2' hxB hyB hxn hyn c3 c4 KA hxl hyl hys hp hbal hpo hsh hlo hmy hyz hm
    go_enter Tryz.func12, Tryz.ntmps12
    go_wp2_with (first
      | (go_at_call 46; (with_reducible refine (HFX.out w hg).mono ?_); rintro e w1 ⟨rfl, hb1⟩; obtain ⟨hc1, hf1⟩ := bcell hb1; have hs1 := hb1.size; (try simp at hs1))
      | (go_at_call 28; (with_reducible refine (hS _ hb1).mono ?_); rintro e w2 ⟨rfl, hb2⟩; obtain ⟨hc2, hf2⟩ := bcell hb2; have hs2 := hb2.size; (try simp at hs2))
      | (go_at_call 28; (with_reducible refine (hS2 w2 (b_then hb1 hb2)).mono ?_); rintro e w3 ⟨rfl, hb3⟩; obtain ⟨hc3, hf3⟩ := bcell hb3; have hs3 := hb3.size; (try simp at hs3))
      | (go_at_call 34; (with_reducible refine (hM _ (b_then (b_then hb1 hb2) hb3)).mono ?_); rintro e w4 ⟨rfl, hb4⟩; obtain ⟨hc4, hf4⟩ := bcell hb4; have hs4 := hb4.size; (try simp at hs4))
      | (go_at_call 47; (with_reducible refine (hA w4 (b_then (b_then (b_then hb1 hb2) hb3) hb4)).mono ?_); rintro e w5 ⟨B5, k5, rfl, R5, hb5⟩))
    have hB5 := b_then (b_then (b_then (b_then hb1 hb2) hb3) hb4) hb5
    clear hA hb1 hb2 hb3 hb4 hb5 hc1 hc2 hc3 hc4 hf1 hf2 hf3 hf4 hs1 hs2 hs3 hs4 hS hS2 hM
    go_loopw [9] (fun i wr => ∃ k : Nat, k ≤ n2 ∧ i = .int .i64 (k : Nat) ∧ Rd Ln.cs 4 wr B5 m ys ∧ Below w.heap.size w wr) (fun i _ => n2 - (intOf i).toNat)
    case atStart => exact ⟨0, Nat.zero_le _, rfl, R5, hB5⟩
    case round =>
      clear R5 hB5
      obtain ⟨k, hk, rfl, R5, hB⟩ := hrel
      by_cases hlt : k < n2
      · obtain ⟨ad, a0, a1, a2, a3, rfl, hxk, hl⟩ := ln_in hy hB hlt
        obtain ⟨p, hp, hps⟩ := get_rat HXB.out (by omega) HC3.out a0 a1
        have hGb : ∀ W, Below w.heap.size w W → Calls Tryz.prog 38 #[.slice A n c, .string a0, .string a1] W fun e w' => e = .returned (.agg #[.string (iS p.num), .string (nS p.den)]) ∧ Below W.heap.size W w' := fun W hW => by
          have := r6_get (c := c) a0 a1 W (hx.below hW) (fun f hf => lnB_q (HXB.out f hf) (by omega))
          rw [bget_yes HC3.out, hp] at this
          exact this
        have hW0 : Hid (wantI xs ls a0 a1 0 p) := wantI_zero hp hps
        have hy0 := fun (x : After _) (y : After x.W) => (hl y.W (b_then x.h y.h)).c0
        have hy1 := fun (x : After _) (y : After x.W) => (hl y.W (b_then x.h y.h)).c1
        have HX := Lib.hid hxk
        have HP := Lib.hid hp
        have HL := Lib.hid hl
        clear hxk hp hl
        go_wp2
        (refine wp_region_boxed (T := 24) (A := ?boxA6) (u1 := .string ?boxU6) (u2 := .string ?boxV6) (z1 := .string ⟨#[]⟩) (z2 := .string ⟨#[]⟩) 12 13 11 10 71 (by kernel_rfl) (fun g => by kernel_rfl) (fun g x => ?boxH6) ⟨by kernel_rfl, by kernel_rfl, ⟨_, rfl, rfl, rfl, fun a W => run_alloc_rat rfl⟩, ⟨_, rfl, rfl, rfl, fun a W g h1 h2 hB => run_store_rat rfl h1 h2 hB⟩, ⟨_, rfl, rfl⟩, by kernel_rfl, by kernel_rfl, by decide, ?box16, ?box26, ?box36, ?box46⟩ (by decide) (by decide); (case boxH6 => (simp only [boxed, List.modify_succ_cons, List.modify_zero_cons, repA, repS]; (have hxs := x.h.size); (try simp at hxs); (repeat (first | go_big_quiet_skip | (go_big_quiet_want; go_big_quiet_op; first | go_big_quiet_on | (apply Exists.intro; refine ⟨fun _ => ?_, ?_⟩; (focus ((go_at_call 38; with_reducible exact Calls.after (hGb _ (b_then hB (b_then x.h (After.h _))))))); go_big_quiet_on)))); refine wpQuiet_nil ?_; rfl)); (case box16 => exact fun g => rfl); (case box26 => first | decide | simp); (case box36 => intro g; first | rfl | (simp only [List.getElem?_toArray, List.getElem?_cons_succ, List.getElem?_cons_zero]; rfl) | (simp; exact ⟨rfl, rfl⟩)); rintro g6 w6 hg6 hb6 D6; (try dsimp only); obtain ⟨hc6, hf6⟩ := bcell hb6; have hs6 := hb6.size; (try simp at hs6))
        go_wp2
        go_loopw [11] (fun i wr' => ∃ (j : Nat) (z : Rat), j ≤ n2 ∧ i = .int .i64 (j : Nat) ∧ Hid (wantI xs ls a0 a1 j z) ∧ Blk wr' g6 24 #[.string (iS z.num), .string (nS z.den)] ∧ Below wr.heap.size wr wr') (fun i _ => n2 - (intOf i).toNat)
        case atStart => exact ⟨0, p, Nat.zero_le _, rfl, hW0, D6, hb6⟩
        case round =>
          clear D6 hb6 hc6 hf6 hs6 hW0 hy0 hy1
          obtain ⟨j, z, hj, rfl, HW, D6, hBo⟩ := hrel
          have hBi := b_then hB hBo
          have hg6l := D6.lt
          by_cases hlt2 : j < n2
          · obtain ⟨ad2, b0, b1, b2, b3, e2, hxj, hlj⟩ := ln_in hy hBi hlt2
            injection e2 with e2
            subst e2
            have hmemj := List.mem_of_getElem? hxj
            obtain ⟨q, hq, hqd, hqs⟩ := rat_of (x := ⟨b2, b3⟩) (lone_of (HLO.out _ hmemj)).2.2 (HYB.out _ hmemj).2.2.1 (HYB.out _ hmemj).2.2.2
            injection hq with q1 q2
            subst q1; subst q2
            have hA := fun W => r3_add z q W (rsmall_mono HW.out.2 (by omega)) (rsmall_mono hqs (by omega))
            simp only [enc_v] at hA
            have HXJ := Lib.hid hxj
            have HQD := Lib.hid hqd
            have HQS := Lib.hid hqs
            have hy0 := fun y : After wr => (hlj y.W y.h).c0
            have hy1 := fun y : After wr => (hlj y.W y.h).c1
            have hx0 := fun y : After wr => (HL.out y.W (b_then hBo y.h)).c0
            have hx1 := fun y : After wr => (HL.out y.W (b_then hBo y.h)).c1
            have HLJ := Lib.hid hlj
            clear hxj hqd hqs hlj hmemj
            cases e0 : (b0.toList == a0.toList) with
            | false =>
              have HS := Lib.hid (wantI_no HW.out HXJ.out (fun e => by have e' : a0 = b0 := e.1; rw [e'] at e0; simp at e0))
              go_wp2
              (refine wp_region_after (by kernel_rfl) (by kernel_rfl) ?_; (repeat (first | go_big_quiet_skip | (go_big_quiet_want; go_big_quiet_op; first | go_big_quiet_on | (apply Exists.intro; refine ⟨fun _ => ?_, ?_⟩; (focus (fail)); go_big_quiet_on)))); refine wpQuiet_nil ?_; rintro w7 ⟨⟨_, hb7⟩, rfl⟩; (try dsimp only); obtain ⟨hc7, hf7⟩ := bcell hb7; have hs7 := hb7.size; (try simp at hs7))
              go_wp2
              go_roundw
              case rel => exact ⟨j + 1, z, by omega, by go_num, HS.out, D6.below hb7, b_then hBo hb7⟩
              case measure => simp [intOf]; omega
            | true =>
            cases e1 : (b1.toList == a1.toList) with
            | false =>
              have HS := Lib.hid (wantI_no HW.out HXJ.out (fun e => by have e' : a1 = b1 := e.2; rw [e'] at e1; simp at e1))
              go_wp2
              (refine wp_region_after (by kernel_rfl) (by kernel_rfl) ?_; (repeat (first | go_big_quiet_skip | (go_big_quiet_want; go_big_quiet_op; first | go_big_quiet_on | (apply Exists.intro; refine ⟨fun _ => ?_, ?_⟩; (focus (fail)); go_big_quiet_on)))); refine wpQuiet_nil ?_; rintro w7 ⟨⟨_, hb7⟩, rfl⟩; (try dsimp only); obtain ⟨hc7, hf7⟩ := bcell hb7; have hs7 := hb7.size; (try simp at hs7))
              go_wp2
              go_roundw
              case rel => exact ⟨j + 1, z, by omega, by go_num, HS.out, D6.below hb7, b_then hBo hb7⟩
              case measure => simp [intOf]; omega
            | true =>
              have HS := Lib.hid (wantI_yes HW.out HXJ.out (s_eq.2 (beq_iff_eq.1 e0)).symm (s_eq.2 (beq_iff_eq.1 e1)).symm HQD.out HQS.out)
              go_wp2
              (refine wp_region_after (by kernel_rfl) (by kernel_rfl) ?_; (repeat (first | go_big_quiet_skip | (go_big_quiet_want; go_big_quiet_op; first | go_big_quiet_on | (apply Exists.intro; refine ⟨fun _ => ?_, ?_⟩; (focus (fail)); go_big_quiet_on)))); refine wpQuiet_nil ?_; rintro w7 ⟨⟨_, hb7⟩, rfl⟩; (try dsimp only); obtain ⟨hc7, hf7⟩ := bcell hb7; have hs7 := hb7.size; (try simp at hs7))
              have D7 := D6.below hb7
              have hz0 := fun y : After w7 => (D7.below y.h).two.1
              have hz1 := fun y : After w7 => (D7.below y.h).two.2.1
              have hy2 := fun y : After w7 => (HLJ.out y.W (b_then hb7 y.h)).c2
              have hy4 := fun y : After w7 => (HLJ.out y.W (b_then hb7 y.h)).c4
              obtain ⟨d0, d1, d2, d3⟩ := D6.two
              have hg7l := D7.lt
              generalize hzz : z + q = z2 at *
              clear hzz
              go_wp2
              (refine wp_region_ahead 7 (by kernel_rfl) (by kernel_rfl) ?_; simp only [List.take_succ_cons, List.take_zero, List.drop_succ_cons, List.drop_zero]; (repeat (first | go_big_quiet_skip | (go_big_quiet_want; go_big_quiet_op; first | go_big_quiet_on | (apply Exists.intro; refine ⟨fun _ => ?_, ?_⟩; (focus ((go_at_call 45; with_reducible exact Calls.after (hA _)))); go_big_quiet_on)))); refine wpQuiet_nil ?_; rintro ⟨w8, hb8⟩; (try dsimp only); obtain ⟨hc8, hf8⟩ := bcell hb8; have hs8 := hb8.size; (try simp at hs8))
              go_wp2
              go_roundw
              case rel => exact ⟨j + 1, z2, by omega, by go_num, HS.out, (D7.below hb8).put2 _ _, b_set (b_set (b_then hBo (b_then hb7 hb8)) (by simp; omega) _) (by simp; omega) _⟩
              case measure => simp [intOf]; omega
          · obtain rfl : j = n2 := by omega
            have hend : bgetL ys a0 a1 = enc z := wantI_end (by rw [HYL.out]; exact HW.out) HC3.out HLO.out HPO.out
            have hzs : rsmall 60000 z := rsmall_mono HW.out.2 (by omega)
            have hGc : ∀ W, Below wr.heap.size wr W → Calls Tryz.prog 38 #[.slice B5 m k5, .string a0, .string a1] W fun e w' => e = .returned (.agg #[.string (iS z.num), .string (nS z.den)]) ∧ Below W.heap.size W w' := fun W hW => by
              have := r6_get (c := k5) a0 a1 W (R5.below (b_then hBo hW)) (fun f hf => lnB_q (HYZ.out f hf) (by omega))
              rw [bget_yes HMY.out, hend] at this
              exact this
            obtain ⟨t0, t1, ht⟩ : ∃ t0 t1, (btotal xs a1).v = .agg #[.string t0, .string t1] := ⟨_, _, rfl⟩
            have hTx : ∀ W, Below w.heap.size w W → Calls Tryz.prog 40 #[.slice A n c, .string a1] W fun e w' => e = .returned (.agg #[.string t0, .string t1]) ∧ Below W.heap.size W w' := fun W hW => by
              have := r6_total (c := c) a1 W (hx.below hW) (by omega) (fun f hf => lnB_S (HXB.out f hf) (by omega))
              rw [ht] at this
              exact this
            have hTy : ∀ W, Below wr.heap.size wr W → Calls Tryz.prog 40 #[.slice B5 m k5, .string a1] W fun e w' => e = .returned (.agg #[.string t0, .string t1]) ∧ Below W.heap.size W w' := fun W hW => by
              have := r6_total (c := k5) a1 W (R5.below (b_then hBo hW)) (by omega) (fun f hf => lnB_S (HYZ.out f hf) (by omega))
              rw [keeps_total (x := ⟨a0, a1, ⟨a2, a3⟩⟩) HC3.out HBAL.out HPO.out (List.mem_of_getElem? HX.out), ht] at this
              exact this
            have hsf : cov = true → (!(pfree a0) && (decide (z < 0) && decide (z < p))) = false := fun h => by
              rw [← pshort_eq (r := ⟨a2, a3⟩) hend HP.out]; exact HSH.out h _ (List.mem_of_getElem? HX.out)
            have hsn := rneg_iff z
            have hsp := rneg_iff p
            have cs := sign_cases z.num
            have cp := sign_cases p.num
            have hS1 := fun W => r3_sign (iS z.num) (nS z.den) W (by have := iS_sz hzs.1; omega) (by rw [nS_size]; have := hzs.2; omega)
            have hS2 := fun W => r3_sign (iS p.num) (nS p.den) W (by have := iS_sz hps.1; omega) (by rw [nS_size]; have := hps.2; omega)
            rw [show rsign ⟨iS z.num, nS z.den⟩ = z.num.sign from rsign_enc z] at hS1
            rw [show rsign ⟨iS p.num, nS p.den⟩ = p.num.sign from rsign_enc p] at hS2
            have hF := fun W => p_free a0 W
            obtain ⟨sz, hsz⟩ : ∃ s, z.num.sign = s := ⟨_, rfl⟩
            obtain ⟨sp, hsp'⟩ : ∃ s, p.num.sign = s := ⟨_, rfl⟩
            rw [hsz] at cs hS1
            rw [hsp'] at cp hS2
            rw [hsn] at cs
            rw [hsp] at cp
            have heq := eqRat
            have hy0 := fun (x : After wr) (y : After x.W) => (HL.out y.W (b_then hBo (b_then x.h y.h))).c0
            have hy1 := fun (x : After wr) (y : After x.W) => (HL.out y.W (b_then hBo (b_then x.h y.h))).c1
            clear hend ht hsn hsp hsz hsp'
            go_wp2
            (refine wp_region_boxed (T := 24) (A := ?boxA9) (u1 := .string ?boxU9) (u2 := .string ?boxV9) (z1 := .string ⟨#[]⟩) (z2 := .string ⟨#[]⟩) 12 13 11 12 120 (by kernel_rfl) (fun g => by kernel_rfl) (fun g x => ?boxH9) ⟨by kernel_rfl, by kernel_rfl, ⟨_, rfl, rfl, rfl, fun a W => run_alloc_rat rfl⟩, ⟨_, rfl, rfl, rfl, fun a W g h1 h2 hB => run_store_rat rfl h1 h2 hB⟩, ⟨_, rfl, rfl⟩, by kernel_rfl, by kernel_rfl, by decide, ?box19, ?box29, ?box39, ?box49⟩ (by decide) (by decide); (case boxH9 => (simp only [boxed, List.modify_succ_cons, List.modify_zero_cons, repA, repS]; (have hxs := x.h.size); (try simp at hxs); (repeat (first | go_big_quiet_skip | (go_big_quiet_want; go_big_quiet_op; first | go_big_quiet_on | (apply Exists.intro; refine ⟨fun _ => ?_, ?_⟩; (focus ((go_at_call 38; with_reducible exact Calls.after (hGc _ (b_then x.h (After.h _)))))); go_big_quiet_on)))); refine wpQuiet_nil ?_; rfl)); (case box19 => exact fun g => rfl); (case box29 => first | decide | simp); (case box39 => intro g; first | rfl | (simp only [List.getElem?_toArray, List.getElem?_cons_succ, List.getElem?_cons_zero]; rfl) | (simp; exact ⟨rfl, rfl⟩)); rintro g9 w9 hg9 hb9 D9; (try dsimp only); obtain ⟨hc9, hf9⟩ := bcell hb9; have hs9 := hb9.size; (try simp at hs9))
            have D69 := D6.below hb9
            have hx1 := fun (y : After w9) => (HL.out y.W (b_then hBo (b_then hb9 y.h))).c1
            obtain ⟨v0, v1⟩ := D69.aftr
            obtain ⟨v2, v3⟩ := D9.aftr
            go_wp2
            (refine wp_region_after (by kernel_rfl) (by kernel_rfl) ?_; (repeat (first | go_big_quiet_skip | (go_big_quiet_want; go_big_quiet_op; first | go_big_quiet_on | (apply Exists.intro; refine ⟨fun _ => ?_, ?_⟩; (focus (first | (go_at_call 40; with_reducible exact Calls.after (hTx _ (b_then hBi (b_then hb9 (After.h _))))) | (go_at_call 40; with_reducible exact Calls.after (hTy _ (b_then hb9 (After.h _)))))); go_big_quiet_on)))); refine wpQuiet_nil ?_; rintro w10 ⟨⟨_, hb10⟩, rfl⟩; (try dsimp only); obtain ⟨hc10, hf10⟩ := bcell hb10; have hs10 := hb10.size; (try simp at hs10))
            clear hy0 hy1 hx1 v0 v1 v2 v3
            have D910 := D9.below hb10
            obtain ⟨v2, v3⟩ := D910.aftr
            have hx0 := fun (y : After w10) => (HL.out y.W (b_then hBo (b_then (b_then hb9 hb10) y.h))).c0
            have hx1 := fun (y : After w10) => (HL.out y.W (b_then hBo (b_then (b_then hb9 hb10) y.h))).c1
            have hBn := b_then hBi (b_then hb9 hb10)
            cases cov with
            | false =>
              clear cs cp hS1 hS2 hF hsf
              go_wp2
              (refine wp_region_after (by kernel_rfl) (by kernel_rfl) ?_; (repeat (first | go_big_quiet_skip | (go_big_quiet_want; go_big_quiet_op; first | go_big_quiet_on | (apply Exists.intro; refine ⟨fun _ => ?_, ?_⟩; (focus (fail)); go_big_quiet_on)))); refine wpQuiet_nil ?_; rintro w11 ⟨⟨_, hb11⟩, rfl⟩; (try dsimp only); obtain ⟨hc11, hf11⟩ := bcell hb11; have hs11 := hb11.size; (try simp at hs11))
              go_wp2
              go_roundw
              case rel => exact ⟨k + 1, by omega, by go_num, R5.below (b_then hBo (b_then hb9 (b_then hb10 hb11))), b_then hBi (b_then hb9 (b_then hb10 hb11))⟩
              case measure => simp [intOf]; omega
            | true =>
              have hsf' := hsf rfl
              clear hsf
              cases f0 : pfree a0 with
              | true =>
                rw [f0] at hF
                clear cs cp hS1 hS2 hsf' f0
                go_wp2
                (refine wp_region_after (by kernel_rfl) (by kernel_rfl) ?_; (repeat (first | go_big_quiet_skip | (go_big_quiet_want; go_big_quiet_op; first | go_big_quiet_on | (apply Exists.intro; refine ⟨fun _ => ?_, ?_⟩; (focus ((go_at_call 49; with_reducible exact Calls.after_same (hF _)))); go_big_quiet_on)))); refine wpQuiet_nil ?_; rintro w11 ⟨⟨_, hb11⟩, rfl⟩; (try dsimp only); obtain ⟨hc11, hf11⟩ := bcell hb11; have hs11 := hb11.size; (try simp at hs11))
                go_wp2
                go_roundw
                case rel => exact ⟨k + 1, by omega, by go_num, R5.below (b_then hBo (b_then hb9 (b_then hb10 hb11))), b_then hBi (b_then hb9 (b_then hb10 hb11))⟩
                case measure => simp [intOf]; omega
              | false =>
                rw [f0] at hF hsf'
                clear f0
                rcases cs with ⟨hz, rfl⟩ | ⟨hz, hs01⟩
                · rcases cp with ⟨hq, rfl⟩ | ⟨hq, _⟩
                  · clear hsf' hz hq
                    go_wp2
                    (refine wp_region_after (by kernel_rfl) (by kernel_rfl) ?_; (repeat (first | go_big_quiet_skip | (go_big_quiet_want; go_big_quiet_op; first | go_big_quiet_on | (apply Exists.intro; refine ⟨fun _ => ?_, ?_⟩; (focus (first | (go_at_call 49; with_reducible exact Calls.after_same (hF _)) | (go_at_call 53; with_reducible exact Calls.after (hS1 _)) | (go_at_call 38; with_reducible exact Calls.after (hGb _ (b_then hBn (After.h _)))) | (go_at_call 53; with_reducible exact Calls.after (hS2 _)))); go_big_quiet_on)))); refine wpQuiet_nil ?_; rintro w11 ⟨⟨_, hb11⟩, rfl⟩; (try dsimp only); obtain ⟨hc11, hf11⟩ := bcell hb11; have hs11 := hb11.size; (try simp at hs11))
                    go_wp2
                    go_roundw
                    case rel => exact ⟨k + 1, by omega, by go_num, R5.below (b_then hBo (b_then hb9 (b_then hb10 hb11))), b_then hBi (b_then hb9 (b_then hb10 hb11))⟩
                    case measure => simp [intOf]; omega
                  · exfalso
                    exact hq (short_neg hsf' hz)
                · clear hsf' hz cp
                  rcases hs01 with rfl | rfl
                  all_goals
                    go_wp2
                    (refine wp_region_after (by kernel_rfl) (by kernel_rfl) ?_; (repeat (first | go_big_quiet_skip | (go_big_quiet_want; go_big_quiet_op; first | go_big_quiet_on | (apply Exists.intro; refine ⟨fun _ => ?_, ?_⟩; (focus (first | (go_at_call 49; with_reducible exact Calls.after_same (hF _)) | (go_at_call 53; with_reducible exact Calls.after (hS1 _)))); go_big_quiet_on)))); refine wpQuiet_nil ?_; rintro w11 ⟨⟨_, hb11⟩, rfl⟩; (try dsimp only); obtain ⟨hc11, hf11⟩ := bcell hb11; have hs11 := hb11.size; (try simp at hs11))
                    go_wp2
                    go_roundw
                    case rel => exact ⟨k + 1, by omega, by go_num, R5.below (b_then hBo (b_then hb9 (b_then hb10 hb11))), b_then hBi (b_then hb9 (b_then hb10 hb11))⟩
                    case measure => simp [intOf]; omega
      · obtain rfl : k = n2 := by omega
        go_wp2_with (go_at_call 34; (with_reducible refine (KM.out _ hB R5).mono ?_); rintro e w6 ⟨rfl, hb6⟩; obtain ⟨hc6, hf6⟩ := bcell hb6; have hs6 := hb6.size; (try simp at hs6))
        go_ret
        exact ⟨rfl, b_then hB hb6⟩
end Go.Proofs.YtpoejheienohjaaGreatDoor
