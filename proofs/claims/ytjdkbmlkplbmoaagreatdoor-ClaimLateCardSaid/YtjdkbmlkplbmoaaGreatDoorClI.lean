/- ClaimLate: the walk (given the fixed calls). -/
import Derived.Test.YtjdkbmlkplbmoaaGreatDoorClG
namespace Go.Proofs.YtjdkbmlkplbmoaaGreatDoor
open Go.RowKit
set_option linter.unusedVariables false
set_option linter.unusedSimpArgs false

set_option maxRecDepth 100000 in
set_option maxHeartbeats 8000000 in
theorem l_clate (HF : Fixed20Ok) {A A2 : Option Addr} {n c n2 c2 : Nat} {xs : List Ln} {ls : List In} (a s : ByteArray) (ex : Int) (w : World) (hg : Glob w) (hx : Rd Ln.cs 4 w A n xs) (hy : Rd In.cs 10 w A2 n2 ls) (hz : ∀ f ∈ xs, lnok f) (hzl : ∀ f ∈ ls, inok f) :
    Calls Tryz.prog 11 #[.slice A n c, .slice A2 n2 c2, .agg #[.string a, .string s, .int .i64 ex]] w fun e w' => e = .returned (.bool true) ∧ Below w.heap.size w w' := by
  have HFX := Lib.hid HF
  clear HF
  have hS := fun W (h : Below w.heap.size w W) => r6_small (c := c) W (hx.below h) hz
  have hS2 := fun W (h : Below w.heap.size w W) => r8_small (c := c2) W (hy.below h) hzl
  have hB0 : Below w.heap.size w (w.alloc (.cells #[.string a, .string s, .int .i64 ex] 55)) := b_alloc (Below.refl _ _) _
  have bx0 : Blk (w.alloc (.cells #[.string a, .string s, .int .i64 ex] 55)) w.heap.size 55 #[.string a, .string s, .int .i64 ex] := Blk.new w _ _
  cases d1 : lsmall xs with
  | false =>
    rw [d1] at hS
    go_enter Tryz.func11, Tryz.ntmps11
    go_wp2_with (first
      | (go_at_call 35; (with_reducible refine (HFX.out w2 (hg.below (by repeat (first | exact Below.refl _ _ | assumption | refine b_then ?_ (by assumption) | refine b_alloc ?_ _ | refine b_drewN ?_ _ | refine Below.drew ?_ | refine b_set ?_ (by first | exact Nat.le_refl _ | (simp; done) | (simp; omega) | omega) _)))).mono ?_); rintro e w3 ⟨rfl, hb3⟩; obtain ⟨hc3, hf3⟩ := bcell hb3; have hs3 := hb3.size; (try simp at hs3))
      | (go_at_call 35; (with_reducible refine (HFX.out _ (hg.below hB0)).mono ?_); rintro e w1 ⟨rfl, hb1⟩; obtain ⟨hc1, hf1⟩ := bcell hb1; have hs1 := hb1.size; (try simp at hs1))
      | (go_at_call 12; (with_reducible refine (hS _ (b_then hB0 hb1)).mono ?_); rintro e w2 ⟨rfl, hb2⟩; obtain ⟨hc2, hf2⟩ := bcell hb2; have hs2 := hb2.size; (try simp at hs2)))
    go_ret
    exact ⟨rfl, (by repeat (first | exact Below.refl _ _ | assumption | refine b_then ?_ (by assumption) | refine b_alloc ?_ _ | refine b_drewN ?_ _ | refine Below.drew ?_ | refine b_set ?_ (by first | exact Nat.le_refl _ | (simp; done) | (simp; omega) | omega) _))⟩
  | true =>
  rw [d1] at hS
  cases d2 : ismall ls with
  | false =>
    rw [d2] at hS2
    go_enter Tryz.func11, Tryz.ntmps11
    go_wp2_with (first
      | (go_at_call 35; (with_reducible refine (HFX.out w3 (hg.below (by repeat (first | exact Below.refl _ _ | assumption | refine b_then ?_ (by assumption) | refine b_alloc ?_ _ | refine b_drewN ?_ _ | refine Below.drew ?_ | refine b_set ?_ (by first | exact Nat.le_refl _ | (simp; done) | (simp; omega) | omega) _)))).mono ?_); rintro e w4 ⟨rfl, hb4⟩; obtain ⟨hc4, hf4⟩ := bcell hb4; have hs4 := hb4.size; (try simp at hs4))
      | (go_at_call 35; (with_reducible refine (HFX.out _ (hg.below hB0)).mono ?_); rintro e w1 ⟨rfl, hb1⟩; obtain ⟨hc1, hf1⟩ := bcell hb1; have hs1 := hb1.size; (try simp at hs1))
      | (go_at_call 12; (with_reducible refine (hS _ (b_then hB0 hb1)).mono ?_); rintro e w2 ⟨rfl, hb2⟩; obtain ⟨hc2, hf2⟩ := bcell hb2; have hs2 := hb2.size; (try simp at hs2))
      | (go_at_call 13; (with_reducible refine (hS2 w2 (b_then (b_then hB0 hb1) hb2)).mono ?_); rintro e w3 ⟨rfl, hb3⟩; obtain ⟨hc3, hf3⟩ := bcell hb3; have hs3 := hb3.size; (try simp at hs3)))
    go_ret
    exact ⟨rfl, (by repeat (first | exact Below.refl _ _ | assumption | refine b_then ?_ (by assumption) | refine b_alloc ?_ _ | refine b_drewN ?_ _ | refine Below.drew ?_ | refine b_set ?_ (by first | exact Nat.le_refl _ | (simp; done) | (simp; omega) | omega) _))⟩
  | true =>
  rw [d2] at hS2
  obtain ⟨hxB, hxn⟩ := lsmall_B d1
  obtain ⟨hyB, hyn⟩ := ismall_B d2
  have hxl := hx.len
  have hyl := hy.len
  have hM := fun W (h : Below w.heap.size w W) => r6_may (c := c) W (hx.below h) (fun f hf => lnB_q (hxB f hf) (by omega))
  have hM2 := fun W (h : Below w.heap.size w W) => r8_may (c := c2) W (hy.below h) (by omega) (fun f hf => inB_mono (hyB f hf) (by omega))
  cases d3 : bmay xs with
  | false =>
    rw [d3] at hM
    clear d1 d2 d3 hxB hyB hxn hyn hxl hyl
    go_enter Tryz.func11, Tryz.ntmps11
    go_wp2_with (first
      | (go_at_call 35; (with_reducible refine (HFX.out w4 (hg.below (by repeat (first | exact Below.refl _ _ | assumption | refine b_then ?_ (by assumption) | refine b_alloc ?_ _ | refine b_drewN ?_ _ | refine Below.drew ?_ | refine b_set ?_ (by first | exact Nat.le_refl _ | (simp; done) | (simp; omega) | omega) _)))).mono ?_); rintro e w5 ⟨rfl, hb5⟩; obtain ⟨hc5, hf5⟩ := bcell hb5; have hs5 := hb5.size; (try simp at hs5))
      | (go_at_call 35; (with_reducible refine (HFX.out _ (hg.below hB0)).mono ?_); rintro e w1 ⟨rfl, hb1⟩; obtain ⟨hc1, hf1⟩ := bcell hb1; have hs1 := hb1.size; (try simp at hs1))
      | (go_at_call 12; (with_reducible refine (hS _ (b_then hB0 hb1)).mono ?_); rintro e w2 ⟨rfl, hb2⟩; obtain ⟨hc2, hf2⟩ := bcell hb2; have hs2 := hb2.size; (try simp at hs2))
      | (go_at_call 13; (with_reducible refine (hS2 w2 (b_then (b_then hB0 hb1) hb2)).mono ?_); rintro e w3 ⟨rfl, hb3⟩; obtain ⟨hc3, hf3⟩ := bcell hb3; have hs3 := hb3.size; (try simp at hs3))
      | (go_at_call 26; (with_reducible refine (hM w3 (b_then (b_then (b_then hB0 hb1) hb2) hb3)).mono ?_); rintro e w4 ⟨rfl, hb4⟩; obtain ⟨hc4, hf4⟩ := bcell hb4; have hs4 := hb4.size; (try simp at hs4)))
    go_ret
    exact ⟨rfl, (by repeat (first | exact Below.refl _ _ | assumption | refine b_then ?_ (by assumption) | refine b_alloc ?_ _ | refine b_drewN ?_ _ | refine Below.drew ?_ | refine b_set ?_ (by first | exact Nat.le_refl _ | (simp; done) | (simp; omega) | omega) _))⟩
  | true =>
  rw [d3] at hM
  cases d4 : imay ls with
  | false =>
    rw [d4] at hM2
    clear d1 d2 d3 d4 hxB hyB hxn hyn hxl hyl
    go_enter Tryz.func11, Tryz.ntmps11
    go_wp2_with (first
      | (go_at_call 35; (with_reducible refine (HFX.out w5 (hg.below (by repeat (first | exact Below.refl _ _ | assumption | refine b_then ?_ (by assumption) | refine b_alloc ?_ _ | refine b_drewN ?_ _ | refine Below.drew ?_ | refine b_set ?_ (by first | exact Nat.le_refl _ | (simp; done) | (simp; omega) | omega) _)))).mono ?_); rintro e w6 ⟨rfl, hb6⟩; obtain ⟨hc6, hf6⟩ := bcell hb6; have hs6 := hb6.size; (try simp at hs6))
      | (go_at_call 35; (with_reducible refine (HFX.out _ (hg.below hB0)).mono ?_); rintro e w1 ⟨rfl, hb1⟩; obtain ⟨hc1, hf1⟩ := bcell hb1; have hs1 := hb1.size; (try simp at hs1))
      | (go_at_call 12; (with_reducible refine (hS _ (b_then hB0 hb1)).mono ?_); rintro e w2 ⟨rfl, hb2⟩; obtain ⟨hc2, hf2⟩ := bcell hb2; have hs2 := hb2.size; (try simp at hs2))
      | (go_at_call 13; (with_reducible refine (hS2 w2 (b_then (b_then hB0 hb1) hb2)).mono ?_); rintro e w3 ⟨rfl, hb3⟩; obtain ⟨hc3, hf3⟩ := bcell hb3; have hs3 := hb3.size; (try simp at hs3))
      | (go_at_call 26; (with_reducible refine (hM w3 (b_then (b_then (b_then hB0 hb1) hb2) hb3)).mono ?_); rintro e w4 ⟨rfl, hb4⟩; obtain ⟨hc4, hf4⟩ := bcell hb4; have hs4 := hb4.size; (try simp at hs4))
      | (go_at_call 21; (with_reducible refine (hM2 w4 (b_then (b_then (b_then (b_then hB0 hb1) hb2) hb3) hb4)).mono ?_); rintro e w5 ⟨rfl, hb5⟩; obtain ⟨hc5, hf5⟩ := bcell hb5; have hs5 := hb5.size; (try simp at hs5)))
    go_ret
    exact ⟨rfl, (by repeat (first | exact Below.refl _ _ | assumption | refine b_then ?_ (by assumption) | refine b_alloc ?_ _ | refine b_drewN ?_ _ | refine Below.drew ?_ | refine b_set ?_ (by first | exact Nat.le_refl _ | (simp; done) | (simp; omega) | omega) _))⟩
  | true =>
  rw [d4] at hM2
  have hx1 : ∀ f ∈ xs, lnB 1000 f := fun f hf => lnB_mono (hxB f hf) (by omega)
  have hy1 : ∀ x ∈ ls, inB 1000 x := fun x hx => inB_mono (hyB x hx) (by omega)
  obtain ⟨us, hus⟩ : ∃ us, ceff xs ls s ex = us := ⟨_, rfl⟩
  obtain ⟨mu, hmu⟩ : ∃ mu, us.length = mu := ⟨_, rfl⟩
  obtain ⟨uz, huz⟩ : ∃ uz, ceff xs ls s 0 = uz := ⟨_, rfl⟩
  obtain ⟨mz, hmz⟩ : ∃ mz, uz.length = mz := ⟨_, rfl⟩
  have hearly : ceff xs (ls.filter fun x => decide (x.dealt < ex)) s ex = us := by rw [← ceff_early d3 d4]; exact hus
  have hzero : ceff xs [] s 0 = uz := by rw [← ceff_zero d3 d4]; exact huz
  obtain ⟨t0, ht0⟩ : ∃ t, iS 0 = t := ⟨_, rfl⟩
  obtain ⟨t1, ht1⟩ : ∃ t, nS 1 = t := ⟨_, rfl⟩
  have hOf := fun W => r3_of 0 W (by omega) (by omega)
  simp only [enc_of, RT.v] at hOf
  have hpz : (ipend ls a s 0).v = .agg #[.string (iS 0), .string (nS 1)] := by rw [ipend_zero d4]; rfl
  rw [ht0, ht1] at hOf hpz
  have kE := fun W (h : Below w.heap.size w W) => (p_eff (c := c) (c2 := c2) s ex W (hg.below h) (hx.below h) (by omega) hx1 (hy.below h) (by omega) hy1).mono fun e w' h => by rw [hus] at h; exact h.is_ hmu
  have kZ := fun W (h : Below w.heap.size w W) => (p_eff (c := c) (c2 := c2) s 0 W (hg.below h) (hx.below h) (by omega) hx1 (hy.below h) (by omega) hy1).mono fun e w' h => by rw [huz] at h; exact h.is_ hmz
  have kN := fun W (h : Below w.heap.size w W) => (p_eff (A2 := none) (n2 := 0) (c2 := 0) (ls := []) (c := c) s 0 W (hg.below h) (hx.below h) (by omega) hx1 Rd.nil (by omega) (fun x hx => by cases hx)).mono fun e w' h => by rw [hzero] at h; exact h.is_ hmz
  have kF := fun (B : Option Addr) (m k : Nat) W (h : Below w.heap.size w W) (hr : Rd In.cs 10 W B m (ls.filter fun x => decide (x.dealt < ex))) (hm : m ≤ 40) => (p_eff (A2 := B) (n2 := m) (c2 := k) (c := c) s ex W (hg.below h) (hx.below h) (by omega) hx1 hr (by omega) (fun x hx => hy1 x (List.mem_filter.1 hx).1)).mono fun e w' h => by rw [hearly] at h; exact h.is_ hmu
  have kP := fun W (h : Below w.heap.size w W) => p_pend (c := c2) a s 0 W (hg.below h) (hy.below h) (by omega) hy1
  rw [hpz] at kP
  have KE := Lib.hid kE
  have KZ := Lib.hid kZ
  have KN := Lib.hid kN
  have KF := Lib.hid kF
  have HYL := Lib.hid hyl
  have hn2 : n2 ≤ 40 := by omega
  have heq := eqRat
  clear d1 d2 d3 d4 hxB hyB hxn hyn hxl hyl hx1 hy1 hus hmu huz hmz hearly hzero ht0 ht1 hpz kE kZ kN kF
  go_enter Tryz.func11, Tryz.ntmps11
  go_wp2_with (first
    | (go_at_call 35; (with_reducible refine (HFX.out _ (hg.below hB0)).mono ?_); rintro e w1 ⟨rfl, hb1⟩; obtain ⟨hc1, hf1⟩ := bcell hb1; have hs1 := hb1.size; (try simp at hs1))
    | (go_at_call 12; (with_reducible refine (hS _ (b_then hB0 hb1)).mono ?_); rintro e w2 ⟨rfl, hb2⟩; obtain ⟨hc2, hf2⟩ := bcell hb2; have hs2 := hb2.size; (try simp at hs2))
    | (go_at_call 13; (with_reducible refine (hS2 w2 (b_then (b_then hB0 hb1) hb2)).mono ?_); rintro e w3 ⟨rfl, hb3⟩; obtain ⟨hc3, hf3⟩ := bcell hb3; have hs3 := hb3.size; (try simp at hs3))
    | (go_at_call 26; (with_reducible refine (hM w3 (b_then (b_then (b_then hB0 hb1) hb2) hb3)).mono ?_); rintro e w4 ⟨rfl, hb4⟩; obtain ⟨hc4, hf4⟩ := bcell hb4; have hs4 := hb4.size; (try simp at hs4))
    | (go_at_call 21; (with_reducible refine (hM2 w4 (b_then (b_then (b_then (b_then hB0 hb1) hb2) hb3) hb4)).mono ?_); rintro e w5 ⟨rfl, hb5⟩; obtain ⟨hc5, hf5⟩ := bcell hb5; have hs5 := hb5.size; (try simp at hs5)))
  have hB5 := b_then (b_then (b_then (b_then (b_then hB0 hb1) hb2) hb3) hb4) hb5
  have bx5 := ((((bx0.below hb1).below hb2).below hb3).below hb4).below hb5
  have o0 : Own In.cs 10 37 (w5.alloc (.cells #[] 37)) w5.heap.size (.slice (some ⟨w5.heap.size, 0, none⟩) 0 0) ((ls.take 0).filter fun x => decide (x.dealt < ex)) := by
    rw [List.take_zero]; exact Own.made0 (Nat.le_refl _)
  have hB5a := b_alloc (Below.refl w5.heap.size w5) (.cells #[] 37)
  clear hb1 hc1 hf1 hs1 hb2 hc2 hf2 hs2 hb3 hc3 hf3 hs3 hb4 hc4 hf4 hs4 hb5 hc5 hf5 hs5 hS hS2 hM hM2 bx0
  go_loopw [7, 8] (fun ev iv wr => ∃ k : Nat, k ≤ n2 ∧ iv = .int .i64 (k : Nat) ∧ Own In.cs 10 37 wr w5.heap.size ev ((ls.take k).filter fun x => decide (x.dealt < ex)) ∧ Below w5.heap.size w5 wr) (fun _ i _ => n2 - (intOf i).toNat)
  case atStart => exact ⟨0, Nat.zero_le _, rfl, o0, hB5a⟩
  case round =>
    clear o0 hB5a
    obtain ⟨k, hk, rfl, hown, hB⟩ := hrel
    have hsz := hB.size
    have hol : ((ls.take k).filter fun x => decide (x.dealt < ex)).length ≤ 40 := by have h1 := List.length_filter_le (fun x : In => decide (x.dealt < ex)) (ls.take k); have h2 := List.length_take_le' k ls; have h3 := HYL.out; omega
    by_cases hlt : k < n2
    · obtain ⟨ad, a0, a1, a2, a3, a4, a5, a6, a7, a8, a9, rfl, hxk, hl⟩ := in_in hy (b_then hB5 hB) hlt
      have y1 := fun y : After wr => (hl y.W y.h).c1
      have x2 := fun y : After wr => ((bx5.below hB).below y.h).three.2.2
      have HL := Lib.hid hl
      by_cases hd : a1 < ex
      · have HN := Lib.hid (filter_take_yes (p := fun x : In => decide (x.dealt < ex)) hxk (decide_eq_true hd))
        clear hl hxk
        go_wp2
        (refine wp_region_after (by kernel_rfl) (by kernel_rfl) ?_; (repeat (first | go_big_quiet_skip | (go_big_quiet_want; go_big_quiet_op; first | go_big_quiet_on | (apply Exists.intro; refine ⟨fun _ => ?_, ?_⟩; (focus (fail)); go_big_quiet_on)))); refine wpQuiet_nil ?_; rintro w6 ⟨⟨_, hb6⟩, rfl⟩; (try dsimp only); obtain ⟨hc6, hf6⟩ := bcell hb6; have hs6 := hb6.size; (try simp at hs6))
        clear y1 x2
        obtain ⟨y0, y1, y2, y3, y4, y5, y6, y7, y8, y9, y10, y11⟩ := HL.out w6 hb6
        have hown6 := (hown.below hb6).alloc (.cells #[.int .i64 a0, .int .i64 a1, .int .i64 a2, .string a3, .string a4, .string a5, .string a6, .string a7, .string a8, .string a9] 37)
        have hB6 := b_alloc (b_then hB hb6) (.cells #[.int .i64 a0, .int .i64 a1, .int .i64 a2, .string a3, .string a4, .string a5, .string a6, .string a7, .string a8, .string a9] 37)
        go_wp2_with (at_builtin; refine wpList_apps0 (v := u7) Tryz.elemIn (by omega) In.cs_length In.cs_one rfl (.tmp 48) (.tmp 53) rfl rfl hown6 (some ⟨w6.heap.size, 0, none⟩) 1 1 [⟨a0, a1, a2, a3, a4, a5, ⟨a6, a7⟩, ⟨a8, a9⟩⟩] rfl (In.own1 w6) (by omega) (by omega) (by simp; omega) ?_; intro v5 w7 hown7 hg7 hat7)
        go_roundw
        case rel => exact ⟨k + 1, by omega, by go_num, by rw [HN.out]; exact hown7, hown6.frame hB6 (Nat.le_refl _) hg7⟩
        case measure => simp [intOf]; omega
      · have HN := Lib.hid (filter_take_no (p := fun x : In => decide (x.dealt < ex)) hxk (decide_eq_false hd))
        clear hl hxk
        go_wp2
        (refine wp_region_after (by kernel_rfl) (by kernel_rfl) ?_; (repeat (first | go_big_quiet_skip | (go_big_quiet_want; go_big_quiet_op; first | go_big_quiet_on | (apply Exists.intro; refine ⟨fun _ => ?_, ?_⟩; (focus (fail)); go_big_quiet_on)))); refine wpQuiet_nil ?_; rintro w6 ⟨⟨_, hb6⟩, rfl⟩; (try dsimp only); obtain ⟨hc6, hf6⟩ := bcell hb6; have hs6 := hb6.size; (try simp at hs6))
        go_wp2
        go_roundw
        case rel => exact ⟨k + 1, by omega, by go_num, by rw [HN.out]; exact hown.below hb6, b_then hB hb6⟩
        case measure => simp [intOf]; omega
    · obtain rfl : k = n2 := by omega
      have hall : (ls.take k).filter (fun x => decide (x.dealt < ex)) = ls.filter fun x => decide (x.dealt < ex) := by rw [← HYL.out, List.take_length]
      rw [hall] at hown hol
      obtain ⟨A7, c7, hv7, R7⟩ := hown.rd In.cs_length
      subst hv7
      obtain ⟨m7, hm7⟩ : ∃ m, (ls.filter fun x => decide (x.dealt < ex)).length = m := ⟨_, rfl⟩
      rw [hm7] at R7 hol ⊢
      clear hall hm7 hown
      have hBw := b_then hB5 hB
      obtain ⟨q0, q1, q2⟩ := (bx5.below hB).three
      go_wp2_with (go_at_call 36; (with_reducible refine (KZ.out wr hBw).mono ?_); rintro e w8 ⟨B8, k8, rfl, R8, hb8⟩)
      have hB8 := b_then hBw hb8
      have R78 := R7.below hb8
      have bx8 := (bx5.below hB).below hb8
      have x0 := fun (x : After w8) (y : After x.W) => (bx8.below (b_then x.h y.h)).three.1
      have x1 := fun (x : After w8) (y : After x.W) => (bx8.below (b_then x.h y.h)).three.2.1
      have x2 := fun (x : After w8) (y : After x.W) => (bx8.below (b_then x.h y.h)).three.2.2
      clear bx5 hBw hB hb8 hsz q0 q1 q2
      refine wp_region_multi [(6, 66, mu), (13, 73, mu), (20, 80, mz)] [(14, 74, .bool true), (21, 81, .bool true)] (fun i B k W => Rd Ln.cs 4 W B (if i = 20 then mz else mu) (if i = 20 then uz else us)) ?mA (by kernel_rfl) (fun p => by kernel_rfl) (fun p x => ?mH)
        ⟨by kernel_rfl, by kernel_rfl, by simp, by simp, ?mk, ?mt, fun i B k W W' h hb => h.below hb, ?mhA, ?mQ⟩
      case mH =>
        simp only [mods, mkS_, List.map_cons, List.map_nil, List.append_eq, List.cons_append, List.nil_append, List.modify_succ_cons, List.modify_zero_cons, repV]
        have hxs := x.h.size
        (try simp at hxs)
        (repeat (first | go_big_quiet_skip | (go_big_quiet_want; go_big_quiet_op; first | go_big_quiet_on | (apply Exists.intro; refine ⟨fun _ => ?_, ?_⟩; (focus (first | (go_at_call 38; with_reducible exact Calls.after (kP _ (b_then hB8 (b_then x.h (After.h _))))) | (go_at_call 32; with_reducible exact Calls.after (hOf _)))); go_big_quiet_on))))
        refine wpQuiet_nil ?_
        rfl
      case mk =>
        intro y hy p
        simp only [List.mem_cons, List.not_mem_nil, or_false] at hy
        rcases hy with rfl | rfl | rfl
        · refine ⟨_, rfl, rfl, fun a W hW hgv => ?_⟩
          have g1 := (hgv 0 _ 60 rfl rfl (by kernel_rfl)).trans rfl
          have g2 := (hgv 1 _ 61 rfl rfl (by kernel_rfl)).trans rfl
          have g3 := (hgv 3 _ 63 rfl rfl (by kernel_rfl)).trans rfl
          have g4 := (hgv 5 _ 65 rfl rfl (by kernel_rfl)).trans rfl
          exact mk_call rfl rfl (wanted_none rfl) (by simp [execOp, go_sem, g1, g2, g3, g4]) (KE.out W (b_then hB8 hW))
        · refine ⟨_, rfl, rfl, fun a W hW hgv => ?_⟩
          have g1 := (hgv 7 _ 67 rfl rfl (by kernel_rfl)).trans rfl
          have g2 := (hgv 8 _ 68 rfl rfl (by kernel_rfl)).trans rfl
          have g3 := (hgv 10 _ 70 rfl rfl (by kernel_rfl)).trans rfl
          have g4 := (hgv 12 _ 72 rfl rfl (by kernel_rfl)).trans rfl
          exact mk_call rfl rfl (wanted_none rfl) (by simp [execOp, go_sem, g1, g2, g3, g4]) (KF.out A7 m7 c7 W (b_then hB8 hW) (R78.below hW) hol)
        · refine ⟨_, rfl, rfl, fun a W hW hgv => ?_⟩
          have g0 : a.tmps[75]? = some (.bool true) := (hgv 15 _ 75 rfl rfl (by kernel_rfl)).trans rfl
          have g1 := (hgv 17 _ 77 rfl rfl (by kernel_rfl)).trans rfl
          have g3 := (hgv 19 _ 79 rfl rfl (by kernel_rfl)).trans rfl
          exact mk_call rfl rfl (by simp [Region.wanted, yielded, g0]) (by simp [execOp, go_sem, g1, g3]) (KN.out W (b_then hB8 hW))
      case mt =>
        intro y hy p
        simp only [List.mem_cons, List.not_mem_nil, or_false] at hy
        rcases hy with rfl | rfl
        · refine ⟨_, rfl, rfl, fun a W hW hR hgv => ?_⟩
          have g1 := (hgv 6 _ 66 rfl rfl (by kernel_rfl)).trans rfl
          have g2 := (hgv 13 _ 73 rfl rfl (by kernel_rfl)).trans rfl
          have r1 : Rd Ln.cs 4 W (p 6).1 mu us := hR (6, 66, mu) (by simp) (by kernel_rfl)
          have r2 : Rd Ln.cs 4 W (p 13).1 mu us := hR (13, 73, mu) (by simp) (by kernel_rfl)
          exact tk_call rfl rfl (wanted_none rfl) (by simp [execOp, go_sem, g1, g2]) ((r6_same (c := (p 6).2) (d := (p 13).2) W r1 r2).mono fun e w' he => ⟨by rw [he.1]; simp, he.2⟩)
        · refine ⟨_, rfl, rfl, fun a W hW hR hgv => ?_⟩
          have g0 : a.tmps[75]? = some (.bool true) := (hgv 15 _ 75 rfl rfl (by kernel_rfl)).trans rfl
          have g1 := (hgv 16 _ 76 rfl rfl (by kernel_rfl)).trans rfl
          have g2 := (hgv 20 _ 80 rfl rfl (by kernel_rfl)).trans rfl
          have r2 : Rd Ln.cs 4 W (p 20).1 mz uz := hR (20, 80, mz) (by simp) (by kernel_rfl)
          exact tk_call rfl rfl (by simp [Region.wanted, yielded, g0]) (by simp [execOp, go_sem, g1, g2]) ((r6_same (c := k8) (d := (p 20).2) W (R8.below hW) r2).mono fun e w' he => ⟨by rw [he.1]; simp, he.2⟩)
      case mhA => exact fun p => rfl
      case mQ =>
        intro p w9 hb9 hR
        go_wp2
        go_ret
        exact ⟨ret_bool (by simp), b_then hB8 hb9⟩
end Go.Proofs.YtjdkbmlkplbmoaaGreatDoor
