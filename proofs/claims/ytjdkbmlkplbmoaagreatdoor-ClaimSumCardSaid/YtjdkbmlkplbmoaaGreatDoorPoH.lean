/- Walks of whole.Cmp, rat.Cmp, post.short. -/
import Derived.Test.YtjdkbmlkplbmoaaGreatDoorPoF
import Derived.Test.YtjdkbmlkplbmoaaGreatDoorPoM
namespace Go.Proofs.YtjdkbmlkplbmoaaGreatDoor
open Go.RowKit
set_option linter.unusedVariables false
set_option linter.unusedSimpArgs false

theorem sign_congr {a b : Int} (h1 : a < 0 ↔ b < 0) (h2 : 0 < a ↔ 0 < b) : a.sign = b.sign := by
  rcases Int.lt_trichotomy a 0 with h | h | h
  · rw [Int.sign_eq_neg_one_of_neg h, Int.sign_eq_neg_one_of_neg (h1.1 h)]
  · have : b = 0 := by
      have := h1.2; have := h2.2; omega
    rw [h, this]
  · rw [Int.sign_eq_one_of_pos h, Int.sign_eq_one_of_pos (h2.1 h)]
theorem cmpN_sign (a b : Nat) : cmpN a b = ((a : Int) - b).sign := by
  unfold cmpN
  rcases Nat.lt_trichotomy a b with h | h | h
  · rw [Int.sign_eq_neg_one_of_neg (by omega)]; simp [h]
  · subst h; simp
  · rw [Int.sign_eq_one_of_pos (by omega)]
    have h1 : ¬ a < b := by omega
    have h2 : ¬ a = b := by omega
    simp [h1, h2]
theorem w_Cmp (a b : Int) (w : World) (ha : ndg a.natAbs ≤ 890000000) (hb : ndg b.natAbs ≤ 890000000) :
    Calls Tryz.prog 147 #[.string (iS a), .string (iS b)] w fun e w' => e = .returned (.int .i64 (a - b).sign) ∧ Below w.heap.size w w' := by
  have hR := w_both a b w (by omega) (by omega)
  have hM1 := fun W => n_Cmp a.natAbs b.natAbs W ha hb
  have hM2 := fun W => n_Cmp b.natAbs a.natAbs W hb ha
  rw [cmpN_sign] at hM1 hM2
  by_cases h1 : a < 0 <;> by_cases h2 : b < 0
  · rw [decide_eq_true h1, decide_eq_true h2] at hR
    rw [show ((b.natAbs : Int) - a.natAbs).sign = (a - b).sign by congr 1; omega] at hM2
    clear h1 h2 hM1
    generalize (a - b).sign = z at *
    generalize a.natAbs = m at *
    generalize b.natAbs = n at *
    go_enter Tryz.func147, Tryz.ntmps147
    go_wp2_with (first | (go_at_call 136; (with_reducible refine (hR).mono ?_); rintro e w1 ⟨rfl, hb1⟩; obtain ⟨hc1, hf1⟩ := bcell hb1; have hs1 := hb1.size; (try simp at hs1)) | (go_at_call 177; (with_reducible refine (hM2 _).mono ?_); rintro e w2 ⟨rfl, hb2⟩; obtain ⟨hc2, hf2⟩ := bcell hb2; have hs2 := hb2.size; (try simp at hs2)))
    go_ret
    exact ⟨rfl, (by repeat (first | exact Below.refl _ _ | assumption | refine b_then ?_ (by assumption) | refine b_alloc ?_ _ | refine b_drewN ?_ _ | refine Below.drew ?_ | refine b_set ?_ (by first | exact Nat.le_refl _ | (simp; done) | (simp; omega) | omega) _))⟩
  · rw [decide_eq_true h1, decide_eq_false h2] at hR
    rw [Int.sign_eq_neg_one_of_neg (by omega)]
    clear h1 h2 hM1 hM2
    go_enter Tryz.func147, Tryz.ntmps147
    go_wp2_with (go_at_call 136; (with_reducible refine (hR).mono ?_); rintro e w1 ⟨rfl, hb1⟩; obtain ⟨hc1, hf1⟩ := bcell hb1; have hs1 := hb1.size; (try simp at hs1))
    go_ret
    exact ⟨rfl, (by repeat (first | exact Below.refl _ _ | assumption | refine b_then ?_ (by assumption) | refine b_alloc ?_ _ | refine b_drewN ?_ _ | refine Below.drew ?_ | refine b_set ?_ (by first | exact Nat.le_refl _ | (simp; done) | (simp; omega) | omega) _))⟩
  · rw [decide_eq_false h1, decide_eq_true h2] at hR
    rw [Int.sign_eq_one_of_pos (by omega)]
    clear h1 h2 hM1 hM2
    go_enter Tryz.func147, Tryz.ntmps147
    go_wp2_with (go_at_call 136; (with_reducible refine (hR).mono ?_); rintro e w1 ⟨rfl, hb1⟩; obtain ⟨hc1, hf1⟩ := bcell hb1; have hs1 := hb1.size; (try simp at hs1))
    go_ret
    exact ⟨rfl, (by repeat (first | exact Below.refl _ _ | assumption | refine b_then ?_ (by assumption) | refine b_alloc ?_ _ | refine b_drewN ?_ _ | refine Below.drew ?_ | refine b_set ?_ (by first | exact Nat.le_refl _ | (simp; done) | (simp; omega) | omega) _))⟩
  · rw [decide_eq_false h1, decide_eq_false h2] at hR
    rw [show ((a.natAbs : Int) - b.natAbs).sign = (a - b).sign by congr 1; omega] at hM1
    clear h1 h2 hM2
    generalize (a - b).sign = z at *
    generalize a.natAbs = m at *
    generalize b.natAbs = n at *
    go_enter Tryz.func147, Tryz.ntmps147
    go_wp2_with (first | (go_at_call 136; (with_reducible refine (hR).mono ?_); rintro e w1 ⟨rfl, hb1⟩; obtain ⟨hc1, hf1⟩ := bcell hb1; have hs1 := hb1.size; (try simp at hs1)) | (go_at_call 177; (with_reducible refine (hM1 _).mono ?_); rintro e w2 ⟨rfl, hb2⟩; obtain ⟨hc2, hf2⟩ := bcell hb2; have hs2 := hb2.size; (try simp at hs2)))
    go_ret
    exact ⟨rfl, (by repeat (first | exact Below.refl _ _ | assumption | refine b_then ?_ (by assumption) | refine b_alloc ?_ _ | refine b_drewN ?_ _ | refine Below.drew ?_ | refine b_set ?_ (by first | exact Nat.le_refl _ | (simp; done) | (simp; omega) | omega) _))⟩
theorem rcmp_sign (x y : Rat) : (x.num * (y.den : Int) - y.num * (x.den : Int)).sign = (x + -y).num.sign := by
  have h1 := Rat.lt_iff (a := x) (b := y)
  have h2 := Rat.lt_iff (a := y) (b := x)
  have h3 := sg_cmp x y
  have h4 : 0 < (x + -y).num ↔ y < x := by
    have := Rat.num_nonneg (q := -(x + -y))
    rw [Rat.neg_num] at this
    have h5 : 0 < (x + -y).num ↔ ¬ (0 ≤ -(x + -y).num) := by omega
    rw [h5, this, Rat.not_le]
    constructor
    · intro h; grind
    · intro h; grind
  rw [Int.sign_neg_iff] at h3
  refine sign_congr ?_ ?_
  · rw [h3, h1]; omega
  · rw [h4, h2]; omega
set_option maxRecDepth 100000 in
set_option maxHeartbeats 2000000 in
theorem p_rcmp (x y : Rat) (w : World) (hg : Glob w) (hx : rsmall 400000000 x) (hy : rsmall 400000000 y) :
    Calls Tryz.prog 113 #[.agg #[.string (iS x.num), .string (nS x.den)], .agg #[.string (iS y.num), .string (nS y.den)]] w fun e w' => e = .returned (.int .i64 (x + -y).num.sign) ∧ Below w.heap.size w w' := by
  have hX := fun W hg => p_both x y W hg (rsmall_mono hx (by omega)) (rsmall_mono hy (by omega))
  have hM1 := fun W hg => w_mulN x.num y.den W hg (by have := hx.1; omega) (by have := hy.2; omega)
  have hM2 := fun W hg => w_mulN y.num x.den W hg (by have := hy.1; omega) (by have := hx.2; omega)
  have n1 := rsmall_num hx hy
  have n2 := rsmall_num hy hx
  have hA := fun W => w_Cmp (x.num * y.den) (y.num * x.den) W (by omega) (by omega)
  rw [rcmp_sign] at hA
  generalize (x + -y).num.sign = z at *
  generalize x.num * (y.den : Int) = p1 at *
  generalize y.num * (x.den : Int) = p2 at *
  clear n1 n2 hx hy
  go_enter Tryz.func113, Tryz.ntmps113
  go_wp2_with (go_at_call 101; (with_reducible refine (hX _ (hg.below (by repeat (first | exact Below.refl _ _ | assumption | refine b_then ?_ (by assumption) | refine b_alloc ?_ _ | refine b_drewN ?_ _ | refine Below.drew ?_ | refine b_set ?_ (by first | exact Nat.le_refl _ | (simp; done) | (simp; omega) | omega) _)))).mono ?_); rintro e w1 ⟨rfl, hb1⟩; obtain ⟨hc1, hf1⟩ := bcell hb1; have hs1 := hb1.size; (try simp at hs1); have hq1 : w.heap.size + 1 < w1.heap.size := (by omega); have hv1 : w.heap.size < w1.heap.size := (by omega); have hg1 : Glob w1 := hg.below (by repeat (first | exact Below.refl _ _ | assumption | refine b_then ?_ (by assumption) | refine b_alloc ?_ _ | refine b_drewN ?_ _ | refine Below.drew ?_ | refine b_set ?_ (by first | exact Nat.le_refl _ | (simp; done) | (simp; omega) | omega) _)))
  (refine wp_region_after (by kernel_rfl) (by kernel_rfl) ?_; (repeat (first | go_big_quiet_skip | (go_big_quiet_want; go_big_quiet_op; first | go_big_quiet_on | (apply Exists.intro; refine ⟨fun _ => ?_, ?_⟩; (focus (first | (go_at_call 104; with_reducible exact Calls.after (hM1 _ (hg1.below (After.h _)))) | (go_at_call 104; with_reducible exact Calls.after (hM2 _ (hg1.below (After.h _)))) | (go_at_call 147; with_reducible exact Calls.after (hA _)))); go_big_quiet_on)))); refine wpQuiet_nil ?_; rintro w3 ⟨⟨_, hb3⟩, rfl⟩; (try dsimp only); obtain ⟨hc3, hf3⟩ := bcell hb3; have hs3 := hb3.size; (try simp at hs3))
  go_wp2
  go_ret
  exact ⟨rfl, (by repeat (first | exact Below.refl _ _ | assumption | refine b_then ?_ (by assumption) | refine b_alloc ?_ _ | refine b_drewN ?_ _ | refine Below.drew ?_ | refine b_set ?_ (by first | exact Nat.le_refl _ | (simp; done) | (simp; omega) | omega) _))⟩
theorem sign_cases (z : Int) : (z < 0 ∧ z.sign = -1) ∨ (¬ z < 0 ∧ (z.sign = 0 ∨ z.sign = 1)) := by
  rcases Int.lt_trichotomy z 0 with h | h | h
  · exact .inl ⟨h, Int.sign_eq_neg_one_of_neg h⟩
  · exact .inr ⟨by omega, .inl (by rw [h]; rfl)⟩
  · exact .inr ⟨by omega, .inr (Int.sign_eq_one_of_pos h)⟩
theorem rneg_iff (p : Rat) : p.num < 0 ↔ p < 0 := by rw [← sg_neg, Int.sign_neg_iff]
theorem rcmp_iff (p q : Rat) : (p + -q).num < 0 ↔ p < q := by rw [← sg_cmp, Int.sign_neg_iff]
set_option maxRecDepth 100000 in
set_option maxHeartbeats 4000000 in
theorem p_short {A B : Option Addr} {n c m k : Nat} {xs os : List Ln} (a0 a1 a2 a3 : ByteArray) (w : World) (hg : Glob w) (hx : Rd Ln.cs 4 w A n xs) (hy : Rd Ln.cs 4 w B m os) (hn : n ≤ 1000000) (hm : m ≤ 1000000) (hbx : bmay xs = true) (hbo : bmay os = true) (hzx : ∀ f ∈ xs, lnB 1000000 f) (hzo : ∀ f ∈ os, lnB 1000000 f) (h0 : a0.size ≤ 9000000000) :
    Calls Tryz.prog 78 #[.slice A n c, .slice B m k, .agg #[.string a0, .string a1, .string a2, .string a3]] w fun e w' => e = .returned (.bool (pshort xs os ⟨a0, a1, ⟨a2, a3⟩⟩)) ∧ Below w.heap.size w w' := by
  obtain ⟨p, hp, hps⟩ := get_rat hzo (by omega) hbo a0 a1
  obtain ⟨q, hq, hqs⟩ := get_rat hzx (by omega) hbx a0 a1
  rw [pshort_eq hp hq]
  have hGo : ∀ W, Below w.heap.size w W → Calls Tryz.prog 69 #[.slice B m k, .string a0, .string a1] W fun e w' => e = .returned (.agg #[.string (iS p.num), .string (nS p.den)]) ∧ Below W.heap.size W w' := fun W hW => by
    have := b_get (c := k) a0 a1 W (hg.below hW) (hy.below hW) (by omega) (fun f hf => lnB_q (hzo f hf) (by omega))
    rw [bget_yes hbo, hp] at this
    exact this
  have hGb : ∀ W, Below w.heap.size w W → Calls Tryz.prog 69 #[.slice A n c, .string a0, .string a1] W fun e w' => e = .returned (.agg #[.string (iS q.num), .string (nS q.den)]) ∧ Below W.heap.size W w' := fun W hW => by
    have := b_get (c := c) a0 a1 W (hg.below hW) (hx.below hW) (by omega) (fun f hf => lnB_q (hzx f hf) (by omega))
    rw [bget_yes hbx, hq] at this
    exact this
  have hF := fun W => p_free a0 W
  have hrs : rsign ⟨iS p.num, nS p.den⟩ = p.num.sign := rsign_enc p
  have hS := fun W hg => p_rsign (iS p.num) (nS p.den) W hg (by have := iS_sz hps.1; omega) (by rw [nS_size]; have := hps.2; omega)
  have hC := fun W hg => p_rcmp p q W hg (rsmall_mono hps (by omega)) (rsmall_mono hqs (by omega))
  rw [hrs] at hS
  have hB0 : Below w.heap.size w (w.alloc (.cells #[.string a0, .string a1, .string a2, .string a3] 46)) := b_alloc (Below.refl _ _) _
  have bx0 : Blk (w.alloc (.cells #[.string a0, .string a1, .string a2, .string a3] 46)) w.heap.size 46 #[.string a0, .string a1, .string a2, .string a3] := Blk.new w _ _
  have hsn := rneg_iff p
  have hcn := rcmp_iff p q
  obtain ⟨s, hs⟩ : ∃ s, p.num.sign = s := ⟨_, rfl⟩
  obtain ⟨d, hd⟩ : ∃ s, (p + -q).num.sign = s := ⟨_, rfl⟩
  have cs := sign_cases p.num
  have cd := sign_cases (p + -q).num
  rw [hs, hsn] at cs
  rw [hd, hcn] at cd
  rw [hs] at hS
  rw [hd] at hC
  clear hrs hsn hcn hs hd hps hqs hp hq
  cases f0 : pfree a0 with
  | true =>
    rw [f0] at hF
    clear cs cd hS hC hGb f0
    go_enter Tryz.func78, Tryz.ntmps78
    go_wp2_with (go_at_call 69; (with_reducible refine (hGo _ hB0).mono ?_); rintro e w1 ⟨rfl, hb1⟩; obtain ⟨hc1, hf1⟩ := bcell hb1; have hs1 := hb1.size; (try simp at hs1))
    have bx1 := (bx0.below hb1).alloc (.cells #[.string (iS p.num), .string (nS p.den)] 35)
    obtain ⟨y1, y2, y3⟩ := bx1.aftr4
    have y0 := fun y : After _ => (bx1.below y.h).cell 0
    have z1 := (Blk.new w1 35 #[.string (iS p.num), .string (nS p.den)]).aftr
    obtain ⟨z1, z2⟩ := z1
    have hB2 : Below w.heap.size w (w1.alloc (.cells #[.string (iS p.num), .string (nS p.den)] 35)) := b_alloc (b_then hB0 hb1) _
    have hg2 := hg.below hB2
    have hq1 : w.heap.size < w1.heap.size := by omega
    (refine wp_region_after (by kernel_rfl) (by kernel_rfl) ?_; (repeat (first | go_big_quiet_skip | (go_big_quiet_want; go_big_quiet_op; first | go_big_quiet_on | (apply Exists.intro; refine ⟨fun _ => ?_, ?_⟩; (focus ((go_at_call 70; with_reducible exact Calls.after_same (hF _)))); go_big_quiet_on)))); refine wpQuiet_nil ?_; rintro w2 ⟨⟨_, hb2⟩, rfl⟩; (try dsimp only); obtain ⟨hc2, hf2⟩ := bcell hb2; have hs2 := hb2.size; (try simp at hs2))
    go_wp2
    go_ret
    exact ⟨ret_bool (by simp), (by repeat (first | exact Below.refl _ _ | assumption | refine b_then ?_ (by assumption) | refine b_alloc ?_ _ | refine b_drewN ?_ _ | refine Below.drew ?_ | refine b_set ?_ (by first | exact Nat.le_refl _ | (simp; done) | (simp; omega) | omega) _))⟩
  | false =>
    rw [f0] at hF
    clear f0
    rcases cs with ⟨hpn, rfl⟩ | ⟨hpn, hs01⟩
    · rcases cd with ⟨hdn, rfl⟩ | ⟨hdn, rfl | rfl⟩
      all_goals
        go_enter Tryz.func78, Tryz.ntmps78
        go_wp2_with (go_at_call 69; (with_reducible refine (hGo _ hB0).mono ?_); rintro e w1 ⟨rfl, hb1⟩; obtain ⟨hc1, hf1⟩ := bcell hb1; have hs1 := hb1.size; (try simp at hs1))
        have bx1 := (bx0.below hb1).alloc (.cells #[.string (iS p.num), .string (nS p.den)] 35)
        obtain ⟨y1, y2, y3⟩ := bx1.aftr4
        have y0 := fun y : After _ => (bx1.below y.h).cell 0
        have z1 := (Blk.new w1 35 #[.string (iS p.num), .string (nS p.den)]).aftr
        obtain ⟨z1, z2⟩ := z1
        have hB2 : Below w.heap.size w (w1.alloc (.cells #[.string (iS p.num), .string (nS p.den)] 35)) := b_alloc (b_then hB0 hb1) _
        have hg2 := hg.below hB2
        have hq1 : w.heap.size < w1.heap.size := by omega
        (refine wp_region_after (by kernel_rfl) (by kernel_rfl) ?_; (repeat (first | go_big_quiet_skip | (go_big_quiet_want; go_big_quiet_op; first | go_big_quiet_on | (apply Exists.intro; refine ⟨fun _ => ?_, ?_⟩; (focus (first | (go_at_call 70; with_reducible exact Calls.after_same (hF _)) | (go_at_call 48; with_reducible exact Calls.after (hS _ (hg2.below (After.h _)))) | (go_at_call 69; with_reducible exact Calls.after (hGb _ (b_then hB2 (After.h _)))) | (go_at_call 113; with_reducible exact Calls.after (hC _ (hg2.below (After.h _)))))); go_big_quiet_on)))); refine wpQuiet_nil ?_; rintro w2 ⟨⟨_, hb2⟩, rfl⟩; (try dsimp only); obtain ⟨hc2, hf2⟩ := bcell hb2; have hs2 := hb2.size; (try simp at hs2))
        go_wp2
        go_ret
        exact ⟨ret_bool (by simp [hpn, hdn]), (by repeat (first | exact Below.refl _ _ | assumption | refine b_then ?_ (by assumption) | refine b_alloc ?_ _ | refine b_drewN ?_ _ | refine Below.drew ?_ | refine b_set ?_ (by first | exact Nat.le_refl _ | (simp; done) | (simp; omega) | omega) _))⟩
    · rcases hs01 with rfl | rfl
      all_goals
        clear cd hC hGb
        go_enter Tryz.func78, Tryz.ntmps78
        go_wp2_with (go_at_call 69; (with_reducible refine (hGo _ hB0).mono ?_); rintro e w1 ⟨rfl, hb1⟩; obtain ⟨hc1, hf1⟩ := bcell hb1; have hs1 := hb1.size; (try simp at hs1))
        have bx1 := (bx0.below hb1).alloc (.cells #[.string (iS p.num), .string (nS p.den)] 35)
        obtain ⟨y1, y2, y3⟩ := bx1.aftr4
        have y0 := fun y : After _ => (bx1.below y.h).cell 0
        have z1 := (Blk.new w1 35 #[.string (iS p.num), .string (nS p.den)]).aftr
        obtain ⟨z1, z2⟩ := z1
        have hB2 : Below w.heap.size w (w1.alloc (.cells #[.string (iS p.num), .string (nS p.den)] 35)) := b_alloc (b_then hB0 hb1) _
        have hg2 := hg.below hB2
        have hq1 : w.heap.size < w1.heap.size := by omega
        (refine wp_region_after (by kernel_rfl) (by kernel_rfl) ?_; (repeat (first | go_big_quiet_skip | (go_big_quiet_want; go_big_quiet_op; first | go_big_quiet_on | (apply Exists.intro; refine ⟨fun _ => ?_, ?_⟩; (focus (first | (go_at_call 70; with_reducible exact Calls.after_same (hF _)) | (go_at_call 48; with_reducible exact Calls.after (hS _ (hg2.below (After.h _)))))); go_big_quiet_on)))); refine wpQuiet_nil ?_; rintro w2 ⟨⟨_, hb2⟩, rfl⟩; (try dsimp only); obtain ⟨hc2, hf2⟩ := bcell hb2; have hs2 := hb2.size; (try simp at hs2))
        go_wp2
        go_ret
        exact ⟨ret_bool (by simp [hpn]), (by repeat (first | exact Below.refl _ _ | assumption | refine b_then ?_ (by assumption) | refine b_alloc ?_ _ | refine b_drewN ?_ _ | refine Below.drew ?_ | refine b_set ?_ (by first | exact Nat.le_refl _ | (simp; done) | (simp; omega) | omega) _))⟩
end Go.Proofs.YtjdkbmlkplbmoaaGreatDoor

/- Walk of post.Apply. -/
namespace Go.Proofs.YtjdkbmlkplbmoaaGreatDoor
open Go.RowKit
set_option linter.unusedVariables false
set_option linter.unusedSimpArgs false

theorem run_append_none {P : Program} {w : World} {α : Type} {e : α → List Value} {z bytes : Nat} {t T ty : TypeId} (E : Elem P t T z bytes) {base : Nat} {v : Value} {xs : List α} (hown : Own e z T w base v xs) (c : Nat) :
    (Builtin.append_ #[t, t] ty #[v, .slice none 0 c]).run P w = .ok v w := by
  obtain ⟨zero, hi, hzs⟩ := E.inf
  obtain ⟨i0, hi0, hz0, hz1, hz2⟩ := info_parts hi
  rcases hown.row.2 with ⟨rfl, _⟩ | ⟨g, cap, cur, rfl, _, _, hnc, _⟩
  · simp [Builtin.append_, run_underlying E.und, sizeOf, typeInfo, hi0, Builtin.lenOf, Builtin.firstCells]
  · simp [Builtin.append_, run_underlying E.und, sizeOf, typeInfo, hi0, Builtin.lenOf, Builtin.firstCells, hnc, storeCells]
/-- append of a slice that is read, nil or not. -/
theorem wpList_apps0 {P : Program} {α : Type} {e : α → List Value} {z bytes : Nat} {t T : TypeId} (E : Elem P t T z bytes) (hz : 0 < z) (he : ∀ x, (e x).length = z) (h1 : ∀ x, ∀ u ∈ e x, u.oneCell' = true) {w : World} {ops : Array Oper} {rest : List Oper} {o : Oper} {a : Act} {Q : Exit → Act → World → Prop} (hgd : o.guard = none) (s x : Operand)
    (ho : o.op = .call { callee := .builtin .append, args := #[s, x], argTypes := #[t, t] })
    {base : Nat} {v : Value} {xs : List α} (hs : a.eval s = v) (hown : Own e z T w base v xs)
    (A : Option Addr) (m c : Nat) (ys : List α) (hx : a.eval x = .slice A m c) (hr : Rd e z w A m ys)
    (hbytes : (xs.length + m) * bytes ≤ 140737488355328) (hbig : xs.length + m ≤ 140737488355328) (hbase : base ≤ w.heap.size)
    (h : ∀ v' w', Own e z T w' base v' (xs ++ ys) → w.grownBy w' v.ownBlock → (v'.ownBlock = v.ownBlock ∨ v'.ownBlock = some w.heap.size) → wpList P ops Q rest (a.put o.dst v') w') : wpList P ops Q (o :: rest) a w := by
  have hlen := hr.len
  cases A with
  | none =>
    have hm : m = 0 := by
      rcases Nat.eq_zero_or_pos m with h | h
      · exact h
      · obtain ⟨_, ha, _⟩ := hr.cells h; cases ha
    subst hm
    have hys : ys = [] := List.eq_nil_of_length_eq_zero hlen
    subst hys
    have hrun := run_append_none (ty := o.type) E hown c
    refine wpList_plain hgd fun K hK => ?_
    unfold Oper.wp execOp
    simp only [ho, resolve, invoke, builtin, Sem.run_bind, Sem.run_pure, Result.andThen_ok, List.map_toArray, List.map_cons, List.map_nil, hs, hx, hrun]
    exact hK _ _ (h v w (by rw [List.append_nil]; exact hown) (World.grownBy.refl w _) (.inl rfl))
  | some ad =>
    exact wpList_apps (v := v) E hz he h1 hgd s x ho hs hown ad m c ys hlen hx (Rd.flat hz he hr) hbytes hbig hbase h
set_option maxRecDepth 100000 in
set_option maxHeartbeats 4000000 in
theorem p_apply {A A2 : Option Addr} {n c n2 c2 : Nat} {xs ls : List Ln} (cov : Bool) (w : World) (hg : Glob w) (hx : Rd Ln.cs 4 w A n xs) (hn : n ≤ 100000) (hzb : ∀ f ∈ xs, lnB 900000 f) (hy : Rd Ln.cs 4 w A2 n2 ls) (hn2 : n2 ≤ 200) (hzl : ∀ f ∈ ls, lnB 200 f) :
    Calls Tryz.prog 44 #[.slice A n c, .slice A2 n2 c2, .bool cov] w fun e w' => ApplyIs (papply xs ls cov) none 0 w e w' := by
  have hxl := hx.len
  have hyl := hy.len
  have hzq : ∀ f ∈ xs, lnq f := fun f h => lnB_q (hzb f h) (by omega)
  have hM := fun W (hW : Below w.heap.size w W) => b_may (c := c) W (hg.below hW) (hx.below hW) hzq
  have hBl := fun W (hW : Below w.heap.size w W) => p_balanced (c := c2) W (hg.below hW) (hy.below hW) (by omega) (fun f h => lnB_S (hzl f h) (by omega))
  cases c1 : bmay xs with
  | false =>
    have hp : Hid (papply xs ls cov = ([], 1)) := by unfold Hid papply; rw [c1]; rfl
    rw [c1] at hM
    clear hBl
    go_enter Tryz.func44, Tryz.ntmps44
    go_wp2_with (go_at_call 42; (with_reducible refine (hM w (Below.refl _ _)).mono ?_); rintro e w1 ⟨rfl, hb1⟩; obtain ⟨hc1, hf1⟩ := bcell hb1; have hs1 := hb1.size; (try simp at hs1))
    go_ret2
    rw [hp.out]
    exact ⟨none, 0, 0, rfl, Rd.nil, hb1, .inl newer_none⟩
  | true =>
  rw [c1] at hM
  cases c2' : lbal ls with
  | false =>
    have hp : Hid (papply xs ls cov = ([], 70)) := by unfold Hid papply; rw [c1, c2']; rfl
    rw [c2'] at hBl
    go_enter Tryz.func44, Tryz.ntmps44
    go_wp2_with (first | (go_at_call 42; (with_reducible refine (hM w (Below.refl _ _)).mono ?_); rintro e w1 ⟨rfl, hb1⟩; obtain ⟨hc1, hf1⟩ := bcell hb1; have hs1 := hb1.size; (try simp at hs1)) | (go_at_call 76; (with_reducible refine (hBl w1 hb1).mono ?_); rintro e w2 ⟨rfl, hb2⟩; obtain ⟨hc2, hf2⟩ := bcell hb2; have hs2 := hb2.size; (try simp at hs2)))
    go_ret2
    rw [hp.out]
    exact ⟨none, 0, 0, rfl, Rd.nil, b_then hb1 hb2, .inl newer_none⟩
  | true =>
  rw [c2'] at hBl
  have hl1 := lbal_lone c2'
  have htk : ∀ k, ∀ x ∈ ls.take k, lone x = true := fun k x h => hl1 x (List.mem_of_mem_take h)
  have HM1 := Lib.hid (fun k => posts_may (l := ls.take k) c1 (htk k))
  have HL1 := Lib.hid (fun k => posts_len (l := ls.take k) c1 (htk k))
  have HB1 := Lib.hid (fun k => posts_B (k := 200) (l := ls.take k) c1 (htk k) hzb (by omega) fun x h => hzl x (List.mem_of_mem_take h))
  have HXL := Lib.hid hxl
  have HYL := Lib.hid hyl
  have HLO := Lib.hid hl1
  have HZL := Lib.hid hzl
  have HZB := Lib.hid hzb
  have hAd : ∀ (j : Nat) (B : Option Addr) (mm kk : Nat) (a0 a1 a2 a3 : ByteArray) W, Glob W → ls[j]? = some ⟨a0, a1, ⟨a2, a3⟩⟩ → Rd Ln.cs 4 W B mm (bposts xs (ls.take j)) → Calls Tryz.prog 77 #[.slice B mm kk, .agg #[.string a0, .string a1, .string a2, .string a3]] W fun e w' => ∃ B m k, e = .returned (.tuple #[.slice B m k, .bool true]) ∧ Rd Ln.cs 4 w' B m (bposts xs (ls.take (j + 1))) ∧ Below W.heap.size W w' ∧ Newer W.heap.size B := fun j B mm kk a0 a1 a2 a3 W hgw hj hr => by
    have hmem := List.mem_of_getElem? hj
    have h1 := HL1.out j
    have h2 := hr.len
    have h3 : (ls.take j).length ≤ 200 := by rw [List.length_take]; omega
    rw [posts_take hj]
    exact (b_add (c := kk) a0 a1 a2 a3 W hgw hr (by omega) (fun f hf => lnB_q (HB1.out j f hf) (by have : (ls.take j).length * 202 ≤ 200 * 202 := Nat.mul_le_mul_right _ h3; omega)) (lnB_q (hzl _ hmem) (by omega))).mono fun e w' h => h.put (HM1.out j) (hl1 _ hmem)
  have KAD := Lib.hid hAd
  have hHO : ∀ W : World, Own Ln.cs 4 46 (W.alloc (.cells #[] 46)) W.heap.size (.slice (some ⟨W.heap.size, 0, none⟩) 0 0) ([] : List Ln) := fun W => Own.made0 (Nat.le_refl _)
  have KHO := Lib.hid hHO
  clear hAd hzq hzb hzl hl1 htk hxl hyl hHO
  have HC1 := Lib.hid c1
  have HC2 := Lib.hid c2'
  clear c1 c2'
  go_enter Tryz.func44, Tryz.ntmps44
  go_wp2_with (first
    | (go_at_call 42; (with_reducible refine (hM w (Below.refl _ _)).mono ?_); rintro e w1 ⟨rfl, hb1⟩; obtain ⟨hc1, hf1⟩ := bcell hb1; have hs1 := hb1.size; (try simp at hs1))
    | (go_at_call 76; (with_reducible refine (hBl w1 hb1).mono ?_); rintro e w2 ⟨rfl, hb2⟩; obtain ⟨hc2, hf2⟩ := bcell hb2; have hs2 := hb2.size; (try simp at hs2))
    | (at_builtin; refine wpList_apps0 (v := .slice (some ⟨w2.heap.size, 0, none⟩) 0 0) Tryz.elemBook (by omega) Ln.cs_length Ln.cs_one rfl (.tmp 19) (.tmp 20) rfl rfl (KHO.out w2) A n c xs rfl (hx.below (b_alloc (b_then hb1 hb2) _)) (by simp; omega) (by simp; omega) (by simp) ?_; intro v3 w3 hown3 hg3 hat3; obtain ⟨A3, c3, hv3, hr3, nw3⟩ := hown3.rdn Ln.cs_length; rw [List.nil_append, HXL.out] at hv3 hr3; subst hv3))
  have hB2 := b_then hb1 hb2
  have hB3 : Below w.heap.size w w3 := (KHO.out w2).frame (b_alloc hB2 _) hB2.size hg3
  have R3 : Rd Ln.cs 4 w3 A3 n (bposts xs (ls.take 0)) := by rw [List.take_zero, posts_nil]; exact hr3
  clear hown3 hg3 hat3 hr3
  go_loopw [8, 24] (fun ov iv wr => ∃ (k : Nat) (B : Option Addr) (mm kk : Nat), k ≤ n2 ∧ iv = .int .i64 (k : Nat) ∧ ov = .slice B mm kk ∧ Rd Ln.cs 4 wr B mm (bposts xs (ls.take k)) ∧ Below w.heap.size w wr ∧ Newer w.heap.size B) (fun _ i _ => n2 - (intOf i).toNat)
  case atStart => exact ⟨0, A3, n, c3, Nat.zero_le _, rfl, rfl, R3, hB3, nw3.mono hB2.size⟩
  case round =>
    obtain ⟨k, B, mm, kk, hk, rfl, rfl, RB, hB, hNw⟩ := hrel
    by_cases hlt : k < n2
    · obtain ⟨ad, a0, a1, a2, a3, rfl, hxk, hl⟩ := ln_in hy hB hlt
      have HX := Lib.hid hxk
      obtain ⟨hx0, hx1, hx2, hx3, hx4⟩ := hl wr (Below.refl _ _)
      have RBa := RB.below (b_alloc (Below.refl _ _) (.cells #[.string a0, .string a1, .string a2, .string a3] 46))
      have hBa := b_alloc hB (.cells #[.string a0, .string a1, .string a2, .string a3] 46)
      clear hxk hl
      go_wp2_with (go_at_call 77; (with_reducible refine (KAD.out k B mm kk a0 a1 a2 a3 _ (hg.below hBa) HX.out RBa).mono ?_); rintro e w4 ⟨B3, m3, k3, rfl, rd3, hb3, nw4⟩)
      go_roundw
      case rel => exact ⟨k + 1, B3, m3, k3, by omega, by go_num, rfl, rd3, b_then hBa hb3, nw4.mono hBa.size⟩
      case measure => simp [intOf]; omega
    · obtain rfl : k = n2 := by omega
      have hls : ls.take k = ls := by rw [← HYL.out, List.take_length]
      obtain ⟨os, hos⟩ : ∃ os, bposts xs ls = os := ⟨_, rfl⟩
      have hom := HM1.out k
      have hol := HL1.out k
      have hob := HB1.out k
      have hml := RB.len
      rw [hls, hos] at RB hom hol hob hml
      have hlk : ls.length ≤ 200 := by rw [HYL.out]; omega
      have hxn : xs.length ≤ 100000 := by rw [HXL.out]; omega
      have hmm : mm ≤ 1000000 := by omega
      have hoq : ∀ f ∈ os, lnB 1000000 f := fun f hf => lnB_mono (hob f hf) (by have : ls.length * 202 ≤ 200 * 202 := Nat.mul_le_mul_right _ hlk; omega)
      have HOM := Lib.hid hom
      have HOQ := Lib.hid hoq
      have HOS := Lib.hid hos
      clear hom hol hob hls hos hlk hoq hml hxn
      have hfin : Hid (∀ b : Bool, (cov = true → ls.any (pshort xs os) = b) → papply xs ls cov = if cov && b then ([], 71) else (os, 0)) := by
        intro b hb
        unfold papply
        rw [HC1.out, HC2.out, HOS.out]
        cases cov with
        | false => rfl
        | true => rw [hb rfl]; rfl
      go_wp2
      go_loopw [37] (fun iv wr' => ∃ j : Nat, j ≤ k ∧ iv = .int .i64 (j : Nat) ∧ Hid (cov = true → (ls.take j).any (pshort xs os) = false) ∧ Rd Ln.cs 4 wr' B mm os ∧ Below w.heap.size w wr') (fun i _ => k - (intOf i).toNat)
      case atStart => exact ⟨0, Nat.zero_le _, rfl, by simp [Hid], RB, hB⟩
      case round =>
        clear RB hB
        obtain ⟨j, hj, rfl, H, RB, hB⟩ := hrel
        by_cases hlt2 : j < k
        · obtain ⟨ad, a0, a1, a2, a3, rfl, hxk, hl⟩ := ln_in hy hB hlt2
          have HX := Lib.hid hxk
          obtain ⟨hx0, hx1, hx2, hx3, hx4⟩ := hl wr (Below.refl _ _)
          have RBa := RB.below (b_alloc (Below.refl _ _) (.cells #[.string a0, .string a1, .string a2, .string a3] 46))
          have hBa := b_alloc hB (.cells #[.string a0, .string a1, .string a2, .string a3] 46)
          clear hxk hl
          cases cov with
          | false =>
            have HS : Hid (false = true → (ls.take (j + 1)).any (pshort xs os) = false) := fun h => absurd h (by decide)
            go_wp2
            go_roundw
            case rel => exact ⟨j + 1, by omega, by go_num, HS.out, RBa, hBa⟩
            case measure => simp [intOf]; omega
          | true =>
            have hms := (HZL.out _ (List.mem_of_getElem? HX.out)).1
            have hSh := fun (W : World) (h : Below w.heap.size w W) (h' : Rd Ln.cs 4 W B mm os) => p_short (c := c) (k := kk) a0 a1 a2 a3 W (hg.below h) (hx.below h) h' (by omega) hmm HC1.out HOM.out (fun f hf => lnB_mono (HZB.out f hf) (by omega)) HOQ.out hms
            cases hsb : pshort xs os ⟨a0, a1, ⟨a2, a3⟩⟩ with
            | true =>
              rw [hsb] at hSh
              have hbad : Hid (papply xs ls true = ([], 71)) := hfin.out true (fun _ => any_hit HX.out hsb)
              clear hsb hms
              go_wp2_with (go_at_call 78; (with_reducible refine (hSh _ hBa RBa).mono ?_); rintro e w9 ⟨rfl, hb9⟩; obtain ⟨hc9, hf9⟩ := bcell hb9; have hs9 := hb9.size; (try simp at hs9))
              go_ret2
              rw [hbad.out]
              exact ⟨none, 0, 0, rfl, Rd.nil, b_then hBa hb9, .inl newer_none⟩
            | false =>
              rw [hsb] at hSh
              have HS : Hid (true = true → (ls.take (j + 1)).any (pshort xs os) = false) := fun _ => any_step (H.out (by trivial)) HX.out hsb
              clear hsb hms
              go_wp2_with (go_at_call 78; (with_reducible refine (hSh _ hBa RBa).mono ?_); rintro e w9 ⟨rfl, hb9⟩; obtain ⟨hc9, hf9⟩ := bcell hb9; have hs9 := hb9.size; (try simp at hs9))
              go_roundw
              case rel => exact ⟨j + 1, by omega, by go_num, HS.out, RBa.below hb9, b_then hBa hb9⟩
              case measure => simp [intOf]; omega
        · obtain rfl : j = k := by omega
          have hf : Hid (papply xs ls cov = (os, 0)) := by
            unfold Hid
            rw [hfin.out false (fun h => by have := H.out h; rwa [← HYL.out, List.take_length] at this), Bool.and_false]
            rfl
          go_wp2
          go_ret2
          rw [hf.out]
          exact ⟨B, mm, kk, rfl, RB, hB, .inl hNw⟩
end Go.Proofs.YtjdkbmlkplbmoaaGreatDoor

/- Walk of the fixed calls of the posting's laws. -/
namespace Go.Proofs.YtjdkbmlkplbmoaaGreatDoor
open Go.RowKit
set_option linter.unusedVariables false
set_option linter.unusedSimpArgs false

theorem Rd.take {α : Type} {e : α → List Value} {z : Nat} {w : World} {A : Option Addr} {n : Nat} {xs : List α} (h : Rd e z w A n xs) {m : Nat} (hm : m ≤ n) : Rd e z w A m (xs.take m) :=
  ⟨by rw [List.length_take, h.len]; omega, by have := h.big; omega, fun h0 => by
    obtain ⟨ad, ha, hl, hc⟩ := h.cells (by omega)
    refine ⟨ad, ha, hl, fun j x hj i u hu => hc j x ?_ i u hu⟩
    rw [List.getElem?_take] at hj
    split at hj
    · exact hj
    · cases hj⟩
theorem Rd.of_new {α : Type} {e : α → List Value} {z : Nat} (he : ∀ x, (e x).length = z) (w : World) (T : TypeId) (xs : List α) (hb : xs.length ≤ 9223372036854775807) {arr : Array Value} (ha : arr = (xs.flatMap e).toArray) : Rd e z (w.alloc (.cells arr T)) (some ⟨w.heap.size, 0, none⟩) xs.length xs :=
  ⟨rfl, hb, fun h0 => ⟨_, rfl, by simp, fun j x hj i u hu => new_cells w T arr _ ha (j * z + i) u (flat_get he xs j x hj i u hu)⟩⟩
/-- What move gives. -/
def MoveIs (s t : ByteArray) (z : Int) (w : World) (e : Ending) (w' : World) : Prop := ∃ g, e = .returned (.slice (some ⟨g, 0, none⟩) 2 2) ∧ Rd Ln.cs 4 w' (some ⟨g, 0, none⟩) 2 [⟨s, sX, ⟨iS (-z), nS 1⟩⟩, ⟨t, sX, ⟨iS z, nS 1⟩⟩] ∧ Below w.heap.size w w'
theorem ApplyIs.of {p : List Ln × Int} {w w' : World} {e : Ending} {ys : List Ln} {z : Int} {m : Nat} {A : Option Addr} {n : Nat} (h : ApplyIs p A n w e w') (hp : p = (ys, z)) (hm : ys.length = m) : ∃ B k, e = .returned (.tuple #[.slice B m k, .int .i64 z]) ∧ Rd Ln.cs 4 w' B m ys ∧ Below w.heap.size w w' := by
  obtain ⟨B, m', k, he, hr, hb, _⟩ := h
  subst hp
  have := hr.len
  dsimp only at this he hr
  obtain rfl : m' = m := by omega
  exact ⟨B, k, he, hr, hb⟩
abbrev mIA2 : List Ln := [⟨sIss, sX, ⟨iS (-2), nS 1⟩⟩, ⟨sAnn, sX, ⟨iS 2, nS 1⟩⟩]
abbrev mAB3 : List Ln := [⟨sAnn, sX, ⟨iS (-3), nS 1⟩⟩, ⟨sBob, sX, ⟨iS 3, nS 1⟩⟩]
abbrev mIA1 : List Ln := [⟨sIss, sX, ⟨iS (-1), nS 1⟩⟩, ⟨sAnn, sX, ⟨iS 1, nS 1⟩⟩]
abbrev b7c : List Ln := [⟨sIss, sX, ⟨iS (-2), nS 1⟩⟩, ⟨sAnn, sX, ⟨iS (-1), nS 1⟩⟩, ⟨sBob, sX, ⟨iS 3, nS 1⟩⟩]
abbrev b7d : List Ln := [⟨sIss, sX, ⟨iS (-3), nS 1⟩⟩, ⟨sBob, sX, ⟨iS 3, nS 1⟩⟩]
theorem f7_a1 : papply [] mIA2 true = (mIA2, 0) := by decide +kernel
theorem f7_a2 : papply mIA2 mAB3 true = ([], 71) := by decide +kernel
theorem f7_a3 : papply mIA2 mAB3 false = (b7c, 0) := by decide +kernel
theorem f7_a4 : papply mIA2 (mAB3.take 1) true = ([], 70) := by decide +kernel
theorem f7_a5 : papply b7c mIA1 true = (b7d, 0) := by decide +kernel
theorem f7_b1 : lbal mAB3 = true := by decide +kernel
theorem f7_b2 : lbal (mAB3.take 1) = false := by decide +kernel
theorem f7_b3 : lbal [] = true := by decide +kernel
theorem f7_p1 : pfree ⟨#[33, 114, 111, 117, 110, 100]⟩ = true := by decide +kernel
theorem f7_p2 : pfree ⟨#[97, 110, 110]⟩ = false := by decide +kernel
theorem f7_B (l : Ln) (h : l ∈ mIA2 ++ mAB3 ++ mIA1 ++ b7c ++ b7d) : lnB 200 l := by
  simp only [List.cons_append, List.nil_append, List.mem_cons, List.not_mem_nil, or_false] at h
  rcases h with h | h | h | h | h | h | h | h | h | h | h <;> subst h <;> exact ⟨by decide +kernel, by decide +kernel, by decide +kernel, by decide +kernel⟩
end Go.Proofs.YtjdkbmlkplbmoaaGreatDoor
