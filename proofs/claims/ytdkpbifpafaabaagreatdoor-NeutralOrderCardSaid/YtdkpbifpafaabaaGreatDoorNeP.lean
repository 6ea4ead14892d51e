/- NeutralOrder: the walk (given the fixed calls). -/
import Derived.Test.YtdkpbifpafaabaaGreatDoorNeL
import Derived.Test.YtdkpbifpafaabaaGreatDoorNeK
namespace Go.Proofs.YtdkpbifpafaabaaGreatDoor
open Go Go.RowKit
set_option linter.unusedVariables false
set_option linter.unusedSimpArgs false

section
variable {P : Program} {l : List Oper} {w : World} {Q : Exit → Act → World → Prop}
structure MultiC (P : Program) (l : List Oper) (mk : List MkV) (tk : List Tk) (R : Nat → Option Addr → Nat → World → Prop) (w : World) (A : (Nat → Sl) → Act) (Q : Exit → Act → World → Prop) : Prop where
  back : backB l = true
  dist : distinctB l = true
  nd : (mk.map (·.1) ++ tk.map (·.1)).Nodup
  lt : ∀ x ∈ mk, x.1 < l.length
  k : ∀ x ∈ mk, ∀ p, ∃ o, l[x.1]? = some o ∧ o.dst = some x.2.1 ∧ ∀ (a : Act) (W : World), Below w.heap.size w W → (∀ y ∈ mk, waitsB l x.1 y.1 = true → R y.1 (p y.1).1 (p y.1).2 W) → Given l x.1 a (A p) → Region.wanted o (yielded l.toArray a.tmps) = true ∧
    wpOp P l.toArray Q x.1 (fun a' W' => ∃ B k, a' = a.put (some x.2.1) (x.2.2 (B, k)) ∧ R x.1 B k W' ∧ Below W.heap.size W W') a W
  t : ∀ x ∈ tk, ∀ p, ∃ o, l[x.1]? = some o ∧ o.dst = some x.2.1 ∧ ∀ (a : Act) (W : World), Below w.heap.size w W → (∀ y ∈ mk, waitsB l x.1 y.1 = true → R y.1 (p y.1).1 (p y.1).2 W) → Given l x.1 a (A p) → Region.wanted o (yielded l.toArray a.tmps) = true ∧
    wpOp P l.toArray Q x.1 (fun a' W' => a' = a.put (some x.2.1) x.2.2 ∧ Below W.heap.size W W') a W
  stay : ∀ i B k W W', R i B k W → Below W.heap.size W W' → R i B k W'
  hA : ∀ p, A p = mk.foldl (fun a x => a.put (some x.2.1) (x.2.2 (p x.1))) (A fun _ => (none, 0))
  hQ : ∀ p W, Below w.heap.size w W → (∀ y ∈ mk, R y.1 (p y.1).1 (p y.1).2 W) → Q .normal (A p) W
variable {mk : List MkV} {tk : List Tk} {R : Nat → Option Addr → Nat → World → Prop} {A : (Nat → Sl) → Act}
theorem MultiC.ghost (B : MultiC P l mk tk R w A Q) : Ghost P l (mSpV mk tk) (Nat → Sl) (mΓV mk tk) w A (fun s p W => ∀ y ∈ mk, s.getD y.1 true = true → R y.1 (p y.1).1 (p y.1).2 W) Q where
  back := B.back
  dist := B.dist
  hA := fun p p' d hd => by
    have hx : ∀ x ∈ mk, x.2.1 ≠ d := fun x hx e => by
      obtain ⟨o, ho, hod, _⟩ := B.k x hx p
      refine hd x.1 o ?_ ho (by rw [hod, e])
      unfold mSpV
      rw [modAt_of (v := x.2.2 (none, 0)) (by rw [mkS_keysV]; exact B.nd) (by unfold mkS_V; exact List.mem_append_left _ (List.mem_map.2 ⟨x, hx, rfl⟩))]
      rfl
    rw [B.hA p, B.hA p', fold_put_atV p d mk _ hx, fold_put_atV p' d mk _ hx]
  hJ := fun s i p W W' hsp hj hW hB y hy h => by
    have hn : i ≠ y.1 := fun e => by
      have : mSpV mk tk y.1 = true := by
        unfold mSpV
        rw [modAt_of (v := y.2.2 (none, 0)) (by rw [mkS_keysV]; exact B.nd) (by unfold mkS_V; exact List.mem_append_left _ (List.mem_map.2 ⟨y, hy, rfl⟩))]
        rfl
      rw [e, this] at hsp; cases hsp
    exact B.stay _ _ _ _ _ (hj y hy (by rwa [set_keep hn] at h)) hB
  hS := fun s i o a p W hsp ho hi hsz hW hj hsl => by
    have hun := (mem_ready.1 hi).1
    have hgiv : Given l i a (A p) := fun j oj d hjo hjd hw => hsl j oj d hjo hjd (waits_at hw hi)
    rcases mSp_casesV hsp with ⟨x, hx, rfl⟩ | ⟨x, hx, rfl⟩
    · obtain ⟨o', ho', hod, hr⟩ := B.k x hx p
      rw [ho] at ho'
      injection ho' with ho'
      subst ho'
      obtain ⟨hw, hop⟩ := hr a W hW (fun y hy hwt => hj y hy (waits_at hwt hi)) hgiv
      refine ⟨hw, wpOp_mono (fun a' W' h => ?_) hop⟩
      obtain ⟨C, k, rfl, hR, hB⟩ := h
      refine ⟨fun j => if j = x.1 then (C, k) else p j, fun j hj2 hjs => ?_, b_then hW hB, ?_, fun y hy h => ?_⟩
      · have hji : j ≠ x.1 := fun e => by subst e; rw [hun] at hjs; cases hjs
        rcases mSp_casesV hj2 with ⟨y, hy, rfl⟩ | ⟨y, hy, rfl⟩
        · unfold mΓV
          rw [modAt_of (by rw [mkS_keysV]; exact B.nd) (show (y.1, y.2.2 (p y.1)) ∈ mkS_V mk tk (fun j => if j = x.1 then (C, k) else p j) by
            unfold mkS_V; refine List.mem_append_left _ (List.mem_map.2 ⟨y, hy, ?_⟩); simp [hji])]
          rw [modAt_of (by rw [mkS_keysV]; exact B.nd) (show (y.1, y.2.2 (p y.1)) ∈ mkS_V mk tk p by
            unfold mkS_V; exact List.mem_append_left _ (List.mem_map.2 ⟨y, hy, rfl⟩))]
        · unfold mΓV
          rw [modAt_of (v := y.2.2) (by rw [mkS_keysV]; exact B.nd) (by unfold mkS_V; exact List.mem_append_right _ (List.mem_map.2 ⟨y, hy, rfl⟩))]
          rw [modAt_of (v := y.2.2) (by rw [mkS_keysV]; exact B.nd) (by unfold mkS_V; exact List.mem_append_right _ (List.mem_map.2 ⟨y, hy, rfl⟩))]
      · rw [hod]
        congr 1
        unfold mΓV
        rw [modAt_of (by rw [mkS_keysV]; exact B.nd) (show (x.1, x.2.2 (C, k)) ∈ mkS_V mk tk (fun j => if j = x.1 then (C, k) else p j) by
          unfold mkS_V; refine List.mem_append_left _ (List.mem_map.2 ⟨x, hx, ?_⟩); simp)]
        rfl
      · by_cases e : y.1 = x.1
        · simp only [e, if_true]; exact hR
        · simp only [e, if_false]
          exact B.stay _ _ _ _ _ (hj y hy (by rwa [set_keep (Ne.symm e)] at h)) hB
    · obtain ⟨o', ho', hod, hr⟩ := B.t x hx p
      rw [ho] at ho'
      injection ho' with ho'
      subst ho'
      obtain ⟨hw, hop⟩ := hr a W hW (fun y hy hwt => hj y hy (waits_at hwt hi)) hgiv
      refine ⟨hw, wpOp_mono (fun a' W' h => ?_) hop⟩
      obtain ⟨rfl, hB⟩ := h
      refine ⟨p, fun _ _ _ => rfl, b_then hW hB, ?_, fun y hy h => ?_⟩
      · rw [hod]
        congr 1
        unfold mΓV
        rw [modAt_of (v := x.2.2) (by rw [mkS_keysV]; exact B.nd) (by unfold mkS_V; exact List.mem_append_right _ (List.mem_map.2 ⟨x, hx, rfl⟩))]
        rfl
      · have hne : x.1 ≠ y.1 := fun e => by
          have hn := B.nd
          rw [List.nodup_append] at hn
          exact hn.2.2 y.1 (List.mem_map.2 ⟨y, hy, rfl⟩) x.1 (List.mem_map.2 ⟨x, hx, rfl⟩) e.symm
        exact B.stay _ _ _ _ _ (hj y hy (by rwa [set_keep hne] at h)) hB
  hQ := fun s p W hall hj hW => B.hQ p W hW fun y hy => hj y hy (hall y.1 (B.lt y hy))
theorem wp_region_multic {id : Nat} {a : Act} (mk : List MkV) (tk : List Tk) (R : Nat → Option Addr → Nat → World → Prop) (A : (Nat → Sl) → Act) (hm : P.follows .mixedOrders = true) (hB : ∀ p : Nat → Sl, Region.lexB .any (mods (mkS_V mk tk p) l).toArray = true)
    (h : ∀ (p : Nat → Sl) (x : After w), wpQuiet P (mods (mkS_V mk tk p) l).toArray (fun w' => ∃ y : After x.W, w' = y.W) (fun a' => a' = A p) (mods (mkS_V mk tk p) l) a)
    (B : MultiC P l mk tk R w A Q) : (Code.region id l.toArray true).wp P Q a w :=
  wp_region_ghost (fun _ => (none, 0) : Nat → Sl) hm (fun p => by rw [ghost_multiV p]; exact hB p) (fun p x => by rw [ghost_multiV p]; exact h p x)
    (fun W hW y hy h => by rw [getD_replicate_false' (B.lt y hy)] at h; cases h) B.ghost
end
theorem acq_of30 {x : Ac} (h0 : x.name.size ≤ 9223372036854775807) (h2 : x.asset.size ≤ 9223372036854775807) (h3 : x.other.size ≤ 9223372036854775807) (hs : x.ratio.num.size ≤ 30 ∧ x.ratio.den.size ≤ 30 ∧ x.cash.num.size ≤ 30 ∧ x.cash.den.size ≤ 30) : acq x := ⟨h0, h2, h3, ⟨by omega, by omega⟩, by omega, by omega⟩
theorem acq_two {x y : Ac} (h : acq x) (h' : acq y) : ∀ z ∈ [x, y], acq z := by
  intro z hz
  simp at hz
  rcases hz with rfl | rfl
  · exact h
  · exact h'
theorem nall_two {xs : List Fx} {a b : Ac} (h : fmay xs = true) (ha : amay a = true) (hb : amay b = true) : nall xs [a, b] = nfix a (nfix b xs) := by
  rw [nall_yes h (by simp [ha, hb])]; rfl
theorem r12_sameT {A B : Option Addr} {n c d : Nat} {xs : List Fx} (w : World) (hx : Rd Fx.cs 4 w A n xs) (hy : Rd Fx.cs 4 w B n xs) :
    Calls Tryz.prog 34 #[.slice A n c, .slice B n d] w fun e w' => e = .returned (.bool true) ∧ Below w.heap.size w w' :=
  (r12_same (c := c) (d := d) w hx hy).mono fun e w' he => ⟨by rw [he.1]; simp, he.2⟩

set_option maxRecDepth 100000 in
set_option maxHeartbeats 8000000 in
theorem l_norder (HF : Fixed17Ok) (a0 : ByteArray) (a1 : Int) (a2 a3 a4 a5 a6 a7 : ByteArray) (a8 a9 a10 : Int) (b0 : ByteArray) (b1 : Int) (b2 b3 b4 b5 b6 b7 : ByteArray) (b8 b9 b10 : Int) {A : Option Addr} {n c : Nat} {xs : List Fx} (w : World) (hg : Glob w) (hx : Rd Fx.cs 4 w A n xs) (hz : ∀ f ∈ xs, f.asset.size ≤ 9223372036854775807 ∧ f.p.num.size ≤ 9223372036854775807 ∧ f.p.den.size ≤ 9223372036854775807)
    (h0 : a0.size ≤ 9223372036854775807) (h2 : a2.size ≤ 9223372036854775807) (h3 : a3.size ≤ 9223372036854775807) (h4 : a4.size ≤ 9223372036854775807) (h5 : a5.size ≤ 9223372036854775807) (h6 : a6.size ≤ 9223372036854775807) (h7 : a7.size ≤ 9223372036854775807)
    (k0 : b0.size ≤ 9223372036854775807) (k2 : b2.size ≤ 9223372036854775807) (k3 : b3.size ≤ 9223372036854775807) (k4 : b4.size ≤ 9223372036854775807) (k5 : b5.size ≤ 9223372036854775807) (k6 : b6.size ≤ 9223372036854775807) (k7 : b7.size ≤ 9223372036854775807) :
    Calls Tryz.prog 10 #[.slice A n c, .agg #[.string a0, .int .i64 a1, .string a2, .string a3, .string a4, .string a5, .string a6, .string a7, .int .i64 a8, .int .i64 a9, .int .i64 a10], .agg #[.string b0, .int .i64 b1, .string b2, .string b3, .string b4, .string b5, .string b6, .string b7, .int .i64 b8, .int .i64 b9, .int .i64 b10]] w fun e w' => e = .returned (.bool true) ∧ Below w.heap.size w w' := by
  have hF := fun W (h : Below w.heap.size w W) => HF W (hg.below h)
  obtain ⟨p1, hp1⟩ : ∃ b, fsmall xs = b := ⟨_, rfl⟩
  obtain ⟨p2, hp2⟩ : ∃ b, fmay xs = b := ⟨_, rfl⟩
  obtain ⟨p3, hp3⟩ : ∃ b, amay ⟨a0, a1, a2, a3, ⟨a4, a5⟩, ⟨a6, a7⟩, a8, a9, a10⟩ = b := ⟨_, rfl⟩
  obtain ⟨p4, hp4⟩ : ∃ b, amay ⟨b0, b1, b2, b3, ⟨b4, b5⟩, ⟨b6, b7⟩, b8, b9, b10⟩ = b := ⟨_, rfl⟩
  have hSm := fun W (h : Below w.heap.size w W) => r12_small (c := c) W (hx.below h) hz
  have hLa := fun W => r15_light a0 a1 a2 a3 a4 a5 a6 a7 a8 a9 a10 W h0 h2 h3 h4 h5 h6 h7
  have hLb := fun W => r15_light b0 b1 b2 b3 b4 b5 b6 b7 b8 b9 b10 W k0 k2 k3 k4 k5 k6 k7
  have hMy := fun (hs : fsmall xs = true) W (h : Below w.heap.size w W) => r12_may (c := c) W (hx.below h) (fun f hf => fxq_sz (fxr_q ((fsmall_r hs).1 f hf) (by omega)))
  have hAa := fun (hs : a4.size ≤ 30 ∧ a5.size ≤ 30 ∧ a6.size ≤ 30 ∧ a7.size ≤ 30) W => r15_may a0 a1 a2 a3 a4 a5 a6 a7 a8 a9 a10 W h0 h2 h3 (by omega) (by omega) (by omega) (by omega)
  have hAb := fun (hs : b4.size ≤ 30 ∧ b5.size ≤ 30 ∧ b6.size ≤ 30 ∧ b7.size ≤ 30) W => r15_may b0 b1 b2 b3 b4 b5 b6 b7 b8 b9 b10 W k0 k2 k3 (by omega) (by omega) (by omega) (by omega)
  rw [hp1] at hSm
  rw [hp2] at hMy
  rw [hp3] at hAa
  rw [hp4] at hAb
  have HP1 := Lib.hid hp1
  have HP2 := Lib.hid hp2
  have HP3 := Lib.hid hp3
  have HP4 := Lib.hid hp4
  have hxl := hx.len
  clear hp1 hp2 hp3 hp4
  go_enter Tryz.func10, Tryz.ntmps10
  have ba0 : Blk ((w.alloc (.cells #[.string a0, .int .i64 a1, .string a2, .string a3, .string a4, .string a5, .string a6, .string a7, .int .i64 a8, .int .i64 a9, .int .i64 a10] 25)).alloc (.cells #[.string b0, .int .i64 b1, .string b2, .string b3, .string b4, .string b5, .string b6, .string b7, .int .i64 b8, .int .i64 b9, .int .i64 b10] 25)) w.heap.size 25 #[.string a0, .int .i64 a1, .string a2, .string a3, .string a4, .string a5, .string a6, .string a7, .int .i64 a8, .int .i64 a9, .int .i64 a10] := (Blk.new w _ _).alloc _
  have bb0 : Blk ((w.alloc (.cells #[.string a0, .int .i64 a1, .string a2, .string a3, .string a4, .string a5, .string a6, .string a7, .int .i64 a8, .int .i64 a9, .int .i64 a10] 25)).alloc (.cells #[.string b0, .int .i64 b1, .string b2, .string b3, .string b4, .string b5, .string b6, .string b7, .int .i64 b8, .int .i64 b9, .int .i64 b10] 25)) (w.heap.size + 1) 25 #[.string b0, .int .i64 b1, .string b2, .string b3, .string b4, .string b5, .string b6, .string b7, .int .i64 b8, .int .i64 b9, .int .i64 b10] := Blk.new2 w _ _ _
  have BA := Lib.hid ba0
  have BB := Lib.hid bb0
  clear ba0 bb0
  go_wp2_with (first
    | (go_at_call 33; (with_reducible refine (hF _ (by repeat (first | exact Below.refl _ _ | assumption | refine b_then ?_ (by assumption) | refine b_alloc ?_ _ | refine b_drewN ?_ _ | refine Below.drew ?_ | refine b_set ?_ (by first | exact Nat.le_refl _ | (simp; done) | (simp; omega) | omega) _))).mono ?_); rintro e w1 ⟨rfl, hb1⟩; obtain ⟨hc1, hf1⟩ := bcell hb1; have hs1 := hb1.size; (try simp at hs1); have hq1 : w.heap.size < w1.heap.size := (by omega); have hr1 : w.heap.size + 1 < w1.heap.size := (by omega))
    | (go_at_call 15; (with_reducible refine (hSm _ (by repeat (first | exact Below.refl _ _ | assumption | refine b_then ?_ (by assumption) | refine b_alloc ?_ _ | refine b_drewN ?_ _ | refine Below.drew ?_ | refine b_set ?_ (by first | exact Nat.le_refl _ | (simp; done) | (simp; omega) | omega) _))).mono ?_); rintro e w' ⟨rfl, rfl⟩; cases p1)
    | (go_at_call 13; (with_reducible refine (hLa _).mono ?_); rintro e w2 ⟨b, rfl, hbL, hb2⟩; obtain ⟨hc2, hf2⟩ := bcell hb2; have hs2 := hb2.size; (try simp at hs2); have hq2 : w.heap.size < w2.heap.size := (by omega); have hr2 : w.heap.size + 1 < w2.heap.size := (by omega); have HaL := Lib.hid hbL; clear hbL; cases b)
    | (go_at_call 13; (with_reducible refine (hLb _).mono ?_); rintro e w3 ⟨b, rfl, hbL, hb3⟩; obtain ⟨hc3, hf3⟩ := bcell hb3; have hs3 := hb3.size; (try simp at hs3); have hq3 : w.heap.size < w3.heap.size := (by omega); have hr3 : w.heap.size + 1 < w3.heap.size := (by omega); have HbL := Lib.hid hbL; clear hbL; cases b)
    | (go_at_call 32; (with_reducible refine (hMy HP1.out _ (by repeat (first | exact Below.refl _ _ | assumption | refine b_then ?_ (by assumption) | refine b_alloc ?_ _ | refine b_drewN ?_ _ | refine Below.drew ?_ | refine b_set ?_ (by first | exact Nat.le_refl _ | (simp; done) | (simp; omega) | omega) _))).mono ?_); rintro e w4 ⟨rfl, hb4⟩; obtain ⟨hc4, hf4⟩ := bcell hb4; have hs4 := hb4.size; (try simp at hs4); have hq4 : w.heap.size < w4.heap.size := (by omega); have hr4 : w.heap.size + 1 < w4.heap.size := (by omega); cases p2)
    | (go_at_call 29; (with_reducible refine (hAa (HaL.out (by first | rfl | trivial)) _).mono ?_); rintro e w5 ⟨rfl, hb5⟩; obtain ⟨hc5, hf5⟩ := bcell hb5; have hs5 := hb5.size; (try simp at hs5); have hq5 : w.heap.size < w5.heap.size := (by omega); have hr5 : w.heap.size + 1 < w5.heap.size := (by omega); cases p3)
    | (go_at_call 29; (with_reducible refine (hAb (HbL.out (by first | rfl | trivial)) _).mono ?_); rintro e w6 ⟨rfl, hb6⟩; obtain ⟨hc6, hf6⟩ := bcell hb6; have hs6 := hb6.size; (try simp at hs6); have hq6 : w.heap.size < w6.heap.size := (by omega); have hr6 : w.heap.size + 1 < w6.heap.size := (by omega); cases p4))
  any_goals
    go_ret
    exact ⟨rfl, (by repeat (first | exact Below.refl _ _ | assumption | refine b_then ?_ (by assumption) | refine b_alloc ?_ _ | refine b_drewN ?_ _ | refine Below.drew ?_ | refine b_set ?_ (by first | exact Nat.le_refl _ | (simp; done) | (simp; omega) | omega) _))⟩
  have hB6 : Below w.heap.size w w6 := b_then (b_then (b_then (b_then (b_then (b_then (b_alloc (b_alloc (Below.refl _ _) _) _) hb1) hb2) hb3) hb4) hb5) hb6
  have ba6 := (((((BA.out.below hb1).below hb2).below hb3).below hb4).below hb5).below hb6
  have bb6 := (((((BB.out.below hb1).below hb2).below hb3).below hb4).below hb5).below hb6
  have hsa := HaL.out (by first | rfl | trivial)
  have hsb := HbL.out (by first | rfl | trivial)
  obtain ⟨f1, f2⟩ := fsmall_r HP1.out
  have f2' := f2
  rw [hxl] at f2
  have hfm : fmay xs = true := HP2.out
  have ham : amay ⟨a0, a1, a2, a3, ⟨a4, a5⟩, ⟨a6, a7⟩, a8, a9, a10⟩ = true := HP3.out
  have hbm : amay ⟨b0, b1, b2, b3, ⟨b4, b5⟩, ⟨b6, b7⟩, b8, b9, b10⟩ = true := HP4.out
  have hqa : acq ⟨a0, a1, a2, a3, ⟨a4, a5⟩, ⟨a6, a7⟩, a8, a9, a10⟩ := acq_of30 h0 h2 h3 hsa
  have hqb : acq ⟨b0, b1, b2, b3, ⟨b4, b5⟩, ⟨b6, b7⟩, b8, b9, b10⟩ := acq_of30 k0 k2 k3 hsb
  obtain ⟨ys, hys⟩ : ∃ ys, nfix ⟨a0, a1, a2, a3, ⟨a4, a5⟩, ⟨a6, a7⟩, a8, a9, a10⟩ (nfix ⟨b0, b1, b2, b3, ⟨b4, b5⟩, ⟨b6, b7⟩, b8, b9, b10⟩ xs) = ys := ⟨_, rfl⟩
  obtain ⟨m9, hm9⟩ : ∃ m9, ys.length = m9 := ⟨_, rfl⟩
  obtain ⟨zs, hzs⟩ : ∃ zs, nfix ⟨b0, b1, b2, b3, ⟨b4, b5⟩, ⟨b6, b7⟩, b8, b9, b10⟩ xs = zs := ⟨_, rfl⟩
  obtain ⟨m1, hm1⟩ : ∃ m1, zs.length = m1 := ⟨_, rfl⟩
  have hsz0 := (NSz.of hfm f2' f1)
  have hsz1 := (hsz0.next hbm).ok (by omega)
  rw [hzs, hm1] at hsz1
  have hzm : fmay zs = true := by rw [← hzs]; exact nfix_may hbm hfm
  have hA := fun W (g : Nat) (h : Below w6.heap.size w6 W) (hl : Rd Ac.cs 11 W (some ⟨g, 0, none⟩) 2 [⟨a0, a1, a2, a3, ⟨a4, a5⟩, ⟨a6, a7⟩, a8, a9, a10⟩, ⟨b0, b1, b2, b3, ⟨b4, b5⟩, ⟨b6, b7⟩, b8, b9, b10⟩]) => p_nall (c := c) (d := 2) W (hg.below (b_then hB6 h)) (hx.below (b_then hB6 h)) f2 f1 hl (by omega) (acq_two hqa hqb)
  rw [nall_two hfm ham hbm, hys, hm9] at hA
  unfold FixIs at hA
  have hA2 := fun (hap : nfix ⟨b0, b1, b2, b3, ⟨b4, b5⟩, ⟨b6, b7⟩, b8, b9, b10⟩ (nfix ⟨a0, a1, a2, a3, ⟨a4, a5⟩, ⟨a6, a7⟩, a8, a9, a10⟩ xs) = ys) W (g : Nat) (h : Below w6.heap.size w6 W) (hl : Rd Ac.cs 11 W (some ⟨g, 0, none⟩) 2 [⟨b0, b1, b2, b3, ⟨b4, b5⟩, ⟨b6, b7⟩, b8, b9, b10⟩, ⟨a0, a1, a2, a3, ⟨a4, a5⟩, ⟨a6, a7⟩, a8, a9, a10⟩]) => (p_nall (c := c) (d := 2) W (hg.below (b_then hB6 h)) (hx.below (b_then hB6 h)) f2 f1 hl (by omega) (acq_two hqb hqa)).mono fun e w' he => by rw [nall_two hfm hbm ham, hap, hm9] at he; exact (show ∃ B k, e = .returned (.slice B m9 k) ∧ Rd Fx.cs 4 w' B m9 ys ∧ Below W.heap.size W w' from he)
  have hcomm : a2 ≠ b2 → a2 ≠ b3 → a3 ≠ b2 → nfix ⟨b0, b1, b2, b3, ⟨b4, b5⟩, ⟨b6, b7⟩, b8, b9, b10⟩ (nfix ⟨a0, a1, a2, a3, ⟨a4, a5⟩, ⟨a6, a7⟩, a8, a9, a10⟩ xs) = ys := fun e1 e2 e3 => by rw [← hys]; exact (nfix_comm ham hbm hfm e1 e2 e3).symm
  have hK1 := fun W (h : Below w6.heap.size w6 W) => (p_nOne (c := c) b0 b1 b2 b3 b4 b5 b6 b7 b8 b9 b10 W (hg.below (b_then hB6 h)) (hx.below (b_then hB6 h)) (by omega) (fun f hf => fxr_mono (f1 f hf) (by omega)) k0 k2 k3 (by omega) (by omega) (by omega) (by omega)).mono fun e w' he => by rw [nout_yes hfm hbm, hzs] at he; exact (show ∃ B k, e = .returned (.slice B m1 k) ∧ Rd Fx.cs 4 w' B m1 zs ∧ Below W.heap.size W w' from he.is_ hm1)
  have hK2 := fun W (B : Option Addr) (k : Nat) (h : Below w6.heap.size w6 W) (hr : Rd Fx.cs 4 W B m1 zs) => (p_nOne (c := k) a0 a1 a2 a3 a4 a5 a6 a7 a8 a9 a10 W (hg.below (b_then hB6 h)) hr (by omega) hsz1.2 h0 h2 h3 (by omega) (by omega) (by omega) (by omega)).mono fun e w' he => by rw [nout_yes hzm ham, ← hzs, hys] at he; exact (show ∃ B k, e = .returned (.slice B m9 k) ∧ Rd Fx.cs 4 w' B m9 ys ∧ Below W.heap.size W w' from he.is_ hm9)
  have HCM := Lib.hid hcomm
  have HA2 := Lib.hid hA2
  have HK1 := Lib.hid hK1
  have HK2 := Lib.hid hK2
  have HBA := Lib.hid ba6
  have HBB := Lib.hid bb6
  have hla := ba6.lt
  have hlb := bb6.lt
  clear hb1 hc1 hf1 hs1 hq1 hr1 hb2 hc2 hf2 hs2 hq2 hr2 hb3 hc3 hf3 hs3 hq3 hr3 hb4 hc4 hf4 hs4 hq4 hr4 hb5 hc5 hf5 hs5 hq5 hr5 hb6 hc6 hf6 hs6 hq6 hr6
  clear hcomm hA2 hK1 hK2 ba6 bb6 hys hm9 hzs hm1 hsz0 hsz1 hzm hfm ham hbm hqa hqb HaL HbL BA BB hF hSm hLa hLb hMy hAa hAb HP2 HP3 HP4
  go_wp2_with (go_at_call 37; (with_reducible refine (hA _ w6.heap.size (b_alloc (Below.refl _ _) _) ?_).mono ?_); (· exact rd_blk (z := 11) (n := 2) (l := [⟨a0, a1, a2, a3, ⟨a4, a5⟩, ⟨a6, a7⟩, a8, a9, a10⟩, ⟨b0, b1, b2, b3, ⟨b4, b5⟩, ⟨b6, b7⟩, b8, b9, b10⟩]) (by omega) Ac.cs_length (blk_new_at rfl) rfl rfl (by omega)); rintro e w7 ⟨B7, k7, rfl, R7, hb7⟩; revert R7 hb7)
  intro R7 hb7x
  have hb7 : Below (w6.alloc (.cells #[.string a0, .int .i64 a1, .string a2, .string a3, .string a4, .string a5, .string a6, .string a7, .int .i64 a8, .int .i64 a9, .int .i64 a10, .string b0, .int .i64 b1, .string b2, .string b3, .string b4, .string b5, .string b6, .string b7, .int .i64 b8, .int .i64 b9, .int .i64 b10] 25)).heap.size (w6.alloc (.cells #[.string a0, .int .i64 a1, .string a2, .string a3, .string a4, .string a5, .string a6, .string a7, .int .i64 a8, .int .i64 a9, .int .i64 a10, .string b0, .int .i64 b1, .string b2, .string b3, .string b4, .string b5, .string b6, .string b7, .int .i64 b8, .int .i64 b9, .int .i64 b10] 25)) w7 := by simpa using hb7x
  clear hb7x
  have hB7 : Below w6.heap.size w6 w7 := b_then (b_alloc (Below.refl _ _) _) hb7
  have ba7 := HBA.out.below hB7
  have bb7 := HBB.out.below hB7
  have ya0 := fun (x : After w7) (y : After x.W) => (ba7.below (b_then x.h y.h)).cell 0
  have ya1 := fun (x : After w7) (y : After x.W) => (ba7.below (b_then x.h y.h)).cell 1
  have ya2 := fun (x : After w7) (y : After x.W) => (ba7.below (b_then x.h y.h)).cell 2
  have ya3 := fun (x : After w7) (y : After x.W) => (ba7.below (b_then x.h y.h)).cell 3
  have ya4 := fun (x : After w7) (y : After x.W) => (ba7.below (b_then x.h y.h)).cell 4
  have ya5 := fun (x : After w7) (y : After x.W) => (ba7.below (b_then x.h y.h)).cell 5
  have ya6 := fun (x : After w7) (y : After x.W) => (ba7.below (b_then x.h y.h)).cell 6
  have ya7 := fun (x : After w7) (y : After x.W) => (ba7.below (b_then x.h y.h)).cell 7
  have ya8 := fun (x : After w7) (y : After x.W) => (ba7.below (b_then x.h y.h)).cell 8
  have ya9 := fun (x : After w7) (y : After x.W) => (ba7.below (b_then x.h y.h)).cell 9
  have ya10 := fun (x : After w7) (y : After x.W) => (ba7.below (b_then x.h y.h)).cell 10
  have yb0 := fun (x : After w7) (y : After x.W) => (bb7.below (b_then x.h y.h)).cell 0
  have yb1 := fun (x : After w7) (y : After x.W) => (bb7.below (b_then x.h y.h)).cell 1
  have yb2 := fun (x : After w7) (y : After x.W) => (bb7.below (b_then x.h y.h)).cell 2
  have yb3 := fun (x : After w7) (y : After x.W) => (bb7.below (b_then x.h y.h)).cell 3
  have yb4 := fun (x : After w7) (y : After x.W) => (bb7.below (b_then x.h y.h)).cell 4
  have yb5 := fun (x : After w7) (y : After x.W) => (bb7.below (b_then x.h y.h)).cell 5
  have yb6 := fun (x : After w7) (y : After x.W) => (bb7.below (b_then x.h y.h)).cell 6
  have yb7 := fun (x : After w7) (y : After x.W) => (bb7.below (b_then x.h y.h)).cell 7
  have yb8 := fun (x : After w7) (y : After x.W) => (bb7.below (b_then x.h y.h)).cell 8
  have yb9 := fun (x : After w7) (y : After x.W) => (bb7.below (b_then x.h y.h)).cell 9
  have yb10 := fun (x : After w7) (y : After x.W) => (bb7.below (b_then x.h y.h)).cell 10
  simp at ya0 yb0 ya1 yb1 ya2 yb2 ya3 yb3 ya4 yb4 ya5 yb5 ya6 yb6 ya7 yb7 ya8 yb8 ya9 yb9 ya10 yb10
  have HR7 := Lib.hid R7
  clear hb7 R7 ba7 bb7 hA
  go_wp2
  refine wp_region_multic [(3, 50, fun p => .slice p.1 m1 p.2), (5, 52, fun p => .slice p.1 m9 p.2)] [(6, 53, .bool true)] (fun i B k W => (i = 3 → Rd Fx.cs 4 W B m1 zs) ∧ (i = 5 → Rd Fx.cs 4 W B m9 ys)) ?mA (by kernel_rfl) (fun p => by kernel_rfl) (fun p x => ?mH)
    ⟨by kernel_rfl, by kernel_rfl, ?ml1, ?ml2, ?mk, ?mt, fun i B k W W' h hb => ⟨fun e => (h.1 e).below hb, fun e => (h.2 e).below hb⟩, ?mhA, ?mQ⟩
  case mH =>
    simp only [mods, mkS_V, List.map_cons, List.map_nil, List.append_eq, List.cons_append, List.nil_append, List.modify_succ_cons, List.modify_zero_cons, repV]
    have hxs := x.h.size
    (try simp at hxs)
    (repeat (first | go_big_quiet_skip | (go_big_quiet_want; go_big_quiet_op; first | go_big_quiet_on)))
    refine wpQuiet_nil ?_
    rfl
  case mk =>
    intro y hy p
    simp only [List.mem_cons, List.not_mem_nil, or_false] at hy
    rcases hy with rfl | rfl
    · refine ⟨_, rfl, rfl, fun a W hW hR hgv => ?_⟩
      have g1 := (hgv 1 _ 48 rfl rfl (by kernel_rfl)).trans rfl
      have g2 := (hgv 2 _ 49 rfl rfl (by kernel_rfl)).trans rfl
      exact mk_callV rfl rfl (by simp [Region.wanted]) (by simp [execOp, go_sem, g1, g2]) ((HK1.out W (b_then hB7 hW)).mono fun e w' ⟨B, k, h1, h2, h3⟩ => ⟨B, k, h1, ⟨fun _ => h2, fun e => (by cases e)⟩, h3⟩)
    · refine ⟨_, rfl, rfl, fun a W hW hR hgv => ?_⟩
      have g1 := (hgv 3 _ 50 rfl rfl (by kernel_rfl)).trans rfl
      have g2 := (hgv 4 _ 51 rfl rfl (by kernel_rfl)).trans rfl
      exact mk_callV rfl rfl (by simp [Region.wanted]) (by simp [execOp, go_sem, g1, g2]) ((HK2.out W (p 3).1 (p 3).2 (b_then hB7 hW) ((hR _ (.head _) (by kernel_rfl)).1 rfl)).mono fun e w' ⟨B, k, h1, h2, h3⟩ => ⟨B, k, h1, ⟨fun e => (by cases e), fun _ => h2⟩, h3⟩)
  case mt =>
    intro y hy p
    simp only [List.mem_cons, List.not_mem_nil, or_false] at hy
    subst hy
    refine ⟨_, rfl, rfl, fun a W hW hR hgv => ?_⟩
    have g1 := (hgv 0 _ 47 rfl rfl (by kernel_rfl)).trans rfl
    have g2 := (hgv 5 _ 52 rfl rfl (by kernel_rfl)).trans rfl
    exact tk_call rfl rfl (by simp [Region.wanted]) (by simp [execOp, go_sem, g1, g2]) (r12_sameT (c := k7) (d := (p 5).2) W (HR7.out.below hW) ((hR _ (.tail _ (.head _)) (by kernel_rfl)).2 rfl))
  case ml1 => simp
  case ml2 => simp
  case mhA => exact fun p => rfl
  case mQ =>
    intro p w8 hb8 hR
    have hB8 := b_then hB7 hb8
    have ba8 := HBA.out.below hB8
    have bb8 := HBB.out.below hB8
    have hla8 := ba8.lt
    have hlb8 := bb8.lt
    have za0 := ba8.cell 0
    have za1 := ba8.cell 1
    have za2 := ba8.cell 2
    have za3 := ba8.cell 3
    have za4 := ba8.cell 4
    have za5 := ba8.cell 5
    have za6 := ba8.cell 6
    have za7 := ba8.cell 7
    have za8 := ba8.cell 8
    have za9 := ba8.cell 9
    have za10 := ba8.cell 10
    have zb0 := bb8.cell 0
    have zb1 := bb8.cell 1
    have zb2 := bb8.cell 2
    have zb3 := bb8.cell 3
    have zb4 := bb8.cell 4
    have zb5 := bb8.cell 5
    have zb6 := bb8.cell 6
    have zb7 := bb8.cell 7
    have zb8 := bb8.cell 8
    have zb9 := bb8.cell 9
    have zb10 := bb8.cell 10
    simp at za0 zb0 za1 zb1 za2 zb2 za3 zb3 za4 zb4 za5 zb5 za6 zb6 za7 zb7 za8 zb8 za9 zb9 za10 zb10
    have R8 := HR7.out.below hb8
    clear ya0 yb0 ya1 yb1 ya2 yb2 ya3 yb3 ya4 yb4 ya5 yb5 ya6 yb6 ya7 yb7 ya8 yb8 ya9 yb9 ya10 yb10 ba8 bb8 hR
    obtain ⟨e1, he1⟩ : ∃ e, (a2.toList == b2.toList) = e := ⟨_, rfl⟩
    obtain ⟨e2, he2⟩ : ∃ e, (a2.toList == b3.toList) = e := ⟨_, rfl⟩
    obtain ⟨e3, he3⟩ : ∃ e, (a3.toList == b2.toList) = e := ⟨_, rfl⟩
    have HE1 := Lib.hid he1
    have HE2 := Lib.hid he2
    have HE3 := Lib.hid he3
    have HR8 := Lib.hid R8
    clear he1 he2 he3 R8
    cases e1 <;> cases e2 <;> cases e3
    case false.false.false =>
      have hA2 := HA2.out (HCM.out (fun e => by have := HE1.out; have e' : a2 = b2 := e; rw [e'] at this; simp at this) (fun e => by have := HE2.out; have e' : a2 = b3 := e; rw [e'] at this; simp at this) (fun e => by have := HE3.out; have e' : a3 = b2 := e; rw [e'] at this; simp at this))
      have he1 := HE1.out
      have he2 := HE2.out
      have he3 := HE3.out
      go_wp2_with (first
        | (go_at_call 37; (with_reducible refine (hA2 _ w8.heap.size (b_alloc hB8 _) ?_).mono ?_); (· exact rd_blk (z := 11) (n := 2) (l := [⟨b0, b1, b2, b3, ⟨b4, b5⟩, ⟨b6, b7⟩, b8, b9, b10⟩, ⟨a0, a1, a2, a3, ⟨a4, a5⟩, ⟨a6, a7⟩, a8, a9, a10⟩]) (by omega) Ac.cs_length (blk_new_at rfl) rfl rfl (by omega)); rintro e w9 ⟨B9, k9, rfl, R9, hb9⟩; revert R9 hb9))
      intro R9 hb9x
      have hb9 : Below (w8.alloc (.cells #[.string b0, .int .i64 b1, .string b2, .string b3, .string b4, .string b5, .string b6, .string b7, .int .i64 b8, .int .i64 b9, .int .i64 b10, .string a0, .int .i64 a1, .string a2, .string a3, .string a4, .string a5, .string a6, .string a7, .int .i64 a8, .int .i64 a9, .int .i64 a10] 25)).heap.size (w8.alloc (.cells #[.string b0, .int .i64 b1, .string b2, .string b3, .string b4, .string b5, .string b6, .string b7, .int .i64 b8, .int .i64 b9, .int .i64 b10, .string a0, .int .i64 a1, .string a2, .string a3, .string a4, .string a5, .string a6, .string a7, .int .i64 a8, .int .i64 a9, .int .i64 a10] 25)) w9 := by simpa using hb9x
      clear hb9x
      have hB9 : Below w8.heap.size w8 w9 := b_then (b_alloc (Below.refl _ _) _) hb9
      have hBf := b_then hB6 (b_then hB8 hB9)
      have hS := r12_sameT (c := k7) (d := k9) w9 (HR8.out.below hB9) R9
      clear hb9
      go_wp2_with (go_at_call 34; (with_reducible refine hS.mono ?_); rintro e w10 ⟨rfl, hb10⟩)
      go_ret
      exact ⟨rfl, b_then hBf hb10⟩
    all_goals
      have he1 := HE1.out
      have he2 := HE2.out
      have he3 := HE3.out
      go_wp2
      go_ret
      exact ⟨rfl, b_then hB6 hB8⟩
end Go.Proofs.YtdkpbifpafaabaaGreatDoor
