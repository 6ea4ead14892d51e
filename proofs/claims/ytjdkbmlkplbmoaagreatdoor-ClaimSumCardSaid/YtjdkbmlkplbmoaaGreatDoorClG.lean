/- ClaimTells: the walk (given the fixed calls). -/
import Derived.Test.YtjdkbmlkplbmoaaGreatDoorClF
import Derived.Test.YtjdkbmlkplbmoaaGreatDoorGhC
namespace Go.Proofs.YtjdkbmlkplbmoaaGreatDoor
open Go.RowKit
set_option linter.unusedVariables false
set_option linter.unusedSimpArgs false

theorem Blk.three {w : World} {g : Nat} {t : TypeId} {a b c : Value} (h : Blk w g t #[a, b, c]) : w.cell? ⟨g, 0, none⟩ = some a ∧ w.cell? ⟨g, 1, none⟩ = some b ∧ w.cell? ⟨g, 2, none⟩ = some c := ⟨h.cell 0, h.cell 1, h.cell 2⟩
theorem LinesIs.same {P : Prop} {ys : List Ln} {m : Nat} {w w' : World} {e : Ending} (h : LinesIs ys w e w') (hm : ys.length = m) : ∃ B k, e = .returned (.slice B m k) ∧ Rd Ln.cs 4 w' B m ys ∧ Below w.heap.size w w' := h.is_ hm
set_option maxRecDepth 100000 in
set_option maxHeartbeats 4000000 in
theorem l_ctells (HF : Fixed20Ok) {A A2 : Option Addr} {n c n2 c2 : Nat} {xs : List Ln} {ls : List In} (a s : ByteArray) (ex : Int) (w : World) (hg : Glob w) (hx : Rd Ln.cs 4 w A n xs) (hy : Rd In.cs 10 w A2 n2 ls) (hz : ∀ f ∈ xs, lnok f) (hzl : ∀ f ∈ ls, inok f) :
    Calls Tryz.prog 8 #[.slice A n c, .slice A2 n2 c2, .agg #[.string a, .string s, .int .i64 ex]] w fun e w' => e = .returned (.bool true) ∧ Below w.heap.size w w' := by
  have HFX := Lib.hid HF
  clear HF
  have hS := fun W (h : Below w.heap.size w W) => r6_small (c := c) W (hx.below h) hz
  have hS2 := fun W (h : Below w.heap.size w W) => r8_small (c := c2) W (hy.below h) hzl
  have hB0 : Below w.heap.size w (w.alloc (.cells #[.string a, .string s, .int .i64 ex] 55)) := b_alloc (Below.refl _ _) _
  have bx0 : Blk (w.alloc (.cells #[.string a, .string s, .int .i64 ex] 55)) w.heap.size 55 #[.string a, .string s, .int .i64 ex] := Blk.new w _ _
  cases d1 : lsmall xs with
  | false =>
    rw [d1] at hS
    go_enter Tryz.func8, Tryz.ntmps8
    go_wp2_with (first | (go_at_call 12; (with_reducible refine (hS _ hB0).mono ?_); rintro e w2 ⟨rfl, hb2⟩; obtain ⟨hc2, hf2⟩ := bcell hb2; have hs2 := hb2.size; (try simp at hs2)) | (go_at_call 35; (with_reducible refine (HFX.out w2 (hg.below (by repeat (first | exact Below.refl _ _ | assumption | refine b_then ?_ (by assumption) | refine b_alloc ?_ _ | refine b_drewN ?_ _ | refine Below.drew ?_ | refine b_set ?_ (by first | exact Nat.le_refl _ | (simp; done) | (simp; omega) | omega) _)))).mono ?_); rintro e w3 ⟨rfl, hb3⟩; obtain ⟨hc3, hf3⟩ := bcell hb3; have hs3 := hb3.size; (try simp at hs3)))
    go_ret
    exact ⟨rfl, (by repeat (first | exact Below.refl _ _ | assumption | refine b_then ?_ (by assumption) | refine b_alloc ?_ _ | refine b_drewN ?_ _ | refine Below.drew ?_ | refine b_set ?_ (by first | exact Nat.le_refl _ | (simp; done) | (simp; omega) | omega) _))⟩
  | true =>
  rw [d1] at hS
  cases d2 : ismall ls with
  | false =>
    rw [d2] at hS2
    go_enter Tryz.func8, Tryz.ntmps8
    go_wp2_with (first | (go_at_call 12; (with_reducible refine (hS _ hB0).mono ?_); rintro e w2 ⟨rfl, hb2⟩; obtain ⟨hc2, hf2⟩ := bcell hb2; have hs2 := hb2.size; (try simp at hs2)) | (go_at_call 13; (with_reducible refine (hS2 w2 (b_then hB0 hb2)).mono ?_); rintro e w3 ⟨rfl, hb3⟩; obtain ⟨hc3, hf3⟩ := bcell hb3; have hs3 := hb3.size; (try simp at hs3)) | (go_at_call 35; (with_reducible refine (HFX.out w3 (hg.below (by repeat (first | exact Below.refl _ _ | assumption | refine b_then ?_ (by assumption) | refine b_alloc ?_ _ | refine b_drewN ?_ _ | refine Below.drew ?_ | refine b_set ?_ (by first | exact Nat.le_refl _ | (simp; done) | (simp; omega) | omega) _)))).mono ?_); rintro e w4 ⟨rfl, hb4⟩; obtain ⟨hc4, hf4⟩ := bcell hb4; have hs4 := hb4.size; (try simp at hs4)))
    go_ret
    exact ⟨rfl, (by repeat (first | exact Below.refl _ _ | assumption | refine b_then ?_ (by assumption) | refine b_alloc ?_ _ | refine b_drewN ?_ _ | refine Below.drew ?_ | refine b_set ?_ (by first | exact Nat.le_refl _ | (simp; done) | (simp; omega) | omega) _))⟩
  | true =>
  rw [d2] at hS2
  obtain ⟨hxB, hxn⟩ := lsmall_B d1
  obtain ⟨hyB, hyn⟩ := ismall_B d2
  have hxl := hx.len
  have hyl := hy.len
  have hx1 : ∀ f ∈ xs, lnB 1000 f := fun f hf => lnB_mono (hxB f hf) (by omega)
  have hy1 : ∀ x ∈ ls, inB 1000 x := fun x hx => inB_mono (hyB x hx) (by omega)
  obtain ⟨us, hus⟩ : ∃ us, ceff xs ls s ex = us := ⟨_, rfl⟩
  obtain ⟨mu, hmu⟩ : ∃ mu, us.length = mu := ⟨_, rfl⟩
  obtain ⟨t0, t1, ht⟩ : ∃ t0 t1, (ipend ls a s ex).v = .agg #[.string t0, .string t1] := ⟨_, _, rfl⟩
  have kE := fun W (h : Below w.heap.size w W) => (p_eff (c := c) (c2 := c2) s ex W (hg.below h) (hx.below h) (by omega) hx1 (hy.below h) (by omega) hy1).mono fun e w' h => by rw [hus] at h; exact h.is_ hmu
  have kR := fun W (h : Below w.heap.size w W) => (r20_eff (c := c) (c2 := c2) s ex W (hx.below h) (by omega) hx1 (hy.below h) (by omega) hy1).mono fun e w' h => by rw [hus] at h; exact h.is_ hmu
  have kP := fun W (h : Below w.heap.size w W) => p_pend (c := c2) a s ex W (hg.below h) (hy.below h) (by omega) hy1
  have kQ := fun W (h : Below w.heap.size w W) => r20_pend (c := c2) a s ex W (hy.below h) (by omega) hy1
  rw [ht] at kP kQ
  have KE := Lib.hid kE
  have KR := Lib.hid kR
  have heq := eqRat
  clear d1 d2 hxB hyB hxn hyn hxl hyl hx1 hy1 hus hmu ht kE kR
  go_enter Tryz.func8, Tryz.ntmps8
  go_wp2_with (first
    | (go_at_call 12; (with_reducible refine (hS _ hB0).mono ?_); rintro e w2 ⟨rfl, hb2⟩; obtain ⟨hc2, hf2⟩ := bcell hb2; have hs2 := hb2.size; (try simp at hs2))
    | (go_at_call 13; (with_reducible refine (hS2 w2 (b_then hB0 hb2)).mono ?_); rintro e w3 ⟨rfl, hb3⟩; obtain ⟨hc3, hf3⟩ := bcell hb3; have hs3 := hb3.size; (try simp at hs3)))
  have hB3 := b_then (b_then hB0 hb2) hb3
  have bx3 := (bx0.below hb2).below hb3
  have x0 := fun (x : After w3) (y : After x.W) => (bx3.below (b_then x.h y.h)).three.1
  have x1 := fun (x : After w3) (y : After x.W) => (bx3.below (b_then x.h y.h)).three.2.1
  have x2 := fun (x : After w3) (y : After x.W) => (bx3.below (b_then x.h y.h)).three.2.2
  clear hb2 hc2 hf2 hs2 hb3 hc3 hf3 hs3 hS hS2 bx0
  refine wp_region_multi [(8, 24, mu), (15, 31, mu)] [(16, 32, .bool true)] (fun _ B k W => Rd Ln.cs 4 W B mu us) ?mA (by kernel_rfl) (fun p => by kernel_rfl) (fun p x => ?mH)
    ⟨by kernel_rfl, by kernel_rfl, by simp, by simp, ?mk, ?mt, fun i B k W W' h hb => h.below hb, ?mhA, ?mQ⟩
  case mH =>
    simp only [mods, mkS_, List.map_cons, List.map_nil, List.append_eq, List.cons_append, List.nil_append, List.modify_succ_cons, List.modify_zero_cons, repV]
    have hxs := x.h.size
    (try simp at hxs)
    (repeat (first | go_big_quiet_skip | (go_big_quiet_want; go_big_quiet_op; first | go_big_quiet_on | (apply Exists.intro; refine ⟨fun _ => ?_, ?_⟩; (focus (first | (go_at_call 35; with_reducible exact Calls.after (HFX.out _ (hg.below (b_then hB3 (b_then x.h (After.h _)))))) | (go_at_call 38; with_reducible exact Calls.after (kP _ (b_then hB3 (b_then x.h (After.h _))))) | (go_at_call 39; with_reducible exact Calls.after (kQ _ (b_then hB3 (b_then x.h (After.h _))))))); go_big_quiet_on))))
    refine wpQuiet_nil ?_
    rfl
  case mk =>
    intro y hy p
    simp only [List.mem_cons, List.not_mem_nil, or_false] at hy
    rcases hy with rfl | rfl
    · refine ⟨_, rfl, rfl, fun a W hW hgv => ?_⟩
      have g0 : a.tmps[17]? = some (.bool true) := (hgv 1 _ 17 rfl rfl (by kernel_rfl)).trans rfl
      have g1 := (hgv 2 _ 18 rfl rfl (by kernel_rfl)).trans rfl
      have g2 := (hgv 3 _ 19 rfl rfl (by kernel_rfl)).trans rfl
      have g3 := (hgv 5 _ 21 rfl rfl (by kernel_rfl)).trans rfl
      have g4 := (hgv 7 _ 23 rfl rfl (by kernel_rfl)).trans rfl
      exact mk_call rfl rfl (by simp [Region.wanted, yielded, g0]) (by simp [execOp, go_sem, g1, g2, g3, g4]) (KE.out W (b_then hB3 hW))
    · refine ⟨_, rfl, rfl, fun a W hW hgv => ?_⟩
      have g0 : a.tmps[17]? = some (.bool true) := (hgv 1 _ 17 rfl rfl (by kernel_rfl)).trans rfl
      have g1 := (hgv 9 _ 25 rfl rfl (by kernel_rfl)).trans rfl
      have g2 := (hgv 10 _ 26 rfl rfl (by kernel_rfl)).trans rfl
      have g3 := (hgv 12 _ 28 rfl rfl (by kernel_rfl)).trans rfl
      have g4 := (hgv 14 _ 30 rfl rfl (by kernel_rfl)).trans rfl
      exact mk_call rfl rfl (by simp [Region.wanted, yielded, g0]) (by simp [execOp, go_sem, g1, g2, g3, g4]) (KR.out W (b_then hB3 hW))
  case mt =>
    intro y hy p
    simp only [List.mem_cons, List.not_mem_nil, or_false] at hy
    subst hy
    refine ⟨_, rfl, rfl, fun a W hW hR hgv => ?_⟩
    have g0 : a.tmps[17]? = some (.bool true) := (hgv 1 _ 17 rfl rfl (by kernel_rfl)).trans rfl
    have g1 := (hgv 8 _ 24 rfl rfl (by kernel_rfl)).trans rfl
    have g2 := (hgv 15 _ 31 rfl rfl (by kernel_rfl)).trans rfl
    exact tk_call rfl rfl (by simp [Region.wanted, yielded, g0]) (by simp [execOp, go_sem, g1, g2]) ((r6_same (c := (p 8).2) (d := (p 15).2) W (hR (8, 24, mu) (by simp) (by kernel_rfl)) (hR (15, 31, mu) (by simp) (by kernel_rfl))).mono fun e w' he => ⟨by rw [he.1]; simp, he.2⟩)
  case mhA => exact fun p => rfl
  case mQ =>
    intro p w8 hb8 hR
    go_wp2
    go_ret
    exact ⟨ret_bool (by simp), b_then hB3 hb8⟩
end Go.Proofs.YtjdkbmlkplbmoaaGreatDoor
