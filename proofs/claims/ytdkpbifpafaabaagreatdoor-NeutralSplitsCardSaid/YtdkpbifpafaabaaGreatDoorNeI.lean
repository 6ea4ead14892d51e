/- neutral.All, and the reference's. -/
import Derived.Test.YtdkpbifpafaabaaGreatDoorNeH
namespace Go.Proofs.YtdkpbifpafaabaaGreatDoor
open Go.RowKit Go.Shelf
set_option linter.unusedVariables false
set_option linter.unusedSimpArgs false
attribute [local go_sem] Oper.semAt_some

theorem rd_kept {α : Type} {e : α → List Value} {z : Nat} {W W' : World} {A : Option Addr} {n : Nat} {xs : List α} {row : Option Nat} (h : Rd e z W A n xs) (hg : W.grownBy W' row) (hr : ∀ r, row = some r → ∃ o : Obj, W.heap[r]? = some o ∧ o.isCells = false) : Rd e z W' A n xs :=
  ⟨h.len, h.big, fun hn => by
    obtain ⟨ad, ha, hl, hc⟩ := h.cells hn
    exact ⟨ad, ha, Nat.lt_of_lt_of_le hl hg.size, fun j x hj i u hu => cell_kept (hc j x hj i u hu) hg hr⟩⟩
/-- The boxed table. -/
def TBox (g : Nat) (xs : List Fx) (W : World) : Prop := ∃ A n c, Boxed W g 29 (.slice A n c) ∧ Rd Fx.cs 4 W A n xs
theorem tbox_own {β : Type} (g : Nat) (f : β → List Fx) : Go.Own (fun s W => TBox g (f s) W) := fun s X Y row hs hg hr => by
  obtain ⟨A, n, c, h1, h2⟩ := hs
  exact ⟨A, n, c, boxed_own g 29 (fun _ : Unit => .slice A n c) () X Y row h1 hg hr, rd_kept h2 hg hr⟩
theorem blk_kept {W W' : World} {g : Nat} {t : TypeId} {cs : Array Value} {row : Option Nat} (h : Blk W g t cs) (hg : W.grownBy W' row) (hr : ∀ r, row = some r → ∃ o : Obj, W.heap[r]? = some o ∧ o.isCells = false) : Blk W' g t cs := (grownBy_keeps_cells hg hr h rfl).trans h
theorem own_rd' {w : World} {base n c : Nat} {A : Option Addr} {xs : List Fx} (h : Own Fx.cs 4 47 w base (.slice A n c) xs) : Rd Fx.cs 4 w A n xs := by
  obtain ⟨A', c', e, hr⟩ := h.rd Fx.cs_length
  injection e with e1 e2 e3
  rw [← e1, ← e2] at hr
  exact hr
set_option maxHeartbeats 2000000 in
theorem p_nall_no {A B : Option Addr} {n c m d : Nat} {xs : List Fx} {l : List Ac} (w : World) (hg : Glob w) (hx : Rd Fx.cs 4 w A n xs) (hz : ∀ f ∈ xs, fxr 40 f) (hl : Rd Ac.cs 11 w B m l) (hq : ∀ x ∈ l, acq x) (hno : (fmay xs && l.all amay) = false) :
    Calls Tryz.prog 37 #[.slice A n c, .slice B m d] w (FixIs [] 0 w) := by
  have hM := fun W (h : Below w.heap.size w W) => p_may (c := c) W (hg.below h) (hx.below h) (fun f hf => fxr_q (hz f hf) (by omega))
  have hC := fun W (h : Below w.heap.size w W) => p_actn (c := d) W (hg.below h) (hl.below h) hq
  cases e1 : fmay xs with
  | false =>
    rw [e1] at hM
    clear e1 hC hno
    go_enter Tryz.func37, Tryz.ntmps37
    go_wp2_with (go_at_call 43; (with_reducible refine (hM _ (by repeat (first | exact Below.refl _ _ | assumption | refine b_then ?_ (by assumption) | refine b_alloc ?_ _ | refine b_drewN ?_ _ | refine Below.drew ?_ | refine b_set ?_ (by first | exact Nat.le_refl _ | (simp; done) | (simp; omega) | omega) _))).mono ?_); rintro e w1 ⟨rfl, hb1⟩; obtain ⟨hc1, hf1⟩ := bcell hb1; have hs1 := hb1.size; (try simp at hs1); have hq1 : w.heap.size < w1.heap.size := (by omega))
    go_ret
    exact ⟨_, _, rfl, Rd.nil, (by repeat (first | exact Below.refl _ _ | assumption | refine b_then ?_ (by assumption) | refine b_alloc ?_ _ | refine b_drewN ?_ _ | refine Below.drew ?_ | refine b_set ?_ (by first | exact Nat.le_refl _ | (simp; done) | (simp; omega) | omega) _))⟩
  | true =>
    have e2 : l.all amay = false := by rw [e1] at hno; exact hno
    rw [e1] at hM
    rw [e2] at hC
    clear e1 e2 hno
    go_enter Tryz.func37, Tryz.ntmps37
    go_wp2_with (first | (go_at_call 43; (with_reducible refine (hM _ (by repeat (first | exact Below.refl _ _ | assumption | refine b_then ?_ (by assumption) | refine b_alloc ?_ _ | refine b_drewN ?_ _ | refine Below.drew ?_ | refine b_set ?_ (by first | exact Nat.le_refl _ | (simp; done) | (simp; omega) | omega) _))).mono ?_); rintro e w1 ⟨rfl, hb1⟩; obtain ⟨hc1, hf1⟩ := bcell hb1; have hs1 := hb1.size; (try simp at hs1); have hq1 : w.heap.size < w1.heap.size := (by omega)) | (go_at_call 72; (with_reducible refine (hC _ (by repeat (first | exact Below.refl _ _ | assumption | refine b_then ?_ (by assumption) | refine b_alloc ?_ _ | refine b_drewN ?_ _ | refine Below.drew ?_ | refine b_set ?_ (by first | exact Nat.le_refl _ | (simp; done) | (simp; omega) | omega) _))).mono ?_); rintro e w2 ⟨rfl, hb2⟩; obtain ⟨hc2, hf2⟩ := bcell hb2; have hs2 := hb2.size; (try simp at hs2); have hq2 : w.heap.size < w2.heap.size := (by omega)))
    go_ret
    exact ⟨_, _, rfl, Rd.nil, (by repeat (first | exact Below.refl _ _ | assumption | refine b_then ?_ (by assumption) | refine b_alloc ?_ _ | refine b_drewN ?_ _ | refine Below.drew ?_ | refine b_set ?_ (by first | exact Nat.le_refl _ | (simp; done) | (simp; omega) | omega) _))⟩
set_option maxRecDepth 100000 in
set_option maxHeartbeats 4000000 in
theorem p_nall_yes {A B : Option Addr} {n c m d : Nat} {xs : List Fx} {l : List Ac} (w : World) (hg : Glob w) (hx : Rd Fx.cs 4 w A n xs) (hs : NSz 0 xs) (hl : Rd Ac.cs 11 w B m l) (hm4 : m ≤ 4) (hq : ∀ x ∈ l, acq x) (hno : l.all amay = true) :
    Calls Tryz.prog 37 #[.slice A n c, .slice B m d] w (FixIs (nfold xs l) (nfold xs l).length w) := by
  have hM := fun W (h : Below w.heap.size w W) => p_may (c := c) W (hg.below h) (hx.below h) (fun f hf => fxr_q ((hs.ok (by omega)).2 f hf) (by omega))
  have hC := fun W (h : Below w.heap.size w W) => p_actn (c := d) W (hg.below h) (hl.below h) hq
  have hxn : n ≤ 1000000 := by have := (hs.ok (by omega)).1; have := hx.len; omega
  have hCl := fun W (h : Below w.heap.size w W) => p_clone (c := c) W (hx.below h) hxn
  rw [hs.may] at hM
  rw [hno] at hC
  refine (callsIn_wide (n := 5)).1 ?_
  refine callsIn_of_wp_marks Tryz.func37 rfl trivial ?_ rfl
  simp only [Tryz.ntmps37, List.size_toArray, List.length_cons, List.length_nil, Nat.reduceAdd, Nat.reduceSub, Array.replicate_succ, Array.replicate_zero, List.push_toArray, List.append_toArray, List.nil_append, List.cons_append]
  gi_wp2_with (first
    | (refine ⟨trivial, ?_⟩; gi_at_call 43; (with_reducible refine (callsIn_wide.2 (hM _ (by repeat (first | exact Below.refl _ _ | assumption | refine b_then ?_ (by assumption) | refine b_alloc ?_ _ | refine b_drewN ?_ _ | refine Below.drew ?_ | refine b_set ?_ (by first | exact Nat.le_refl _ | (simp; done) | (simp; omega) | omega) _)))).mono ?_); rintro e w1 ⟨rfl, hb1⟩; obtain ⟨hc1, hf1⟩ := bcell hb1; have hs1 := hb1.size; (try simp at hs1); have hq1 : w.heap.size < w1.heap.size := (by omega))
    | (refine ⟨trivial, ?_⟩; gi_at_call 72; (with_reducible refine (callsIn_wide.2 (hC _ (by repeat (first | exact Below.refl _ _ | assumption | refine b_then ?_ (by assumption) | refine b_alloc ?_ _ | refine b_drewN ?_ _ | refine Below.drew ?_ | refine b_set ?_ (by first | exact Nat.le_refl _ | (simp; done) | (simp; omega) | omega) _)))).mono ?_); rintro e w2 ⟨rfl, hb2⟩; obtain ⟨hc2, hf2⟩ := bcell hb2; have hs2 := hb2.size; (try simp at hs2); have hq2 : w.heap.size < w2.heap.size := (by omega))
    | (refine ⟨trivial, ?_⟩; gi_at_call 74; (with_reducible refine (callsIn_wide.2 (hCl _ (by repeat (first | exact Below.refl _ _ | assumption | refine b_then ?_ (by assumption) | refine b_alloc ?_ _ | refine b_drewN ?_ _ | refine Below.drew ?_ | refine b_set ?_ (by first | exact Nat.le_refl _ | (simp; done) | (simp; omega) | omega) _)))).mono ?_); rintro e w3 ⟨v3, rfl, ho3, hb3⟩; obtain ⟨A3, c3, rfl, R3⟩ := ho3.rd Fx.cs_length; obtain ⟨hc3, hf3⟩ := bcell hb3; have hs3 := hb3.size; (try simp at hs3); have hq3 : w.heap.size < w3.heap.size := (by omega))
    | (refine ⟨trivial, ?_⟩; gi_at_call 75; refine (aback_in Fence.wide _ trivial rfl _ _ _ _).mono ?_; rintro e w' ⟨rfl, rfl⟩))
  have hlm := hl.len
  have bT3 := below_box hb3 (below_box hb2 (below_box hb1 (Boxed.new w 29 (.slice A n c))))
  have hB3 : Below w.heap.size w w3 := (by repeat (first | exact Below.refl _ _ | assumption | refine b_then ?_ (by assumption) | refine b_alloc ?_ _ | refine b_drewN ?_ _ | refine Below.drew ?_ | refine b_set ?_ (by first | exact Nat.le_refl _ | (simp; done) | (simp; omega) | omega) _))
  have hgw3 : w.heap.size < w3.heap.size := bT3.lt
  have facts : Boxed ((w3.setCell ⟨w.heap.size, 0, none⟩ (.slice A3 xs.length c3)).alloc (.cells #[.slice B m d] 54)) w.heap.size 29 (.slice A3 xs.length c3) ∧ Boxed ((w3.setCell ⟨w.heap.size, 0, none⟩ (.slice A3 xs.length c3)).alloc (.cells #[.slice B m d] 54)) w3.heap.size 54 (.slice B m d) ∧
      Rd Fx.cs 4 ((w3.setCell ⟨w.heap.size, 0, none⟩ (.slice A3 xs.length c3)).alloc (.cells #[.slice B m d] 54)) A3 xs.length xs ∧ Below w.heap.size w ((w3.setCell ⟨w.heap.size, 0, none⟩ (.slice A3 xs.length c3)).alloc (.cells #[.slice B m d] 54)) ∧ w3.heap.size < ((w3.setCell ⟨w.heap.size, 0, none⟩ (.slice A3 xs.length c3)).alloc (.cells #[.slice B m d] 54)).heap.size :=
    ⟨(bT3.set _).alloc _, by simpa using (Boxed.new (w3.setCell ⟨w.heap.size, 0, none⟩ (.slice A3 xs.length c3)) 54 (.slice B m d)), own_rd' ((ho3.setOld (p := ⟨w.heap.size, 0, none⟩) hq2 _).alloc _), b_alloc (b_set hB3 (Nat.le_refl _) _) _, by simp⟩
  obtain ⟨W5, hW5⟩ : ∃ W5, (w3.setCell ⟨w.heap.size, 0, none⟩ (.slice A3 xs.length c3)).alloc (.cells #[.slice B m d] 54) = W5 := ⟨_, rfl⟩
  rw [hW5] at facts ⊢
  obtain ⟨bT5, bN5, hR5, hB5, hs5⟩ := facts
  clear hW5 hM hC hCl hc1 hf1 hc2 hf2 hc3 hf3 hb1 hb2 hb3 ho3 R3 bT3
  refine wpIn_rangeFunc_ownH rfl (by omega) (gf := 114) (lb := #[.pointer (some ⟨w3.heap.size, 0, none⟩)]) rfl trivial (enters_of Tryz.func114 (by kernel_rfl) rfl)
    (aback_stops Fence.wide _ trivial rfl (by omega) w3.heap.size m d B l W5 hs5 bN5.cell (w0 := w) hB5.size hl hB5) (fun h k => h.trans k) (KpI.turn hB5.size hs5) (Below.refl _ _) (fun _ => rfl)
    (fun pre W => (TBox w.heap.size (nrun xs l pre) W ∧ Boxed W w3.heap.size 54 (.slice B m d)) ∧ Below w.heap.size w W)
    (fun _ _ _ => False)
    (OwnFrom.and (OwnFrom.and (Go.Own.from (tbox_own _ _) _) (Go.Own.from (boxed_own _ _ _) _)) (ownFrom_below (Nat.le_refl _) hB5.size))
    (fun _ _ _ _ _ hs _ _ => hs)
    ⟨⟨⟨A3, xs.length, c3, bT5, hR5⟩, bN5⟩, hB5⟩
    (fun x a' W => ∃ Bx, w3.heap.size < Bx ∧ Blk W Bx 25 (Ac.cs l[x.1]).toArray ∧ a' = { tmps := #[.slice A n c, .slice B m d, .pointer (some ⟨w.heap.size, 0, none⟩), undef, .slice none 0 0, undef, .pointer (some ⟨Bx, 0, none⟩), .slice A n c, .bool true, .bool false, .bool false, .slice B m d, .bool false, .bool false, .slice A n c, .slice A3 xs.length c3, .slice B m d, .func (.func 114) #[] #[.pointer (some ⟨w3.heap.size, 0, none⟩)], .int .i64 (x.1 : Nat), Ac.v l[x.1], undef, undef, undef, undef], defers := [] })
    (fun x a' _ X Y row hs hg hr => by obtain ⟨Bx, h1, h2, h3⟩ := hs; exact ⟨Bx, h1, blk_kept h2 hg (fun r e => (hr r e).2), h3⟩)
    ?assign ?body ?done ?stop
  case assign =>
    rintro l' pre x W K ⟨⟨⟨A', n', c', hbx, hrd⟩, hbs⟩, hBl⟩ hK
    obtain ⟨y, hy⟩ : ∃ y, l[x.1] = y := ⟨_, rfl⟩
    simp only [hy] at hK
    simp only [abenc, hy]
    obtain ⟨a0, a1, a2, a3, ⟨a4, a5⟩, ⟨a6, a7⟩, a8, a9, a10⟩ := y
    simp only [Ac.v] at hK ⊢
    clear hy
    gi_wp2
    exact hK _ _ ((KeepsOthers.alloc _ _).from _) (KpI.of ((Below.refl _ W).alloc hBl.size _) ((Below.refl _ W).alloc hbs.lt _)) ⟨⟨⟨A', n', c', hbx.alloc _, hrd.below (b_alloc (Below.refl _ _) _)⟩, hbs.alloc _⟩, b_alloc hBl _⟩ ⟨W.heap.size, hbs.lt, Blk.new W _ _, rfl⟩
  case body =>
    rintro l' pre x a' W hl' ⟨r, hr⟩ ⟨⟨⟨A', n', c', hbx, hrd⟩, hbs⟩, hBl⟩ ⟨Bx, hBx, bX, rfl⟩ hlt
    have hya : amay l[x.1] = true := List.all_eq_true.1 hno _ (List.getElem_mem x.2)
    have hsz := nrun_sz hs hno pre
    have hok := hsz.ok (by omega)
    have hsn := nrun_snoc xs l pre x
    obtain ⟨y, hy⟩ : ∃ y, l[x.1] = y := ⟨_, rfl⟩
    rw [hy] at hya bX hsn
    simp only [hy]
    obtain ⟨a0, a1, a2, a3, ⟨a4, a5⟩, ⟨a6, a7⟩, a8, a9, a10⟩ := y
    simp only [Ac.v]
    have hN := p_none (c := c') a0 a1 a2 a3 a4 a5 a6 a7 a8 a9 a10 W (hg.below hBl) hrd (by rw [← hrd.len]; exact hok.1) hok.2 hya hsz.may
    unfold NewFix at hN
    rw [← hsn] at hN
    obtain ⟨x0, x1, x2, x3, x4, x5, x6, x7, x8, x9, x10⟩ := ac_bx bX
    have cT := hbx.cell
    have lT := hbx.lt
    clear hy hsn hya hok
    gi_wp2_with (refine ⟨trivial, ?_⟩; gi_at_call 70; (with_reducible refine (CallsIn.inRound l' (callsIn_wide.2 hN)).mono ?_); rintro e w7 ⟨v7, rfl, ho7, hb7⟩; obtain ⟨A7, c7, rfl, R7⟩ := ho7.rd Fx.cs_length; have bT7 := below_box hb7 hbx; have cT7 := bT7.cell; have fT7 := bT7.frozen)
    have bN7 := below_box hb7 hbs
    have hB7 := b_then hBl hb7
    have bNs := bN7.other (B' := w.heap.size) (by omega) (.slice A7 (nrun xs l (pre ++ [x])).length c7)
    exact ⟨((others_below hb7).trans (KeepsOthers.setCell _ _ _)).from _, ⟨((bel_mono hb7 hBl.size).setCell (p := ⟨w.heap.size, 0, none⟩) (Nat.le_refl _) _), bNs.cell.trans hbs.cell.symm⟩, ⟨⟨_, _, _, bT7.set _, own_rd' (ho7.setOld (p := ⟨w.heap.size, 0, none⟩) lT _)⟩, bNs⟩, b_set hB7 (Nat.le_refl _) _⟩
  case done =>
    rintro D zs W hD rfl ⟨⟨⟨A', n', c', hbx, hrd⟩, hbs⟩, hBl⟩ hK
    rw [nrun_all] at hrd
    have hrl := hrd.len
    subst hrl
    have cT := hbx.cell
    gi_wp2
    refine ⟨by simp, .inl ⟨_, _, rfl, run_takeDeferred hK, ?_⟩⟩
    refine ⟨_, results_tmp rfl _ _ _, ⟨A', c', ?_, rd_kept hrd (grownBy_putObj' _ D (.deferred none)) (fun r e => by cases e; exact ⟨_, hK, rfl⟩), hBl.trans (belowK_b (w := w) (Nat.le_refl _) W D _ _ (by have := hB5.size; omega) hK rfl rfl)⟩⟩
    rfl
  case stop =>
    rintro D cd pre W _ _ h _
    exact h.elim
end Go.Proofs.YtdkpbifpafaabaaGreatDoor
