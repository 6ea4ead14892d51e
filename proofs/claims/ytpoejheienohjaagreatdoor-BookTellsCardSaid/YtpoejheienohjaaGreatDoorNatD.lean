/- Walks of nat: text. -/
import Derived.Test.YtpoejheienohjaaGreatDoorNatB
namespace Go.Proofs.YtpoejheienohjaaGreatDoor
open Go.RowKit Go.Shelf
set_option linter.unusedVariables false
set_option linter.unusedSimpArgs false
attribute [local go_sem] Oper.semAt_some

/-- The text of the limbs at these places. -/
def tbuf (xs : List Nat) (l : List (Fin xs.length)) : List UInt8 := l.flatMap fun i => if i.1 + 1 < xs.length then fdg 4 xs[i.1] else ntx xs[i.1]
theorem tbuf_snoc (xs : List Nat) (l : List (Fin xs.length)) (i : Fin xs.length) : tbuf xs (l ++ [i]) = tbuf xs l ++ (if i.1 + 1 < xs.length then fdg 4 xs[i.1] else ntx xs[i.1]) := by simp [tbuf]
theorem ndg4 {x : Nat} (h : x < 10000) : ndg x ≤ 4 := ndg_le_of (by omega) (by omega)
theorem tbuf_len {xs : List Nat} (h : isL xs) (l : List (Fin xs.length)) : (tbuf xs l).length ≤ 4 * l.length := by
  induction l with
  | nil => simp [tbuf]
  | cons i l ih =>
    have h1 := ndg4 (isL_get h i.2)
    have : tbuf xs (i :: l) = (if i.1 + 1 < xs.length then fdg 4 xs[i.1] else ntx xs[i.1]) ++ tbuf xs l := by simp [tbuf]
    rw [this, List.length_append, List.length_cons]
    split
    · rw [fdg_length]; omega
    · rw [ntx_length]; omega
theorem tbuf_all {xs : List Nat} (h : isL xs) (hn : xs ≠ []) (ht : ∀ x, xs.getLast? = some x → x ≠ 0) : tbuf xs (List.finRange xs.length).reverse = ntx (lv xs) := by
  have key : ∀ k, 0 < k → k ≤ xs.length → tbuf xs (backs xs.length k) = ntx (lv (xs.drop (xs.length - k))) ∧ 0 < lv (xs.drop (xs.length - k)) := by
    intro k
    induction k with
    | zero => intro h; omega
    | succ k ih =>
      intro _ hk
      rw [backs_succ _ _ (by omega), tbuf_snoc]
      have hd : xs.drop (xs.length - (k + 1)) = xs[xs.length - 1 - k] :: xs.drop (xs.length - k) := by
        rw [show xs.length - (k + 1) = xs.length - 1 - k by omega, List.drop_eq_getElem_cons (by omega), show xs.length - 1 - k + 1 = xs.length - k by omega]
      have hx := isL_get h (k := xs.length - 1 - k) (by omega)
      rw [hd, lv]
      by_cases h0 : k = 0
      · subst h0
        have h1 : xs[xs.length - 1 - 0] ≠ 0 := by
          apply ht
          rw [List.getLast?_eq_getElem?, List.getElem?_eq_getElem (by omega)]; rfl
        simp only [Nat.sub_zero, backs_zero, List.drop_length, lv, Nat.mul_zero, Nat.add_zero] at h1 ⊢
        rw [if_neg (by omega)]
        exact ⟨by simp [tbuf], by omega⟩
      · obtain ⟨e, hp⟩ := ih (by omega) (by omega)
        rw [e, if_pos (by show xs.length - 1 - k + 1 < xs.length; omega)]
        exact ⟨(ntx_limb hp hx).symm, by omega⟩
  have hl : 0 < xs.length := by
    cases xs with
    | nil => exact absurd rfl hn
    | cons => simp
  have := (key xs.length hl (Nat.le_refl _)).1
  rw [backs_all, Nat.sub_self, List.drop_zero] at this
  exact this
theorem builder_own {β : Type} (T e : TypeId) (B b : Nat) (f : β → List Value) : Go.Own (fun s W => Lib.IsBuilder T e B b (f s) W) := by
  have key : ∀ (p : Value) (s : β) (X Y : World) (row : Option Nat), Lib.BuilderAt T e B b p (f s) X → X.grownBy Y row → (∀ r, row = some r → ∃ o : Obj, X.heap[r]? = some o ∧ o.isCells = false) → Lib.BuilderAt T e B b p (f s) Y := by
    rintro p s X Y row ⟨hB, v, hb, hown, hne⟩ hg hrow
    refine ⟨hB, v, ?_, hown.kept hg ?_, hne⟩
    · rw [hg.block b (Array.getElem?_eq_some_iff.1 hb).1 ?_]
      · exact hb
      · intro e'
        obtain ⟨o, ho, hc⟩ := hrow b e'.symm
        rw [hb] at ho; cases ho; cases hc
    · rcases hown.2 with ⟨rfl, _⟩ | ⟨g, cap, cur, rfl, _, hgb, _⟩
      · exact .inl rfl
      · refine .inr fun e' => ?_
        obtain ⟨o, ho, hc⟩ := hrow g (by simpa [Value.ownBlock] using e'.symm)
        rw [hgb] at ho; cases ho; cases hc
  rintro s X Y row (h | h) hg hrow
  · exact .inl (key _ s X Y row h hg hrow)
  · exact .inr (key _ s X Y row h hg hrow)
theorem others_keep {e : TypeId} {b : Nat} {w w' : World} (h : Lib.OthersKept e (some b) w w') (hs : w.heap.size ≤ w'.heap.size) {T : TypeId} {cs : Array Value} (hb : w.heap[b]? = some (.cells cs T (0, 0))) : KeepsOthers w w' :=
  ⟨hs, fun k o hk ho => h k o hk (fun e => by cases e; rw [hb] at hk; cases hk; cases ho) (fun c fz e => by subst e; cases ho)⟩
theorem others_below {w w' : World} (h : Below w.heap.size w w') : KeepsOthers w w' := ⟨h.size, fun k o hk _ => (h.block k (Array.getElem?_eq_some_iff.1 hk).1).trans hk⟩
theorem others_box {e : TypeId} {b B : Nat} {t : TypeId} {v : Value} {w w' : World} (h : Lib.OthersKept e (some b) w w') (hb : Boxed w B t v) (hne : B ≠ b) (ht : t ≠ e) : Boxed w' B t v :=
  h B _ hb (fun e => hne (Option.some.inj e)) (fun c fz e => by injection e with _ e2; exact ht e2)
theorem below_box {B : Nat} {t : TypeId} {v : Value} {w w' : World} (h : Below w.heap.size w w') (hb : Boxed w B t v) : Boxed w' B t v := (h.block B hb.lt).trans hb

theorem c_itoaN (n : Nat) (w : World) (h1 : n ≤ 9223372036854775807) (hg : Glob w) :
    Calls Tryz.prog 136 #[.int .i64 (n : Nat)] w fun e w' => e = .returned (.string (nS n)) ∧ Below w.heap.size w w' := by
  have := c_itoa (n : Int) w (by omega) (by omega) hg
  rwa [iS_nat] at this
theorem c_zeros (q : Nat) (w : World) (hq : q ≤ 4) : Calls Tryz.prog 164 #[.string { data := #[48] }, .int .i64 (q : Nat)] w fun e w' => e = .returned (.string (mkS (List.replicate q 48))) ∧ Below w.heap.size w w' := by
  have h1 : (ByteArray.mk #[48]).size = 1 := rfl
  have := c_repeat (ByteArray.mk #[48]) q w (by omega) (by rw [h1]; omega)
  have e : Lib.repeatL (ByteArray.mk #[48]).data.toList q = List.replicate q 48 := by
    have := Lib.repeatL_replicate 48 1 q
    rwa [Nat.mul_one] at this
  rwa [e] at this
theorem builder_below {T e : TypeId} {B b : Nat} {bs : List Value} {w w' : World} (h : Lib.IsBuilder T e B b bs w) (hb : Below w.heap.size w w') : Lib.IsBuilder T e B b bs w' :=
  builder_own T e B b (fun _ : Unit => bs) () w w' none h (grown_of_below hb none) (fun r e => by cases e)
theorem builder_others {T e : TypeId} {B b : Nat} {bs : List Value} {w w' : World} (h : Lib.IsBuilder T e B b bs w) (hk : Lib.OthersKept e (some b) w w') (hs : w.heap.size ≤ w'.heap.size) : KeepsOthers w w' := by
  rcases h with ⟨_, v, hb, _⟩ | ⟨_, v, hb, _⟩ <;> exact others_keep hk hs hb
theorem bl (l : List UInt8) : (Lib.byteCells l).length = l.length := Lib.byteCells_length l
theorem sl (s : ByteArray) : (Lib.strCells s).length = s.size := Lib.strCells_length s
theorem tb_more {xs : List Nat} {pre : List (Fin xs.length)} {x : Fin xs.length} {q : Nat} (hi : x.1 + 1 < xs.length) (hx : xs[x.1] < 10000) (hq : 4 - ndg xs[x.1] = q) :
    Lib.byteCells (tbuf xs pre) ++ Lib.strCells (mkS (List.replicate q 48)) ++ Lib.strCells (nS xs[x.1]) = Lib.byteCells (tbuf xs (pre ++ [x])) := by
  rw [tbuf_snoc, if_pos hi, fdg4 hx, hq, Lib.byteCells_append, Lib.byteCells_append, List.append_assoc]; rfl
theorem tb_last {xs : List Nat} {pre : List (Fin xs.length)} {x : Fin xs.length} (hi : ¬ x.1 + 1 < xs.length) :
    Lib.byteCells (tbuf xs pre) ++ Lib.strCells (nS xs[x.1]) = Lib.byteCells (tbuf xs (pre ++ [x])) := by
  rw [tbuf_snoc, if_neg hi, Lib.byteCells_append]; rfl

set_option maxRecDepth 100000 in
set_option maxHeartbeats 4000000 in
theorem n_text (A : Option Addr) (n m c : Nat) (w : World) (hg : Glob w) (hm : (lim n).length = m) (ha : Ls w A m (lim n)) (hn : ndg n ≤ 900000000) :
    Calls Tryz.prog 144 #[.slice A m c] w fun e w' => e = .returned (.string (nS n)) ∧ Below w.heap.size w w' := by
  refine (callsIn_wide (n := 5)).1 ?_
  refine callsIn_of_wp_marks Tryz.func144 rfl trivial ?_ rfl
  simp only [Tryz.ntmps144, List.size_toArray, List.length_cons, List.length_nil, Nat.reduceAdd, Nat.reduceSub, Array.replicate_succ, Array.replicate_zero, List.push_toArray, List.append_toArray, List.nil_append, List.cons_append]
  have hab := ha.big
  by_cases h0 : n = 0
  · subst h0
    have hm0 : m = 0 := by rw [← hm, lim_zero]; rfl
    subst hm0
    gi_wp2
    exact bodyM_ret (v := .string (nS 0)) (by simp [results, Tryz.f144, go_sem]; rfl) ⟨rfl, (by repeat (first | exact Below.refl _ _ | assumption | refine b_then ?_ (by assumption) | refine b_alloc ?_ _ | refine b_drewN ?_ _ | refine Below.drew ?_ | refine b_set ?_ (by first | exact Nat.le_refl _ | (simp; done) | (simp; omega) | omega) _))⟩
  · have hm0 : 0 < m := by rw [← hm]; have := lim_len_zero (n := n); omega
    gi_wp2_with (refine ⟨trivial, ?_⟩; gi_at_call 162; refine (back_in Fence.wide _ trivial rfl _ _ _ _).mono ?_; rintro e w' ⟨rfl, rfl⟩)
    obtain ⟨xs, hxs⟩ : ∃ xs, lim n = xs := ⟨_, rfl⟩
    have hL : isL xs := by rw [← hxs]; exact isL_lim n
    have hlast : ∀ x, xs.getLast? = some x → x ≠ 0 := by rw [← hxs]; exact lim_last n
    have hval : lv xs = n := by rw [← hxs]; exact lv_lim n
    rw [hxs] at hm ha
    subst hm
    have bX := Boxed.new w 126 (.slice A xs.length c)
    have bB := World.alloc_heap_new (w.alloc (.cells #[.slice A xs.length c] 126)) (.cells #[.pointer none, .slice none 0 0] 145)
    have bN := Boxed.new ((w.alloc (.cells #[.slice A xs.length c] 126)).alloc (.cells #[.pointer none, .slice none 0 0] 145)) 126 (.slice A xs.length c)
    simp only [World.size_alloc] at bB bN
    have hB0 : Below w.heap.size w (((w.alloc (.cells #[.slice A xs.length c] 126)).alloc (.cells #[.pointer none, .slice none 0 0] 145)).alloc (.cells #[.slice A xs.length c] 126)) := (by repeat (first | exact Below.refl _ _ | assumption | refine b_then ?_ (by assumption) | refine b_alloc ?_ _ | refine b_drewN ?_ _ | refine Below.drew ?_ | refine b_set ?_ (by first | exact Nat.le_refl _ | (simp; done) | (simp; omega) | omega) _))
    have hbd : Lib.IsBuilder 145 5 w.heap.size (w.heap.size + 1) (Lib.byteCells (tbuf xs [])) (((w.alloc (.cells #[.slice A xs.length c] 126)).alloc (.cells #[.pointer none, .slice none 0 0] 145)).alloc (.cells #[.slice A xs.length c] 126)) :=
      .inl ⟨by omega, _, (Below.heap_alloc _ _ _ (by simp)).trans bB, World.ownsRow_nil _ _ _ _, by simp [Value.ownBlock]⟩
    refine wpIn_rangeFunc_ownF rfl (by omega) (gf := 178) (lb := #[.pointer (some ⟨w.heap.size + 1 + 1, 0, none⟩)]) rfl trivial (enters_of Tryz.func178 (by kernel_rfl) rfl)
      (back_stops Fence.wide _ trivial rfl (by omega) (w.heap.size + 1 + 1) w.heap.size _ _ _ xs _ (by simp) (by simp; omega) bN.cell (w0 := w) rfl ha hB0) (fun h k => h.trans k) (KpI.turn (by simp; omega) (by simp)) (Below.refl _ _) (fun _ => rfl)
      (fun pre W => (Lib.IsBuilder 145 5 w.heap.size (w.heap.size + 1) (Lib.byteCells (tbuf xs pre)) W ∧ Boxed W w.heap.size 126 (.slice A xs.length c) ∧ Boxed W (w.heap.size + 1 + 1) 126 (.slice A xs.length c)) ∧ Below w.heap.size w W)
      (fun _ _ _ => False)
      (OwnFrom.and (OwnFrom.and (Go.Own.from (builder_own _ _ _ _ _) _) (OwnFrom.and (Go.Own.from (boxed_own _ _ _) _) (Go.Own.from (boxed_own _ _ _) _))) (ownFrom_below (Nat.le_refl _) (by simp; omega)))
      (fun _ _ _ _ _ hs _ _ => hs)
      ⟨⟨hbd, (bX.alloc _).alloc _, bN⟩, hB0⟩
      (fun x => { tmps := #[.slice A xs.length c, .pointer (some ⟨w.heap.size, 0, none⟩), .string { data := #[] }, .pointer (some ⟨w.heap.size + 1, 0, none⟩), .int .i64 (x.1 : Nat), .int .i64 (xs[x.1] : Nat), undef, .slice A xs.length c,
          .int .i64 xs.length, .bool false, .slice A xs.length c, .func (.func 178) #[] #[.pointer (some ⟨w.heap.size + 1 + 1, 0, none⟩)], .int .i64 (x.1 : Nat), .int .i64 (xs[x.1] : Nat),
          undef, undef, undef, undef, undef, undef, undef, undef, undef, undef, undef, undef, undef, undef, undef], defers := [] }) ?assign ?body ?done ?stop
    case assign =>
      intro l x W K hK
      simp only [benc]
      gi_wp2
      exact hK
    case body =>
      rintro l pre x W ⟨⟨hbd, hbx, hbs⟩, hBl⟩ hpl
      have hx : xs[x.1] < 10000 := isL_get hL x.2
      have hx4 := ndg4 hx
      have hxp := ndg_pos xs[x.1]
      have hGW := hg.below hBl
      have htb := tbuf_len hL pre
      have hxl : x.1 < xs.length := x.2
      have hB := hBl.size
      obtain ⟨q, hq⟩ : ∃ q, 4 - ndg xs[x.1] = q := ⟨_, rfl⟩
      have hq1 : (4 : Int) - (ndg xs[x.1] : Nat) = (q : Nat) := by omega
      have hnS : (nS xs[x.1]).size = ndg xs[x.1] := nS_size _
      have hbn : W.heap.size ≤ W.heap.size := Nat.le_refl _
      have hms : (mkS (List.replicate q 48)).size ≤ 4 := by rw [mkS_size, List.length_replicate]; omega
      by_cases hi : x.1 + 1 < xs.length
      · gi_wp2_with (first
          | (refine ⟨trivial, ?_⟩; gi_at_call 136; (with_reducible refine (CallsIn.inRound l (callsIn_wide.2 (c_itoaN xs[x.1] W (by omega) hGW))).mono ?_); rintro e w1 ⟨rfl, hb1⟩; have hx1 := (below_box hb1 hbx).cell; have hs1 := hb1.size; have hbd1 := builder_below hbd hb1)
          | (refine ⟨trivial, ?_⟩; gi_at_call 164; (with_reducible refine (CallsIn.inRound l (callsIn_wide.2 (c_zeros q w1 (by omega)))).mono ?_); rintro e w2 ⟨rfl, hb2⟩; have hs2 := hb2.size; have hbd2 := builder_below hbd1 hb2)
          | (refine ⟨trivial, ?_⟩; gi_at_call 163; (with_reducible refine (CallsIn.inRound l (callsIn_wide.2 (c_writeString w.heap.size (w.heap.size + 1) (Lib.byteCells (tbuf xs pre)) (mkS (List.replicate q 48)) w2 hbd2 (by rw [bl]; omega) (by omega)))).mono ?_); rintro e w3 ⟨rfl, hbd3, hb3, hk3⟩; have hs3 := hb3.size))
        refine ⟨trivial, ?_⟩
        refine (CallsIn.inRound l (callsIn_wide.2 (c_writeString w.heap.size (w.heap.size + 1) (Lib.byteCells (tbuf xs pre) ++ Lib.strCells (mkS (List.replicate q 48))) (nS xs[x.1]) w3 (.inr hbd3) (by rw [List.length_append, bl, sl]; omega) (by omega)))).mono ?_
        rintro e w4 ⟨rfl, hbd4, hb4, hk4⟩
        have hs4 := hb4.size
        gi_wp2
        have hb12 := b_then hb1 hb2
        have hbs4 := others_box hk4 (others_box hk3 (below_box hb12 hbs) (by omega) (by decide)) (by omega) (by decide)
        have hbx4 := others_box hk4 (others_box hk3 (below_box hb12 hbx) (by omega) (by decide)) (by omega) (by decide)
        have hB4 : Below w.heap.size W w4 := ((hb12.mono hB).trans hb3).trans hb4
        rw [tb_more hi hx hq] at hbd4
        exact ⟨((others_below hb12).trans (builder_others hbd2 hk3 hs3)).trans (builder_others (.inr hbd3) hk4 hs4), ⟨hB4, hbs4.cell.trans hbs.cell.symm⟩, ⟨.inr hbd4, hbx4, hbs4⟩, hBl.trans hB4⟩
      · gi_wp2_with (first
          | (refine ⟨trivial, ?_⟩; gi_at_call 136; (with_reducible refine (CallsIn.inRound l (callsIn_wide.2 (c_itoaN xs[x.1] W (by omega) hGW))).mono ?_); rintro e w1 ⟨rfl, hb1⟩; have hx1 := (below_box hb1 hbx).cell; have hs1 := hb1.size; have hbd1 := builder_below hbd hb1)
          | (refine ⟨trivial, ?_⟩; gi_at_call 163; (with_reducible refine (CallsIn.inRound l (callsIn_wide.2 (c_writeString w.heap.size (w.heap.size + 1) (Lib.byteCells (tbuf xs pre)) (nS xs[x.1]) w1 hbd1 (by rw [bl]; omega) (by omega)))).mono ?_); rintro e w3 ⟨rfl, hbd3, hb3, hk3⟩; have hs3 := hb3.size))
        have hbs4 := others_box hk3 (below_box hb1 hbs) (by omega) (by decide)
        have hbx4 := others_box hk3 (below_box hb1 hbx) (by omega) (by decide)
        have hB4 : Below w.heap.size W w3 := (hb1.mono hB).trans hb3
        rw [tb_last hi] at hbd3
        exact ⟨(others_below hb1).trans (builder_others hbd1 hk3 hs3), ⟨hB4, hbs4.cell.trans hbs.cell.symm⟩, ⟨.inr hbd3, hbx4, hbs4⟩, hBl.trans hB4⟩
    case done =>
      rintro D zs W hD rfl ⟨⟨hbd, hbx, hbs⟩, hBl⟩ hK
      have hne : tbuf xs (List.finRange xs.length).reverse ≠ [] := by
        rw [tbuf_all hL (by intro e; rw [e] at hm0; exact absurd hm0 (by simp)) hlast]; exact ntx_ne_nil _
      gi_wp2_with (refine ⟨trivial, ?_⟩; gi_at_call 165; (with_reducible refine (callsIn_wide.2 (c_builderString w.heap.size (w.heap.size + 1) (tbuf xs (List.finRange xs.length).reverse) W hbd hne)).mono ?_); rintro e w5 ⟨rfl, hb5, hk5⟩)
      have hDs : w.heap.size + 3 ≤ D := by simp at hD; omega
      have hK' := hk5 D _ hK (fun e => by have := Option.some.inj e; omega) (fun c fz e => by cases e)
      refine ⟨by simp, .inl ⟨_, _, rfl, run_takeDeferred hK', ?_⟩⟩
      refine ⟨_, results_tmp rfl _ _ _, ?_, (hBl.trans hb5).trans (belowK_b (w := w) (Nat.le_refl _) _ D _ _ (by omega) hK' rfl rfl)⟩
      exact ret_str (by rw [tbuf_all hL (by intro e; rw [e] at hm0; exact absurd hm0 (by simp)) hlast, hval]; rfl)
    case stop =>
      rintro D cd pre W _ _ h _
      exact h.elim
end Go.Proofs.YtpoejheienohjaaGreatDoor
