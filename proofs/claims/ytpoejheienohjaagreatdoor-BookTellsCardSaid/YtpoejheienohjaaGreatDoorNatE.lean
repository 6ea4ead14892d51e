/- Walks of nat: short. -/
import Derived.Test.YtpoejheienohjaaGreatDoorNatD
import Derived.Test.YtpoejheienohjaaGreatDoorNatF
import Derived.Deep.RegionWith
namespace Go.Proofs.YtpoejheienohjaaGreatDoor
open Go.RowKit Go.Shelf
set_option linter.unusedVariables false
set_option linter.unusedSimpArgs false
attribute [local go_sem] Oper.semAt_some

/-! ### The division by a limb, from the top -/
def shStep (xs : List Nat) (d : Nat) (s : Nat × List Nat) (i : Fin xs.length) : Nat × List Nat := ((s.1 * 10000 + xs[i.1]) % d, s.2.set i.1 ((s.1 * 10000 + xs[i.1]) / d))
def sh (xs : List Nat) (d : Nat) (l : List (Fin xs.length)) : Nat × List Nat := l.foldl (shStep xs d) (0, List.replicate xs.length 0)
theorem sh_snoc (xs : List Nat) (d : Nat) (l : List (Fin xs.length)) (i : Fin xs.length) : sh xs d (l ++ [i]) = shStep xs d (sh xs d l) i := by simp [sh]
theorem sh_len (xs : List Nat) (d : Nat) (l : List (Fin xs.length)) : (sh xs d l).2.length = xs.length := by
  induction l using snoc_ind with
  | h0 => simp [sh]
  | h1 l i ih => rw [sh_snoc, shStep, List.length_set, ih]
theorem sh_rest (xs : List Nat) {d : Nat} (hd : 0 < d) (l : List (Fin xs.length)) : (sh xs d l).1 < d := by
  induction l using snoc_ind with
  | h0 => exact hd
  | h1 l i ih => rw [sh_snoc]; exact Nat.mod_lt _ hd
theorem sh_quot {xs : List Nat} (hx : isL xs) {d : Nat} (hd : 0 < d) (l : List (Fin xs.length)) (i : Fin xs.length) : ((sh xs d l).1 * 10000 + xs[i.1]) / d < 10000 := by
  have h1 := sh_rest xs hd l
  have h2 := isL_get hx i.2
  rw [Nat.div_lt_iff_lt_mul hd]
  have : ((sh xs d l).1 + 1) * 10000 ≤ d * 10000 := Nat.mul_le_mul_right _ h1
  omega
theorem sh_isL {xs : List Nat} (hx : isL xs) {d : Nat} (hd : 0 < d) (l : List (Fin xs.length)) : isL (sh xs d l).2 := by
  induction l using snoc_ind with
  | h0 => exact isL_rep _
  | h1 l i ih => rw [sh_snoc]; exact isL_set ih _ (sh_quot hx hd l i)
theorem sh_backs {xs : List Nat} {d : Nat} (hd : 0 < d) : ∀ k, k ≤ xs.length → (sh xs d (backs xs.length k)).1 = lv (xs.drop (xs.length - k)) % d ∧ lv ((sh xs d (backs xs.length k)).2.drop (xs.length - k)) = lv (xs.drop (xs.length - k)) / d
  | 0, _ => by simp [backs_zero, sh, lv]
  | k + 1, hk => by
    obtain ⟨e1, e2⟩ := sh_backs (xs := xs) hd k (by omega)
    have hl := sh_len xs d (backs xs.length k)
    rw [backs_succ xs.length k (by omega), sh_snoc]
    have hd1 : xs.drop (xs.length - (k + 1)) = xs[xs.length - 1 - k] :: xs.drop (xs.length - k) := by
      rw [show xs.length - (k + 1) = xs.length - 1 - k by omega, List.drop_eq_getElem_cons (by omega), show xs.length - 1 - k + 1 = xs.length - k by omega]
    unfold shStep
    obtain ⟨r, hr⟩ : ∃ r, (sh xs d (backs xs.length k)).1 = r := ⟨_, rfl⟩
    obtain ⟨o, ho⟩ : ∃ o, (sh xs d (backs xs.length k)).2 = o := ⟨_, rfl⟩
    rw [hr] at e1 ⊢
    rw [ho] at e2 hl ⊢
    obtain ⟨V, hV⟩ : ∃ V, lv (xs.drop (xs.length - k)) = V := ⟨_, rfl⟩
    obtain ⟨x, hx⟩ : ∃ x, xs[xs.length - 1 - k]'(by omega) = x := ⟨_, rfl⟩
    rw [hV] at e1 e2
    rw [hd1, lv, hV, hx]
    dsimp only
    have hVd := Nat.div_add_mod V d
    have key : x + 10000 * V = d * (10000 * (V / d)) + (r * 10000 + x) := by
      rw [e1]
      have h3 : d * (10000 * (V / d)) = 10000 * (d * (V / d)) := by rw [Nat.mul_left_comm]
      rw [h3]; omega
    constructor
    · rw [key, Nat.mul_add_mod]
    · have hdo : (o.set (xs.length - 1 - k) ((r * 10000 + x) / d)).drop (xs.length - (k + 1)) = ((r * 10000 + x) / d) :: o.drop (xs.length - k) := by
        rw [show xs.length - (k + 1) = xs.length - 1 - k by omega, List.drop_eq_getElem_cons (by rw [List.length_set]; omega), List.getElem_set_self, List.drop_set_of_lt (by omega), show xs.length - 1 - k + 1 = xs.length - k by omega]
      rw [hdo, lv, e2, key, Nat.mul_add_div hd, Nat.add_comm]
theorem sh_all {xs : List Nat} {d : Nat} (hd : 0 < d) : (sh xs d (List.finRange xs.length).reverse).1 = lv xs % d ∧ lv (sh xs d (List.finRange xs.length).reverse).2 = lv xs / d := by
  have := sh_backs (xs := xs) hd xs.length (Nat.le_refl _)
  rwa [backs_all, Nat.sub_self, List.drop_zero, List.drop_zero] at this

theorem mu_own {β : Type} (base : Nat) (v : Value) (f : β → List Nat) : Go.Own (fun s W => Mu W base v (f s)) := fun s X Y row h hg hrow => h.grown hg (by
  rcases h.row.2 with ⟨rfl, _⟩ | ⟨g, cap, cur, rfl, _, hgb, _⟩
  · exact .inl rfl
  · refine .inr fun e' => ?_
    obtain ⟨o, ho, hc⟩ := hrow g (by simpa [Value.ownBlock] using e'.symm)
    rw [hgb] at ho; cases ho; cases hc)
/-- What is handed back is two slices of the call's own: the limbs of q and of r. -/
def RetQR (w : World) (q r : Nat) (e : Ending) (w' : World) : Prop :=
  ∃ A c B d, e = .returned (.tuple #[.slice A (lim q).length c, .slice B (lim r).length d]) ∧ Ls w' A (lim q).length (lim q) ∧ Ls w' B (lim r).length (lim r) ∧ Below w.heap.size w w'
theorem Ls.cut {w : World} {A : Option Addr} {n : Nat} {xs : List Nat} (h : Ls w A n xs) (hL : isL xs) : Ls w A (lim (lv xs)).length (lim (lv xs)) := by
  obtain ⟨h1, h2, h3⟩ := h
  have hle := lim_len_l hL
  have ht := take_lim hL
  refine ⟨rfl, by omega, fun hn => ?_⟩
  obtain ⟨b, off, rfl, hb, hc⟩ := h3 (by omega)
  refine ⟨b, off, rfl, hb, fun j x hj => hc j x ?_⟩
  rw [← ht, List.getElem?_take] at hj
  split at hj
  · exact hj
  · cases hj
def OneN (a0 : Act) (w0 : World) : Exit → Act → World → Prop
  | .normal, a, w => a = a0 ∧ w = w0
  | _, _, _ => False
theorem OneN.to {Q : Exit → Act → World → Prop} {a0 : Act} {w0 : World} (hq : Q .normal a0 w0) : ∀ e a w, OneN a0 w0 e a w → Q e a w
  | .normal, _, _, ⟨h1, h2⟩ => by subst h1; subst h2; exact hq
  | .ret, _, _, h => h.elim
  | .exit _, _, _, h => h.elim
  | .goto _, _, _, h => h.elim
  | .panic _, _, _, h => h.elim
  | .outgrown, _, _, h => h.elim
theorem wpIn_one {F : Fence} {n : Nat} {P : Program} {c : Code} {Q : Exit → Act → World → Prop} {a : Act} {w : World} {a0 : Act} {w0 : World} (h : c.wpIn F n P (OneN a0 w0) a w) (hq : Q .normal a0 w0) : c.wpIn F n P Q a w := wpIn_mono h (OneN.to hq)
theorem ls_one (w : World) (x : Nat) : Ls (w.alloc (.cells #[.int .i64 (x : Nat)] 3)) (some ⟨w.heap.size, 0, none⟩) 1 [x] :=
  ⟨rfl, by omega, fun _ => ⟨_, 0, rfl, by simp, fun j y hj => by
    match j, hj with
    | 0, hj =>
      have : x = y := by simpa using hj
      subst this
      exact (Boxed.new w 3 (.int .i64 x)).cell⟩⟩
theorem boxed_far {W : World} {B : Nat} {t : TypeId} {v : Value} (h : Boxed W B t v) {p : Addr} (hp : B ≠ p.block) (u : Value) : Boxed (W.setCell p u) B t v := (Below.heap_setCell W p u B hp).trans h
theorem short_round {xs : List Nat} {d s c m : Nat} {A : Option Addr} {w W : World} {pre : List (Fin xs.length)} {x : Fin xs.length} {a b : Int} (hs : w.heap.size = s)
    (h0 : Boxed W s 3 (.int .i64 d)) (h1 : Mu W s (.slice (some ⟨s + 1, 0, none⟩) m m) (sh xs d pre).2) (h2 : Boxed W (s + 1 + 1) 126 (.slice (some ⟨s + 1, 0, none⟩) m m)) (h3 : Boxed W (s + 1 + 1 + 1) 3 (.int .i64 ((sh xs d pre).1 : Nat))) (h4 : Boxed W (s + 1 + 1 + 1 + 1) 126 (.slice A m c)) (hBl : Below s w W)
    {u : Value} (ea : a = (((sh xs d pre).1 * 10000 + xs[x.1]) / d : Nat)) (eb : b = (((sh xs d pre).1 * 10000 + xs[x.1]) % d : Nat)) :
    let W' := (((W.setCell ⟨s + 1 + 1 + 1, 0, none⟩ u).setCell ⟨s + 1, x.1, none⟩ (.int .i64 a)).setCell ⟨s + 1 + 1 + 1, 0, none⟩ (.int .i64 b)).drew
    KeepsOthers W W' ∧ KpI s (s + 1 + 1 + 1 + 1) W W' ∧ ((Boxed W' s 3 (.int .i64 d) ∧ Mu W' s (.slice (some ⟨s + 1, 0, none⟩) m m) (sh xs d (pre ++ [x])).2 ∧ Boxed W' (s + 1 + 1) 126 (.slice (some ⟨s + 1, 0, none⟩) m m) ∧ Boxed W' (s + 1 + 1 + 1) 3 (.int .i64 ((sh xs d (pre ++ [x])).1 : Nat)) ∧ Boxed W' (s + 1 + 1 + 1 + 1) 126 (.slice A m c)) ∧ Below s w W') := by
  have hlen := sh_len xs d pre
  have hB1 : Below s W ((((W.setCell ⟨s + 1 + 1 + 1, 0, none⟩ u).setCell ⟨s + 1, x.1, none⟩ (.int .i64 a)).setCell ⟨s + 1 + 1 + 1, 0, none⟩ (.int .i64 b)).drew) :=
    ((((Below.refl s W).setCell (p := ⟨s + 1 + 1 + 1, 0, none⟩) (by simp; omega) u).setCell (p := ⟨s + 1, x.1, none⟩) (by simp) _).setCell (p := ⟨s + 1 + 1 + 1, 0, none⟩) (by simp; omega) _).drew
  have f : ∀ (B : Nat) (t : TypeId) (v : Value), Boxed W B t v → B ≠ s + 1 + 1 + 1 → B ≠ s + 1 → Boxed ((((W.setCell ⟨s + 1 + 1 + 1, 0, none⟩ u).setCell ⟨s + 1, x.1, none⟩ (.int .i64 a)).setCell ⟨s + 1 + 1 + 1, 0, none⟩ (.int .i64 b)).drew) B t v := fun B t v h n1 n2 =>
    boxed_far (boxed_far (boxed_far h (p := ⟨s + 1 + 1 + 1, 0, none⟩) n1 u) (p := ⟨s + 1, x.1, none⟩) n2 _) (p := ⟨s + 1 + 1 + 1, 0, none⟩) n1 _
  refine ⟨(((KeepsOthers.setCell _ _ _).trans (KeepsOthers.setCell _ _ _)).trans (KeepsOthers.setCell _ _ _)).trans (KeepsOthers.drew _), ⟨hB1, ?_⟩, ⟨f _ _ _ h0 (by omega) (by omega), ?_, f _ _ _ h2 (by omega) (by omega), ?_, f _ _ _ h4 (by omega) (by omega)⟩, hBl.trans hB1⟩
  · exact (f _ _ _ h4 (by omega) (by omega)).cell.trans h4.cell.symm
  · rw [sh_snoc]
    have k1 := h1.far (p := ⟨s + 1 + 1 + 1, 0, none⟩) (by simp [Value.ownBlock]) u
    have k2 := k1.set_ (i := x.1) (by rw [hlen]; exact x.2) (((sh xs d pre).1 * 10000 + xs[x.1]) / d)
    rw [← ea] at k2
    exact (k2.far (p := ⟨s + 1 + 1 + 1, 0, none⟩) (by simp [Value.ownBlock]) _).below (Below.refl _ _).drew
  · have k1 := Boxed.set u h3
    have k2 := boxed_far k1 (p := ⟨s + 1, x.1, none⟩) (by show s + 1 + 1 + 1 ≠ s + 1; omega) (.int .i64 a)
    have k3 := Boxed.set (.int .i64 b) k2
    rw [eb] at k3 ⊢
    rw [sh_snoc]
    exact k3
set_option maxRecDepth 100000 in
set_option maxHeartbeats 4000000 in
theorem n_short (A : Option Addr) (m c : Nat) (xs : List Nat) (d : Nat) (w : World) (ha : Ls w A m xs) (hL : isL xs) (hd : 0 < d) (hd2 : d ≤ 10000) :
    Calls Tryz.prog 172 #[.slice A m c, .int .i64 (d : Nat)] w fun e w' => RetQR w (lv xs / d) (lv xs % d) e w' := by
  refine (callsIn_wide (n := 5)).1 ?_
  refine callsIn_of_wp_marks Tryz.func172 rfl trivial ?_ rfl
  simp only [Tryz.ntmps172, List.size_toArray, List.length_cons, List.length_nil, Nat.reduceAdd, Nat.reduceSub, Array.replicate_succ, Array.replicate_zero, List.push_toArray, List.append_toArray, List.nil_append, List.cons_append]
  have hab := ha.big
  have hml := ha.len
  subst hml
  have hmk := make_limbs xs.length (by omega)
  gi_wp2_with (refine ⟨trivial, ?_⟩; gi_at_call 162; refine (back_in Fence.wide _ trivial rfl _ _ _ _).mono ?_; rintro e w' ⟨rfl, rfl⟩)
  have b0 := Boxed.new w 3 (.int .i64 d)
  have b1 := Mu.made (w := w.alloc (.cells #[.int .i64 d] 3)) (base := w.heap.size) (by simp) xs.length (by omega)
  have b2 := Boxed.new ((w.alloc (.cells #[.int .i64 d] 3)).alloc (.cells (madeCells #[.int .i64 0] xs.length) 3)) 126 (.slice (some ⟨w.heap.size + 1, 0, none⟩) xs.length xs.length)
  have b3 := Boxed.new (((w.alloc (.cells #[.int .i64 d] 3)).alloc (.cells (madeCells #[.int .i64 0] xs.length) 3)).alloc (.cells #[.slice (some ⟨w.heap.size + 1, 0, none⟩) xs.length xs.length] 126)) 3 (.int .i64 0)
  have b4 := Boxed.new ((((w.alloc (.cells #[.int .i64 d] 3)).alloc (.cells (madeCells #[.int .i64 0] xs.length) 3)).alloc (.cells #[.slice (some ⟨w.heap.size + 1, 0, none⟩) xs.length xs.length] 126)).alloc (.cells #[.int .i64 0] 3)) 126 (.slice A xs.length c)
  simp only [World.size_alloc] at b1 b2 b3 b4
  have hB0 : Below w.heap.size w (((((w.alloc (.cells #[.int .i64 d] 3)).alloc (.cells (madeCells #[.int .i64 0] xs.length) 3)).alloc (.cells #[.slice (some ⟨w.heap.size + 1, 0, none⟩) xs.length xs.length] 126)).alloc (.cells #[.int .i64 0] 3)).alloc (.cells #[.slice A xs.length c] 126)) := (by repeat (first | exact Below.refl _ _ | assumption | refine b_then ?_ (by assumption) | refine b_alloc ?_ _ | refine b_drewN ?_ _ | refine Below.drew ?_ | refine b_set ?_ (by first | exact Nat.le_refl _ | (simp; done) | (simp; omega) | omega) _))
  refine wpIn_rangeFunc_ownF rfl (by omega) (gf := 178) (lb := #[.pointer (some ⟨w.heap.size + 1 + 1 + 1 + 1, 0, none⟩)]) rfl trivial (enters_of Tryz.func178 (by kernel_rfl) rfl)
    (back_stops Fence.wide _ trivial rfl (by omega) (w.heap.size + 1 + 1 + 1 + 1) w.heap.size _ _ _ xs _ (by simp) (by simp; omega) b4.cell (w0 := w) rfl ha hB0) (fun h k => h.trans k) (KpI.turn (by simp; omega) (by simp)) (Below.refl _ _) (fun _ => rfl)
    (fun pre W => (Boxed W w.heap.size 3 (.int .i64 d) ∧ Mu W w.heap.size (.slice (some ⟨w.heap.size + 1, 0, none⟩) xs.length xs.length) (sh xs d pre).2 ∧ Boxed W (w.heap.size + 1 + 1) 126 (.slice (some ⟨w.heap.size + 1, 0, none⟩) xs.length xs.length) ∧ Boxed W (w.heap.size + 1 + 1 + 1) 3 (.int .i64 ((sh xs d pre).1 : Nat)) ∧ Boxed W (w.heap.size + 1 + 1 + 1 + 1) 126 (.slice A xs.length c)) ∧ Below w.heap.size w W)
    (fun _ _ _ => False)
    (OwnFrom.and (OwnFrom.and (Go.Own.from (boxed_own _ _ _) _) (OwnFrom.and (Go.Own.from (mu_own _ _ _) _) (OwnFrom.and (Go.Own.from (boxed_own _ _ _) _) (OwnFrom.and (Go.Own.from (boxed_own _ _ _) _) (Go.Own.from (boxed_own _ _ _) _))))) (ownFrom_below (Nat.le_refl _) (by simp; omega)))
    (fun _ _ _ _ _ hs _ _ => hs)
    ⟨⟨(((b0.alloc _).alloc _).alloc _).alloc _, (((b1.alloc _).alloc _).alloc _), (b2.alloc _).alloc _, b3.alloc _, b4⟩, hB0⟩
    (fun x => { tmps := #[.slice A xs.length c, .int .i64 d, undef, .pointer (some ⟨w.heap.size, 0, none⟩), .slice none 0 0, .slice none 0 0, .pointer (some ⟨w.heap.size + 1 + 1, 0, none⟩), .pointer (some ⟨w.heap.size + 1 + 1 + 1, 0, none⟩), .int .i64 (x.1 : Nat), .int .i64 (xs[x.1] : Nat),
        .slice A xs.length c, .int .i64 xs.length, .slice (some ⟨w.heap.size + 1, 0, none⟩) xs.length xs.length, .slice A xs.length c, .func (.func 178) #[] #[.pointer (some ⟨w.heap.size + 1 + 1 + 1 + 1, 0, none⟩)], .int .i64 (x.1 : Nat), .int .i64 (xs[x.1] : Nat),
        undef, undef, undef, undef, undef, undef, undef, undef, undef, undef, undef, undef, undef, undef, undef, undef, undef, undef], defers := [] }) ?assign ?body ?done ?stop
  case assign =>
    intro l x W K hK
    simp only [benc]
    gi_wp2
    exact hK
  case body =>
    rintro l pre x W ⟨⟨h0, h1, h2, h3, h4⟩, hBl⟩ hpl
    have hx : xs[x.1] < 10000 := isL_get hL x.2
    have hr := sh_rest xs hd pre
    have hlen := sh_len xs d pre
    have hB := hBl.size
    have c0 := h0.cell
    have c2 := h2.cell
    have c3 := h3.cell
    have f3 := h3.frozen
    have hxl : x.1 < xs.length := x.2
    obtain ⟨c1, f1, _, _⟩ := h1.cell (i := x.1) (by omega)
    have hmx : Tryz.prog.follows .mixedOrders = true := by kernel_rfl
    gi_wp2
    apply wpIn_one
    case h =>
      gi_region_with_o fail
      all_goals exact ⟨rfl, rfl⟩
    gi_wp2
    exact short_round rfl h0 h1 h2 h3 h4 hBl (by push_cast; rfl) (by push_cast; rfl)
  case done =>
    rintro D zs W hD rfl ⟨⟨h0, h1, h2, h3, h4⟩, hBl⟩ hK
    obtain ⟨e1, e2⟩ := sh_all (xs := xs) hd
    have hlen := sh_len xs d (List.finRange xs.length).reverse
    have hLo := sh_isL hL hd (List.finRange xs.length).reverse
    have hrd := sh_rest xs hd (List.finRange xs.length).reverse
    obtain ⟨o, ho⟩ : ∃ o, (sh xs d (List.finRange xs.length).reverse).2 = o := ⟨_, rfl⟩
    obtain ⟨r, hr⟩ : ∃ r, (sh xs d (List.finRange xs.length).reverse).1 = r := ⟨_, rfl⟩
    rw [ho] at h1 e2 hlen hLo
    rw [hr] at h3 e1 hrd
    have c2 := h2.cell
    have c3 := h3.cell
    obtain ⟨A1, c1, hv1, hls1, hc11, hc12⟩ := h1.ls (by omega)
    rw [hlen] at hv1 hls1 hc11
    injection hv1 with hv1 _ hv2
    subst hv1; subst hv2
    have HLa : Ls W.drew (some ⟨w.heap.size + 1, 0, none⟩) xs.length o := hls1.below (Below.refl _ _).drew
    have HLb : Ls (W.alloc (.cells #[.int .i64 (r : Nat)] 3)).drew (some ⟨w.heap.size + 1, 0, none⟩) xs.length o := hls1.below (b_alloc (Below.refl _ _) _).drew
    have HLc : Ls (W.alloc (.cells #[.int .i64 (r : Nat)] 3)).drew (some ⟨W.heap.size, 0, none⟩) 1 [r] := (ls_one W r).below (Below.refl _ _).drew
    have E1 := Lib.hid e1
    have E2 := Lib.hid e2
    clear e1 e2 b0 b1 b2 b3 b4 hB0 hmk ha
    have hLr : isL [r] := fun y hy => by rw [List.mem_singleton.1 hy]; omega
    have hmx : Tryz.prog.follows .mixedOrders = true := by kernel_rfl
    have hsA : w.heap.size + 1 + 1 < W.heap.size := h2.lt
    have hsB : w.heap.size + 1 + 1 + 1 < W.heap.size := h3.lt
    gi_wp2
    apply wpIn_one
    case h =>
      gi_region_with_o (refine ⟨trivial, ?_⟩; gi_at_call 161; (with_reducible refine (callsIn_wide.2 (n_trim _ _ _ _ _ (by assumption) (by assumption) (by first | assumption | exact Nat.le_refl _) (by omega))).mono ?_); rintro e w' ⟨rfl, rfl⟩)
      all_goals exact ⟨rfl, rfl⟩
    gi_wp2
    have hDs : w.heap.size + 5 ≤ D := by simp at hD; omega
    have hDl : D < W.heap.size := (Array.getElem?_eq_some_iff.1 hK).1
    have hK' : (W.alloc (.cells #[.int .i64 (r : Nat)] 3)).drew.heap[D]? = some (.deferred (some [])) := (Below.heap_alloc W _ D hDl).trans hK
    refine ⟨by simp, .inl ⟨_, _, rfl, run_takeDeferred hK', ?_⟩⟩
    have hg := grownBy_putObj' (W.alloc (.cells #[.int .i64 (r : Nat)] 3)).drew D (.deferred none)
    have h5 := (HLb.cut hLo).grown hg (fun ad e => by injection e with e; subst e; show w.heap.size + 1 ≠ D; omega)
    have h6 := (HLc.cut hLr).grown hg (fun ad e => by injection e with e; subst e; show W.heap.size ≠ D; omega)
    have hv : lv [r] = r := by simp [lv]
    rw [hv] at h6
    refine ⟨_, results_tmp2 rfl _ _ _, ?_⟩
    rw [← E2.out, ← E1.out]
    refine ⟨some ⟨w.heap.size + 1, 0, none⟩, xs.length, some ⟨W.heap.size, 0, none⟩, 1, ?_, h5, h6, (b_alloc hBl _).drew.trans (belowK_b (w := w) (Nat.le_refl _) _ D _ _ (by omega) hK' rfl rfl)⟩
    conv => rhs; rw [← hv]
    rfl
  case stop =>
    rintro D cd pre W _ _ h _
    exact h.elim
end Go.Proofs.YtpoejheienohjaaGreatDoor
