/- Walks of nat: compare. -/
import Derived.Test.YtpoejheienohjaaGreatDoorIter
namespace Go.Proofs.YtpoejheienohjaaGreatDoor
open Go.RowKit Go.Shelf
set_option linter.unusedVariables false
set_option linter.unusedSimpArgs false
attribute [local go_sem] Oper.semAt_some

/-- nat.compare, of limbs. -/
def cmpFrom (xs ys : List Nat) : List Nat → Int
  | [] => 0
  | i :: r => if xs[i]? = ys[i]? then cmpFrom xs ys r else Lib.compareInt (xs.getD i 0 : Nat) (ys.getD i 0 : Nat)
def cmpLs (xs ys : List Nat) : Int := if xs.length ≠ ys.length then Lib.compareInt xs.length ys.length else cmpFrom xs ys ((List.finRange xs.length).reverse.map (·.1))
theorem cmpFrom_eq {xs ys l : List Nat} (h : ∀ i ∈ l, xs[i]? = ys[i]?) : cmpFrom xs ys l = 0 := by
  induction l with
  | nil => rfl
  | cons i r ih => rw [cmpFrom, if_pos (h i (by simp))]; exact ih fun j hj => h j (by simp [hj])
theorem cmpFrom_at {xs ys l r : List Nat} {i : Nat} (h : ∀ j ∈ l, xs[j]? = ys[j]?) (hi : xs[i]? ≠ ys[i]?) : cmpFrom xs ys (l ++ i :: r) = Lib.compareInt (xs.getD i 0 : Nat) (ys.getD i 0 : Nat) := by
  induction l with
  | nil => rw [List.nil_append, cmpFrom, if_neg hi]
  | cons j l ih => rw [List.cons_append, cmpFrom, if_pos (h j (by simp))]; exact ih fun k hk => h k (by simp [hk])
theorem backs_split {m k : Nat} (hk : k ≤ m) : (List.finRange m).reverse = backs m k ++ (List.finRange m).reverse.drop k := by
  unfold backs; rw [List.take_append_drop]

theorem bodyM_ret {F : Fence} {n : Nat} {P : Program} {f : Func} {R : Ending → World → Prop} {tmps : Array Value} {w : World} {v : Value} (h : (results f tmps).run P w = .ok v w) (hR : R (.returned v) w) :
    bodyPostM F n P f R .ret { tmps := tmps, defers := [] } w := ⟨v, h, hR⟩
set_option maxRecDepth 100000 in
set_option maxHeartbeats 2000000 in
theorem n_compare (A B : Option Addr) (n m c d : Nat) (xs ys : List Nat) (w : World) (ha : Ls w A n xs) (hb : Ls w B m ys) :
    Calls Tryz.prog 171 #[.slice A n c, .slice B m d] w fun e w' => e = .returned (.int .i64 (cmpLs xs ys)) ∧ Below w.heap.size w w' := by
  refine (callsIn_wide (n := 5)).1 ?_
  refine callsIn_of_wp_marks Tryz.func171 rfl trivial ?_ rfl
  simp only [Tryz.ntmps171, List.size_toArray, List.length_cons, List.length_nil, Nat.reduceAdd, Nat.reduceSub, Array.replicate_succ, Array.replicate_zero, List.push_toArray, List.append_toArray, List.nil_append, List.cons_append]
  have hA := ha.len; have hB := hb.len; have hAb := ha.big; have hBb := hb.big
  gi_wp2_with (first
    | (refine ⟨trivial, ?_⟩; gi_at_call 92; refine (callsIn_wide.2 (c_cmpInt _ _ _)).mono ?_; rintro e w' ⟨rfl, rfl⟩)
    | (refine ⟨trivial, ?_⟩; gi_at_call 162; refine (back_in Fence.wide _ trivial rfl _ _ _ _).mono ?_; rintro e w' ⟨rfl, rfl⟩))
  · have hne : ((n : Int) != (m : Int)) = true := by assumption
    have hne' : n ≠ m := by intro e; simp [e] at hne
    refine bodyM_ret (v := .int .i64 (Lib.compareInt n m)) (by simp [results, Tryz.f171, go_sem]) ⟨?_, (by repeat (first | exact Below.refl _ _ | assumption | refine b_then ?_ (by assumption) | refine b_alloc ?_ _ | refine b_drewN ?_ _ | refine Below.drew ?_ | refine b_set ?_ (by first | exact Nat.le_refl _ | (simp; done) | (simp; omega) | omega) _))⟩
    rw [cmpLs, if_pos (by rw [hA, hB]; exact hne'), hA, hB]
  · obtain rfl : n = m := by
      have hne : ((n : Int) != (m : Int)) = false := by assumption
      have : ¬ ((n : Int) ≠ m) := by simpa using hne
      omega
    subst hA
    have bR := Boxed.new (w.alloc (.cells #[.slice B xs.length d] 126)) 3 (.int .i64 0)
    have bB := Boxed.new w 126 (.slice B xs.length d)
    have bN := Boxed.new ((w.alloc (.cells #[.slice B xs.length d] 126)).alloc (.cells #[.int .i64 0] 3)) 126 (.slice A xs.length c)
    have hB0 : Below w.heap.size w (((w.alloc (.cells #[.slice B xs.length d] 126)).alloc (.cells #[.int .i64 0] 3)).alloc (.cells #[.slice A xs.length c] 126)) := (by repeat (first | exact Below.refl _ _ | assumption | refine b_then ?_ (by assumption) | refine b_alloc ?_ _ | refine b_drewN ?_ _ | refine Below.drew ?_ | refine b_set ?_ (by first | exact Nat.le_refl _ | (simp; done) | (simp; omega) | omega) _))
    simp only [World.size_alloc] at bR bN
    refine wpIn_rangeFunc_ownF rfl (by omega) (gf := 178) (lb := #[.pointer (some ⟨w.heap.size + 1 + 1, 0, none⟩)]) rfl trivial (enters_of Tryz.func178 (by kernel_rfl) rfl)
      (back_stops Fence.wide _ trivial rfl (by omega) (w.heap.size + 1 + 1) w.heap.size _ _ _ xs _ (by simp) (by simp; omega) bN.cell (w0 := w) rfl ha hB0) (fun h k => h.trans k) (KpI.turn (by simp; omega) (by simp)) (Below.refl _ _) (fun _ => rfl)
      (fun pre W => ((∀ i ∈ pre, xs[i.1]? = ys[i.1]?) ∧ W.cell? ⟨w.heap.size, 0, none⟩ = some (.slice B xs.length d) ∧ W.cell? ⟨w.heap.size + 1, 0, none⟩ = some (.int .i64 0) ∧ W.frozen? ⟨w.heap.size + 1, 0, none⟩ = false) ∧ Below w.heap.size w W)
      (fun cd pre W => (cd = .ret ∧ ∃ ini last, pre = ini ++ [last] ∧ (∀ i ∈ ini, xs[i.1]? = ys[i.1]?) ∧ xs[last.1]? ≠ ys[last.1]? ∧ W.cell? ⟨w.heap.size + 1, 0, none⟩ = some (.int .i64 (Lib.compareInt (xs.getD last.1 0 : Nat) (ys.getD last.1 0 : Nat)))) ∧ Below w.heap.size w W)
      (OwnFrom.and (Own.from (fun s A B row hs hg hr => ⟨hs.1, cell_kept hs.2.1 hg hr, cell_kept hs.2.2.1 hg hr, (frozen_kept hs.2.2.1 hg hr).trans hs.2.2.2⟩) _) (ownFrom_below (Nat.le_refl _) (by simp; omega)))
      (fun cd => OwnFrom.and (Own.from (fun s A B row hs hg hr => by obtain ⟨hc, ini, last, e1, e2, e3, e4⟩ := hs; exact ⟨hc, ini, last, e1, e2, e3, cell_kept e4 hg hr⟩) _) (ownFrom_below (Nat.le_refl _) (by simp; omega)))
      ⟨⟨by simp, ((bB.alloc _).alloc _).cell, (bR.alloc _).cell, (bR.alloc _).frozen⟩, hB0⟩
      (fun x => { tmps := #[.slice A xs.length c, .slice B xs.length d, undef, .pointer (some ⟨w.heap.size, 0, none⟩), .pointer (some ⟨w.heap.size + 1, 0, none⟩), .int .i64 (x.1 : Nat), .int .i64 (xs[x.1] : Nat), .slice A xs.length c,
          .int .i64 xs.length, .slice B xs.length d, .int .i64 xs.length, .bool false, undef, undef, undef, undef, undef, .slice A xs.length c,
          .func (.func 178) #[] #[.pointer (some ⟨w.heap.size + 1 + 1, 0, none⟩)], .int .i64 (x.1 : Nat), .int .i64 (xs[x.1] : Nat),
          undef, undef, undef, undef, undef, undef, undef, undef, undef, undef, undef, undef], defers := [] }) ?assign ?body ?done ?stop
    case assign =>
      intro l x W K hK
      simp only [benc]
      gi_wp2
      exact hK
    case body =>
      rintro l pre x W ⟨⟨hp, hcb, hcr, hfr⟩, hBl⟩ _
      have hx : x.1 < xs.length := x.2
      have hxy : x.1 < ys.length := by omega
      obtain ⟨b, off, rfl, hbl, hcell⟩ := hb.cells (by omega)
      have hcy : W.cell? ⟨b, off + x.1, none⟩ = some (.int .i64 (ys[x.1] : Nat)) := (hBl.cell (p := ⟨b, off + x.1, none⟩) hbl).trans (hcell x.1 _ (List.getElem?_eq_getElem hxy))
      gi_wp2_with (refine ⟨trivial, ?_⟩; gi_at_call 92; refine (CallsIn.inRound l (callsIn_wide.2 (c_cmpInt _ _ _))).mono ?_; rintro e w' ⟨rfl, rfl⟩)
      · rename_i hne
        refine ⟨KeepsOthers.setCell _ _ _, ⟨rfl, pre, x, rfl, hp, ?_, ?_⟩, hBl.setCell (p := ⟨w.heap.size + 1, 0, none⟩) (by simp) _⟩
        · rw [List.getElem?_eq_getElem hx, List.getElem?_eq_getElem hxy]
          intro e; injection e with e; simp [e] at hne
        · rw [World.cell?_setCell_same' _ _ _ (by rw [hcr]; rfl)]
          simp [hx, hxy]
      · rename_i hne
        have he : xs[x.1] = ys[x.1] := by
          have : ¬ (((xs[x.1] : Nat) : Int) ≠ (ys[x.1] : Nat)) := by simpa using hne
          omega
        exact ⟨KeepsOthers.refl _, KpI.refl _ _ _, ⟨fun i hi => (List.mem_append.1 hi).elim (hp i) (fun e => by simp at e; subst e; rw [List.getElem?_eq_getElem hx, List.getElem?_eq_getElem hxy, he]), hcb, hcr, hfr⟩, hBl⟩
    case done =>
      rintro D zs W hD rfl ⟨⟨hp, hcb, hcr, hfr⟩, hBl⟩ hK
      gi_wp2
      have hK' := (KeepsOthers.setCell W ⟨w.heap.size + 1, 0, none⟩ (.int .i64 0)).same D _ hK rfl
      refine ⟨by simp, .inl ⟨_, _, rfl, run_takeDeferred hK', ?_⟩⟩
      have hc5 := cell_kept (World.cell?_setCell_same' W ⟨w.heap.size + 1, 0, none⟩ (.int .i64 0) (by rw [hcr]; rfl)) (grownBy_putObj' _ D (.deferred none)) (fun r e => by cases e; exact ⟨_, hK', rfl⟩)
      refine ⟨.int .i64 0, by simp [results, Tryz.f171, go_sem, hc5], ?_, (hBl.setCell (p := ⟨w.heap.size + 1, 0, none⟩) (by simp) _).trans (belowK_b (w := w) (Nat.le_refl _) _ D _ _ (by simp at hD; omega) hK' rfl rfl)⟩
      rw [cmpLs, if_neg (by omega), cmpFrom_eq]
      intro i hi
      obtain ⟨j, hj, rfl⟩ := List.mem_map.1 hi
      exact hp j hj
    case stop =>
      rintro D cd pre W hD ⟨k, hk, rfl⟩ ⟨⟨rfl, ini, last, e1, e2, e3, hcr⟩, hBl⟩ hK
      gi_wp2
      refine ⟨by simp, .inl ⟨_, _, rfl, run_takeDeferred hK, ?_⟩⟩
      have hc5 := cell_kept hcr (grownBy_putObj' _ D (.deferred none)) (fun r e => by cases e; exact ⟨_, hK, rfl⟩)
      refine ⟨.int .i64 (Lib.compareInt (xs.getD last.1 0 : Nat) (ys.getD last.1 0 : Nat)), by simp only [List.getD] at hc5; simp [results, Tryz.f171, go_sem, hc5], ?_, hBl.trans (belowK_b (w := w) (Nat.le_refl _) W D _ _ (by simp at hD; omega) hK rfl rfl)⟩
      rw [cmpLs, if_neg (by omega), backs_split hk, e1, List.append_assoc, List.map_append, List.singleton_append, List.map_cons, cmpFrom_at _ e3]
      intro i hi
      obtain ⟨j, hj, rfl⟩ := List.mem_map.1 hi
      exact e2 j hj
end Go.Proofs.YtpoejheienohjaaGreatDoor
