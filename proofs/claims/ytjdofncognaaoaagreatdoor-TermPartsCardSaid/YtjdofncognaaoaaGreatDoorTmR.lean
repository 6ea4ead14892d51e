/- Walks of term.Fold, at texts and at ints. -/
import Derived.Test.YtjdofncognaaoaaGreatDoorTmO
namespace Go.Proofs.YtjdofncognaaoaaGreatDoor
open Go.RowKit
set_option linter.unusedVariables false
set_option linter.unusedSimpArgs false

theorem Own.rd_ {α : Type} {e : α → List Value} {z : Nat} {T : TypeId} {w : World} {base : Nat} {A : Option Addr} {n c : Nat} {xs : List α} (h : Own e z T w base (.slice A n c) xs) (he : ∀ x, (e x).length = z) : Rd e z w A n xs := by
  obtain ⟨A', c', hv, hr⟩ := h.rd he
  injection hv with h1 h2 h3
  subst h1; subst h2; subst h3
  exact hr
/-- What lies on the stack behind k nodes. -/
structure FI {T : Type} (node : Nd → List T → Option T) (wt : T → Nat) (C : Nat) (t : List Nd) (k : Nat) (st : List T) : Prop where
  run : tfold node [] (t.take k) = some st
  wt : (st.map wt).sum ≤ C * 2000
theorem sum_drop (l : List Nat) (q : Nat) : (l.drop q).sum ≤ l.sum := by
  have : l.sum = (l.take q).sum + (l.drop q).sum := by rw [← List.sum_append, List.take_append_drop]
  omega
theorem FI.some_ {T : Type} {node : Nd → List T → Option T} {wt : T → Nat} {C : Nat} {t : List Nd} {k q m : Nat} {st : List T} {a : Nd} {x : T} (hwt : ∀ n ∈ t, ∀ l y, node n l = some y → wt y ≤ (l.map wt).sum + C) (hl : t.length ≤ 2000) (h : FI node wt C t k st) (hk : t[k]? = some a) (hm : arity a.op = (m : Int)) (hs : st.length = q + m) (hx : node a (st.drop q) = some x) : FI node wt C t (k + 1) (st.take q ++ [x]) := by
  have e : tfold node [] (t.take (k + 1)) = some (st.take q ++ [x]) := by rw [tfold_at h.run hk, tstep_at hm hs, hx]; rfl
  refine ⟨e, ?_⟩
  have := tfold_wt (wt := wt) (C := C) (fun n hn l y hy => hwt n (List.mem_of_mem_take hn) l y hy) e
  rw [List.length_take] at this
  have h2 : C * min (k + 1) t.length ≤ C * 2000 := Nat.mul_le_mul_left _ (by omega)
  simp at this ⊢
  omega
theorem FI.none_ {T : Type} {node : Nd → List T → Option T} {wt : T → Nat} {C : Nat} {t : List Nd} {k q m : Nat} {st : List T} {a : Nd} (h : FI node wt C t k st) (hk : t[k]? = some a) (hm : arity a.op = (m : Int)) (hs : st.length = q + m) (hx : node a (st.drop q) = none) : tval node t = none :=
  tval_stop h.run hk (by rw [tstep_at hm hs, hx]; rfl)
theorem FI.bad {T : Type} {node : Nd → List T → Option T} {wt : T → Nat} {C : Nat} {t : List Nd} {k : Nat} {st : List T} {a : Nd} (h : FI node wt C t k st) (hk : t[k]? = some a) (hm : arity a.op < 0 ∨ (st.length : Int) < arity a.op) : tval node t = none :=
  tval_stop h.run hk (tstep_none hm)
theorem FI.start {T : Type} (node : Nd → List T → Option T) (wt : T → Nat) (C : Nat) (t : List Nd) : FI node wt C t 0 [] := ⟨rfl, by simp⟩
theorem FI.end_ {T : Type} {node : Nd → List T → Option T} {wt : T → Nat} {C : Nat} {t : List Nd} {st : List T} (h : FI node wt C t t.length st) (hl : t.length ≤ 2000) : tval node t = tone st :=
  tval_done (by have := h.run; rwa [List.take_length] at this) hl
def optS : Option ByteArray → Value
  | some x => .tuple #[.string x, .bool true]
  | none => .tuple #[.string ⟨#[]⟩, .bool false]
theorem optS_none : optS none = .tuple #[.string ⟨#[]⟩, .bool false] := rfl
theorem optS_some (x : ByteArray) : optS (some x) = .tuple #[.string x, .bool true] := rfl
theorem Tryz.elS : Elem Tryz.prog 77 9 1 16 := ⟨Tryz.underlying77, ⟨.string ⟨#[]⟩, by kernel_rfl, rfl⟩⟩
set_option maxRecDepth 100000 in
set_option maxHeartbeats 4000000 in
theorem fold_S {A : Option Addr} {n c : Nat} {t : List Nd} {node : Nd → List ByteArray → Option ByteArray} {wt : ByteArray → Nat} {C : Nat} (w : World) (hx : Rd Nd.cs 6 w A n t)
    (hwt : ∀ x ∈ t, ∀ l y, node x l = some y → wt y ≤ (l.map wt).sum + C)
    (hnode : ∀ (a0 : Int) (a1 a2 a3 : ByteArray) (a4 a5 : Int) (l : List ByteArray) (m : Nat), (⟨a0, ⟨a1, a2⟩, a3, a4, a5⟩ : Nd) ∈ t → arity a0 = (m : Int) → l.length = m → (l.map wt).sum ≤ C * 2000 → ∀ (W : World) (B : Option Addr) (k : Nat), Below w.heap.size w W → Rd kCs 1 W B m l → m ≤ k → (∀ ad, B = some ad → ∃ g o, ad = (⟨g, o, none⟩ : Addr)) →
      Calls Tryz.prog 54 #[.agg #[.int .i64 a0, .string a1, .string a2, .string a3, .int .i64 a4, .int .i64 a5], .slice B m k] W fun e w' => e = .returned (optS (node ⟨a0, ⟨a1, a2⟩, a3, a4, a5⟩ l)) ∧ Below W.heap.size W w') :
    Calls Tryz.prog 53 #[.slice A n c, .func (.func 54) #[] #[]] w fun e w' => e = .returned (optS (tval node t)) ∧ Below w.heap.size w w' := by
  have hbig := hx.big
  have hlen := hx.len
  by_cases hn : n ≤ 2000
  · have HW := Lib.hid hwt
    have HN := Lib.hid hnode
    have HI := Lib.hid (FI.start node wt C t)
    have HL := Lib.hid hlen
    obtain ⟨R, hR⟩ : ∃ R, tval node t = R := ⟨_, rfl⟩
    have HRR := Lib.hid hR
    rw [hR]
    clear hwt hnode hlen hR
    go_enter Tryz.func53, Tryz.ntmps53
    go_wp2
    go_loopw [7, 19] (fun sv iv wr => ∃ (k L cc : Nat) (B : Option Addr) (st : List ByteArray), k ≤ n ∧ iv = .int .i64 k ∧ sv = .slice B L cc ∧ L ≤ k ∧ Hid (st.length = L) ∧ Hid (Own kCs 1 9 wr w.heap.size (.slice B L cc) st) ∧ Hid (FI node wt C t k st) ∧ Below w.heap.size w wr) (fun _ iv _ => n - (intOf iv).toNat)
    case atStart => exact ⟨0, 0, 0, none, [], Nat.zero_le _, rfl, rfl, Nat.le_refl _, rfl, Own.nil, HI, Below.refl _ _⟩
    case round =>
      obtain ⟨k, L, cc, B, st, hk, rfl, rfl, hLk, HSL, HO, HF, hB⟩ := hrel
      obtain ⟨hnl, hLc, hBs⟩ := HO.out.shape
      clear hnl
      by_cases hlt : k < n
      · obtain ⟨ad, a0, a1, a2, a3, a4, a5, rfl, hxk, hl⟩ := nd_in hx hB hlt
        have HX := Lib.hid hxk
        obtain ⟨x0, x1, x2, x3, x4, x5, x6⟩ := hl wr (Below.refl _ _)
        have hAr := fun W => p_arity a0 W
        clear hxk hl
        by_cases hneg : arity a0 < 0
        · have HE := Lib.hid (HF.out.bad HX.out (.inl hneg))
          generalize arity a0 = ar at *
          go_wp2_with (go_at_call 25; (with_reducible refine (hAr _).mono ?_); rintro e w' ⟨rfl, rfl⟩)
          go_ret2
          exact ⟨by rw [← HRR.out, HE.out]; rfl, (by repeat (first | exact Below.refl _ _ | assumption | refine b_then ?_ (by assumption) | refine b_alloc ?_ _ | refine b_drewN ?_ _ | refine Below.drew ?_ | refine b_set ?_ (by first | exact Nat.le_refl _ | (simp; done) | (simp; omega) | omega) _))⟩
        · obtain ⟨m, hm⟩ : ∃ m : Nat, arity a0 = (m : Int) := ⟨(arity a0).toNat, by omega⟩
          rw [hm] at hAr
          by_cases hmL : L < m
          · have HE := Lib.hid (HF.out.bad HX.out (.inr (by rw [HSL.out, show arity (⟨a0, ⟨a1, a2⟩, a3, a4, a5⟩ : Nd).op = (m : Int) from hm]; omega)))
            clear hneg hm
            go_wp2_with (go_at_call 25; (with_reducible refine (hAr _).mono ?_); rintro e w' ⟨rfl, rfl⟩)
            go_ret2
            exact ⟨by rw [← HRR.out, HE.out]; rfl, (by repeat (first | exact Below.refl _ _ | assumption | refine b_then ?_ (by assumption) | refine b_alloc ?_ _ | refine b_drewN ?_ _ | refine Below.drew ?_ | refine b_set ?_ (by first | exact Nat.le_refl _ | (simp; done) | (simp; omega) | omega) _))⟩
          · obtain ⟨q, rfl⟩ : ∃ q, L = q + m := ⟨L - m, by omega⟩
            have hm3 : m ≤ 3 := by have := arity_le a0; omega
            have HM := Lib.hid hm
            have HC := fun W B k hW hR hk hg => HN.out a0 a1 a2 a3 a4 a5 (st.drop q) m (List.mem_of_getElem? HX.out) HM.out (by rw [List.length_drop, HSL.out]; omega) (Nat.le_trans (by rw [List.map_drop]; exact sum_drop _ _) HF.out.wt) W B k hW hR hk hg
            clear hneg hm hmL
            have bx := Blk.new wr 41 #[.int .i64 a0, .string a1, .string a2, .string a3, .int .i64 a4, .int .i64 a5]
            have hY : Below w.heap.size w (wr.alloc (.cells #[.int .i64 a0, .string a1, .string a2, .string a3, .int .i64 a4, .int .i64 a5] 41)) := b_alloc hB _
            have HR := Lib.hid ((HO.out.alloc (.cells #[.int .i64 a0, .string a1, .string a2, .string a3, .int .i64 a4, .int .i64 a5] 41)).rd_ kCs_length)
            have z0 := fun y : After (wr.alloc (.cells #[.int .i64 a0, .string a1, .string a2, .string a3, .int .i64 a4, .int .i64 a5] 41)) => (nd_bx (bx.below y.h)).c0
            have z1 := fun y : After (wr.alloc (.cells #[.int .i64 a0, .string a1, .string a2, .string a3, .int .i64 a4, .int .i64 a5] 41)) => (nd_bx (bx.below y.h)).c1
            have z2 := fun y : After (wr.alloc (.cells #[.int .i64 a0, .string a1, .string a2, .string a3, .int .i64 a4, .int .i64 a5] 41)) => (nd_bx (bx.below y.h)).c2
            have z3 := fun y : After (wr.alloc (.cells #[.int .i64 a0, .string a1, .string a2, .string a3, .int .i64 a4, .int .i64 a5] 41)) => (nd_bx (bx.below y.h)).c3
            have z4 := fun y : After (wr.alloc (.cells #[.int .i64 a0, .string a1, .string a2, .string a3, .int .i64 a4, .int .i64 a5] 41)) => (nd_bx (bx.below y.h)).c4
            have z5 := fun y : After (wr.alloc (.cells #[.int .i64 a0, .string a1, .string a2, .string a3, .int .i64 a4, .int .i64 a5] 41)) => (nd_bx (bx.below y.h)).c5
            obtain ⟨B2, hB2, hBg, hRB⟩ : ∃ B2, (if cc = q then B else B.map (fun x : Addr => x.add q)) = B2 ∧ (∀ ad, B2 = some ad → ∃ g o, ad = (⟨g, o, none⟩ : Addr)) ∧ ∀ y : After (wr.alloc (.cells #[.int .i64 a0, .string a1, .string a2, .string a3, .int .i64 a4, .int .i64 a5] 41)), Rd kCs 1 y.W B2 m (st.drop q) := by
              refine ⟨_, rfl, ?_, fun y => ?_⟩
              · intro ad' he
                rcases hBs with ⟨rfl, _, _⟩ | ⟨g, rfl⟩
                · split at he <;> cases he
                · split at he
                  · cases he; exact ⟨g, 0, rfl⟩
                  · cases he; unfold Addr.add; split <;> exact ⟨_, _, rfl⟩
              have hr := HR.out.below y.h
              by_cases hc : cc = q
              · rw [if_pos hc]
                have hm0 : m = 0 := by omega
                subst hm0
                have : st.drop q = [] := List.drop_of_length_le (by rw [HSL.out]; omega)
                rw [this]; exact Rd.nil
              · rw [if_neg hc]
                rcases hBs with ⟨rfl, h1, h2⟩ | ⟨g, rfl⟩
                · omega
                · have := hr.from_ (q := q) (by omega)
                  rwa [show q + m - q = m by omega, Nat.mul_one] at this
            have HC2 : ∀ (y : After (wr.alloc (.cells #[.int .i64 a0, .string a1, .string a2, .string a3, .int .i64 a4, .int .i64 a5] 41))) (k : Nat), m ≤ k → Calls Tryz.prog 54 #[.agg #[.int .i64 a0, .string a1, .string a2, .string a3, .int .i64 a4, .int .i64 a5], .slice B2 m k] y.W fun e w' => e = .returned (optS (node ⟨a0, ⟨a1, a2⟩, a3, a4, a5⟩ (st.drop q))) ∧ Below y.W.heap.size y.W w' := fun y k hk => HC y.W B2 k (b_then hY y.h) (hRB y) hk hBg
            clear HC hRB bx hY hBg
            have hs1 : (B.map fun x : Addr => x.add 0) = B := by
              rcases hBs with ⟨rfl, _, _⟩ | ⟨g, rfl⟩
              · rfl
              · simp [Addr.add]
            have hmc : m ≤ cc - q := by omega
            cases ho : node ⟨a0, ⟨a1, a2⟩, a3, a4, a5⟩ (st.drop q) with
            | none =>
              have HE := Lib.hid (HF.out.none_ HX.out HM.out HSL.out ho)
              rw [ho, optS_none] at HC2
              clear ho
              go_wp2_with (go_at_call 25; (with_reducible refine (hAr _).mono ?_); rintro e w' ⟨rfl, rfl⟩)
              (refine wp_region_after (by kernel_rfl) (by kernel_rfl) ?_; (repeat (first | go_big_quiet_skip | (go_big_quiet_want; go_big_quiet_op; first | go_big_quiet_on | (apply Exists.intro; refine ⟨fun _ => ?_, ?_⟩; (focus ((go_at_call 54; with_reducible exact Calls.after (HC2 _ _ hmc)))); go_big_quiet_on)))); refine wpQuiet_nil ?_; rintro w5 ⟨⟨_, hb5⟩, rfl⟩; (try dsimp only); obtain ⟨hc5, hf5⟩ := bcell hb5; have hs5 := hb5.size; (try simp at hs5))
              go_wp2
              go_ret2
              exact ⟨by rw [← HRR.out, HE.out]; rfl, (by repeat (first | exact Below.refl _ _ | assumption | refine b_then ?_ (by assumption) | refine b_alloc ?_ _ | refine b_drewN ?_ _ | refine Below.drew ?_ | refine b_set ?_ (by first | exact Nat.le_refl _ | (simp; done) | (simp; omega) | omega) _))⟩
            | some x =>
              have HE := Lib.hid (HF.out.some_ HW.out (by rw [HL.out]; exact hn) HX.out HM.out HSL.out ho)
              rw [ho, optS_some] at HC2
              have HCut := Lib.hid (HO.out.cut kCs_length (k := q) (by rw [HSL.out]; omega))
              have hql : (st.take q).length = q := by rw [List.length_take, HSL.out]; omega
              have HQL := Lib.hid hql
              clear ho hql
              go_wp2_with (go_at_call 25; (with_reducible refine (hAr _).mono ?_); rintro e w' ⟨rfl, rfl⟩)
              (refine wp_region_after (by kernel_rfl) (by kernel_rfl) ?_; (repeat (first | go_big_quiet_skip | (go_big_quiet_want; go_big_quiet_op; first | go_big_quiet_on | (apply Exists.intro; refine ⟨fun _ => ?_, ?_⟩; (focus ((go_at_call 54; with_reducible exact Calls.after (HC2 _ _ hmc)))); go_big_quiet_on)))); refine wpQuiet_nil ?_; rintro w5 ⟨⟨_, hb5⟩, rfl⟩; (try dsimp only); obtain ⟨hc5, hf5⟩ := bcell hb5; have hs5 := hb5.size; (try simp at hs5))
              have hown5 := Lib.hid (((HCut.out.alloc (.cells #[.int .i64 a0, .string a1, .string a2, .string a3, .int .i64 a4, .int .i64 a5] 41)).below hb5).alloc (.cells #[.string x] 9))
              have hB5 : Below w.heap.size w w5 := b_then (b_alloc hB _) hb5
              have hbs : w.heap.size ≤ (w5.alloc (.cells #[.string x] 9)).heap.size := (b_alloc hB5 _).size
              have hby : ((st.take q).length + 1) * 16 ≤ 140737488355328 ∧ (st.take q).length ≤ 140737488355328 := by rw [HQL.out]; omega
              go_wp2_with (at_builtin; refine wpList_app (v := .slice B q cc) Tryz.elS (by omega) kCs_length kCs_one rfl (.tmp 55) (.tmp 57) rfl rfl hown5.out ⟨w5.heap.size, 0, none⟩ 1 x rfl (new_cells _ _ _ _ rfl) hby.1 hby.2 hbs ?_; intro v6 w6 hown6 hg6 hat6)
              obtain ⟨A6, c6, hv6, hr6⟩ := hown6.rd kCs_length
              subst hv6
              have hl6 : (st.take q ++ [x]).length = q + 1 := by rw [List.length_append, HQL.out]; rfl
              have H6 := Lib.hid hown6
              have HL6 := Lib.hid hl6
              clear hown6 hr6 hl6
              go_roundw
              case rel => exact ⟨k + 1, q + 1, c6, A6, st.take q ++ [x], by omega, by go_num, by rw [HL6.out], by omega, HL6, by have := H6.out; rw [HL6.out] at this; exact this, HE, Own.frame hown5.out (b_alloc hB5 _) (Nat.le_refl _) hg6⟩
              case measure => simp [intOf]; omega
      · obtain rfl : k = n := by omega
        have hend := HF.out
        rw [← HL.out] at hend
        have HE := Lib.hid (hend.end_ (by rw [HL.out]; exact hn))
        clear hend
        by_cases h1 : L = 1
        · subst h1
          obtain ⟨x, hst⟩ : ∃ x, st = [x] := by
            match st, HSL.out with
            | [x], _ => exact ⟨x, rfl⟩
          subst hst
          rcases hBs with ⟨_, h1, _⟩ | ⟨g, rfl⟩
          · omega
          obtain ⟨_, s, e, hs0, hcell⟩ := str_in (HO.out.rd_ kCs_length) (Below.refl _ _) (Nat.lt_succ_self 0)
          injection e with e
          subst e
          have hs : x = s := by simpa using hs0
          subst hs
          have hc0 := hcell wr (Below.refl _ _)
          have ha : (⟨g, 0, none⟩ : Addr).add 0 = ⟨g, 0, none⟩ := by simp [Addr.add]
          rw [ha] at hc0
          clear hcell hs0 ha
          go_wp2
          go_ret2
          exact ⟨by rw [← HRR.out, HE.out]; rfl, hB⟩
        · have hne : ((L : Int) == 1) = false := by rw [beq_eq_false_iff_ne]; omega
          have ht : tone st = none := by
            match st, HSL.out with
            | [], _ => rfl
            | [x], h => exact absurd h.symm h1
            | x :: y :: l, _ => rfl
          rw [ht] at HE
          go_wp2
          go_ret2
          exact ⟨by rw [← HRR.out, HE.out]; rfl, hB⟩
  · rw [tval_big (by rw [hlen]; exact hn)]
    clear hnode hwt
    go_enter Tryz.func53, Tryz.ntmps53
    go_wp2
    go_ret2
    exact ⟨rfl, Below.refl _ _⟩
def optI : Option Int → Value
  | some x => .tuple #[.int .i64 x, .bool true]
  | none => .tuple #[.int .i64 0, .bool false]
theorem optI_none : optI none = .tuple #[.int .i64 0, .bool false] := rfl
theorem optI_some (x : Int) : optI (some x) = .tuple #[.int .i64 x, .bool true] := rfl
theorem Tryz.elI : Elem Tryz.prog 43 3 1 8 := ⟨Tryz.underlying43, ⟨.int .i64 0, by kernel_rfl, rfl⟩⟩
set_option maxRecDepth 100000 in
set_option maxHeartbeats 4000000 in
theorem fold_I {A : Option Addr} {n c : Nat} {t : List Nd} {node : Nd → List Int → Option Int} {wt : Int → Nat} {C : Nat} (w : World) (hx : Rd Nd.cs 6 w A n t)
    (hwt : ∀ x ∈ t, ∀ l y, node x l = some y → wt y ≤ (l.map wt).sum + C)
    (hnode : ∀ (a0 : Int) (a1 a2 a3 : ByteArray) (a4 a5 : Int) (l : List Int) (m : Nat), (⟨a0, ⟨a1, a2⟩, a3, a4, a5⟩ : Nd) ∈ t → arity a0 = (m : Int) → l.length = m → (l.map wt).sum ≤ C * 2000 → ∀ (W : World) (B : Option Addr) (k : Nat), Below w.heap.size w W → Rd jCs 1 W B m l → m ≤ k → (∀ ad, B = some ad → ∃ g o, ad = (⟨g, o, none⟩ : Addr)) →
      Calls Tryz.prog 59 #[.agg #[.int .i64 a0, .string a1, .string a2, .string a3, .int .i64 a4, .int .i64 a5], .slice B m k] W fun e w' => e = .returned (optI (node ⟨a0, ⟨a1, a2⟩, a3, a4, a5⟩ l)) ∧ Below W.heap.size W w') :
    Calls Tryz.prog 58 #[.slice A n c, .func (.func 59) #[] #[]] w fun e w' => e = .returned (optI (tval node t)) ∧ Below w.heap.size w w' := by
  have hbig := hx.big
  have hlen := hx.len
  by_cases hn : n ≤ 2000
  · have HW := Lib.hid hwt
    have HN := Lib.hid hnode
    have HI := Lib.hid (FI.start node wt C t)
    have HL := Lib.hid hlen
    obtain ⟨R, hR⟩ : ∃ R, tval node t = R := ⟨_, rfl⟩
    have HRR := Lib.hid hR
    rw [hR]
    clear hwt hnode hlen hR
    go_enter Tryz.func58, Tryz.ntmps58
    go_wp2
    go_loopw [7, 19] (fun sv iv wr => ∃ (k L cc : Nat) (B : Option Addr) (st : List Int), k ≤ n ∧ iv = .int .i64 k ∧ sv = .slice B L cc ∧ L ≤ k ∧ Hid (st.length = L) ∧ Hid (Own jCs 1 3 wr w.heap.size (.slice B L cc) st) ∧ Hid (FI node wt C t k st) ∧ Below w.heap.size w wr) (fun _ iv _ => n - (intOf iv).toNat)
    case atStart => exact ⟨0, 0, 0, none, [], Nat.zero_le _, rfl, rfl, Nat.le_refl _, rfl, Own.nil, HI, Below.refl _ _⟩
    case round =>
      obtain ⟨k, L, cc, B, st, hk, rfl, rfl, hLk, HSL, HO, HF, hB⟩ := hrel
      obtain ⟨hnl, hLc, hBs⟩ := HO.out.shape
      clear hnl
      by_cases hlt : k < n
      · obtain ⟨ad, a0, a1, a2, a3, a4, a5, rfl, hxk, hl⟩ := nd_in hx hB hlt
        have HX := Lib.hid hxk
        obtain ⟨x0, x1, x2, x3, x4, x5, x6⟩ := hl wr (Below.refl _ _)
        have hAr := fun W => p_arity a0 W
        clear hxk hl
        by_cases hneg : arity a0 < 0
        · have HE := Lib.hid (HF.out.bad HX.out (.inl hneg))
          generalize arity a0 = ar at *
          go_wp2_with (go_at_call 25; (with_reducible refine (hAr _).mono ?_); rintro e w' ⟨rfl, rfl⟩)
          go_ret2
          exact ⟨by rw [← HRR.out, HE.out]; rfl, (by repeat (first | exact Below.refl _ _ | assumption | refine b_then ?_ (by assumption) | refine b_alloc ?_ _ | refine b_drewN ?_ _ | refine Below.drew ?_ | refine b_set ?_ (by first | exact Nat.le_refl _ | (simp; done) | (simp; omega) | omega) _))⟩
        · obtain ⟨m, hm⟩ : ∃ m : Nat, arity a0 = (m : Int) := ⟨(arity a0).toNat, by omega⟩
          rw [hm] at hAr
          by_cases hmL : L < m
          · have HE := Lib.hid (HF.out.bad HX.out (.inr (by rw [HSL.out, show arity (⟨a0, ⟨a1, a2⟩, a3, a4, a5⟩ : Nd).op = (m : Int) from hm]; omega)))
            clear hneg hm
            go_wp2_with (go_at_call 25; (with_reducible refine (hAr _).mono ?_); rintro e w' ⟨rfl, rfl⟩)
            go_ret2
            exact ⟨by rw [← HRR.out, HE.out]; rfl, (by repeat (first | exact Below.refl _ _ | assumption | refine b_then ?_ (by assumption) | refine b_alloc ?_ _ | refine b_drewN ?_ _ | refine Below.drew ?_ | refine b_set ?_ (by first | exact Nat.le_refl _ | (simp; done) | (simp; omega) | omega) _))⟩
          · obtain ⟨q, rfl⟩ : ∃ q, L = q + m := ⟨L - m, by omega⟩
            have hm3 : m ≤ 3 := by have := arity_le a0; omega
            have HM := Lib.hid hm
            have HC := fun W B k hW hR hk hg => HN.out a0 a1 a2 a3 a4 a5 (st.drop q) m (List.mem_of_getElem? HX.out) HM.out (by rw [List.length_drop, HSL.out]; omega) (Nat.le_trans (by rw [List.map_drop]; exact sum_drop _ _) HF.out.wt) W B k hW hR hk hg
            clear hneg hm hmL
            have bx := Blk.new wr 41 #[.int .i64 a0, .string a1, .string a2, .string a3, .int .i64 a4, .int .i64 a5]
            have hY : Below w.heap.size w (wr.alloc (.cells #[.int .i64 a0, .string a1, .string a2, .string a3, .int .i64 a4, .int .i64 a5] 41)) := b_alloc hB _
            have HR := Lib.hid ((HO.out.alloc (.cells #[.int .i64 a0, .string a1, .string a2, .string a3, .int .i64 a4, .int .i64 a5] 41)).rd_ jCs_length)
            have z0 := fun y : After (wr.alloc (.cells #[.int .i64 a0, .string a1, .string a2, .string a3, .int .i64 a4, .int .i64 a5] 41)) => (nd_bx (bx.below y.h)).c0
            have z1 := fun y : After (wr.alloc (.cells #[.int .i64 a0, .string a1, .string a2, .string a3, .int .i64 a4, .int .i64 a5] 41)) => (nd_bx (bx.below y.h)).c1
            have z2 := fun y : After (wr.alloc (.cells #[.int .i64 a0, .string a1, .string a2, .string a3, .int .i64 a4, .int .i64 a5] 41)) => (nd_bx (bx.below y.h)).c2
            have z3 := fun y : After (wr.alloc (.cells #[.int .i64 a0, .string a1, .string a2, .string a3, .int .i64 a4, .int .i64 a5] 41)) => (nd_bx (bx.below y.h)).c3
            have z4 := fun y : After (wr.alloc (.cells #[.int .i64 a0, .string a1, .string a2, .string a3, .int .i64 a4, .int .i64 a5] 41)) => (nd_bx (bx.below y.h)).c4
            have z5 := fun y : After (wr.alloc (.cells #[.int .i64 a0, .string a1, .string a2, .string a3, .int .i64 a4, .int .i64 a5] 41)) => (nd_bx (bx.below y.h)).c5
            obtain ⟨B2, hB2, hBg, hRB⟩ : ∃ B2, (if cc = q then B else B.map (fun x : Addr => x.add q)) = B2 ∧ (∀ ad, B2 = some ad → ∃ g o, ad = (⟨g, o, none⟩ : Addr)) ∧ ∀ y : After (wr.alloc (.cells #[.int .i64 a0, .string a1, .string a2, .string a3, .int .i64 a4, .int .i64 a5] 41)), Rd jCs 1 y.W B2 m (st.drop q) := by
              refine ⟨_, rfl, ?_, fun y => ?_⟩
              · intro ad' he
                rcases hBs with ⟨rfl, _, _⟩ | ⟨g, rfl⟩
                · split at he <;> cases he
                · split at he
                  · cases he; exact ⟨g, 0, rfl⟩
                  · cases he; unfold Addr.add; split <;> exact ⟨_, _, rfl⟩
              have hr := HR.out.below y.h
              by_cases hc : cc = q
              · rw [if_pos hc]
                have hm0 : m = 0 := by omega
                subst hm0
                have : st.drop q = [] := List.drop_of_length_le (by rw [HSL.out]; omega)
                rw [this]; exact Rd.nil
              · rw [if_neg hc]
                rcases hBs with ⟨rfl, h1, h2⟩ | ⟨g, rfl⟩
                · omega
                · have := hr.from_ (q := q) (by omega)
                  rwa [show q + m - q = m by omega, Nat.mul_one] at this
            have HC2 : ∀ (y : After (wr.alloc (.cells #[.int .i64 a0, .string a1, .string a2, .string a3, .int .i64 a4, .int .i64 a5] 41))) (k : Nat), m ≤ k → Calls Tryz.prog 59 #[.agg #[.int .i64 a0, .string a1, .string a2, .string a3, .int .i64 a4, .int .i64 a5], .slice B2 m k] y.W fun e w' => e = .returned (optI (node ⟨a0, ⟨a1, a2⟩, a3, a4, a5⟩ (st.drop q))) ∧ Below y.W.heap.size y.W w' := fun y k hk => HC y.W B2 k (b_then hY y.h) (hRB y) hk hBg
            clear HC hRB bx hY hBg
            have hs1 : (B.map fun x : Addr => x.add 0) = B := by
              rcases hBs with ⟨rfl, _, _⟩ | ⟨g, rfl⟩
              · rfl
              · simp [Addr.add]
            have hmc : m ≤ cc - q := by omega
            cases ho : node ⟨a0, ⟨a1, a2⟩, a3, a4, a5⟩ (st.drop q) with
            | none =>
              have HE := Lib.hid (HF.out.none_ HX.out HM.out HSL.out ho)
              rw [ho, optI_none] at HC2
              clear ho
              go_wp2_with (go_at_call 25; (with_reducible refine (hAr _).mono ?_); rintro e w' ⟨rfl, rfl⟩)
              (refine wp_region_after (by kernel_rfl) (by kernel_rfl) ?_; (repeat (first | go_big_quiet_skip | (go_big_quiet_want; go_big_quiet_op; first | go_big_quiet_on | (apply Exists.intro; refine ⟨fun _ => ?_, ?_⟩; (focus ((go_at_call 59; with_reducible exact Calls.after (HC2 _ _ hmc)))); go_big_quiet_on)))); refine wpQuiet_nil ?_; rintro w5 ⟨⟨_, hb5⟩, rfl⟩; (try dsimp only); obtain ⟨hc5, hf5⟩ := bcell hb5; have hs5 := hb5.size; (try simp at hs5))
              go_wp2
              go_ret2
              exact ⟨by rw [← HRR.out, HE.out]; rfl, (by repeat (first | exact Below.refl _ _ | assumption | refine b_then ?_ (by assumption) | refine b_alloc ?_ _ | refine b_drewN ?_ _ | refine Below.drew ?_ | refine b_set ?_ (by first | exact Nat.le_refl _ | (simp; done) | (simp; omega) | omega) _))⟩
            | some x =>
              have HE := Lib.hid (HF.out.some_ HW.out (by rw [HL.out]; exact hn) HX.out HM.out HSL.out ho)
              rw [ho, optI_some] at HC2
              have HCut := Lib.hid (HO.out.cut jCs_length (k := q) (by rw [HSL.out]; omega))
              have hql : (st.take q).length = q := by rw [List.length_take, HSL.out]; omega
              have HQL := Lib.hid hql
              clear ho hql
              go_wp2_with (go_at_call 25; (with_reducible refine (hAr _).mono ?_); rintro e w' ⟨rfl, rfl⟩)
              (refine wp_region_after (by kernel_rfl) (by kernel_rfl) ?_; (repeat (first | go_big_quiet_skip | (go_big_quiet_want; go_big_quiet_op; first | go_big_quiet_on | (apply Exists.intro; refine ⟨fun _ => ?_, ?_⟩; (focus ((go_at_call 59; with_reducible exact Calls.after (HC2 _ _ hmc)))); go_big_quiet_on)))); refine wpQuiet_nil ?_; rintro w5 ⟨⟨_, hb5⟩, rfl⟩; (try dsimp only); obtain ⟨hc5, hf5⟩ := bcell hb5; have hs5 := hb5.size; (try simp at hs5))
              have hown5 := Lib.hid (((HCut.out.alloc (.cells #[.int .i64 a0, .string a1, .string a2, .string a3, .int .i64 a4, .int .i64 a5] 41)).below hb5).alloc (.cells #[.int .i64 x] 3))
              have hB5 : Below w.heap.size w w5 := b_then (b_alloc hB _) hb5
              have hbs : w.heap.size ≤ (w5.alloc (.cells #[.int .i64 x] 3)).heap.size := (b_alloc hB5 _).size
              have hby : ((st.take q).length + 1) * 8 ≤ 140737488355328 ∧ (st.take q).length ≤ 140737488355328 := by rw [HQL.out]; omega
              go_wp2_with (at_builtin; refine wpList_app (v := .slice B q cc) Tryz.elI (by omega) jCs_length jCs_one rfl (.tmp 55) (.tmp 57) rfl rfl hown5.out ⟨w5.heap.size, 0, none⟩ 1 x rfl (new_cells _ _ _ _ rfl) hby.1 hby.2 hbs ?_; intro v6 w6 hown6 hg6 hat6)
              obtain ⟨A6, c6, hv6, hr6⟩ := hown6.rd jCs_length
              subst hv6
              have hl6 : (st.take q ++ [x]).length = q + 1 := by rw [List.length_append, HQL.out]; rfl
              have H6 := Lib.hid hown6
              have HL6 := Lib.hid hl6
              clear hown6 hr6 hl6
              go_roundw
              case rel => exact ⟨k + 1, q + 1, c6, A6, st.take q ++ [x], by omega, by go_num, by rw [HL6.out], by omega, HL6, by have := H6.out; rw [HL6.out] at this; exact this, HE, Own.frame hown5.out (b_alloc hB5 _) (Nat.le_refl _) hg6⟩
              case measure => simp [intOf]; omega
      · obtain rfl : k = n := by omega
        have hend := HF.out
        rw [← HL.out] at hend
        have HE := Lib.hid (hend.end_ (by rw [HL.out]; exact hn))
        clear hend
        by_cases h1 : L = 1
        · subst h1
          obtain ⟨x, hst⟩ : ∃ x, st = [x] := by
            match st, HSL.out with
            | [x], _ => exact ⟨x, rfl⟩
          subst hst
          rcases hBs with ⟨_, h1, _⟩ | ⟨g, rfl⟩
          · omega
          obtain ⟨_, s, e, hs0, hcell⟩ := jnt_in (HO.out.rd_ jCs_length) (Below.refl _ _) (Nat.lt_succ_self 0)
          injection e with e
          subst e
          have hs : x = s := by simpa using hs0
          subst hs
          have hc0 := hcell wr (Below.refl _ _)
          have ha : (⟨g, 0, none⟩ : Addr).add 0 = ⟨g, 0, none⟩ := by simp [Addr.add]
          rw [ha] at hc0
          clear hcell hs0 ha
          go_wp2
          go_ret2
          exact ⟨by rw [← HRR.out, HE.out]; rfl, hB⟩
        · have hne : ((L : Int) == 1) = false := by rw [beq_eq_false_iff_ne]; omega
          have ht : tone st = none := by
            match st, HSL.out with
            | [], _ => rfl
            | [x], h => exact absurd h.symm h1
            | x :: y :: l, _ => rfl
          rw [ht] at HE
          go_wp2
          go_ret2
          exact ⟨by rw [← HRR.out, HE.out]; rfl, hB⟩
  · rw [tval_big (by rw [hlen]; exact hn)]
    clear hnode hwt
    go_enter Tryz.func58, Tryz.ntmps58
    go_wp2
    go_ret2
    exact ⟨rfl, Below.refl _ _⟩
end Go.Proofs.YtjdofncognaaoaaGreatDoor
