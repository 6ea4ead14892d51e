/- Walks: the reference's begins, Formed, Depth. -/
import Derived.Test.YtjdofncognaaoaaGreatDoorTmX
namespace Go.Proofs.YtjdofncognaaoaaGreatDoor
open Go.RowKit
set_option linter.unusedVariables false
set_option linter.unusedSimpArgs false

theorem FI.next {T : Type} {node : Nd → List T → Option T} {wt : T → Nat} {C : Nat} {t : List Nd} {k : Nat} {st : List T} {a : Nd} (hT : Tm t) (h : FI node wt C t k st) (hk : t[k]? = some a) : ∃ m q : Nat, arity a.op = (m : Int) ∧ st.length = q + m := by
  obtain ⟨us, h1, h2⟩ := tfold_len h.run
  obtain ⟨h3, h4⟩ := tm_next hT hk h1
  exact ⟨(arity a.op).toNat, st.length - (arity a.op).toNat, by omega, by omega⟩
theorem tends_more {out : List Nat} {us : List (List Nd)} (h : tends out us) (x : Nat) : tends (out ++ [x]) us := fun i y hy => by
  obtain ⟨h1, h2⟩ := h i y hy
  exact ⟨h1, by rw [List.getElem?_append_left (List.getElem?_eq_some_iff.1 h2).1]; exact h2⟩
/-- What begins has, behind k nodes: the terms on the stack, where each begins, where each node's term begins. -/
structure BI (t : List Nd) (k : Nat) (ss os : List Int) : Prop where
  ex : ∃ us : List (List Nd), ∃ on : List Nat, tfold nterm [] (t.take k) = some us ∧ ss = (tstarts us).map Int.ofNat ∧ os = on.map Int.ofNat ∧ tends on us ∧ on.length = tlen us ∧ tlen us = k ∧ ∀ j, j ≤ k → ∀ vs, tfold nterm [] (t.take j) = some vs → tends on vs
theorem BI.start (t : List Nd) : BI t 0 [] [] := ⟨[], [], rfl, rfl, rfl, tends_nil _, rfl, rfl, fun j hj vs h => by
  have : j = 0 := by omega
  subst this
  injection h with h
  subst h
  exact tends_nil _⟩
theorem BI.slen {t : List Nd} {k : Nat} {ss os : List Int} (h : BI t k ss os) : ∃ us, tfold nterm [] (t.take k) = some us ∧ ss.length = us.length := by
  obtain ⟨us, on, h1, h2, _⟩ := h.ex
  exact ⟨us, h1, by rw [h2, List.length_map, tstarts_len]⟩
theorem BI.step {t : List Nd} {k q m : Nat} {ss os : List Int} {a : Nd} {x : Int} (h : BI t k ss os) (hk : t[k]? = some a) (hm : arity a.op = (m : Int)) (hs : ss.length = q + m) (hx : if m = 0 then x = (k : Int) else ss[q]? = some x) :
    BI t (k + 1) (ss.take q ++ [x]) (os ++ [x]) := by
  obtain ⟨us, on, h1, h2, h3, h4, h5, h6, h7⟩ := h.ex
  have hul : us.length = q + m := by have := congrArg List.length h2; rw [List.length_map, tstarts_len] at this; omega
  have hst : tstep nterm us a = some (us.take q ++ [(us.drop q).flatten ++ [a]]) := by rw [tstep_at hm hul]; rfl
  obtain ⟨k', hk', _, _, hv, ht, hl, e0, e1⟩ := tpush hst
  have hkq : k' = q := by rw [hk', hm]; omega
  subst hkq
  have hxe : x = Int.ofNat (tlen (us.take k')) := by
    split at hx
    next h0 =>
      subst h0
      rw [hx, e0 (by rw [hm]; rfl), h6]; rfl
    next h0 =>
      have := e1 (by rw [hm]; omega)
      rw [h2, List.getElem?_map, this] at hx
      injection hx with hx
      exact hx.symm
  have hnew : tends (on ++ [tlen (us.take k')]) (us.take k' ++ [(us.drop k').flatten ++ [a]]) := by
    have := tends_push h4 h5 hst
    rw [hm] at this
    have e : us.length - ((m : Int)).toNat = k' := by omega
    rwa [e] at this
  refine ⟨_, on ++ [tlen (us.take k')], (tfold_at h1 hk).trans hst, ?_, ?_, hnew, ?_, ?_, fun j hj vs hvs => ?_⟩
  · rw [ht, List.map_append, hxe, h2, List.map_take]; rfl
  · rw [List.map_append, h3, hxe]; rfl
  · rw [List.length_append, h5, hl]; rfl
  · rw [hl, h6]
  · by_cases hjk : j ≤ k
    · exact tends_more (h7 j hjk vs hvs) _
    · have hje : j = k + 1 := by omega
      subst hje
      rw [(tfold_at h1 hk).trans hst] at hvs
      injection hvs with hvs
      rw [← hvs]; exact hnew
theorem BI.none_ {t : List Nd} {k : Nat} {ss os : List Int} {a : Nd} (h : BI t k ss os) (hk : t[k]? = some a) (hm : arity a.op < 0 ∨ (ss.length : Int) < arity a.op) : tform t = false := by
  obtain ⟨us, h1, h2⟩ := h.slen
  rw [← Bool.not_eq_true]
  intro hf
  obtain ⟨_, ht⟩ := tform_iff.1 hf
  obtain ⟨h3, h4⟩ := tm_next ht hk h1
  omega
theorem BI.end_ {t : List Nd} {ss os : List Int} (h : BI t t.length ss os) (hl : t.length ≤ 2000) : tform t = (ss.length == 1) ∧ (tform t = true → ∃ on : List Nat, os = on.map Int.ofNat ∧ (∀ j, j ≤ t.length → ∀ vs, tfold nterm [] (t.take j) = some vs → tends on vs) ∧ on.length = t.length) := by
  obtain ⟨us, on, h1, h2, h3, h4, h5, h6, h7⟩ := h.ex
  rw [List.take_length] at h1
  have hul : ss.length = us.length := by rw [h2, List.length_map, tstarts_len]
  have hfl := nterm_flat h1
  rw [List.flatten_nil, List.nil_append] at hfl
  have key : tform t = true ↔ ss.length = 1 := by
    rw [tform_iff, hul]
    constructor
    · rintro ⟨_, ht⟩
      unfold Tm at ht
      rw [h1] at ht
      injection ht with ht
      rw [ht]; rfl
    · intro h1'
      refine ⟨hl, ?_⟩
      unfold Tm
      match us, h1' with
      | [u], _ =>
        have : u = t := by simpa using hfl
        rw [h1, this]
  refine ⟨?_, fun hf => ⟨on, h3, h7, by rw [h5, h6]⟩⟩
  rw [Bool.eq_iff_iff, key, beq_iff_eq]
theorem tform_nil : tform [] = false := by
  rw [← Bool.not_eq_true]
  intro h
  have := (tform_iff.1 h).2
  unfold Tm tfold at this
  injection this with this
  cases this
theorem elI_und : Tryz.prog.underlying 43 = some (.slice 3) := Tryz.elI.und
/-- What begins gives. -/
def BegIs (t : List Nd) (n : Nat) (w : World) (e : Ending) (w' : World) : Prop :=
  ∃ B m k, e = .returned (.tuple #[.slice B m k, .bool (tform t)]) ∧ Below w.heap.size w w' ∧ (tform t = true → m = n ∧ m ≤ k ∧ ∃ on : List Nat, Rd jCs 1 w' B m (on.map Int.ofNat) ∧ (∀ j, j ≤ n → ∀ vs, tfold nterm [] (t.take j) = some vs → tends on vs) ∧ on.length = n)
set_option maxRecDepth 100000 in
set_option maxHeartbeats 8000000 in
theorem r10_begins {A : Option Addr} {n c : Nat} {t : List Nd} (w : World) (hx : Rd Nd.cs 6 w A n t) :
    Calls Tryz.prog 62 #[.slice A n c] w fun e w' => BegIs t n w e w' := by
  have hbig := hx.big
  have hlen := hx.len
  have HL := Lib.hid hlen
  obtain ⟨R, hR⟩ : ∃ R, tform t = R := ⟨_, rfl⟩
  have HRR := Lib.hid hR
  have HPOST := Lib.hid (show ∀ (w' : World) (e : Ending), (∃ B m k, e = .returned (.tuple #[.slice B m k, .bool R]) ∧ Below w.heap.size w w' ∧ (tform t = true → m = n ∧ m ≤ k ∧ ∃ on : List Nat, Rd jCs 1 w' B m (on.map Int.ofNat) ∧ (∀ j, j ≤ n → ∀ vs, tfold nterm [] (t.take j) = some vs → tends on vs) ∧ on.length = n)) → BegIs t n w e w' from fun w' e h => by unfold BegIs; rw [hR]; rw [hR] at h; exact h)
  clear hR
  by_cases h0 : n < 1
  · have hn0 : n = 0 := by omega
    subst hn0
    have ht : t = [] := List.eq_nil_of_length_eq_zero hlen
    have HF : Hid (R = false) := by rw [← HRR.out, ht]; exact tform_nil
    clear hlen
    go_enter Tryz.func62, Tryz.ntmps62
    go_wp2
    go_ret2
    exact HPOST.out _ _ ⟨none, 0, 0, by rw [HF.out]; rfl, (by repeat (first | exact Below.refl _ _ | assumption | refine b_then ?_ (by assumption) | refine b_alloc ?_ _ | refine b_drewN ?_ _ | refine Below.drew ?_ | refine b_set ?_ (by first | exact Nat.le_refl _ | (simp; done) | (simp; omega) | omega) _)), fun h => by rw [HRR.out, HF.out] at h; cases h⟩
  by_cases hn : n ≤ 2000
  · clear hlen
    have e00 : Own jCs 1 3 (w.alloc (.cells #[] 3)) w.heap.size (.slice (some ⟨w.heap.size, 0, none⟩) 0 0) ([] : List Int) := Own.made0 (Nat.le_refl _)
    have HO0 := Lib.hid (e00.alloc (.cells #[] 3))
    clear e00
    have HB0 := Lib.hid (BI.start t)
    go_enter Tryz.func62, Tryz.ntmps62
    go_wp2
    go_loopw [4, 5, 6] (fun ov sv iv wr => ∃ (k L cc mc : Nat) (B O : Option Addr) (ss os : List Int), k ≤ n ∧ iv = .int .i64 k ∧ sv = .slice B L cc ∧ L ≤ cc ∧ L ≤ k ∧ ov = .slice O k mc ∧ Hid (ss.length = L) ∧ Hid (os.length = k) ∧ Hid (Rd jCs 1 wr B L ss) ∧ Hid (Own jCs 1 3 wr w.heap.size (.slice O k mc) os) ∧ Hid (BI t k ss os) ∧ Below w.heap.size w wr) (fun _ _ iv _ => n - (intOf iv).toNat)
    case atStart => exact ⟨0, 0, 0, 0, _, _, [], [], Nat.zero_le _, rfl, rfl, Nat.le_refl _, Nat.le_refl _, rfl, rfl, rfl, Rd.nil, HO0.out, HB0, (by repeat (first | exact Below.refl _ _ | assumption | refine b_then ?_ (by assumption) | refine b_alloc ?_ _ | refine b_drewN ?_ _ | refine Below.drew ?_ | refine b_set ?_ (by first | exact Nat.le_refl _ | (simp; done) | (simp; omega) | omega) _))⟩
    case round =>
      clear HO0
      obtain ⟨k, L, cc, mc, B, O, ss, os, hk, rfl, rfl, hLc, hLk, rfl, HSL, HOL, HRS, HO, HI, hB⟩ := hrel
      by_cases hlt : k < n
      · obtain ⟨ad, a0, a1, a2, a3, a4, a5, rfl, hxk, hl⟩ := nd_in hx hB hlt
        have HX := Lib.hid hxk
        obtain ⟨x0, x1, x2, x3, x4, x5, x6⟩ := hl wr (Below.refl _ _)
        have hAr := fun W => r10_arity a0 W
        clear hxk hl
        by_cases hneg : arity a0 < 0
        · have HE := Lib.hid (HI.out.none_ HX.out (.inl hneg))
          generalize arity a0 = ar at *
          go_wp2_with (go_at_call 26; (with_reducible refine (hAr _).mono ?_); rintro e w1 ⟨rfl, hb1⟩; obtain ⟨hc1, hf1⟩ := bcell hb1; have hs1 := hb1.size; (try simp at hs1))
          go_ret2
          exact HPOST.out _ _ ⟨none, 0, 0, by rw [← HRR.out, HE.out]; rfl, (by repeat (first | exact Below.refl _ _ | assumption | refine b_then ?_ (by assumption) | refine b_alloc ?_ _ | refine b_drewN ?_ _ | refine Below.drew ?_ | refine b_set ?_ (by first | exact Nat.le_refl _ | (simp; done) | (simp; omega) | omega) _)), fun h => by rw [HE.out] at h; cases h⟩
        · obtain ⟨m, hm⟩ : ∃ m : Nat, arity a0 = (m : Int) := ⟨(arity a0).toNat, by omega⟩
          rw [hm] at hAr
          by_cases hmL : L < m
          · have HE := Lib.hid (HI.out.none_ HX.out (.inr (by rw [HSL.out, show arity (⟨a0, ⟨a1, a2⟩, a3, a4, a5⟩ : Nd).op = (m : Int) from hm]; omega)))
            clear hneg hm
            go_wp2_with (go_at_call 26; (with_reducible refine (hAr _).mono ?_); rintro e w1 ⟨rfl, hb1⟩; obtain ⟨hc1, hf1⟩ := bcell hb1; have hs1 := hb1.size; (try simp at hs1))
            go_ret2
            exact HPOST.out _ _ ⟨none, 0, 0, by rw [← HRR.out, HE.out]; rfl, (by repeat (first | exact Below.refl _ _ | assumption | refine b_then ?_ (by assumption) | refine b_alloc ?_ _ | refine b_drewN ?_ _ | refine Below.drew ?_ | refine b_set ?_ (by first | exact Nat.le_refl _ | (simp; done) | (simp; omega) | omega) _)), fun h => by rw [HE.out] at h; cases h⟩
          · obtain ⟨q, rfl⟩ : ∃ q, L = q + m := ⟨L - m, by omega⟩
            have hm3 : m ≤ 3 := by have := arity_le a0; omega
            have HM := Lib.hid hm
            have hs1 : (B.map fun x : Addr => x.add 0) = B := by cases B <;> rfl
            clear hneg hm hmL
            have htk : (ss.take q).length = q := by rw [List.length_take, HSL.out]; omega
            have HTK := Lib.hid htk
            clear htk
            obtain ⟨x, hxx, hxl⟩ : ∃ x : Int, (if m = 0 then x = (k : Int) else ss[q]? = some x) ∧ (m ≠ 0 → ∀ W, Below wr.heap.size wr W → ∃ ad2, B = some ad2 ∧ W.cell? (ad2.add q) = some (.int .i64 x)) := by
              by_cases h0 : m = 0
              · exact ⟨k, by rw [if_pos h0], fun h => absurd h0 h⟩
              · obtain ⟨ad2, s, e, hs, hc⟩ := jnt_in HRS.out (Below.refl _ _) (show q < q + m by omega)
                exact ⟨s, by rw [if_neg h0]; exact hs, fun _ W hW => ⟨ad2, e, hc W hW⟩⟩
            have HXX := Lib.hid (HI.out.step HX.out HM.out HSL.out hxx)
            have HXL := Lib.hid hxl
            have HX0 := Lib.hid hxx
            clear hxx hxl
            by_cases h0 : m = 0
            · have hxk : x = (k : Int) := by have := HX0.out; rwa [if_pos h0] at this
              subst hxk
              have hnp : ¬ 0 < m := by omega
              clear h0 HXL HX0
              go_wp2_with (first
                | (go_at_call 26; (with_reducible refine (hAr _).mono ?_); rintro e w1 ⟨rfl, hb1⟩; obtain ⟨hc1, hf1⟩ := bcell hb1; have hs1 := hb1.size; (try simp at hs1); (have hsz1 : wr.heap.size ≤ w1.heap.size := hb1.size); (have hszw : w.heap.size ≤ w1.heap.size := (b_then hB hb1).size); (have HO0 : Hid (Own jCs 1 3 (w1.alloc (.cells #[] 3)) w1.heap.size (.slice (some ⟨w1.heap.size, 0, none⟩) 0 0) ([] : List Int)) := Own.made0 (Nat.le_refl _)); (have HR0 := Lib.hid ((HRS.out.pre (k := q) (by omega)).below (b_alloc hb1 (.cells #[] 3)))); (have hW0 : w1.heap.size ≤ (w1.alloc (.cells #[] 3)).heap.size := (b_alloc (Below.refl _ _) _).size); (have hy1 : (([] : List Int).length + q) * 8 ≤ 140737488355328 ∧ ([] : List Int).length + q ≤ 140737488355328 := by rw [List.length_nil]; omega); (have HOW := Lib.hid (HO.out.below hb1)); skip)
                | (at_builtin; refine wpList_appr (v := .slice (some ⟨w1.heap.size, 0, none⟩) 0 0) Tryz.elI elI_und (by omega) jCs_length jCs_one rfl (.tmp 49) (.tmp 55) rfl rfl HO0.out B q cc (ss.take q) rfl HR0.out hy1.1 hy1.2 hW0 ?_; intro v2 w2 hown2 hg2 hat2; (have HF2 := Lib.hid (Own.frame HO0.out (b_alloc (Below.refl _ _) _) (Nat.le_refl _) hg2)); (have hsz2 := HF2.out.size); (have HOWN2 := Lib.hid (hown2.alloc (.cells #[.int .i64 (k : Int)] 3))); (have hW2 : w1.heap.size ≤ (w2.alloc (.cells #[.int .i64 (k : Int)] 3)).heap.size := Nat.le_trans hsz2 (b_alloc (Below.refl _ _) _).size); (have hy2 : ((([] : List Int) ++ ss.take q).length + 1) * 8 ≤ 140737488355328 ∧ (([] : List Int) ++ ss.take q).length ≤ 140737488355328 := by rw [List.nil_append, HTK.out]; omega); clear hown2 hg2 hat2)
                | (at_builtin; refine wpList_app (v := v2) Tryz.elI (by omega) jCs_length jCs_one rfl (.tmp 56) (.tmp 58) rfl rfl HOWN2.out ⟨w2.heap.size, 0, none⟩ 1 (k : Int) rfl (new_cells _ _ _ _ rfl) hy2.1 hy2.2 hW2 ?_; intro v3 w3 hown3 hg3 hat3; (have HF3 := Lib.hid (Own.frame HOWN2.out (b_alloc HF2.out _) (Nat.le_refl _) hg3)); (have hsz3 := HF3.out.size); (obtain ⟨B3, c3, hv3, hr3⟩ := hown3.rd jCs_length); subst hv3; (have hl3 : (([] : List Int) ++ ss.take q ++ [(k : Int)]).length = q + 1 := by rw [List.nil_append, List.length_append, HTK.out]; rfl); (have e3 : ([] : List Int) ++ ss.take q ++ [(k : Int)] = ss.take q ++ [(k : Int)] := rfl); (rw [hl3] at hown3 hr3 ⊢); (rw [e3] at hown3 hr3); (have HOWN3 := Lib.hid hown3); (have hc3 : q + 1 ≤ c3 := hown3.shape.2.1); clear hown3 hg3 hat3 hr3 hl3 e3; (have HOO := Lib.hid ((HOW.out.below HF3.out).alloc (.cells #[.int .i64 (k : Int)] 3))); (have hW3 : w.heap.size ≤ (w3.alloc (.cells #[.int .i64 (k : Int)] 3)).heap.size := Nat.le_trans hszw (Nat.le_trans hsz3 (b_alloc (Below.refl _ _) _).size)); (have hy3 : (os.length + 1) * 8 ≤ 140737488355328 ∧ os.length ≤ 140737488355328 := by rw [HOL.out]; omega))
                | (at_builtin; refine wpList_app (v := .slice O k mc) Tryz.elI (by omega) jCs_length jCs_one rfl (.tmp 60) (.tmp 62) rfl rfl HOO.out ⟨w3.heap.size, 0, none⟩ 1 (k : Int) rfl (new_cells _ _ _ _ rfl) hy3.1 hy3.2 hW3 ?_; intro v4 w4 hown4 hg4 hat4))
              obtain ⟨O4, c4, hv4, hr4⟩ := hown4.rd jCs_length
              subst hv4
              have hl4 : (os ++ [(k : Int)]).length = k + 1 := by rw [List.length_append, HOL.out]; rfl
              have HL4 := Lib.hid hl4
              rw [hl4] at hown4 ⊢
              have HOWN4 := Lib.hid hown4
              have hap : (Value.slice B3 (q + 1) c3).ownBlock = none ∨ (Value.slice B3 (q + 1) c3).ownBlock ≠ (Value.slice O k mc).ownBlock := by
                cases hO : (Value.slice B3 (q + 1) c3).ownBlock with
                | none => exact .inl rfl
                | some g =>
                  right
                  intro e
                  have g1 := HOWN3.out.base_le g hO
                  have g2 := HOW.out.lt g e.symm
                  omega
              have HRD := Lib.hid (((HOWN3.out.alloc (.cells #[.int .i64 (k : Int)] 3)).grown hg4 hap).rd_ jCs_length)
              have hl5 : (ss.take q ++ [(k : Int)]).length = q + 1 := by rw [List.length_append, HTK.out]; rfl
              have HL5 := Lib.hid hl5
              have hB4 : Below w.heap.size w w4 := Own.frame HOO.out (b_alloc (b_then (b_then hB hb1) HF3.out) _) (Nat.le_refl _) hg4
              clear hown4 hg4 hat4 hr4 hl4 hap hl5
              go_roundw
              case rel => exact ⟨k + 1, q + 1, c3, c4, B3, O4, ss.take q ++ [(k : Int)], os ++ [(k : Int)], by omega, by go_num, rfl, hc3, by omega, rfl, HL5, HL4, HRD, HOWN4, HXX, hB4⟩
              case measure => simp [intOf]; omega
            · obtain ⟨ad2, rfl, _⟩ := HXL.out h0 wr (Below.refl _ _)
              have hxc : ∀ W, Below wr.heap.size wr W → W.cell? (ad2.add q) = some (.int .i64 x) := fun W hW => by
                obtain ⟨ad3, e, hc⟩ := HXL.out h0 W hW
                injection e with e
                subst e; exact hc
              have HXC := Lib.hid hxc
              have hpos : 0 < m := by omega
              clear hxc h0 HXL HX0
              go_wp2_with (first
                | (go_at_call 26; (with_reducible refine (hAr _).mono ?_); rintro e w1 ⟨rfl, hb1⟩; obtain ⟨hc1, hf1⟩ := bcell hb1; have hs1 := hb1.size; (try simp at hs1); (have hsz1 : wr.heap.size ≤ w1.heap.size := hb1.size); (have hszw : w.heap.size ≤ w1.heap.size := (b_then hB hb1).size); (have HO0 : Hid (Own jCs 1 3 (w1.alloc (.cells #[] 3)) w1.heap.size (.slice (some ⟨w1.heap.size, 0, none⟩) 0 0) ([] : List Int)) := Own.made0 (Nat.le_refl _)); (have HR0 := Lib.hid ((HRS.out.pre (k := q) (by omega)).below (b_alloc hb1 (.cells #[] 3)))); (have hW0 : w1.heap.size ≤ (w1.alloc (.cells #[] 3)).heap.size := (b_alloc (Below.refl _ _) _).size); (have hy1 : (([] : List Int).length + q) * 8 ≤ 140737488355328 ∧ ([] : List Int).length + q ≤ 140737488355328 := by rw [List.length_nil]; omega); (have HOW := Lib.hid (HO.out.below hb1)); have c1 := HXC.out w1 hb1)
                | (at_builtin; refine wpList_appr (v := .slice (some ⟨w1.heap.size, 0, none⟩) 0 0) Tryz.elI elI_und (by omega) jCs_length jCs_one rfl (.tmp 49) (.tmp 55) rfl rfl HO0.out (some ad2) q cc (ss.take q) rfl HR0.out hy1.1 hy1.2 hW0 ?_; intro v2 w2 hown2 hg2 hat2; (have HF2 := Lib.hid (Own.frame HO0.out (b_alloc (Below.refl _ _) _) (Nat.le_refl _) hg2)); (have hsz2 := HF2.out.size); (have HOWN2 := Lib.hid (hown2.alloc (.cells #[.int .i64 x] 3))); (have hW2 : w1.heap.size ≤ (w2.alloc (.cells #[.int .i64 x] 3)).heap.size := Nat.le_trans hsz2 (b_alloc (Below.refl _ _) _).size); (have hy2 : ((([] : List Int) ++ ss.take q).length + 1) * 8 ≤ 140737488355328 ∧ (([] : List Int) ++ ss.take q).length ≤ 140737488355328 := by rw [List.nil_append, HTK.out]; omega); clear hown2 hg2 hat2)
                | (at_builtin; refine wpList_app (v := v2) Tryz.elI (by omega) jCs_length jCs_one rfl (.tmp 56) (.tmp 58) rfl rfl HOWN2.out ⟨w2.heap.size, 0, none⟩ 1 x rfl (new_cells _ _ _ _ rfl) hy2.1 hy2.2 hW2 ?_; intro v3 w3 hown3 hg3 hat3; (have HF3 := Lib.hid (Own.frame HOWN2.out (b_alloc HF2.out _) (Nat.le_refl _) hg3)); (have hsz3 := HF3.out.size); (obtain ⟨B3, c3, hv3, hr3⟩ := hown3.rd jCs_length); subst hv3; (have hl3 : (([] : List Int) ++ ss.take q ++ [x]).length = q + 1 := by rw [List.nil_append, List.length_append, HTK.out]; rfl); (have e3 : ([] : List Int) ++ ss.take q ++ [x] = ss.take q ++ [x] := rfl); (rw [hl3] at hown3 hr3 ⊢); (rw [e3] at hown3 hr3); (have HOWN3 := Lib.hid hown3); (have hc3 : q + 1 ≤ c3 := hown3.shape.2.1); clear hown3 hg3 hat3 hr3 hl3 e3; (have HOO := Lib.hid ((HOW.out.below HF3.out).alloc (.cells #[.int .i64 x] 3))); (have hW3 : w.heap.size ≤ (w3.alloc (.cells #[.int .i64 x] 3)).heap.size := Nat.le_trans hszw (Nat.le_trans hsz3 (b_alloc (Below.refl _ _) _).size)); (have hy3 : (os.length + 1) * 8 ≤ 140737488355328 ∧ os.length ≤ 140737488355328 := by rw [HOL.out]; omega))
                | (at_builtin; refine wpList_app (v := .slice O k mc) Tryz.elI (by omega) jCs_length jCs_one rfl (.tmp 60) (.tmp 62) rfl rfl HOO.out ⟨w3.heap.size, 0, none⟩ 1 x rfl (new_cells _ _ _ _ rfl) hy3.1 hy3.2 hW3 ?_; intro v4 w4 hown4 hg4 hat4))
              obtain ⟨O4, c4, hv4, hr4⟩ := hown4.rd jCs_length
              subst hv4
              have hl4 : (os ++ [x]).length = k + 1 := by rw [List.length_append, HOL.out]; rfl
              have HL4 := Lib.hid hl4
              rw [hl4] at hown4 ⊢
              have HOWN4 := Lib.hid hown4
              have hap : (Value.slice B3 (q + 1) c3).ownBlock = none ∨ (Value.slice B3 (q + 1) c3).ownBlock ≠ (Value.slice O k mc).ownBlock := by
                cases hO : (Value.slice B3 (q + 1) c3).ownBlock with
                | none => exact .inl rfl
                | some g =>
                  right
                  intro e
                  have g1 := HOWN3.out.base_le g hO
                  have g2 := HOW.out.lt g e.symm
                  omega
              have HRD := Lib.hid (((HOWN3.out.alloc (.cells #[.int .i64 x] 3)).grown hg4 hap).rd_ jCs_length)
              have hl5 : (ss.take q ++ [x]).length = q + 1 := by rw [List.length_append, HTK.out]; rfl
              have HL5 := Lib.hid hl5
              have hB4 : Below w.heap.size w w4 := Own.frame HOO.out (b_alloc (b_then (b_then hB hb1) HF3.out) _) (Nat.le_refl _) hg4
              clear hown4 hg4 hat4 hr4 hl4 hap hl5
              go_roundw
              case rel => exact ⟨k + 1, q + 1, c3, c4, B3, O4, ss.take q ++ [x], os ++ [x], by omega, by go_num, rfl, hc3, by omega, rfl, HL5, HL4, HRD, HOWN4, HXX, hB4⟩
              case measure => simp [intOf]; omega
      · obtain rfl : k = n := by omega
        have hend := HI.out
        rw [← HL.out] at hend
        obtain ⟨he1, he2⟩ := hend.end_ (by rw [HL.out]; exact hn)
        rw [HSL.out, HRR.out] at he1
        have HE1 := Lib.hid he1
        have HE2 := Lib.hid he2
        have hsh := HO.out.shape
        have hmm : k ≤ mc := hsh.2.1
        have HOR := Lib.hid (HO.out.rd_ jCs_length)
        clear hend he1 he2 hsh
        have hb1 : ((L : Int) == 1) = R := by rw [HE1.out, Bool.eq_iff_iff, beq_iff_eq, beq_iff_eq]; omega
        go_wp2
        go_ret2
        refine HPOST.out _ _ ⟨_, _, _, rfl, hB, fun hf => ⟨rfl, hmm, ?_⟩⟩
        obtain ⟨on, h1, h2, h3⟩ := HE2.out hf
        exact ⟨on, by rw [← h1]; exact HOR.out, fun j hj => h2 j (by rw [HL.out]; exact hj), by rw [h3, HL.out]⟩
  · have HF : Hid (R = false) := by
      rw [← HRR.out, ← Bool.not_eq_true]
      intro hf
      have := (tform_iff.1 hf).1
      omega
    clear hlen
    have h1 : 1 ≤ n := by omega
    have h2 : 2000 < n := by omega
    go_enter Tryz.func62, Tryz.ntmps62
    go_wp2
    go_ret2
    exact HPOST.out _ _ ⟨none, 0, 0, by rw [HF.out]; rfl, (by repeat (first | exact Below.refl _ _ | assumption | refine b_then ?_ (by assumption) | refine b_alloc ?_ _ | refine b_drewN ?_ _ | refine Below.drew ?_ | refine b_set ?_ (by first | exact Nat.le_refl _ | (simp; done) | (simp; omega) | omega) _)), fun h => by rw [HRR.out, HF.out] at h; cases h⟩
end Go.Proofs.YtjdofncognaaoaaGreatDoor
