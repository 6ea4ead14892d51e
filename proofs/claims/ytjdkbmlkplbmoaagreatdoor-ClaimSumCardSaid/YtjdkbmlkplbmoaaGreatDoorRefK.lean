/- Walk of the references' book with a line more. -/
import Derived.Test.YtjdkbmlkplbmoaaGreatDoorRefJ
namespace Go.Proofs.YtjdkbmlkplbmoaaGreatDoor
open Go.RowKit
set_option linter.unusedVariables false
set_option linter.unusedSimpArgs false

theorem Tryz.elemBook : Elem Tryz.prog 23 46 4 64 := ⟨Tryz.underlying23, ⟨.agg #[.string ⟨#[]⟩, .string ⟨#[]⟩, .string ⟨#[]⟩, .string ⟨#[]⟩], by kernel_rfl, rfl⟩⟩
theorem Tryz.elemLines : Elem Tryz.prog 22 46 4 64 := ⟨Tryz.underlying22, ⟨.agg #[.string ⟨#[]⟩, .string ⟨#[]⟩, .string ⟨#[]⟩, .string ⟨#[]⟩], by kernel_rfl, rfl⟩⟩
theorem Ln.cs_length (x : Ln) : (Ln.cs x).length = 4 := rfl
theorem Ln.cs_one (x : Ln) : ∀ u ∈ Ln.cs x, u.oneCell' = true := by
  intro u hu
  simp only [Ln.cs, List.mem_cons, List.not_mem_nil, or_false] at hu
  rcases hu with rfl | rfl | rfl | rfl <;> rfl
/-- Ahead of element k: what is laid, and what is to come. -/
def putI (xs : List Ln) (l new : Ln) (L : Bool) (k : Nat) (laid : Bool) (ys : List Ln) : Prop := ys ++ bputR l new laid (xs.drop k) = bputR l new L xs ∧ ys.length ≤ k + (if laid then 1 else 0)
theorem putI_zero (xs : List Ln) (l new : Ln) (L : Bool) : putI xs l new L 0 L [] := ⟨by simp, by simp⟩
theorem drop_at {α : Type} {xs : List α} {k : Nat} {x : α} (h : xs[k]? = some x) : xs.drop k = x :: xs.drop (k + 1) := by
  obtain ⟨hk, rfl⟩ := List.getElem?_eq_some_iff.1 h
  exact List.drop_eq_getElem_cons hk
section
variable {xs ys : List Ln} {l new x : Ln} {L : Bool} {k : Nat}
theorem putI_hit (h : putI xs l new L k true ys) (hx : xs[k]? = some x) (hh : lhit l.acct l.asset x = true) : putI xs l new L (k + 1) true ys := by
  obtain ⟨h1, h2⟩ := h
  rw [drop_at hx, bputR, hh] at h1
  refine ⟨by rw [← h1]; simp, by simp at h2 ⊢; omega⟩
theorem putI_keep (h : putI xs l new L k true ys) (hx : xs[k]? = some x) (hh : lhit l.acct l.asset x = false) : putI xs l new L (k + 1) true (ys ++ [x]) := by
  obtain ⟨h1, h2⟩ := h
  rw [drop_at hx, bputR, hh] at h1
  refine ⟨by rw [← h1]; simp, by simp at h2 ⊢; omega⟩
theorem putI_ahead (h : putI xs l new L k false ys) (hx : xs[k]? = some x) (ha : lahead x l = true) : putI xs l new L (k + 1) false (ys ++ [x]) := by
  obtain ⟨h1, h2⟩ := h
  rw [drop_at hx, bputR, ha, lahead_hit ha] at h1
  refine ⟨by rw [← h1]; simp, by simp at h2 ⊢; omega⟩
theorem putI_new_hit (h : putI xs l new L k false ys) (hx : xs[k]? = some x) (ha : lahead x l = false) (hh : lhit l.acct l.asset x = true) : putI xs l new L (k + 1) true (ys ++ [new]) := by
  obtain ⟨h1, h2⟩ := h
  rw [drop_at hx, bputR, ha, hh] at h1
  refine ⟨by rw [← h1]; simp, by simp at h2 ⊢; omega⟩
theorem putI_new (h : putI xs l new L k false ys) (hx : xs[k]? = some x) (ha : lahead x l = false) (hh : lhit l.acct l.asset x = false) : putI xs l new L (k + 1) true (ys ++ [new] ++ [x]) := by
  obtain ⟨h1, h2⟩ := h
  rw [drop_at hx, bputR, ha, hh] at h1
  refine ⟨by rw [← h1]; simp, by simp at h2 ⊢; omega⟩
theorem putI_end (h : putI xs l new L xs.length true ys) : bputR l new L xs = ys := by
  have := h.1
  rw [List.drop_length, bputR] at this
  rw [← this]; simp
theorem putI_endN (h : putI xs l new L xs.length false ys) : bputR l new L xs = ys ++ [new] := by
  have := h.1
  rw [List.drop_length, bputR] at this
  rw [← this]; simp
theorem putI_len {laid : Bool} (h : putI xs l new L k laid ys) (hk : k ≤ 1000000) : ys.length ≤ 1000001 := by
  have := h.2
  split at this <;> omega
end
def AddPost (xs : List Ln) (l : Ln) (w : World) (e : Ending) (w' : World) : Prop := ∃ v, e = .returned (.tuple #[v, .bool (badd xs l).isSome]) ∧ Own Ln.cs 4 46 w' w.heap.size v ((badd xs l).getD []) ∧ Below w.heap.size w w'
theorem addPost_no {xs : List Ln} {l : Ln} {w w' : World} (h : badd xs l = none) (hB : Below w.heap.size w w') : AddPost xs l w (.returned (.tuple #[.slice none 0 0, .bool false])) w' :=
  ⟨_, by rw [h]; rfl, by rw [h]; exact Own.nil, hB⟩
theorem addPost_yes {xs ys : List Ln} {l : Ln} {w w' : World} {base : Nat} {v : Value} (h : badd xs l = some ys) (ho : Own Ln.cs 4 46 w' base v ys) (hb : w.heap.size ≤ base) (hB : Below w.heap.size w w') : AddPost xs l w (.returned (.tuple #[v, .bool true])) w' :=
  ⟨_, by rw [h]; rfl, by rw [h]; exact ho.lower hb, hB⟩
theorem rsmall_of {q : Rat} {k : Nat} (h1 : (iS q.num).size ≤ k) (h2 : (nS q.den).size ≤ k) : rsmall k q := by
  rw [iS_size] at h1
  rw [nS_size] at h2
  exact ⟨by omega, h2⟩
/-- What an account has, as a number. -/
theorem bget_rat {xs : List Ln} (hz : ∀ f ∈ xs, lnq f) (hm : bmay xs = true) (s a : ByteArray) : ∃ p : Rat, bgetL xs s a = enc p ∧ rsmall 400000000 p := by
  obtain ⟨p, hp⟩ := rmay_of (bget_may hm s a)
  refine ⟨p, hp, ?_⟩
  cases hf : xs.find? (lhit s a) with
  | none =>
    rw [bget_none hf] at hp
    rw [← enc_inj hp]
    exact ⟨by show ndg 0 ≤ _; rw [ndg_small (by omega)]; omega, by show ndg 1 ≤ _; rw [ndg_small (by omega)]; omega⟩
  | some x =>
    obtain ⟨_, _, h1, h2⟩ := hz x (List.mem_of_find?_eq_some hf)
    rw [bget_some hf] at hp
    rw [hp] at h1 h2
    exact rsmall_of h1 h2
/-- What the rounds of the sum keep. -/
structure AdSt (w : World) (b8 g3 : Nat) (a0 a1 a2 a3 y0 y1 : ByteArray) (v : Value) (ys : List Ln) (W : World) : Prop where
  own : Own Ln.cs 4 46 W b8 v ys
  box : Blk W w.heap.size 46 #[.string a0, .string a1, .string a2, .string a3]
  q : Blk W g3 35 #[.string y0, .string y1]
  b : Below w.heap.size w W
  bs : b8 ≤ W.heap.size
theorem AdSt.below {w W W' : World} {b8 g3 : Nat} {a0 a1 a2 a3 y0 y1 : ByteArray} {v : Value} {ys : List Ln} (h : AdSt w b8 g3 a0 a1 a2 a3 y0 y1 v ys W) (hb : Below W.heap.size W W') : AdSt w b8 g3 a0 a1 a2 a3 y0 y1 v ys W' := ⟨h.own.below hb, h.box.below hb, h.q.below hb, b_then h.b hb, Nat.le_trans h.bs hb.size⟩
theorem AdSt.put {w W W2 : World} {b8 g3 : Nat} {a0 a1 a2 a3 y0 y1 : ByteArray} {v v2 : Value} {ys zs : List Ln} (h : AdSt w b8 g3 a0 a1 a2 a3 y0 y1 v ys W) (o : Obj) (h2 : Own Ln.cs 4 46 W2 b8 v2 zs) (hg : (W.alloc o).grownBy W2 v.ownBlock) (hw : w.heap.size < b8) (hg3 : g3 < b8) : AdSt w b8 g3 a0 a1 a2 a3 y0 y1 v2 zs W2 :=
  ⟨h2, (h.box.alloc o).grown hg (h.own.apart hw), (h.q.alloc o).grown hg (h.own.apart hg3), (h.own.alloc o).frame (b_alloc h.b o) (Nat.le_of_lt hw) hg, Nat.le_trans (Nat.le_trans h.bs (b_alloc (Below.refl _ _) o).size) hg.size⟩
theorem Blk.four_ {w : World} {g : Nat} {t : TypeId} {a b c d : Value} (h : Blk w g t #[a, b, c, d]) : w.cell? ⟨g, 0, none⟩ = some a ∧ w.cell? ⟨g, 1, none⟩ = some b ∧ w.cell? ⟨g, 2, none⟩ = some c ∧ w.cell? ⟨g, 3, none⟩ = some d :=
  ⟨h.cell 0, h.cell 1, h.cell 2, h.cell 3⟩
set_option maxRecDepth 100000 in
set_option maxHeartbeats 4000000 in
theorem r6_add {A : Option Addr} {n c : Nat} {xs : List Ln} (a0 a1 a2 a3 : ByteArray) (w : World) (hx : Rd Ln.cs 4 w A n xs) (hn : n ≤ 1000000) (hz : ∀ f ∈ xs, lnq f) (hf : lnq ⟨a0, a1, ⟨a2, a3⟩⟩) :
    Calls Tryz.prog 27 #[.slice A n c, .agg #[.string a0, .string a1, .string a2, .string a3]] w fun e w' => AddPost xs ⟨a0, a1, ⟨a2, a3⟩⟩ w e w' := by
  have hxl := hx.len
  obtain ⟨z0, z1, z2, z3⟩ := hf
  dsimp only at z0 z1 z2 z3
  have hB0 : Below w.heap.size w (w.alloc (.cells #[.string a0, .string a1, .string a2, .string a3] 46)) := b_alloc (Below.refl _ _) _
  have hM := r6_may _ (hx.below hB0) hz (c := c)
  have hL : ∀ W, Calls Tryz.prog 51 #[.agg #[.string a0, .string a1, .string a2, .string a3]] W fun e w' => e = .returned (.bool (lone ⟨a0, a1, ⟨a2, a3⟩⟩)) ∧ Below W.heap.size W w' := fun W => r6_line a0 a1 a2 a3 W (by omega) (by omega) (by omega) (by omega)
  cases c0 : bmay xs with
  | false =>
    have hno : Hid (badd xs ⟨a0, a1, ⟨a2, a3⟩⟩ = none) := by unfold Hid badd; rw [c0]; rfl
    rw [c0] at hM
    go_enter Tryz.func27, Tryz.ntmps27
    go_wp2_with (go_at_call 26; (with_reducible refine (hM).mono ?_); rintro e w1 ⟨rfl, hb1⟩; obtain ⟨hc1, hf1⟩ := bcell hb1; have hs1 := hb1.size; (try simp at hs1))
    go_ret2
    exact addPost_no hno.out (by repeat (first | exact Below.refl _ _ | assumption | refine b_then ?_ (by assumption) | refine b_alloc ?_ _ | refine b_drewN ?_ _ | refine Below.drew ?_ | refine b_set ?_ (by first | exact Nat.le_refl _ | (simp; done) | (simp; omega) | omega) _))
  | true =>
    rw [c0] at hM
    cases c1 : lone ⟨a0, a1, ⟨a2, a3⟩⟩ with
    | false =>
      have hno : Hid (badd xs ⟨a0, a1, ⟨a2, a3⟩⟩ = none) := by unfold Hid badd; rw [c0, c1]; rfl
      rw [c1] at hL
      go_enter Tryz.func27, Tryz.ntmps27
      go_wp2_with (first | (go_at_call 26; (with_reducible refine (hM).mono ?_); rintro e w1 ⟨rfl, hb1⟩; obtain ⟨hc1, hf1⟩ := bcell hb1; have hs1 := hb1.size; (try simp at hs1); have hv1 : w.heap.size < w1.heap.size := (by omega)) | (go_at_call 51; (with_reducible refine (hL _).mono ?_); rintro e w2 ⟨rfl, hb2⟩; obtain ⟨hc2, hf2⟩ := bcell hb2; have hs2 := hb2.size; (try simp at hs2)))
      go_ret2
      exact addPost_no hno.out (by repeat (first | exact Below.refl _ _ | assumption | refine b_then ?_ (by assumption) | refine b_alloc ?_ _ | refine b_drewN ?_ _ | refine Below.drew ?_ | refine b_set ?_ (by first | exact Nat.le_refl _ | (simp; done) | (simp; omega) | omega) _))
    | true =>
      rw [c1] at hL
      obtain ⟨p, hp, hps⟩ := bget_rat hz c0 a0 a1
      obtain ⟨q, hq⟩ := rmay_of (lone_of c1).2.2
      injection hq with e1 e2
      subst e1; subst e2
      have hqs : rsmall 400000000 q := rsmall_of z2 z3
      have hzs := rsmall_add hps hqs
      have hyes : Hid (badd xs ⟨a0, a1, ⟨iS q.num, nS q.den⟩⟩ = some (bputR ⟨a0, a1, ⟨iS q.num, nS q.den⟩⟩ ⟨a0, a1, enc (p + q)⟩ (rsign (enc (p + q)) == 0) xs)) := by
        unfold Hid badd bput
        rw [c0, c1]
        dsimp only
        rw [hp, show (⟨iS q.num, nS q.den⟩ : RT) = enc q from rfl, radd_enc]; rfl
      have hG := fun W (hW : Below w.heap.size w W) => r6_get (c := c) a0 a1 W (hx.below hW) hz
      simp only [bget, c0, if_true, hp, enc_v] at hG
      have hA := fun W => r3_add p q W hps hqs
      simp only [enc_v] at hA
      have hS := fun W => r3_sign (iS (p + q).num) (nS (p + q).den) W (by have := iS_sz hzs.1; omega) (by rw [nS_size]; have := hzs.2; omega)
      rw [show enc (p + q) = ⟨iS (p + q).num, nS (p + q).den⟩ from rfl] at hyes
      generalize p + q = z at *
      obtain ⟨s, hs⟩ : ∃ s, rsign ⟨iS z.num, nS z.den⟩ = s := ⟨_, rfl⟩
      rw [hs] at hS hyes
      obtain ⟨L, hLd⟩ : ∃ b, (s == 0) = b := ⟨_, rfl⟩
      rw [hLd] at hyes
      obtain ⟨y0, hy0⟩ : ∃ b, iS z.num = b := ⟨_, rfl⟩
      obtain ⟨y1, hy1⟩ : ∃ b, nS z.den = b := ⟨_, rfl⟩
      rw [hy0, hy1] at hyes hA hS
      have hN := fun W hW => hG W hW
      clear hps hqs hzs hp hs hy0 hy1 hG
      go_enter Tryz.func27, Tryz.ntmps27
      go_wp2_with (first | (go_at_call 26; (with_reducible refine (hM).mono ?_); rintro e w1 ⟨rfl, hb1⟩; obtain ⟨hc1, hf1⟩ := bcell hb1; have hs1 := hb1.size; (try simp at hs1); have hv1 : w.heap.size < w1.heap.size := (by omega)) | (go_at_call 51; (with_reducible refine (hL _).mono ?_); rintro e w2 ⟨rfl, hb2⟩; obtain ⟨hc2, hf2⟩ := bcell hb2; have hs2 := hb2.size; (try simp at hs2); have hv2 : w.heap.size < w2.heap.size := (by omega)))
      have hBw2 : Below w.heap.size w w2 := (by repeat (first | exact Below.refl _ _ | assumption | refine b_then ?_ (by assumption) | refine b_alloc ?_ _ | refine b_drewN ?_ _ | refine Below.drew ?_ | refine b_set ?_ (by first | exact Nat.le_refl _ | (simp; done) | (simp; omega) | omega) _))
      (refine wp_region_boxed (T := 35) (A := ?boxA3) (u1 := .string ?boxU3) (u2 := .string ?boxV3) (z1 := .string ⟨#[]⟩) (z2 := .string ⟨#[]⟩) 9 10 8 6 26 (by kernel_rfl) (fun g => by kernel_rfl) (fun g x => ?boxH3) ⟨by kernel_rfl, by kernel_rfl, ⟨_, rfl, rfl, rfl, fun a W => run_alloc_rat rfl⟩, ⟨_, rfl, rfl, rfl, fun a W g h1 h2 hB => run_store_rat rfl h1 h2 hB⟩, ⟨_, rfl, rfl⟩, by kernel_rfl, by kernel_rfl, by decide, ?box13, ?box23, ?box33, ?box43⟩ (by decide) (by decide); (case boxH3 => (simp only [boxed, List.modify_succ_cons, List.modify_zero_cons, repA, repS]; (have hxs := x.h.size); (try simp at hxs); (repeat (first | go_big_quiet_skip | (go_big_quiet_want; go_big_quiet_op; first | go_big_quiet_on | (apply Exists.intro; refine ⟨fun _ => ?_, ?_⟩; (focus (first | (go_at_call 29; with_reducible exact Calls.after (hN _ (b_then hBw2 (b_then x.h (After.h _))))) | (go_at_call 33; with_reducible exact Calls.after (hA _)))); go_big_quiet_on)))); refine wpQuiet_nil ?_; rfl)); (case box13 => exact fun g => rfl); (case box23 => first | decide | simp); (case box33 => intro g; first | rfl | (simp only [List.getElem?_toArray, List.getElem?_cons_succ, List.getElem?_cons_zero]; rfl) | (simp; exact ⟨rfl, rfl⟩)); rintro g3 w3 hg3 hb3 D3; (try dsimp only); obtain ⟨hc3, hf3⟩ := bcell hb3; have hs3 := hb3.size; (try simp at hs3))
      have HB3 : Blk w3 w.heap.size 46 #[.string a0, .string a1, .string (iS q.num), .string (nS q.den)] := (((Blk.new w _ _).below hb1).below hb2).below hb3
      have BB3 : Below w.heap.size w w3 := b_then hBw2 hb3
      obtain ⟨d0, d1, _, _⟩ := D3.two
      have hgb : g3 < w3.heap.size := D3.lt
      have hwb : w.heap.size < w3.heap.size := by omega
      go_wp2_with (go_at_call 28; (with_reducible refine (hS _).mono ?_); rintro e w4 ⟨rfl, hb4⟩; obtain ⟨hc4, hf4⟩ := bcell hb4; have hs4 := hb4.size; (try simp at hs4))
      have S0 : AdSt w w3.heap.size g3 a0 a1 (iS q.num) (nS q.den) y0 y1 (.slice (some ⟨w3.heap.size, 0, none⟩) 0 0) [] w4 := AdSt.below ⟨Own.made0 (Nat.le_refl _), HB3.alloc _, D3.alloc _, b_alloc BB3 _, by simp⟩ hb4
      obtain ⟨b8, hb8⟩ : ∃ b, w3.heap.size = b := ⟨_, rfl⟩
      rw [hb8] at hgb hwb S0 ⊢
      have H0 : Hid (putI xs ⟨a0, a1, ⟨iS q.num, nS q.den⟩⟩ ⟨a0, a1, ⟨y0, y1⟩⟩ L 0 L []) := putI_zero _ _ _ _
      clear hb8 HB3 BB3 D3 d0 d1 hM hL hN hA hS hc1 hf1 hs1 hc2 hf2 hs2 hc3 hf3 hs3 hc4 hf4 hs4 hg3 hv1 hv2 hB0
      go_loopw [7, 8, 9] (fun out ld i wr => ∃ (k : Nat) (laid : Bool) (ys : List Ln), k ≤ n ∧ i = .int .i64 (k : Nat) ∧ ld = .bool laid ∧ Hid (putI xs ⟨a0, a1, ⟨iS q.num, nS q.den⟩⟩ ⟨a0, a1, ⟨y0, y1⟩⟩ L k laid ys) ∧ AdSt w b8 g3 a0 a1 (iS q.num) (nS q.den) y0 y1 out ys wr) (fun _ _ i _ => n - (intOf i).toNat)
      case atStart => exact ⟨0, L, [], Nat.zero_le _, rfl, rfl, H0, S0⟩
      case round =>
        clear S0 H0 hb1 hb2 hb3 hb4 hBw2
        obtain ⟨k, laid, ys, hk, rfl, rfl, H, S⟩ := hrel
        have hlen := putI_len H.out (by omega)
        by_cases hlt : k < n
        · obtain ⟨ad, b0, b1, b2, b3, rfl, hxk, hl⟩ := ln_in hx S.b hlt
          have HX := Lib.hid hxk
          have HL := Lib.hid hl
          clear hxk hl
          cases laid with
          | true =>
            by_cases c1 : (b0.toList == a0.toList) = true
            · by_cases c2 : (b1.toList == a1.toList) = true
              · have hh : Hid (lhit a0 a1 ⟨b0, b1, ⟨b2, b3⟩⟩ = true) := by unfold Hid lhit; dsimp only; rw [c1, c2]; rfl
                have hy0 := fun y : After wr => (HL.out y.W (b_then (Below.refl _ _) y.h)).c0
                have hy1 := fun y : After wr => (HL.out y.W (b_then (Below.refl _ _) y.h)).c1
                have hy2 := fun y : After wr => (HL.out y.W (b_then (Below.refl _ _) y.h)).c2
                have hy3 := fun y : After wr => (HL.out y.W (b_then (Below.refl _ _) y.h)).c3
                have hz0 := fun y : After wr => (S.box.below y.h).four_.1
                have hz1 := fun y : After wr => (S.box.below y.h).four_.2.1
                have hz2 := fun y : After wr => (S.box.below y.h).four_.2.2.1
                have hz3 := fun y : After wr => (S.box.below y.h).four_.2.2.2
                have hsW := S.b.size
                go_wp2_with fail
                (refine wp_region_after (by kernel_rfl) (by kernel_rfl) ?_; (repeat (first | go_big_quiet_skip | (go_big_quiet_want; go_big_quiet_op; first | go_big_quiet_on | (apply Exists.intro; refine ⟨fun _ => ?_, ?_⟩; (focus (fail)); go_big_quiet_on)))); refine wpQuiet_nil ?_; rintro w1 ⟨⟨_, hb1⟩, rfl⟩; (try dsimp only); obtain ⟨hc1, hf1⟩ := bcell hb1; have hs1 := hb1.size; (try simp at hs1))
                have S1 := S.below hb1
                clear hy0 hy1 hy2 hy3 hz0 hz1 hz2 hz3 hsW hc1 hf1 hs1
                have hy0 := fun y : After w1 => (HL.out y.W (b_then hb1 y.h)).c0
                have hy1 := fun y : After w1 => (HL.out y.W (b_then hb1 y.h)).c1
                have hy2 := fun y : After w1 => (HL.out y.W (b_then hb1 y.h)).c2
                have hy3 := fun y : After w1 => (HL.out y.W (b_then hb1 y.h)).c3
                have hz0 := fun y : After w1 => (S1.box.below y.h).four_.1
                have hz1 := fun y : After w1 => (S1.box.below y.h).four_.2.1
                have hz2 := fun y : After w1 => (S1.box.below y.h).four_.2.2.1
                have hz3 := fun y : After w1 => (S1.box.below y.h).four_.2.2.2
                have hsW := S1.b.size
                go_wp2_with fail
                (refine wp_region_after (by kernel_rfl) (by kernel_rfl) ?_; (repeat (first | go_big_quiet_skip | (go_big_quiet_want; go_big_quiet_op; first | go_big_quiet_on | (apply Exists.intro; refine ⟨fun _ => ?_, ?_⟩; (focus (fail)); go_big_quiet_on)))); refine wpQuiet_nil ?_; rintro w4 ⟨⟨_, hb4⟩, rfl⟩; (try dsimp only); obtain ⟨hc4, hf4⟩ := bcell hb4; have hs4 := hb4.size; (try simp at hs4))
                have S4 := S1.below hb4
                clear hy0 hy1 hy2 hy3 hz0 hz1 hz2 hz3 hc4 hf4 hs4
                go_wp2
                go_roundw
                case rel => exact ⟨k + 1, true, _, by omega, by go_num, rfl, putI_hit H.out HX.out hh.out, S4⟩
                case measure => simp [intOf]; omega
              · simp only [Bool.not_eq_true] at c2
                have hh : Hid (lhit a0 a1 ⟨b0, b1, ⟨b2, b3⟩⟩ = false) := by unfold Hid lhit; dsimp only; rw [c2, Bool.and_false]
                have hy0 := fun y : After wr => (HL.out y.W (b_then (Below.refl _ _) y.h)).c0
                have hy1 := fun y : After wr => (HL.out y.W (b_then (Below.refl _ _) y.h)).c1
                have hy2 := fun y : After wr => (HL.out y.W (b_then (Below.refl _ _) y.h)).c2
                have hy3 := fun y : After wr => (HL.out y.W (b_then (Below.refl _ _) y.h)).c3
                have hz0 := fun y : After wr => (S.box.below y.h).four_.1
                have hz1 := fun y : After wr => (S.box.below y.h).four_.2.1
                have hz2 := fun y : After wr => (S.box.below y.h).four_.2.2.1
                have hz3 := fun y : After wr => (S.box.below y.h).four_.2.2.2
                have hsW := S.b.size
                go_wp2_with fail
                (refine wp_region_after (by kernel_rfl) (by kernel_rfl) ?_; (repeat (first | go_big_quiet_skip | (go_big_quiet_want; go_big_quiet_op; first | go_big_quiet_on | (apply Exists.intro; refine ⟨fun _ => ?_, ?_⟩; (focus (fail)); go_big_quiet_on)))); refine wpQuiet_nil ?_; rintro w1 ⟨⟨_, hb1⟩, rfl⟩; (try dsimp only); obtain ⟨hc1, hf1⟩ := bcell hb1; have hs1 := hb1.size; (try simp at hs1))
                have S1 := S.below hb1
                clear hy0 hy1 hy2 hy3 hz0 hz1 hz2 hz3 hsW hc1 hf1 hs1
                have hy0 := fun y : After w1 => (HL.out y.W (b_then hb1 y.h)).c0
                have hy1 := fun y : After w1 => (HL.out y.W (b_then hb1 y.h)).c1
                have hy2 := fun y : After w1 => (HL.out y.W (b_then hb1 y.h)).c2
                have hy3 := fun y : After w1 => (HL.out y.W (b_then hb1 y.h)).c3
                have hz0 := fun y : After w1 => (S1.box.below y.h).four_.1
                have hz1 := fun y : After w1 => (S1.box.below y.h).four_.2.1
                have hz2 := fun y : After w1 => (S1.box.below y.h).four_.2.2.1
                have hz3 := fun y : After w1 => (S1.box.below y.h).four_.2.2.2
                have hsW := S1.b.size
                go_wp2_with fail
                (refine wp_region_after (by kernel_rfl) (by kernel_rfl) ?_; (repeat (first | go_big_quiet_skip | (go_big_quiet_want; go_big_quiet_op; first | go_big_quiet_on | (apply Exists.intro; refine ⟨fun _ => ?_, ?_⟩; (focus (fail)); go_big_quiet_on)))); refine wpQuiet_nil ?_; rintro w4 ⟨⟨_, hb4⟩, rfl⟩; (try dsimp only); obtain ⟨hc4, hf4⟩ := bcell hb4; have hs4 := hb4.size; (try simp at hs4))
                have S4 := S1.below hb4
                clear hy0 hy1 hy2 hy3 hz0 hz1 hz2 hz3 hc4 hf4 hs4
                obtain ⟨hx0, hx1, hx2, hx3, hx4⟩ := (HL.out w4 (b_then hb1 hb4))
                have hs4 := S4.b.size
                have hsB4 := S4.bs
                go_wp2_with (at_builtin; refine wpList_app (v := u7) Tryz.elemBook (by omega) Ln.cs_length Ln.cs_one rfl (.tmp 75) (.tmp 80) rfl rfl (S4.own.alloc _) ⟨w4.heap.size, 0, none⟩ 1 ⟨b0, b1, ⟨b2, b3⟩⟩ rfl (new_cells _ _ _ _ rfl) (by first | omega | (simp; omega)) (by first | omega | (simp; omega)) (by first | omega | (simp; omega)) ?_; intro v5 w5 hown5 hg5 hat5)
                go_roundw
                case rel => exact ⟨k + 1, true, _, by omega, by go_num, rfl, putI_keep H.out HX.out hh.out, S4.put _ hown5 hg5 hwb hgb⟩
                case measure => simp [intOf]; omega
            · simp only [Bool.not_eq_true] at c1
              have hh : Hid (lhit a0 a1 ⟨b0, b1, ⟨b2, b3⟩⟩ = false) := by unfold Hid lhit; dsimp only; rw [c1, Bool.false_and]
              have hy0 := fun y : After wr => (HL.out y.W (b_then (Below.refl _ _) y.h)).c0
              have hy1 := fun y : After wr => (HL.out y.W (b_then (Below.refl _ _) y.h)).c1
              have hy2 := fun y : After wr => (HL.out y.W (b_then (Below.refl _ _) y.h)).c2
              have hy3 := fun y : After wr => (HL.out y.W (b_then (Below.refl _ _) y.h)).c3
              have hz0 := fun y : After wr => (S.box.below y.h).four_.1
              have hz1 := fun y : After wr => (S.box.below y.h).four_.2.1
              have hz2 := fun y : After wr => (S.box.below y.h).four_.2.2.1
              have hz3 := fun y : After wr => (S.box.below y.h).four_.2.2.2
              have hsW := S.b.size
              go_wp2_with fail
              (refine wp_region_after (by kernel_rfl) (by kernel_rfl) ?_; (repeat (first | go_big_quiet_skip | (go_big_quiet_want; go_big_quiet_op; first | go_big_quiet_on | (apply Exists.intro; refine ⟨fun _ => ?_, ?_⟩; (focus (fail)); go_big_quiet_on)))); refine wpQuiet_nil ?_; rintro w1 ⟨⟨_, hb1⟩, rfl⟩; (try dsimp only); obtain ⟨hc1, hf1⟩ := bcell hb1; have hs1 := hb1.size; (try simp at hs1))
              have S1 := S.below hb1
              clear hy0 hy1 hy2 hy3 hz0 hz1 hz2 hz3 hsW hc1 hf1 hs1
              have hy0 := fun y : After w1 => (HL.out y.W (b_then hb1 y.h)).c0
              have hy1 := fun y : After w1 => (HL.out y.W (b_then hb1 y.h)).c1
              have hy2 := fun y : After w1 => (HL.out y.W (b_then hb1 y.h)).c2
              have hy3 := fun y : After w1 => (HL.out y.W (b_then hb1 y.h)).c3
              have hz0 := fun y : After w1 => (S1.box.below y.h).four_.1
              have hz1 := fun y : After w1 => (S1.box.below y.h).four_.2.1
              have hz2 := fun y : After w1 => (S1.box.below y.h).four_.2.2.1
              have hz3 := fun y : After w1 => (S1.box.below y.h).four_.2.2.2
              have hsW := S1.b.size
              go_wp2_with fail
              (refine wp_region_after (by kernel_rfl) (by kernel_rfl) ?_; (repeat (first | go_big_quiet_skip | (go_big_quiet_want; go_big_quiet_op; first | go_big_quiet_on | (apply Exists.intro; refine ⟨fun _ => ?_, ?_⟩; (focus (fail)); go_big_quiet_on)))); refine wpQuiet_nil ?_; rintro w4 ⟨⟨_, hb4⟩, rfl⟩; (try dsimp only); obtain ⟨hc4, hf4⟩ := bcell hb4; have hs4 := hb4.size; (try simp at hs4))
              have S4 := S1.below hb4
              clear hy0 hy1 hy2 hy3 hz0 hz1 hz2 hz3 hc4 hf4 hs4
              obtain ⟨hx0, hx1, hx2, hx3, hx4⟩ := (HL.out w4 (b_then hb1 hb4))
              have hs4 := S4.b.size
              have hsB4 := S4.bs
              go_wp2_with (at_builtin; refine wpList_app (v := u7) Tryz.elemBook (by omega) Ln.cs_length Ln.cs_one rfl (.tmp 75) (.tmp 80) rfl rfl (S4.own.alloc _) ⟨w4.heap.size, 0, none⟩ 1 ⟨b0, b1, ⟨b2, b3⟩⟩ rfl (new_cells _ _ _ _ rfl) (by first | omega | (simp; omega)) (by first | omega | (simp; omega)) (by first | omega | (simp; omega)) ?_; intro v5 w5 hown5 hg5 hat5)
              go_roundw
              case rel => exact ⟨k + 1, true, _, by omega, by go_num, rfl, putI_keep H.out HX.out hh.out, S4.put _ hown5 hg5 hwb hgb⟩
              case measure => simp [intOf]; omega
          | false =>
            cases ca : lahead ⟨b0, b1, ⟨b2, b3⟩⟩ ⟨a0, a1, ⟨iS q.num, nS q.den⟩⟩ with
            | true =>
              by_cases c1 : (b0.toList == a0.toList) = true
              · by_cases c2 : (b1.toList == a1.toList) = true
                · have := lahead_hit ca
                  unfold lhit at this
                  dsimp only at this
                  rw [c1, c2] at this
                  cases this
                · simp only [Bool.not_eq_true] at c2
                  have hh : Hid (lhit a0 a1 ⟨b0, b1, ⟨b2, b3⟩⟩ = false) := by unfold Hid lhit; dsimp only; rw [c2, Bool.and_false]
                  have hy0 := fun y : After wr => (HL.out y.W (b_then (Below.refl _ _) y.h)).c0
                  have hy1 := fun y : After wr => (HL.out y.W (b_then (Below.refl _ _) y.h)).c1
                  have hy2 := fun y : After wr => (HL.out y.W (b_then (Below.refl _ _) y.h)).c2
                  have hy3 := fun y : After wr => (HL.out y.W (b_then (Below.refl _ _) y.h)).c3
                  have hz0 := fun y : After wr => (S.box.below y.h).four_.1
                  have hz1 := fun y : After wr => (S.box.below y.h).four_.2.1
                  have hz2 := fun y : After wr => (S.box.below y.h).four_.2.2.1
                  have hz3 := fun y : After wr => (S.box.below y.h).four_.2.2.2
                  have hsW := S.b.size
                  go_wp2_with fail
                  (refine wp_region_after (by kernel_rfl) (by kernel_rfl) ?_; (repeat (first | go_big_quiet_skip | (go_big_quiet_want; go_big_quiet_op; first | go_big_quiet_on | (apply Exists.intro; refine ⟨fun _ => ?_, ?_⟩; (focus ((go_at_call 52; with_reducible exact Calls.after_of (r6_ahead _ _ _ _ _ _ _ _ _) (congrArg Value.bool ca)))); go_big_quiet_on)))); refine wpQuiet_nil ?_; rintro w1 ⟨⟨_, hb1⟩, rfl⟩; (try dsimp only); obtain ⟨hc1, hf1⟩ := bcell hb1; have hs1 := hb1.size; (try simp at hs1))
                  have S1 := S.below hb1
                  clear hy0 hy1 hy2 hy3 hz0 hz1 hz2 hz3 hsW hc1 hf1 hs1
                  have hy0 := fun y : After w1 => (HL.out y.W (b_then hb1 y.h)).c0
                  have hy1 := fun y : After w1 => (HL.out y.W (b_then hb1 y.h)).c1
                  have hy2 := fun y : After w1 => (HL.out y.W (b_then hb1 y.h)).c2
                  have hy3 := fun y : After w1 => (HL.out y.W (b_then hb1 y.h)).c3
                  have hz0 := fun y : After w1 => (S1.box.below y.h).four_.1
                  have hz1 := fun y : After w1 => (S1.box.below y.h).four_.2.1
                  have hz2 := fun y : After w1 => (S1.box.below y.h).four_.2.2.1
                  have hz3 := fun y : After w1 => (S1.box.below y.h).four_.2.2.2
                  have hsW := S1.b.size
                  go_wp2_with fail
                  (refine wp_region_after (by kernel_rfl) (by kernel_rfl) ?_; (repeat (first | go_big_quiet_skip | (go_big_quiet_want; go_big_quiet_op; first | go_big_quiet_on | (apply Exists.intro; refine ⟨fun _ => ?_, ?_⟩; (focus (fail)); go_big_quiet_on)))); refine wpQuiet_nil ?_; rintro w4 ⟨⟨_, hb4⟩, rfl⟩; (try dsimp only); obtain ⟨hc4, hf4⟩ := bcell hb4; have hs4 := hb4.size; (try simp at hs4))
                  have S4 := S1.below hb4
                  clear hy0 hy1 hy2 hy3 hz0 hz1 hz2 hz3 hc4 hf4 hs4
                  obtain ⟨hx0, hx1, hx2, hx3, hx4⟩ := (HL.out w4 (b_then hb1 hb4))
                  have hs4 := S4.b.size
                  have hsB4 := S4.bs
                  go_wp2_with (at_builtin; refine wpList_app (v := u7) Tryz.elemBook (by omega) Ln.cs_length Ln.cs_one rfl (.tmp 75) (.tmp 80) rfl rfl (S4.own.alloc _) ⟨w4.heap.size, 0, none⟩ 1 ⟨b0, b1, ⟨b2, b3⟩⟩ rfl (new_cells _ _ _ _ rfl) (by first | omega | (simp; omega)) (by first | omega | (simp; omega)) (by first | omega | (simp; omega)) ?_; intro v5 w5 hown5 hg5 hat5)
                  go_roundw
                  case rel => exact ⟨k + 1, false, _, by omega, by go_num, rfl, putI_ahead H.out HX.out ca, S4.put _ hown5 hg5 hwb hgb⟩
                  case measure => simp [intOf]; omega
              · simp only [Bool.not_eq_true] at c1
                have hh : Hid (lhit a0 a1 ⟨b0, b1, ⟨b2, b3⟩⟩ = false) := by unfold Hid lhit; dsimp only; rw [c1, Bool.false_and]
                have hy0 := fun y : After wr => (HL.out y.W (b_then (Below.refl _ _) y.h)).c0
                have hy1 := fun y : After wr => (HL.out y.W (b_then (Below.refl _ _) y.h)).c1
                have hy2 := fun y : After wr => (HL.out y.W (b_then (Below.refl _ _) y.h)).c2
                have hy3 := fun y : After wr => (HL.out y.W (b_then (Below.refl _ _) y.h)).c3
                have hz0 := fun y : After wr => (S.box.below y.h).four_.1
                have hz1 := fun y : After wr => (S.box.below y.h).four_.2.1
                have hz2 := fun y : After wr => (S.box.below y.h).four_.2.2.1
                have hz3 := fun y : After wr => (S.box.below y.h).four_.2.2.2
                have hsW := S.b.size
                go_wp2_with fail
                (refine wp_region_after (by kernel_rfl) (by kernel_rfl) ?_; (repeat (first | go_big_quiet_skip | (go_big_quiet_want; go_big_quiet_op; first | go_big_quiet_on | (apply Exists.intro; refine ⟨fun _ => ?_, ?_⟩; (focus ((go_at_call 52; with_reducible exact Calls.after_of (r6_ahead _ _ _ _ _ _ _ _ _) (congrArg Value.bool ca)))); go_big_quiet_on)))); refine wpQuiet_nil ?_; rintro w1 ⟨⟨_, hb1⟩, rfl⟩; (try dsimp only); obtain ⟨hc1, hf1⟩ := bcell hb1; have hs1 := hb1.size; (try simp at hs1))
                have S1 := S.below hb1
                clear hy0 hy1 hy2 hy3 hz0 hz1 hz2 hz3 hsW hc1 hf1 hs1
                have hy0 := fun y : After w1 => (HL.out y.W (b_then hb1 y.h)).c0
                have hy1 := fun y : After w1 => (HL.out y.W (b_then hb1 y.h)).c1
                have hy2 := fun y : After w1 => (HL.out y.W (b_then hb1 y.h)).c2
                have hy3 := fun y : After w1 => (HL.out y.W (b_then hb1 y.h)).c3
                have hz0 := fun y : After w1 => (S1.box.below y.h).four_.1
                have hz1 := fun y : After w1 => (S1.box.below y.h).four_.2.1
                have hz2 := fun y : After w1 => (S1.box.below y.h).four_.2.2.1
                have hz3 := fun y : After w1 => (S1.box.below y.h).four_.2.2.2
                have hsW := S1.b.size
                go_wp2_with fail
                (refine wp_region_after (by kernel_rfl) (by kernel_rfl) ?_; (repeat (first | go_big_quiet_skip | (go_big_quiet_want; go_big_quiet_op; first | go_big_quiet_on | (apply Exists.intro; refine ⟨fun _ => ?_, ?_⟩; (focus (fail)); go_big_quiet_on)))); refine wpQuiet_nil ?_; rintro w4 ⟨⟨_, hb4⟩, rfl⟩; (try dsimp only); obtain ⟨hc4, hf4⟩ := bcell hb4; have hs4 := hb4.size; (try simp at hs4))
                have S4 := S1.below hb4
                clear hy0 hy1 hy2 hy3 hz0 hz1 hz2 hz3 hc4 hf4 hs4
                obtain ⟨hx0, hx1, hx2, hx3, hx4⟩ := (HL.out w4 (b_then hb1 hb4))
                have hs4 := S4.b.size
                have hsB4 := S4.bs
                go_wp2_with (at_builtin; refine wpList_app (v := u7) Tryz.elemBook (by omega) Ln.cs_length Ln.cs_one rfl (.tmp 75) (.tmp 80) rfl rfl (S4.own.alloc _) ⟨w4.heap.size, 0, none⟩ 1 ⟨b0, b1, ⟨b2, b3⟩⟩ rfl (new_cells _ _ _ _ rfl) (by first | omega | (simp; omega)) (by first | omega | (simp; omega)) (by first | omega | (simp; omega)) ?_; intro v5 w5 hown5 hg5 hat5)
                go_roundw
                case rel => exact ⟨k + 1, false, _, by omega, by go_num, rfl, putI_ahead H.out HX.out ca, S4.put _ hown5 hg5 hwb hgb⟩
                case measure => simp [intOf]; omega
            | false =>
              by_cases c1 : (b0.toList == a0.toList) = true
              · by_cases c2 : (b1.toList == a1.toList) = true
                · have hh : Hid (lhit a0 a1 ⟨b0, b1, ⟨b2, b3⟩⟩ = true) := by unfold Hid lhit; dsimp only; rw [c1, c2]; rfl
                  have hy0 := fun y : After wr => (HL.out y.W (b_then (Below.refl _ _) y.h)).c0
                  have hy1 := fun y : After wr => (HL.out y.W (b_then (Below.refl _ _) y.h)).c1
                  have hy2 := fun y : After wr => (HL.out y.W (b_then (Below.refl _ _) y.h)).c2
                  have hy3 := fun y : After wr => (HL.out y.W (b_then (Below.refl _ _) y.h)).c3
                  have hz0 := fun y : After wr => (S.box.below y.h).four_.1
                  have hz1 := fun y : After wr => (S.box.below y.h).four_.2.1
                  have hz2 := fun y : After wr => (S.box.below y.h).four_.2.2.1
                  have hz3 := fun y : After wr => (S.box.below y.h).four_.2.2.2
                  have hsW := S.b.size
                  go_wp2_with fail
                  (refine wp_region_after (by kernel_rfl) (by kernel_rfl) ?_; (repeat (first | go_big_quiet_skip | (go_big_quiet_want; go_big_quiet_op; first | go_big_quiet_on | (apply Exists.intro; refine ⟨fun _ => ?_, ?_⟩; (focus ((go_at_call 52; with_reducible exact Calls.after_of (r6_ahead _ _ _ _ _ _ _ _ _) (congrArg Value.bool ca)))); go_big_quiet_on)))); refine wpQuiet_nil ?_; rintro w1 ⟨⟨_, hb1⟩, rfl⟩; (try dsimp only); obtain ⟨hc1, hf1⟩ := bcell hb1; have hs1 := hb1.size; (try simp at hs1))
                  have S1 := S.below hb1
                  clear hy0 hy1 hy2 hy3 hz0 hz1 hz2 hz3 hsW hc1 hf1 hs1
                  obtain ⟨p0, p1, p2, p3⟩ := S1.box.four_
                  obtain ⟨q0, q1, _, _⟩ := S1.q.two
                  have hsW := S1.b.size
                  have hsB := S1.bs
                  go_upto_region 12 with (at_builtin; refine wpList_app (v := u7) Tryz.elemBook (by omega) Ln.cs_length Ln.cs_one rfl (.tmp 48) (.tmp 55) rfl rfl (S1.own.alloc _) ⟨w1.heap.size, 0, none⟩ 1 ⟨a0, a1, ⟨y0, y1⟩⟩ rfl (new_cells _ _ _ _ rfl) (by first | omega | (simp; omega)) (by first | omega | (simp; omega)) (by first | omega | (simp; omega)) ?_; intro v2 w2 hown2 hg2 hat2)
                  have S2 := S1.put _ hown2 hg2 hwb hgb
                  clear p0 p1 p2 p3 q0 q1 hsW hsB hat2
                  have hlen2 : (ys ++ [(⟨a0, a1, ⟨y0, y1⟩⟩ : Ln)]).length ≤ 1000002 := by simp; omega
                  have HL2 := Lib.hid (fun w3 (h : Below w2.heap.size w2 w3) => ln_get hx (b_then S2.b h) hlt HX.out)
                  clear HL
                  have hy0 := fun y : After w2 => (HL2.out y.W y.h).c0
                  have hy1 := fun y : After w2 => (HL2.out y.W y.h).c1
                  have hy2 := fun y : After w2 => (HL2.out y.W y.h).c2
                  have hy3 := fun y : After w2 => (HL2.out y.W y.h).c3
                  have hz0 := fun y : After w2 => (S2.box.below y.h).four_.1
                  have hz1 := fun y : After w2 => (S2.box.below y.h).four_.2.1
                  have hz2 := fun y : After w2 => (S2.box.below y.h).four_.2.2.1
                  have hz3 := fun y : After w2 => (S2.box.below y.h).four_.2.2.2
                  have hsW := S2.b.size
                  go_wp2_with fail
                  (refine wp_region_after (by kernel_rfl) (by kernel_rfl) ?_; (repeat (first | go_big_quiet_skip | (go_big_quiet_want; go_big_quiet_op; first | go_big_quiet_on | (apply Exists.intro; refine ⟨fun _ => ?_, ?_⟩; (focus (fail)); go_big_quiet_on)))); refine wpQuiet_nil ?_; rintro w4 ⟨⟨_, hb4⟩, rfl⟩; (try dsimp only); obtain ⟨hc4, hf4⟩ := bcell hb4; have hs4 := hb4.size; (try simp at hs4))
                  have S4 := S2.below hb4
                  clear hy0 hy1 hy2 hy3 hz0 hz1 hz2 hz3 hc4 hf4 hs4
                  go_wp2
                  go_roundw
                  case rel => exact ⟨k + 1, true, _, by omega, by go_num, rfl, putI_new_hit H.out HX.out ca hh.out, S4⟩
                  case measure => simp [intOf]; omega
                · simp only [Bool.not_eq_true] at c2
                  have hh : Hid (lhit a0 a1 ⟨b0, b1, ⟨b2, b3⟩⟩ = false) := by unfold Hid lhit; dsimp only; rw [c2, Bool.and_false]
                  have hy0 := fun y : After wr => (HL.out y.W (b_then (Below.refl _ _) y.h)).c0
                  have hy1 := fun y : After wr => (HL.out y.W (b_then (Below.refl _ _) y.h)).c1
                  have hy2 := fun y : After wr => (HL.out y.W (b_then (Below.refl _ _) y.h)).c2
                  have hy3 := fun y : After wr => (HL.out y.W (b_then (Below.refl _ _) y.h)).c3
                  have hz0 := fun y : After wr => (S.box.below y.h).four_.1
                  have hz1 := fun y : After wr => (S.box.below y.h).four_.2.1
                  have hz2 := fun y : After wr => (S.box.below y.h).four_.2.2.1
                  have hz3 := fun y : After wr => (S.box.below y.h).four_.2.2.2
                  have hsW := S.b.size
                  go_wp2_with fail
                  (refine wp_region_after (by kernel_rfl) (by kernel_rfl) ?_; (repeat (first | go_big_quiet_skip | (go_big_quiet_want; go_big_quiet_op; first | go_big_quiet_on | (apply Exists.intro; refine ⟨fun _ => ?_, ?_⟩; (focus ((go_at_call 52; with_reducible exact Calls.after_of (r6_ahead _ _ _ _ _ _ _ _ _) (congrArg Value.bool ca)))); go_big_quiet_on)))); refine wpQuiet_nil ?_; rintro w1 ⟨⟨_, hb1⟩, rfl⟩; (try dsimp only); obtain ⟨hc1, hf1⟩ := bcell hb1; have hs1 := hb1.size; (try simp at hs1))
                  have S1 := S.below hb1
                  clear hy0 hy1 hy2 hy3 hz0 hz1 hz2 hz3 hsW hc1 hf1 hs1
                  obtain ⟨p0, p1, p2, p3⟩ := S1.box.four_
                  obtain ⟨q0, q1, _, _⟩ := S1.q.two
                  have hsW := S1.b.size
                  have hsB := S1.bs
                  go_upto_region 12 with (at_builtin; refine wpList_app (v := u7) Tryz.elemBook (by omega) Ln.cs_length Ln.cs_one rfl (.tmp 48) (.tmp 55) rfl rfl (S1.own.alloc _) ⟨w1.heap.size, 0, none⟩ 1 ⟨a0, a1, ⟨y0, y1⟩⟩ rfl (new_cells _ _ _ _ rfl) (by first | omega | (simp; omega)) (by first | omega | (simp; omega)) (by first | omega | (simp; omega)) ?_; intro v2 w2 hown2 hg2 hat2)
                  have S2 := S1.put _ hown2 hg2 hwb hgb
                  clear p0 p1 p2 p3 q0 q1 hsW hsB hat2
                  have hlen2 : (ys ++ [(⟨a0, a1, ⟨y0, y1⟩⟩ : Ln)]).length ≤ 1000002 := by simp; omega
                  have HL2 := Lib.hid (fun w3 (h : Below w2.heap.size w2 w3) => ln_get hx (b_then S2.b h) hlt HX.out)
                  clear HL
                  have hy0 := fun y : After w2 => (HL2.out y.W y.h).c0
                  have hy1 := fun y : After w2 => (HL2.out y.W y.h).c1
                  have hy2 := fun y : After w2 => (HL2.out y.W y.h).c2
                  have hy3 := fun y : After w2 => (HL2.out y.W y.h).c3
                  have hz0 := fun y : After w2 => (S2.box.below y.h).four_.1
                  have hz1 := fun y : After w2 => (S2.box.below y.h).four_.2.1
                  have hz2 := fun y : After w2 => (S2.box.below y.h).four_.2.2.1
                  have hz3 := fun y : After w2 => (S2.box.below y.h).four_.2.2.2
                  have hsW := S2.b.size
                  go_wp2_with fail
                  (refine wp_region_after (by kernel_rfl) (by kernel_rfl) ?_; (repeat (first | go_big_quiet_skip | (go_big_quiet_want; go_big_quiet_op; first | go_big_quiet_on | (apply Exists.intro; refine ⟨fun _ => ?_, ?_⟩; (focus (fail)); go_big_quiet_on)))); refine wpQuiet_nil ?_; rintro w4 ⟨⟨_, hb4⟩, rfl⟩; (try dsimp only); obtain ⟨hc4, hf4⟩ := bcell hb4; have hs4 := hb4.size; (try simp at hs4))
                  have S4 := S2.below hb4
                  clear hy0 hy1 hy2 hy3 hz0 hz1 hz2 hz3 hc4 hf4 hs4
                  obtain ⟨hx0, hx1, hx2, hx3, hx4⟩ := (HL2.out w4 hb4)
                  have hs4 := S4.b.size
                  have hsB4 := S4.bs
                  go_wp2_with (at_builtin; refine wpList_app (v := v2) Tryz.elemBook (by omega) Ln.cs_length Ln.cs_one rfl (.tmp 75) (.tmp 80) rfl rfl (S4.own.alloc _) ⟨w4.heap.size, 0, none⟩ 1 ⟨b0, b1, ⟨b2, b3⟩⟩ rfl (new_cells _ _ _ _ rfl) (by first | omega | (simp; omega)) (by first | omega | (simp; omega)) (by first | omega | (simp; omega)) ?_; intro v5 w5 hown5 hg5 hat5)
                  go_roundw
                  case rel => exact ⟨k + 1, true, _, by omega, by go_num, rfl, putI_new H.out HX.out ca hh.out, S4.put _ hown5 hg5 hwb hgb⟩
                  case measure => simp [intOf]; omega
              · simp only [Bool.not_eq_true] at c1
                have hh : Hid (lhit a0 a1 ⟨b0, b1, ⟨b2, b3⟩⟩ = false) := by unfold Hid lhit; dsimp only; rw [c1, Bool.false_and]
                have hy0 := fun y : After wr => (HL.out y.W (b_then (Below.refl _ _) y.h)).c0
                have hy1 := fun y : After wr => (HL.out y.W (b_then (Below.refl _ _) y.h)).c1
                have hy2 := fun y : After wr => (HL.out y.W (b_then (Below.refl _ _) y.h)).c2
                have hy3 := fun y : After wr => (HL.out y.W (b_then (Below.refl _ _) y.h)).c3
                have hz0 := fun y : After wr => (S.box.below y.h).four_.1
                have hz1 := fun y : After wr => (S.box.below y.h).four_.2.1
                have hz2 := fun y : After wr => (S.box.below y.h).four_.2.2.1
                have hz3 := fun y : After wr => (S.box.below y.h).four_.2.2.2
                have hsW := S.b.size
                go_wp2_with fail
                (refine wp_region_after (by kernel_rfl) (by kernel_rfl) ?_; (repeat (first | go_big_quiet_skip | (go_big_quiet_want; go_big_quiet_op; first | go_big_quiet_on | (apply Exists.intro; refine ⟨fun _ => ?_, ?_⟩; (focus ((go_at_call 52; with_reducible exact Calls.after_of (r6_ahead _ _ _ _ _ _ _ _ _) (congrArg Value.bool ca)))); go_big_quiet_on)))); refine wpQuiet_nil ?_; rintro w1 ⟨⟨_, hb1⟩, rfl⟩; (try dsimp only); obtain ⟨hc1, hf1⟩ := bcell hb1; have hs1 := hb1.size; (try simp at hs1))
                have S1 := S.below hb1
                clear hy0 hy1 hy2 hy3 hz0 hz1 hz2 hz3 hsW hc1 hf1 hs1
                obtain ⟨p0, p1, p2, p3⟩ := S1.box.four_
                obtain ⟨q0, q1, _, _⟩ := S1.q.two
                have hsW := S1.b.size
                have hsB := S1.bs
                go_upto_region 12 with (at_builtin; refine wpList_app (v := u7) Tryz.elemBook (by omega) Ln.cs_length Ln.cs_one rfl (.tmp 48) (.tmp 55) rfl rfl (S1.own.alloc _) ⟨w1.heap.size, 0, none⟩ 1 ⟨a0, a1, ⟨y0, y1⟩⟩ rfl (new_cells _ _ _ _ rfl) (by first | omega | (simp; omega)) (by first | omega | (simp; omega)) (by first | omega | (simp; omega)) ?_; intro v2 w2 hown2 hg2 hat2)
                have S2 := S1.put _ hown2 hg2 hwb hgb
                clear p0 p1 p2 p3 q0 q1 hsW hsB hat2
                have hlen2 : (ys ++ [(⟨a0, a1, ⟨y0, y1⟩⟩ : Ln)]).length ≤ 1000002 := by simp; omega
                have HL2 := Lib.hid (fun w3 (h : Below w2.heap.size w2 w3) => ln_get hx (b_then S2.b h) hlt HX.out)
                clear HL
                have hy0 := fun y : After w2 => (HL2.out y.W y.h).c0
                have hy1 := fun y : After w2 => (HL2.out y.W y.h).c1
                have hy2 := fun y : After w2 => (HL2.out y.W y.h).c2
                have hy3 := fun y : After w2 => (HL2.out y.W y.h).c3
                have hz0 := fun y : After w2 => (S2.box.below y.h).four_.1
                have hz1 := fun y : After w2 => (S2.box.below y.h).four_.2.1
                have hz2 := fun y : After w2 => (S2.box.below y.h).four_.2.2.1
                have hz3 := fun y : After w2 => (S2.box.below y.h).four_.2.2.2
                have hsW := S2.b.size
                go_wp2_with fail
                (refine wp_region_after (by kernel_rfl) (by kernel_rfl) ?_; (repeat (first | go_big_quiet_skip | (go_big_quiet_want; go_big_quiet_op; first | go_big_quiet_on | (apply Exists.intro; refine ⟨fun _ => ?_, ?_⟩; (focus (fail)); go_big_quiet_on)))); refine wpQuiet_nil ?_; rintro w4 ⟨⟨_, hb4⟩, rfl⟩; (try dsimp only); obtain ⟨hc4, hf4⟩ := bcell hb4; have hs4 := hb4.size; (try simp at hs4))
                have S4 := S2.below hb4
                clear hy0 hy1 hy2 hy3 hz0 hz1 hz2 hz3 hc4 hf4 hs4
                obtain ⟨hx0, hx1, hx2, hx3, hx4⟩ := (HL2.out w4 hb4)
                have hs4 := S4.b.size
                have hsB4 := S4.bs
                go_wp2_with (at_builtin; refine wpList_app (v := v2) Tryz.elemBook (by omega) Ln.cs_length Ln.cs_one rfl (.tmp 75) (.tmp 80) rfl rfl (S4.own.alloc _) ⟨w4.heap.size, 0, none⟩ 1 ⟨b0, b1, ⟨b2, b3⟩⟩ rfl (new_cells _ _ _ _ rfl) (by first | omega | (simp; omega)) (by first | omega | (simp; omega)) (by first | omega | (simp; omega)) ?_; intro v5 w5 hown5 hg5 hat5)
                go_roundw
                case rel => exact ⟨k + 1, true, _, by omega, by go_num, rfl, putI_new H.out HX.out ca hh.out, S4.put _ hown5 hg5 hwb hgb⟩
                case measure => simp [intOf]; omega
        · obtain rfl : k = n := by omega
          have hk2 : k = xs.length := hxl.symm
          cases laid with
          | true =>
            have hfin := putI_end (by rw [hk2] at H; exact H.out)
            have HF := Lib.hid hfin
            clear hfin hk2
            go_wp2
            go_ret2
            exact addPost_yes (by rw [hyes.out, HF.out]) S.own (Nat.le_of_lt hwb) S.b
          | false =>
            have hfin := putI_endN (by rw [hk2] at H; exact H.out)
            have HF := Lib.hid hfin
            clear hfin hk2
            obtain ⟨p0, p1, p2, p3⟩ := S.box.four_
            obtain ⟨q0, q1, _, _⟩ := S.q.two
            have hsW := S.b.size
            have hsB := S.bs
            go_wp2_with (at_builtin; refine wpList_app (v := u7) Tryz.elemBook (by omega) Ln.cs_length Ln.cs_one rfl (.tmp 84) (.tmp 91) rfl rfl (S.own.alloc _) ⟨wr.heap.size, 0, none⟩ 1 ⟨a0, a1, ⟨y0, y1⟩⟩ rfl (new_cells _ _ _ _ rfl) (by first | omega | (simp; omega)) (by first | omega | (simp; omega)) (by first | omega | (simp; omega)) ?_; intro v2 w2 hown2 hg2 hat2)
            have S2 := S.put _ hown2 hg2 hwb hgb
            go_ret2
            exact addPost_yes (by rw [hyes.out, HF.out]) S2.own (Nat.le_of_lt hwb) S2.b
end Go.Proofs.YtjdkbmlkplbmoaaGreatDoor

/- Walks of the references' books: Holders, Total. -/
namespace Go.Proofs.YtjdkbmlkplbmoaaGreatDoor
open Go.RowKit
set_option linter.unusedVariables false
set_option linter.unusedSimpArgs false

theorem filter_take_yes {α : Type} {p : α → Bool} {l : List α} {k : Nat} {x : α} (hx : l[k]? = some x) (h : p x = true) : (l.take (k + 1)).filter p = (l.take k).filter p ++ [x] := by
  rw [List.take_add_one, hx, List.filter_append]; simp [h]
theorem filter_take_no {α : Type} {p : α → Bool} {l : List α} {k : Nat} {x : α} (hx : l[k]? = some x) (h : p x = false) : (l.take (k + 1)).filter p = (l.take k).filter p := by
  rw [List.take_add_one, hx, List.filter_append]; simp [h]
theorem bholders_yes {xs : List Ln} {a : ByteArray} (h : bmay xs = true) : bholders xs a = xs.filter (ofAsset a) := by unfold bholders; rw [if_pos h]; rfl
theorem bholders_no {xs : List Ln} {a : ByteArray} (h : bmay xs = false) : bholders xs a = [] := by unfold bholders; rw [h]; rfl
def HoldPost (xs : List Ln) (a : ByteArray) (w : World) (e : Ending) (w' : World) : Prop := ∃ v, e = .returned v ∧ Own Ln.cs 4 46 w' w.heap.size v (bholders xs a) ∧ Below w.heap.size w w'
set_option maxRecDepth 100000 in
set_option maxHeartbeats 1000000 in
theorem r6_holders {A : Option Addr} {n c : Nat} {xs : List Ln} (a : ByteArray) (w : World) (hx : Rd Ln.cs 4 w A n xs) (hn : n ≤ 1000000) (hz : ∀ f ∈ xs, lnq f) :
    Calls Tryz.prog 55 #[.slice A n c, .string a] w fun e w' => HoldPost xs a w e w' := by
  have hxl := hx.len
  have hM := fun W (h : Below w.heap.size w W) => r6_may (c := c) W (hx.below h) hz
  go_enter Tryz.func55, Tryz.ntmps55
  go_wp2
  go_loopw [5, 6] (fun out i wr => ∃ (k : Nat) (ys : List Ln), k ≤ n ∧ i = .int .i64 (k : Nat) ∧ Hid (bmay xs = true ∨ k = 0) ∧ Hid (ys = (xs.take k).filter (ofAsset a)) ∧ Own Ln.cs 4 46 wr w.heap.size out ys ∧ Below w.heap.size w wr) (fun _ i _ => n - (intOf i).toNat)
  case atStart => exact ⟨0, [], Nat.zero_le _, rfl, .inr rfl, by simp [Hid], Own.made0 (Nat.le_refl _), (by repeat (first | exact Below.refl _ _ | assumption | refine b_then ?_ (by assumption) | refine b_alloc ?_ _ | refine b_drewN ?_ _ | refine Below.drew ?_ | refine b_set ?_ (by first | exact Nat.le_refl _ | (simp; done) | (simp; omega) | omega) _))⟩
  case round =>
    obtain ⟨k, ys, hk, rfl, H0, H, hown, hB⟩ := hrel
    have hs0 := hB.size
    have hyl : ys.length ≤ 1000000 := by
      have := List.length_filter_le (ofAsset a) (xs.take k)
      rw [← H.out, List.length_take] at this
      omega
    by_cases hlt : k < n
    · have hM' := hM wr hB
      cases c0 : bmay xs with
      | false =>
        rw [c0] at hM'
        obtain rfl : k = 0 := by
          rcases H0.out with h | h
          · rw [c0] at h; cases h
          · exact h
        have hys : ys = [] := by have := H.out; simpa using this
        subst hys
        have HN := Lib.hid (bholders_no (a := a) c0)
        go_wp2_with (go_at_call 26; (with_reducible refine (hM').mono ?_); rintro e w1 ⟨rfl, hb1⟩; obtain ⟨hc1, hf1⟩ := bcell hb1; have hs1 := hb1.size; (try simp at hs1))
        go_ret
        exact ⟨_, rfl, by rw [HN.out]; exact hown.below hb1, (by repeat (first | exact Below.refl _ _ | assumption | refine b_then ?_ (by assumption) | refine b_alloc ?_ _ | refine b_drewN ?_ _ | refine Below.drew ?_ | refine b_set ?_ (by first | exact Nat.le_refl _ | (simp; done) | (simp; omega) | omega) _))⟩
      | true =>
        rw [c0] at hM'
        have C0 : Hid (bmay xs = true ∨ k + 1 = 0) := .inl c0
        clear c0 H0
        obtain ⟨ad, a0, a1, a2, a3, rfl, hxk, hl⟩ := ln_in hx hB hlt
        have HX := Lib.hid hxk
        have HL := Lib.hid hl
        clear hxk hl
        cases c1 : (a1.toList == a.toList) with
        | true =>
          have HY : Hid ((xs.take (k + 1)).filter (ofAsset a) = ys ++ [⟨a0, a1, ⟨a2, a3⟩⟩]) := by
            unfold Hid; rw [filter_take_yes HX.out (by unfold ofAsset; exact c1), H.out]
          go_wp2_with (first | (go_at_call 26; (with_reducible refine (hM').mono ?_); rintro e w1 ⟨rfl, hb1⟩; obtain ⟨hc1, hf1⟩ := bcell hb1; have hs1 := hb1.size; (try simp at hs1); obtain ⟨hx0, hx1, hx2, hx3, hx4⟩ := HL.out w1 hb1; have hown1 := hown.below hb1; have hs1' := hs1) | (at_builtin; refine wpList_app (v := u5) Tryz.elemLines (by omega) Ln.cs_length Ln.cs_one rfl (.tmp 25) (.tmp 30) rfl rfl (hown1.alloc _) ⟨w1.heap.size, 0, none⟩ 1 ⟨a0, a1, ⟨a2, a3⟩⟩ rfl (new_cells _ _ _ _ rfl) (by first | omega | (simp; omega)) (by first | omega | (simp; omega)) (by first | omega | (simp; omega)) ?_; intro v2 w2 hown2 hg2 hat2))
          go_roundw
          case rel => exact ⟨k + 1, _, by omega, by go_num, (by first | exact C0 | exact .inl trivial), HY.out.symm, hown2, (hown1.alloc _).frame (b_alloc (b_then hB hb1) _) (by omega) hg2⟩
          case measure => simp [intOf]; omega
        | false =>
          have HY : Hid ((xs.take (k + 1)).filter (ofAsset a) = ys) := by
            unfold Hid; rw [filter_take_no HX.out (by unfold ofAsset; exact c1), H.out]
          go_wp2_with (go_at_call 26; (with_reducible refine (hM').mono ?_); rintro e w1 ⟨rfl, hb1⟩; obtain ⟨hc1, hf1⟩ := bcell hb1; have hs1 := hb1.size; (try simp at hs1); obtain ⟨hx0, hx1, hx2, hx3, hx4⟩ := HL.out w1 hb1; have hown1 := hown.below hb1; have hs1' := hs1)
          go_roundw
          case rel => exact ⟨k + 1, _, by omega, by go_num, (by first | exact C0 | exact .inl trivial), HY.out.symm, hown1, b_then hB hb1⟩
          case measure => simp [intOf]; omega
    · obtain rfl : k = n := by omega
      have hfin : bholders xs a = ys := by
        cases c0 : bmay xs with
        | true => rw [bholders_yes c0, H.out, ← hxl, List.take_length]
        | false =>
          rcases H0.out with h | h
          · rw [c0] at h; cases h
          · rw [bholders_no c0, H.out, h]; rfl
      have HF := Lib.hid hfin
      clear hfin
      go_wp2
      go_ret
      exact ⟨_, rfl, by rw [HF.out]; exact hown, hB⟩

/-! ### Total -/
/-- So few digits that a total can be reckoned. -/
def lnS (l : Ln) : Prop := l.acct.size ≤ 9000000000 ∧ l.asset.size ≤ 9000000000 ∧ l.q.num.size ≤ 1000000 ∧ l.q.den.size ≤ 1000000
theorem lnS_q {l : Ln} (h : lnS l) : lnq l := ⟨h.1, h.2.1, by have := h.2.2.1; omega, by have := h.2.2.2; omega⟩
theorem rsmall_zero (k : Nat) (h : 1 ≤ k) : rsmall k 0 := ⟨by show ndg 0 ≤ _; rw [ndg_small (by omega)]; omega, by show ndg 1 ≤ _; rw [ndg_small (by omega)]; omega⟩
theorem dsum_take {l : List Ln} {k : Nat} {x : Ln} (hx : l[k]? = some x) : dsum (l.take (k + 1)) = dsum (l.take k) + dec x.q := by
  rw [List.take_add_one, hx, dsum_append]
  show dsum (l.take k) + (dec x.q + 0) = _
  rw [Rat.add_zero]
/-- An element's number. -/
theorem ln_rat {l : Ln} (h : rmay l.q = true) (hs : lnS l) : ∃ q : Rat, l.q = enc q ∧ dec l.q = q ∧ rsmall 1000000 q := by
  obtain ⟨q, hq⟩ := rmay_of h
  refine ⟨q, hq, by rw [hq, dec_enc], ?_⟩
  have h1 := hs.2.2
  rw [hq] at h1
  exact rsmall_of h1.1 h1.2
def sumI (hs : List Ln) (k : Nat) (z : Rat) : Prop := z = dsum (hs.take k) ∧ rsmall (1 + k * 1000001) z
theorem sumI_zero (hs : List Ln) : sumI hs 0 0 := ⟨rfl, rsmall_zero _ (by omega)⟩
theorem sumI_step {hs : List Ln} {k : Nat} {z q : Rat} {x : Ln} (h : sumI hs k z) (hx : hs[k]? = some x) (hq : dec x.q = q) (hqs : rsmall 1000000 q) : sumI hs (k + 1) (z + q) :=
  ⟨by rw [dsum_take hx, hq, h.1], rsmall_mono (rsmall_add h.2 hqs) (by omega)⟩
theorem hold_mem {xs : List Ln} {a : ByteArray} (hm : bmay xs = true) (hz : ∀ f ∈ xs, lnS f) : ∀ f ∈ bholders xs a, rmay f.q = true ∧ lnS f := by
  intro f hf
  rw [bholders_yes hm] at hf
  have := (List.mem_filter.1 hf).1
  exact ⟨(lgood_of (bmay_all hm f this)).2.2.1, hz f this⟩
theorem hold_len (xs : List Ln) (a : ByteArray) : (bholders xs a).length ≤ xs.length := by
  unfold bholders
  split
  · exact List.length_filter_le _ _
  · exact Nat.zero_le _
theorem btotal_no {xs : List Ln} {a : ByteArray} (h : bmay xs = false) : btotal xs a = rzero := by unfold btotal; rw [h]; rfl
theorem btotal_yes {xs : List Ln} {a : ByteArray} (h : bmay xs = true) : btotal xs a = enc (dsum (bholders xs a)) := by
  rw [btotal_enc h, bholders_yes h]; rfl
set_option maxRecDepth 100000 in
set_option maxHeartbeats 1000000 in
theorem r6_total {A : Option Addr} {n c : Nat} {xs : List Ln} (a : ByteArray) (w : World) (hx : Rd Ln.cs 4 w A n xs) (hn : n ≤ 300) (hz : ∀ f ∈ xs, lnS f) :
    Calls Tryz.prog 30 #[.slice A n c, .string a] w fun e w' => e = .returned (btotal xs a).v ∧ Below w.heap.size w w' := by
  have hxl := hx.len
  have hzq : ∀ f ∈ xs, lnq f := fun f h => lnS_q (hz f h)
  have hB0 : Below w.heap.size w (w.alloc (.cells #[.string ⟨#[]⟩, .string ⟨#[]⟩] 35)) := b_alloc (Below.refl _ _) _
  have hM := r6_may _ (hx.below hB0) hzq (c := c)
  cases c0 : bmay xs with
  | false =>
    rw [c0] at hM
    have hv : Hid ((btotal xs a).v = .agg #[.string ⟨#[]⟩, .string ⟨#[]⟩]) := by unfold Hid; rw [btotal_no c0]; rfl
    go_enter Tryz.func30, Tryz.ntmps30
    go_wp2_with (go_at_call 26; (with_reducible refine (hM).mono ?_); rintro e w1 ⟨rfl, hb1⟩; obtain ⟨hc1, hf1⟩ := bcell hb1; have hs1 := hb1.size; (try simp at hs1); have hq1 : w.heap.size < w1.heap.size := (by omega))
    refine bodyPost_ret (v := .agg #[.string ⟨#[]⟩, .string ⟨#[]⟩]) ?_ rfl ⟨by rw [hv.out], (by repeat (first | exact Below.refl _ _ | assumption | refine b_then ?_ (by assumption) | refine b_alloc ?_ _ | refine b_drewN ?_ _ | refine Below.drew ?_ | refine b_set ?_ (by first | exact Nat.le_refl _ | (simp; done) | (simp; omega) | omega) _))⟩
    simp [results, Tryz.results30, go_sem, hc1, hf1, hq1]
  | true =>
    rw [c0] at hM
    have hH := fun W (h : Below w.heap.size w W) => r6_holders (c := c) a W (hx.below h) (by omega) hzq
    have hO := fun W => r3_of 0 W (by omega) (by omega)
    simp only [enc_of, RT.v] at hO
    have hmem := hold_mem (a := a) c0 hz
    have hlen := hold_len xs a
    have hv : Hid (btotal xs a = enc (dsum (bholders xs a))) := btotal_yes c0
    obtain ⟨hs, hhs⟩ : ∃ hs, bholders xs a = hs := ⟨_, rfl⟩
    unfold HoldPost at hH
    rw [hhs] at hH hmem hlen hv
    obtain ⟨m, hm⟩ : ∃ m, hs.length = m := ⟨_, rfl⟩
    have HM := Lib.hid hm
    have hm3 : m ≤ 300 := by omega
    clear hhs hlen hm c0
    go_enter Tryz.func30, Tryz.ntmps30
    go_wp2_with (first
      | (go_at_call 26; (with_reducible refine (hM).mono ?_); rintro e w1 ⟨rfl, hb1⟩; obtain ⟨hc1, hf1⟩ := bcell hb1; have hs1 := hb1.size; (try simp at hs1); have hq1 : w.heap.size < w1.heap.size := (by omega))
      | (go_at_call 32; (with_reducible refine (hO _).mono ?_); rintro e w2 ⟨rfl, hb2⟩; obtain ⟨hc2, hf2⟩ := bcell hb2; have hs2 := hb2.size; (try simp at hs2); have hq2 : w.heap.size < w2.heap.size := (by omega))
      | (go_at_call 55; (with_reducible refine (hH _ (by repeat (first | exact Below.refl _ _ | assumption | refine b_then ?_ (by assumption) | refine b_alloc ?_ _ | refine b_drewN ?_ _ | refine Below.drew ?_ | refine b_set ?_ (by first | exact Nat.le_refl _ | (simp; done) | (simp; omega) | omega) _))).mono ?_); rintro e w3 ⟨v3, rfl, ho3, hb3⟩))
    obtain ⟨A3, c3, rfl, _⟩ := ho3.rd Ln.cs_length
    have D5 := (Blk.new w2 35 #[.string (iS 0), .string (nS 1)]).below hb3
    have D4 := ((((Blk.new w 35 #[.string ⟨#[]⟩, .string ⟨#[]⟩]).below hb1).below hb2).alloc (.cells #[.string (iS 0), .string (nS 1)] 35)).below hb3
    have BB3 : Below w.heap.size w w3 := (by repeat (first | exact Below.refl _ _ | assumption | refine b_then ?_ (by assumption) | refine b_alloc ?_ _ | refine b_drewN ?_ _ | refine Below.drew ?_ | refine b_set ?_ (by first | exact Nat.le_refl _ | (simp; done) | (simp; omega) | omega) _))
    simp only [World.size_alloc] at ho3
    obtain ⟨g5, hg5⟩ : ∃ g, w2.heap.size = g := ⟨_, rfl⟩
    rw [hg5] at D5 ho3 hq2 ⊢
    have hml := HM.out
    rw [hml] at ho3 ⊢
    have H0 : Hid (sumI hs 0 0) := sumI_zero hs
    clear hg5 hml hM hO hH hc1 hf1 hs1 hc2 hf2 hs2
    go_loopw [7] (fun i wr => ∃ (k : Nat) (z : Rat), k ≤ m ∧ i = .int .i64 (k : Nat) ∧ Hid (sumI hs k z) ∧ Blk wr g5 35 #[.string (iS z.num), .string (nS z.den)] ∧ Blk wr w.heap.size 35 #[.string ⟨#[]⟩, .string ⟨#[]⟩] ∧ Own Ln.cs 4 46 wr (g5 + 1) (.slice A3 m c3) hs ∧ Below w.heap.size w wr) (fun i _ => m - (intOf i).toNat)
    case atStart => exact ⟨0, 0, Nat.zero_le _, rfl, H0, D5, D4, ho3, BB3⟩
    case round =>
      clear H0 D5 D4 ho3 BB3 hb1 hb2 hb3
      obtain ⟨k, z, hk, rfl, H, D5, D4, hown, hB⟩ := hrel
      by_cases hlt : k < m
      · obtain ⟨A', c', e, hr⟩ := hown.rd Ln.cs_length
        injection e with e1 e2 e3
        subst e1; subst e3
        rw [HM.out] at hr
        obtain ⟨ad, b0, b1, b2, b3, rfl, hxk, hl⟩ := ln_in hr (Below.refl _ wr) hlt
        obtain ⟨hmy, hms⟩ := hmem _ (List.mem_of_getElem? hxk)
        obtain ⟨q, hq, hqd, hqs⟩ := ln_rat hmy hms
        injection hq with q1 q2
        subst q1; subst q2
        have hA := fun W => r3_add z q W (rsmall_mono H.out.2 (by omega)) (rsmall_mono hqs (by omega))
        simp only [enc_v] at hA
        have HS := Lib.hid (sumI_step H.out hxk hqd hqs)
        generalize hzz : z + q = z2 at *
        have HL := Lib.hid hl
        clear hl hzz hxk hqd hqs hmy hms
        have hy2 := fun y : After wr => (HL.out y.W y.h).c2
        have hy4 := fun y : After wr => (HL.out y.W y.h).c4
        have hz0 := fun y : After wr => (D5.below y.h).two.1
        have hz1 := fun y : After wr => (D5.below y.h).two.2.1
        obtain ⟨p0, p1, p2, p3⟩ := D5.two
        have hgl := D5.lt
        have hsw := hB.size
        go_wp2
        (refine wp_region_ahead 7 (by kernel_rfl) (by kernel_rfl) ?_; simp only [List.take_succ_cons, List.take_zero, List.drop_succ_cons, List.drop_zero]; (repeat (first | go_big_quiet_skip | (go_big_quiet_want; go_big_quiet_op; first | go_big_quiet_on | (apply Exists.intro; refine ⟨fun _ => ?_, ?_⟩; (focus ((go_at_call 33; with_reducible exact Calls.after (hA _)))); go_big_quiet_on)))); refine wpQuiet_nil ?_; rintro ⟨w1, hb1⟩; (try dsimp only); obtain ⟨hc1, hf1⟩ := bcell hb1; have hs1 := hb1.size; (try simp at hs1))
        go_wp2
        go_roundw
        case rel => exact ⟨k + 1, z2, by omega, by go_num, HS.out, (D5.below hb1).put2 _ _, ((D4.below hb1).far (by simp; omega) _).far (by simp; omega) _, ((hown.below hb1).setOld (by simp) _).setOld (by simp) _, b_set (b_set (b_then hB hb1) (by simp; omega) _) (by simp; omega) _⟩
        case measure => simp [intOf]; omega
      · obtain rfl : k = m := by omega
        have hfin : Hid ((btotal xs a).v = .agg #[.string (iS z.num), .string (nS z.den)]) := by
          unfold Hid
          rw [hv.out, H.out.1, ← HM.out, List.take_length]; rfl
        obtain ⟨p0, p1, p2, p3⟩ := D5.two
        obtain ⟨k0, k1, k2, k3⟩ := D4.two
        go_wp2
        refine bodyPost_ret (v := .agg #[.string (iS z.num), .string (nS z.den)]) ?_ rfl ⟨by rw [hfin.out], (by repeat (first | exact Below.refl _ _ | assumption | refine b_then ?_ (by assumption) | refine b_alloc ?_ _ | refine b_drewN ?_ _ | refine Below.drew ?_ | refine b_set ?_ (by first | exact Nat.le_refl _ | (simp; done) | (simp; omega) | omega) _))⟩
        simp [results, Tryz.results30, go_sem, k0, k1, k2, k3]
end Go.Proofs.YtjdkbmlkplbmoaaGreatDoor
