/- Walks: term.node at nodes that take some; term.node at any node; term.Print, Depth, Check. -/
import Derived.Test.YtjdofncognaaoaaGreatDoorTmV
namespace Go.Proofs.YtjdofncognaaoaaGreatDoor
open Go.RowKit
set_option linter.unusedVariables false
set_option linter.unusedSimpArgs false

theorem c_join {B : Option Addr} {m k : Nat} {l : List ByteArray} (w : World) (hr : Rd kCs 1 w B m l) (hm : 0 < m) (hk : m ≤ k) (hg : ∀ ad, B = some ad → ∃ g o, ad = (⟨g, o, none⟩ : Addr)) (hs : (Lib.join (l.map (·.data.toList)) [44, 32]).length ≤ 140737488355328) (hm2 : m ≤ 1000) :
    Calls Tryz.prog 89 #[.slice B m k, .string ⟨#[44, 32]⟩] w fun e w' => e = .returned (.string ⟨(Lib.join (l.map (·.data.toList)) [44, 32]).toArray⟩) ∧ Below w.heap.size w w' := by
  obtain ⟨ad, rfl, hl, hc⟩ := hr.cells hm
  obtain ⟨g, o, rfl⟩ := hg ad rfl
  have hlen := hr.len
  subst hlen
  exact Tryz.strings_Join g o k l ⟨#[44, 32]⟩ w (fun j x hj => by
    have := hc j x hj 0 _ rfl
    have e : (⟨g, o, none⟩ : Addr).add (j * 1 + 0) = ⟨g, o + j, none⟩ := by unfold Addr.add; split <;> simp_all
    rw [e] at this; exact this) hl (by omega) hk hs
theorem bsl_nil (b : ByteArray) : bsl b = b.data.toList := rfl
set_option maxRecDepth 100000 in
set_option maxHeartbeats 4000000 in
theorem p_node5 (a1 a2 a3 : ByteArray) (a4 a5 : Int) {B : Option Addr} {k : Nat} {l : List ByteArray} (w : World) (hg : Glob w) (hm : nmay ⟨5, ⟨a1, a2⟩, a3, a4, a5⟩ = true) (hl : l.length = 1) (hr : Rd kCs 1 w B 1 l) (hs : (l.map ByteArray.size).sum ≤ 1000000) :
    Calls Tryz.prog 54 #[.agg #[.int .i64 5, .string a1, .string a2, .string a3, .int .i64 a4, .int .i64 a5], .slice B 1 k] w fun e w' => e = .returned (optS (pnode ⟨5, ⟨a1, a2⟩, a3, a4, a5⟩ l)) ∧ Below w.heap.size w w' := by
  obtain ⟨hn, hy1, hy2, hy3⟩ := nmay_up hm (by dsimp only; decide)
  dsimp only at hn hy1 hy2 hy3
  injection hn with e1 e2
  subst e1; subst e2; subst hy1; subst hy2; subst hy3
  have hM := fun W hgw => p_tmay 5 ⟨#[]⟩ ⟨#[]⟩ ⟨#[]⟩ 0 0 W hgw (by decide) (by decide) (by decide)
  rw [hm] at hM
  obtain ⟨s0, rfl⟩ := len1 hl
  simp at hs
  have e : pnode ⟨5, ⟨⟨#[]⟩, ⟨#[]⟩⟩, ⟨#[]⟩, 0, 0⟩ [s0] = some ((⟨#[40, 45]⟩ : ByteArray) ++ s0 ++ ⟨#[41]⟩) := pnode_yes hm (by dsimp only; decide) (by
    rw [if_neg (by dsimp only; decide)]
    dsimp only
    rw [up5 rfl, bsl_nil]
    simp only [s_append, List.map_cons, List.map_nil, bsl_nil]
    simp [b0, b1, b2, opc])
  rw [e, optS_some]
  clear e hm
  obtain ⟨ad, rfl, hal, hac⟩ := str_cells hr (by decide)
  go_enter Tryz.func54, Tryz.ntmps54
  go_wp2_with (go_at_call 85; (with_reducible refine (hM _ (hg.below (by repeat (first | exact Below.refl _ _ | assumption | refine b_then ?_ (by assumption) | refine b_alloc ?_ _ | refine b_drewN ?_ _ | refine Below.drew ?_ | refine b_set ?_ (by first | exact Nat.le_refl _ | (simp; done) | (simp; omega) | omega) _)))).mono ?_); rintro e w1 ⟨rfl, hb1⟩; obtain ⟨hc1, hf1⟩ := bcell hb1; have hs1 := hb1.size; (try simp at hs1); have hq1 : w.heap.size < w1.heap.size := (by omega))
  have hg1 : Glob w1 := hg.below (by repeat (first | exact Below.refl _ _ | assumption | refine b_then ?_ (by assumption) | refine b_alloc ?_ _ | refine b_drewN ?_ _ | refine Below.drew ?_ | refine b_set ?_ (by first | exact Nat.le_refl _ | (simp; done) | (simp; omega) | omega) _))
  have ix := word_ix5
  (refine wp_region_after (by kernel_rfl) (by kernel_rfl) ?_; (repeat (first | go_big_quiet_skip | (go_big_quiet_want; go_big_quiet_op; first | go_big_quiet_on | (apply Exists.intro; refine ⟨fun _ => ?_, ?_⟩; (focus ((go_at_call 86; with_reducible exact Calls.after (p_words _)))); go_big_quiet_on)))); refine wpQuiet_nil ?_; rintro w2 ⟨⟨_, hb2⟩, rfl⟩; (try dsimp only); obtain ⟨hc2, hf2⟩ := bcell hb2; have hs2 := hb2.size; (try simp at hs2))
  clear ix
  have hq2 : w.heap.size < w2.heap.size := by omega
  have hB2 : Below w.heap.size w w2 := (by repeat (first | exact Below.refl _ _ | assumption | refine b_then ?_ (by assumption) | refine b_alloc ?_ _ | refine b_drewN ?_ _ | refine Below.drew ?_ | refine b_set ?_ (by first | exact Nat.le_refl _ | (simp; done) | (simp; omega) | omega) _))
  obtain ⟨c0, c1, c2⟩ := hac w2 hB2
  replace c0 := c0 s0 rfl
  clear hac
  go_wp2
  go_ret2
  exact ⟨rfl, (by repeat (first | exact Below.refl _ _ | assumption | refine b_then ?_ (by assumption) | refine b_alloc ?_ _ | refine b_drewN ?_ _ | refine Below.drew ?_ | refine b_set ?_ (by first | exact Nat.le_refl _ | (simp; done) | (simp; omega) | omega) _))⟩
set_option maxRecDepth 100000 in
set_option maxHeartbeats 4000000 in
theorem p_node6 (a1 a2 a3 : ByteArray) (a4 a5 : Int) {B : Option Addr} {k : Nat} {l : List ByteArray} (w : World) (hg : Glob w) (hm : nmay ⟨6, ⟨a1, a2⟩, a3, a4, a5⟩ = true) (hl : l.length = 2) (hr : Rd kCs 1 w B 2 l) (hs : (l.map ByteArray.size).sum ≤ 1000000) :
    Calls Tryz.prog 54 #[.agg #[.int .i64 6, .string a1, .string a2, .string a3, .int .i64 a4, .int .i64 a5], .slice B 2 k] w fun e w' => e = .returned (optS (pnode ⟨6, ⟨a1, a2⟩, a3, a4, a5⟩ l)) ∧ Below w.heap.size w w' := by
  obtain ⟨hn, hy1, hy2, hy3⟩ := nmay_up hm (by dsimp only; decide)
  dsimp only at hn hy1 hy2 hy3
  injection hn with e1 e2
  subst e1; subst e2; subst hy1; subst hy2; subst hy3
  have hM := fun W hgw => p_tmay 6 ⟨#[]⟩ ⟨#[]⟩ ⟨#[]⟩ 0 0 W hgw (by decide) (by decide) (by decide)
  rw [hm] at hM
  obtain ⟨s0, s1, rfl⟩ := len2 hl
  simp at hs
  have e : pnode ⟨6, ⟨⟨#[]⟩, ⟨#[]⟩⟩, ⟨#[]⟩, 0, 0⟩ [s0, s1] = some ((⟨#[40]⟩ : ByteArray) ++ s0 ++ ⟨#[32]⟩ ++ ⟨#[43]⟩ ++ ⟨#[32]⟩ ++ s1 ++ ⟨#[41]⟩) := pnode_yes hm (by dsimp only; decide) (by
    rw [if_neg (by dsimp only; decide)]
    dsimp only
    rw [up6 (by decide) (by decide), bsl_nil]
    simp only [s_append, List.map_cons, List.map_nil, bsl_nil]
    simp [b0, b1, b2, opc])
  rw [e, optS_some]
  clear e hm
  obtain ⟨ad, rfl, hal, hac⟩ := str_cells hr (by decide)
  go_enter Tryz.func54, Tryz.ntmps54
  go_wp2_with (go_at_call 85; (with_reducible refine (hM _ (hg.below (by repeat (first | exact Below.refl _ _ | assumption | refine b_then ?_ (by assumption) | refine b_alloc ?_ _ | refine b_drewN ?_ _ | refine Below.drew ?_ | refine b_set ?_ (by first | exact Nat.le_refl _ | (simp; done) | (simp; omega) | omega) _)))).mono ?_); rintro e w1 ⟨rfl, hb1⟩; obtain ⟨hc1, hf1⟩ := bcell hb1; have hs1 := hb1.size; (try simp at hs1); have hq1 : w.heap.size < w1.heap.size := (by omega))
  have hg1 : Glob w1 := hg.below (by repeat (first | exact Below.refl _ _ | assumption | refine b_then ?_ (by assumption) | refine b_alloc ?_ _ | refine b_drewN ?_ _ | refine Below.drew ?_ | refine b_set ?_ (by first | exact Nat.le_refl _ | (simp; done) | (simp; omega) | omega) _))
  have ix := word_ix6
  (refine wp_region_after (by kernel_rfl) (by kernel_rfl) ?_; (repeat (first | go_big_quiet_skip | (go_big_quiet_want; go_big_quiet_op; first | go_big_quiet_on | (apply Exists.intro; refine ⟨fun _ => ?_, ?_⟩; (focus ((go_at_call 86; with_reducible exact Calls.after (p_words _)))); go_big_quiet_on)))); refine wpQuiet_nil ?_; rintro w2 ⟨⟨_, hb2⟩, rfl⟩; (try dsimp only); obtain ⟨hc2, hf2⟩ := bcell hb2; have hs2 := hb2.size; (try simp at hs2))
  clear ix
  have hq2 : w.heap.size < w2.heap.size := by omega
  have hB2 : Below w.heap.size w w2 := (by repeat (first | exact Below.refl _ _ | assumption | refine b_then ?_ (by assumption) | refine b_alloc ?_ _ | refine b_drewN ?_ _ | refine Below.drew ?_ | refine b_set ?_ (by first | exact Nat.le_refl _ | (simp; done) | (simp; omega) | omega) _))
  obtain ⟨c0, c1, c2⟩ := hac w2 hB2
  replace c0 := c0 s0 rfl
  replace c1 := c1 s1 rfl
  clear hac
  go_wp2
  go_quiet (fail)
  go_wp2
  go_ret2
  exact ⟨rfl, (by repeat (first | exact Below.refl _ _ | assumption | refine b_then ?_ (by assumption) | refine b_alloc ?_ _ | refine b_drewN ?_ _ | refine Below.drew ?_ | refine b_set ?_ (by first | exact Nat.le_refl _ | (simp; done) | (simp; omega) | omega) _))⟩
set_option maxRecDepth 100000 in
set_option maxHeartbeats 4000000 in
theorem p_node7 (a1 a2 a3 : ByteArray) (a4 a5 : Int) {B : Option Addr} {k : Nat} {l : List ByteArray} (w : World) (hg : Glob w) (hm : nmay ⟨7, ⟨a1, a2⟩, a3, a4, a5⟩ = true) (hl : l.length = 2) (hr : Rd kCs 1 w B 2 l) (hs : (l.map ByteArray.size).sum ≤ 1000000) :
    Calls Tryz.prog 54 #[.agg #[.int .i64 7, .string a1, .string a2, .string a3, .int .i64 a4, .int .i64 a5], .slice B 2 k] w fun e w' => e = .returned (optS (pnode ⟨7, ⟨a1, a2⟩, a3, a4, a5⟩ l)) ∧ Below w.heap.size w w' := by
  obtain ⟨hn, hy1, hy2, hy3⟩ := nmay_up hm (by dsimp only; decide)
  dsimp only at hn hy1 hy2 hy3
  injection hn with e1 e2
  subst e1; subst e2; subst hy1; subst hy2; subst hy3
  have hM := fun W hgw => p_tmay 7 ⟨#[]⟩ ⟨#[]⟩ ⟨#[]⟩ 0 0 W hgw (by decide) (by decide) (by decide)
  rw [hm] at hM
  obtain ⟨s0, s1, rfl⟩ := len2 hl
  simp at hs
  have e : pnode ⟨7, ⟨⟨#[]⟩, ⟨#[]⟩⟩, ⟨#[]⟩, 0, 0⟩ [s0, s1] = some ((⟨#[40]⟩ : ByteArray) ++ s0 ++ ⟨#[32]⟩ ++ ⟨#[45]⟩ ++ ⟨#[32]⟩ ++ s1 ++ ⟨#[41]⟩) := pnode_yes hm (by dsimp only; decide) (by
    rw [if_neg (by dsimp only; decide)]
    dsimp only
    rw [up6 (by decide) (by decide), bsl_nil]
    simp only [s_append, List.map_cons, List.map_nil, bsl_nil]
    simp [b0, b1, b2, opc])
  rw [e, optS_some]
  clear e hm
  obtain ⟨ad, rfl, hal, hac⟩ := str_cells hr (by decide)
  go_enter Tryz.func54, Tryz.ntmps54
  go_wp2_with (go_at_call 85; (with_reducible refine (hM _ (hg.below (by repeat (first | exact Below.refl _ _ | assumption | refine b_then ?_ (by assumption) | refine b_alloc ?_ _ | refine b_drewN ?_ _ | refine Below.drew ?_ | refine b_set ?_ (by first | exact Nat.le_refl _ | (simp; done) | (simp; omega) | omega) _)))).mono ?_); rintro e w1 ⟨rfl, hb1⟩; obtain ⟨hc1, hf1⟩ := bcell hb1; have hs1 := hb1.size; (try simp at hs1); have hq1 : w.heap.size < w1.heap.size := (by omega))
  have hg1 : Glob w1 := hg.below (by repeat (first | exact Below.refl _ _ | assumption | refine b_then ?_ (by assumption) | refine b_alloc ?_ _ | refine b_drewN ?_ _ | refine Below.drew ?_ | refine b_set ?_ (by first | exact Nat.le_refl _ | (simp; done) | (simp; omega) | omega) _))
  have ix := word_ix7
  (refine wp_region_after (by kernel_rfl) (by kernel_rfl) ?_; (repeat (first | go_big_quiet_skip | (go_big_quiet_want; go_big_quiet_op; first | go_big_quiet_on | (apply Exists.intro; refine ⟨fun _ => ?_, ?_⟩; (focus ((go_at_call 86; with_reducible exact Calls.after (p_words _)))); go_big_quiet_on)))); refine wpQuiet_nil ?_; rintro w2 ⟨⟨_, hb2⟩, rfl⟩; (try dsimp only); obtain ⟨hc2, hf2⟩ := bcell hb2; have hs2 := hb2.size; (try simp at hs2))
  clear ix
  have hq2 : w.heap.size < w2.heap.size := by omega
  have hB2 : Below w.heap.size w w2 := (by repeat (first | exact Below.refl _ _ | assumption | refine b_then ?_ (by assumption) | refine b_alloc ?_ _ | refine b_drewN ?_ _ | refine Below.drew ?_ | refine b_set ?_ (by first | exact Nat.le_refl _ | (simp; done) | (simp; omega) | omega) _))
  obtain ⟨c0, c1, c2⟩ := hac w2 hB2
  replace c0 := c0 s0 rfl
  replace c1 := c1 s1 rfl
  clear hac
  go_wp2
  go_quiet (fail)
  go_wp2
  go_ret2
  exact ⟨rfl, (by repeat (first | exact Below.refl _ _ | assumption | refine b_then ?_ (by assumption) | refine b_alloc ?_ _ | refine b_drewN ?_ _ | refine Below.drew ?_ | refine b_set ?_ (by first | exact Nat.le_refl _ | (simp; done) | (simp; omega) | omega) _))⟩
set_option maxRecDepth 100000 in
set_option maxHeartbeats 4000000 in
theorem p_node8 (a1 a2 a3 : ByteArray) (a4 a5 : Int) {B : Option Addr} {k : Nat} {l : List ByteArray} (w : World) (hg : Glob w) (hm : nmay ⟨8, ⟨a1, a2⟩, a3, a4, a5⟩ = true) (hl : l.length = 2) (hr : Rd kCs 1 w B 2 l) (hs : (l.map ByteArray.size).sum ≤ 1000000) :
    Calls Tryz.prog 54 #[.agg #[.int .i64 8, .string a1, .string a2, .string a3, .int .i64 a4, .int .i64 a5], .slice B 2 k] w fun e w' => e = .returned (optS (pnode ⟨8, ⟨a1, a2⟩, a3, a4, a5⟩ l)) ∧ Below w.heap.size w w' := by
  obtain ⟨hn, hy1, hy2, hy3⟩ := nmay_up hm (by dsimp only; decide)
  dsimp only at hn hy1 hy2 hy3
  injection hn with e1 e2
  subst e1; subst e2; subst hy1; subst hy2; subst hy3
  have hM := fun W hgw => p_tmay 8 ⟨#[]⟩ ⟨#[]⟩ ⟨#[]⟩ 0 0 W hgw (by decide) (by decide) (by decide)
  rw [hm] at hM
  obtain ⟨s0, s1, rfl⟩ := len2 hl
  simp at hs
  have e : pnode ⟨8, ⟨⟨#[]⟩, ⟨#[]⟩⟩, ⟨#[]⟩, 0, 0⟩ [s0, s1] = some ((⟨#[40]⟩ : ByteArray) ++ s0 ++ ⟨#[32]⟩ ++ ⟨#[42]⟩ ++ ⟨#[32]⟩ ++ s1 ++ ⟨#[41]⟩) := pnode_yes hm (by dsimp only; decide) (by
    rw [if_neg (by dsimp only; decide)]
    dsimp only
    rw [up6 (by decide) (by decide), bsl_nil]
    simp only [s_append, List.map_cons, List.map_nil, bsl_nil]
    simp [b0, b1, b2, opc])
  rw [e, optS_some]
  clear e hm
  obtain ⟨ad, rfl, hal, hac⟩ := str_cells hr (by decide)
  go_enter Tryz.func54, Tryz.ntmps54
  go_wp2_with (go_at_call 85; (with_reducible refine (hM _ (hg.below (by repeat (first | exact Below.refl _ _ | assumption | refine b_then ?_ (by assumption) | refine b_alloc ?_ _ | refine b_drewN ?_ _ | refine Below.drew ?_ | refine b_set ?_ (by first | exact Nat.le_refl _ | (simp; done) | (simp; omega) | omega) _)))).mono ?_); rintro e w1 ⟨rfl, hb1⟩; obtain ⟨hc1, hf1⟩ := bcell hb1; have hs1 := hb1.size; (try simp at hs1); have hq1 : w.heap.size < w1.heap.size := (by omega))
  have hg1 : Glob w1 := hg.below (by repeat (first | exact Below.refl _ _ | assumption | refine b_then ?_ (by assumption) | refine b_alloc ?_ _ | refine b_drewN ?_ _ | refine Below.drew ?_ | refine b_set ?_ (by first | exact Nat.le_refl _ | (simp; done) | (simp; omega) | omega) _))
  have ix := word_ix8
  (refine wp_region_after (by kernel_rfl) (by kernel_rfl) ?_; (repeat (first | go_big_quiet_skip | (go_big_quiet_want; go_big_quiet_op; first | go_big_quiet_on | (apply Exists.intro; refine ⟨fun _ => ?_, ?_⟩; (focus ((go_at_call 86; with_reducible exact Calls.after (p_words _)))); go_big_quiet_on)))); refine wpQuiet_nil ?_; rintro w2 ⟨⟨_, hb2⟩, rfl⟩; (try dsimp only); obtain ⟨hc2, hf2⟩ := bcell hb2; have hs2 := hb2.size; (try simp at hs2))
  clear ix
  have hq2 : w.heap.size < w2.heap.size := by omega
  have hB2 : Below w.heap.size w w2 := (by repeat (first | exact Below.refl _ _ | assumption | refine b_then ?_ (by assumption) | refine b_alloc ?_ _ | refine b_drewN ?_ _ | refine Below.drew ?_ | refine b_set ?_ (by first | exact Nat.le_refl _ | (simp; done) | (simp; omega) | omega) _))
  obtain ⟨c0, c1, c2⟩ := hac w2 hB2
  replace c0 := c0 s0 rfl
  replace c1 := c1 s1 rfl
  clear hac
  go_wp2
  go_quiet (fail)
  go_wp2
  go_ret2
  exact ⟨rfl, (by repeat (first | exact Below.refl _ _ | assumption | refine b_then ?_ (by assumption) | refine b_alloc ?_ _ | refine b_drewN ?_ _ | refine Below.drew ?_ | refine b_set ?_ (by first | exact Nat.le_refl _ | (simp; done) | (simp; omega) | omega) _))⟩
set_option maxRecDepth 100000 in
set_option maxHeartbeats 4000000 in
theorem p_node9 (a1 a2 a3 : ByteArray) (a4 a5 : Int) {B : Option Addr} {k : Nat} {l : List ByteArray} (w : World) (hg : Glob w) (hm : nmay ⟨9, ⟨a1, a2⟩, a3, a4, a5⟩ = true) (hl : l.length = 2) (hr : Rd kCs 1 w B 2 l) (hs : (l.map ByteArray.size).sum ≤ 1000000) :
    Calls Tryz.prog 54 #[.agg #[.int .i64 9, .string a1, .string a2, .string a3, .int .i64 a4, .int .i64 a5], .slice B 2 k] w fun e w' => e = .returned (optS (pnode ⟨9, ⟨a1, a2⟩, a3, a4, a5⟩ l)) ∧ Below w.heap.size w w' := by
  obtain ⟨hn, hy1, hy2, hy3⟩ := nmay_up hm (by dsimp only; decide)
  dsimp only at hn hy1 hy2 hy3
  injection hn with e1 e2
  subst e1; subst e2; subst hy1; subst hy2; subst hy3
  have hM := fun W hgw => p_tmay 9 ⟨#[]⟩ ⟨#[]⟩ ⟨#[]⟩ 0 0 W hgw (by decide) (by decide) (by decide)
  rw [hm] at hM
  obtain ⟨s0, s1, rfl⟩ := len2 hl
  simp at hs
  have e : pnode ⟨9, ⟨⟨#[]⟩, ⟨#[]⟩⟩, ⟨#[]⟩, 0, 0⟩ [s0, s1] = some ((⟨#[40]⟩ : ByteArray) ++ s0 ++ ⟨#[32]⟩ ++ ⟨#[47]⟩ ++ ⟨#[32]⟩ ++ s1 ++ ⟨#[41]⟩) := pnode_yes hm (by dsimp only; decide) (by
    rw [if_neg (by dsimp only; decide)]
    dsimp only
    rw [up6 (by decide) (by decide), bsl_nil]
    simp only [s_append, List.map_cons, List.map_nil, bsl_nil]
    simp [b0, b1, b2, opc])
  rw [e, optS_some]
  clear e hm
  obtain ⟨ad, rfl, hal, hac⟩ := str_cells hr (by decide)
  go_enter Tryz.func54, Tryz.ntmps54
  go_wp2_with (go_at_call 85; (with_reducible refine (hM _ (hg.below (by repeat (first | exact Below.refl _ _ | assumption | refine b_then ?_ (by assumption) | refine b_alloc ?_ _ | refine b_drewN ?_ _ | refine Below.drew ?_ | refine b_set ?_ (by first | exact Nat.le_refl _ | (simp; done) | (simp; omega) | omega) _)))).mono ?_); rintro e w1 ⟨rfl, hb1⟩; obtain ⟨hc1, hf1⟩ := bcell hb1; have hs1 := hb1.size; (try simp at hs1); have hq1 : w.heap.size < w1.heap.size := (by omega))
  have hg1 : Glob w1 := hg.below (by repeat (first | exact Below.refl _ _ | assumption | refine b_then ?_ (by assumption) | refine b_alloc ?_ _ | refine b_drewN ?_ _ | refine Below.drew ?_ | refine b_set ?_ (by first | exact Nat.le_refl _ | (simp; done) | (simp; omega) | omega) _))
  have ix := word_ix9
  (refine wp_region_after (by kernel_rfl) (by kernel_rfl) ?_; (repeat (first | go_big_quiet_skip | (go_big_quiet_want; go_big_quiet_op; first | go_big_quiet_on | (apply Exists.intro; refine ⟨fun _ => ?_, ?_⟩; (focus ((go_at_call 86; with_reducible exact Calls.after (p_words _)))); go_big_quiet_on)))); refine wpQuiet_nil ?_; rintro w2 ⟨⟨_, hb2⟩, rfl⟩; (try dsimp only); obtain ⟨hc2, hf2⟩ := bcell hb2; have hs2 := hb2.size; (try simp at hs2))
  clear ix
  have hq2 : w.heap.size < w2.heap.size := by omega
  have hB2 : Below w.heap.size w w2 := (by repeat (first | exact Below.refl _ _ | assumption | refine b_then ?_ (by assumption) | refine b_alloc ?_ _ | refine b_drewN ?_ _ | refine Below.drew ?_ | refine b_set ?_ (by first | exact Nat.le_refl _ | (simp; done) | (simp; omega) | omega) _))
  obtain ⟨c0, c1, c2⟩ := hac w2 hB2
  replace c0 := c0 s0 rfl
  replace c1 := c1 s1 rfl
  clear hac
  go_wp2
  go_quiet (fail)
  go_wp2
  go_ret2
  exact ⟨rfl, (by repeat (first | exact Below.refl _ _ | assumption | refine b_then ?_ (by assumption) | refine b_alloc ?_ _ | refine b_drewN ?_ _ | refine Below.drew ?_ | refine b_set ?_ (by first | exact Nat.le_refl _ | (simp; done) | (simp; omega) | omega) _))⟩
set_option maxRecDepth 100000 in
set_option maxHeartbeats 4000000 in
theorem p_node10 (a1 a2 a3 : ByteArray) (a4 a5 : Int) {B : Option Addr} {k : Nat} {l : List ByteArray} (w : World) (hg : Glob w) (hm : nmay ⟨10, ⟨a1, a2⟩, a3, a4, a5⟩ = true) (hl : l.length = 2) (hr : Rd kCs 1 w B 2 l) (hs : (l.map ByteArray.size).sum ≤ 1000000) (hk : 2 ≤ k) (hB : ∀ ad, B = some ad → ∃ g o, ad = (⟨g, o, none⟩ : Addr)) :
    Calls Tryz.prog 54 #[.agg #[.int .i64 10, .string a1, .string a2, .string a3, .int .i64 a4, .int .i64 a5], .slice B 2 k] w fun e w' => e = .returned (optS (pnode ⟨10, ⟨a1, a2⟩, a3, a4, a5⟩ l)) ∧ Below w.heap.size w w' := by
  obtain ⟨hn, hy1, hy2, hy3⟩ := nmay_up hm (by dsimp only; decide)
  dsimp only at hn hy1 hy2 hy3
  injection hn with e1 e2
  subst e1; subst e2; subst hy1; subst hy2; subst hy3
  have hM := fun W hgw => p_tmay 10 ⟨#[]⟩ ⟨#[]⟩ ⟨#[]⟩ 0 0 W hgw (by decide) (by decide) (by decide)
  rw [hm] at hM
  obtain ⟨s0, s1, rfl⟩ := len2 hl
  simp at hs
  have e : pnode ⟨10, ⟨⟨#[]⟩, ⟨#[]⟩⟩, ⟨#[]⟩, 0, 0⟩ [s0, s1] = some ((⟨#[109, 97, 120]⟩ : ByteArray) ++ ⟨#[40]⟩ ++ mkS (Lib.join ([s0, s1].map (·.data.toList)) [44, 32]) ++ ⟨#[41]⟩) := pnode_yes hm (by dsimp only; decide) (by
    rw [if_neg (by dsimp only; decide)]
    dsimp only
    rw [up10 rfl, bsl_nil]
    simp only [s_append, List.map_cons, List.map_nil, bsl_nil]
    simp [b0, b1, b2, opc, mkS, Lib.join, List.intercalate, List.intersperse])
  rw [e, optS_some]
  clear e hm
  have hJ := fun W (hW : Below w.heap.size w W) => c_join W (hr.below hW) (by decide) hk hB (by simp [Lib.join, List.intercalate, List.intersperse, ← sz]; omega) (by decide)
  have hjs : (mkS (Lib.join ([s0, s1].map (·.data.toList)) [44, 32])).size ≤ 1000100 := by rw [sz, mkS_l]; simp [Lib.join, List.intercalate, List.intersperse, ← sz]; omega
  have hje : (⟨(Lib.join ([s0, s1].map (·.data.toList)) [44, 32]).toArray⟩ : ByteArray) = mkS (Lib.join ([s0, s1].map (·.data.toList)) [44, 32]) := rfl
  simp only [hje] at hJ
  clear hje
  generalize mkS (Lib.join ([s0, s1].map (·.data.toList)) [44, 32]) = js at *
  go_enter Tryz.func54, Tryz.ntmps54
  go_wp2_with (go_at_call 85; (with_reducible refine (hM _ (hg.below (by repeat (first | exact Below.refl _ _ | assumption | refine b_then ?_ (by assumption) | refine b_alloc ?_ _ | refine b_drewN ?_ _ | refine Below.drew ?_ | refine b_set ?_ (by first | exact Nat.le_refl _ | (simp; done) | (simp; omega) | omega) _)))).mono ?_); rintro e w1 ⟨rfl, hb1⟩; obtain ⟨hc1, hf1⟩ := bcell hb1; have hs1 := hb1.size; (try simp at hs1); have hq1 : w.heap.size < w1.heap.size := (by omega))
  have hg1 : Glob w1 := hg.below (by repeat (first | exact Below.refl _ _ | assumption | refine b_then ?_ (by assumption) | refine b_alloc ?_ _ | refine b_drewN ?_ _ | refine Below.drew ?_ | refine b_set ?_ (by first | exact Nat.le_refl _ | (simp; done) | (simp; omega) | omega) _))
  have ix := word_ix10
  (refine wp_region_after (by kernel_rfl) (by kernel_rfl) ?_; (repeat (first | go_big_quiet_skip | (go_big_quiet_want; go_big_quiet_op; first | go_big_quiet_on | (apply Exists.intro; refine ⟨fun _ => ?_, ?_⟩; (focus ((go_at_call 86; with_reducible exact Calls.after (p_words _)))); go_big_quiet_on)))); refine wpQuiet_nil ?_; rintro w2 ⟨⟨_, hb2⟩, rfl⟩; (try dsimp only); obtain ⟨hc2, hf2⟩ := bcell hb2; have hs2 := hb2.size; (try simp at hs2))
  clear ix
  have hq2 : w.heap.size < w2.heap.size := by omega
  have hB2 : Below w.heap.size w w2 := (by repeat (first | exact Below.refl _ _ | assumption | refine b_then ?_ (by assumption) | refine b_alloc ?_ _ | refine b_drewN ?_ _ | refine Below.drew ?_ | refine b_set ?_ (by first | exact Nat.le_refl _ | (simp; done) | (simp; omega) | omega) _))
  go_wp2_with (go_at_call 89; (with_reducible refine (hJ _ (b_then hB2 (by repeat (first | exact Below.refl _ _ | assumption | refine b_then ?_ (by assumption) | refine b_alloc ?_ _ | refine b_drewN ?_ _ | refine Below.drew ?_ | refine b_set ?_ (by first | exact Nat.le_refl _ | (simp; done) | (simp; omega) | omega) _)))).mono ?_); rintro e w3 ⟨rfl, hb3⟩; obtain ⟨hc3, hf3⟩ := bcell hb3; have hs3 := hb3.size; (try simp at hs3); skip)
  go_ret2
  exact ⟨rfl, (by repeat (first | exact Below.refl _ _ | assumption | refine b_then ?_ (by assumption) | refine b_alloc ?_ _ | refine b_drewN ?_ _ | refine Below.drew ?_ | refine b_set ?_ (by first | exact Nat.le_refl _ | (simp; done) | (simp; omega) | omega) _))⟩
set_option maxRecDepth 100000 in
set_option maxHeartbeats 4000000 in
theorem p_node11 (a1 a2 a3 : ByteArray) (a4 a5 : Int) {B : Option Addr} {k : Nat} {l : List ByteArray} (w : World) (hg : Glob w) (hm : nmay ⟨11, ⟨a1, a2⟩, a3, a4, a5⟩ = true) (hl : l.length = 2) (hr : Rd kCs 1 w B 2 l) (hs : (l.map ByteArray.size).sum ≤ 1000000) (hk : 2 ≤ k) (hB : ∀ ad, B = some ad → ∃ g o, ad = (⟨g, o, none⟩ : Addr)) :
    Calls Tryz.prog 54 #[.agg #[.int .i64 11, .string a1, .string a2, .string a3, .int .i64 a4, .int .i64 a5], .slice B 2 k] w fun e w' => e = .returned (optS (pnode ⟨11, ⟨a1, a2⟩, a3, a4, a5⟩ l)) ∧ Below w.heap.size w w' := by
  obtain ⟨hn, hy1, hy2, hy3⟩ := nmay_up hm (by dsimp only; decide)
  dsimp only at hn hy1 hy2 hy3
  injection hn with e1 e2
  subst e1; subst e2; subst hy1; subst hy2; subst hy3
  have hM := fun W hgw => p_tmay 11 ⟨#[]⟩ ⟨#[]⟩ ⟨#[]⟩ 0 0 W hgw (by decide) (by decide) (by decide)
  rw [hm] at hM
  obtain ⟨s0, s1, rfl⟩ := len2 hl
  simp at hs
  have e : pnode ⟨11, ⟨⟨#[]⟩, ⟨#[]⟩⟩, ⟨#[]⟩, 0, 0⟩ [s0, s1] = some ((⟨#[109, 105, 110]⟩ : ByteArray) ++ ⟨#[40]⟩ ++ mkS (Lib.join ([s0, s1].map (·.data.toList)) [44, 32]) ++ ⟨#[41]⟩) := pnode_yes hm (by dsimp only; decide) (by
    rw [if_neg (by dsimp only; decide)]
    dsimp only
    rw [up11 rfl, bsl_nil]
    simp only [s_append, List.map_cons, List.map_nil, bsl_nil]
    simp [b0, b1, b2, opc, mkS, Lib.join, List.intercalate, List.intersperse])
  rw [e, optS_some]
  clear e hm
  have hJ := fun W (hW : Below w.heap.size w W) => c_join W (hr.below hW) (by decide) hk hB (by simp [Lib.join, List.intercalate, List.intersperse, ← sz]; omega) (by decide)
  have hjs : (mkS (Lib.join ([s0, s1].map (·.data.toList)) [44, 32])).size ≤ 1000100 := by rw [sz, mkS_l]; simp [Lib.join, List.intercalate, List.intersperse, ← sz]; omega
  have hje : (⟨(Lib.join ([s0, s1].map (·.data.toList)) [44, 32]).toArray⟩ : ByteArray) = mkS (Lib.join ([s0, s1].map (·.data.toList)) [44, 32]) := rfl
  simp only [hje] at hJ
  clear hje
  generalize mkS (Lib.join ([s0, s1].map (·.data.toList)) [44, 32]) = js at *
  go_enter Tryz.func54, Tryz.ntmps54
  go_wp2_with (go_at_call 85; (with_reducible refine (hM _ (hg.below (by repeat (first | exact Below.refl _ _ | assumption | refine b_then ?_ (by assumption) | refine b_alloc ?_ _ | refine b_drewN ?_ _ | refine Below.drew ?_ | refine b_set ?_ (by first | exact Nat.le_refl _ | (simp; done) | (simp; omega) | omega) _)))).mono ?_); rintro e w1 ⟨rfl, hb1⟩; obtain ⟨hc1, hf1⟩ := bcell hb1; have hs1 := hb1.size; (try simp at hs1); have hq1 : w.heap.size < w1.heap.size := (by omega))
  have hg1 : Glob w1 := hg.below (by repeat (first | exact Below.refl _ _ | assumption | refine b_then ?_ (by assumption) | refine b_alloc ?_ _ | refine b_drewN ?_ _ | refine Below.drew ?_ | refine b_set ?_ (by first | exact Nat.le_refl _ | (simp; done) | (simp; omega) | omega) _))
  have ix := word_ix11
  (refine wp_region_after (by kernel_rfl) (by kernel_rfl) ?_; (repeat (first | go_big_quiet_skip | (go_big_quiet_want; go_big_quiet_op; first | go_big_quiet_on | (apply Exists.intro; refine ⟨fun _ => ?_, ?_⟩; (focus ((go_at_call 86; with_reducible exact Calls.after (p_words _)))); go_big_quiet_on)))); refine wpQuiet_nil ?_; rintro w2 ⟨⟨_, hb2⟩, rfl⟩; (try dsimp only); obtain ⟨hc2, hf2⟩ := bcell hb2; have hs2 := hb2.size; (try simp at hs2))
  clear ix
  have hq2 : w.heap.size < w2.heap.size := by omega
  have hB2 : Below w.heap.size w w2 := (by repeat (first | exact Below.refl _ _ | assumption | refine b_then ?_ (by assumption) | refine b_alloc ?_ _ | refine b_drewN ?_ _ | refine Below.drew ?_ | refine b_set ?_ (by first | exact Nat.le_refl _ | (simp; done) | (simp; omega) | omega) _))
  go_wp2_with (go_at_call 89; (with_reducible refine (hJ _ (b_then hB2 (by repeat (first | exact Below.refl _ _ | assumption | refine b_then ?_ (by assumption) | refine b_alloc ?_ _ | refine b_drewN ?_ _ | refine Below.drew ?_ | refine b_set ?_ (by first | exact Nat.le_refl _ | (simp; done) | (simp; omega) | omega) _)))).mono ?_); rintro e w3 ⟨rfl, hb3⟩; obtain ⟨hc3, hf3⟩ := bcell hb3; have hs3 := hb3.size; (try simp at hs3); skip)
  go_ret2
  exact ⟨rfl, (by repeat (first | exact Below.refl _ _ | assumption | refine b_then ?_ (by assumption) | refine b_alloc ?_ _ | refine b_drewN ?_ _ | refine Below.drew ?_ | refine b_set ?_ (by first | exact Nat.le_refl _ | (simp; done) | (simp; omega) | omega) _))⟩
set_option maxRecDepth 100000 in
set_option maxHeartbeats 4000000 in
theorem p_node12 (a1 a2 a3 : ByteArray) (a4 a5 : Int) {B : Option Addr} {k : Nat} {l : List ByteArray} (w : World) (hg : Glob w) (hm : nmay ⟨12, ⟨a1, a2⟩, a3, a4, a5⟩ = true) (hl : l.length = 3) (hr : Rd kCs 1 w B 3 l) (hs : (l.map ByteArray.size).sum ≤ 1000000) (hk : 3 ≤ k) (hB : ∀ ad, B = some ad → ∃ g o, ad = (⟨g, o, none⟩ : Addr)) :
    Calls Tryz.prog 54 #[.agg #[.int .i64 12, .string a1, .string a2, .string a3, .int .i64 a4, .int .i64 a5], .slice B 3 k] w fun e w' => e = .returned (optS (pnode ⟨12, ⟨a1, a2⟩, a3, a4, a5⟩ l)) ∧ Below w.heap.size w w' := by
  obtain ⟨hn, hy1, hy2, hy3⟩ := nmay_up hm (by dsimp only; decide)
  dsimp only at hn hy1 hy2 hy3
  injection hn with e1 e2
  subst e1; subst e2; subst hy1; subst hy2; subst hy3
  have hM := fun W hgw => p_tmay 12 ⟨#[]⟩ ⟨#[]⟩ ⟨#[]⟩ 0 0 W hgw (by decide) (by decide) (by decide)
  rw [hm] at hM
  obtain ⟨s0, s1, s2, rfl⟩ := len3 hl
  simp at hs
  have e : pnode ⟨12, ⟨⟨#[]⟩, ⟨#[]⟩⟩, ⟨#[]⟩, 0, 0⟩ [s0, s1, s2] = some ((⟨#[105, 102]⟩ : ByteArray) ++ ⟨#[40]⟩ ++ mkS (Lib.join ([s0, s1, s2].map (·.data.toList)) [44, 32]) ++ ⟨#[41]⟩) := pnode_yes hm (by dsimp only; decide) (by
    rw [if_neg (by dsimp only; decide)]
    dsimp only
    rw [up12 rfl, bsl_nil]
    simp only [s_append, List.map_cons, List.map_nil, bsl_nil]
    simp [b0, b1, b2, opc, mkS, Lib.join, List.intercalate, List.intersperse])
  rw [e, optS_some]
  clear e hm
  have hJ := fun W (hW : Below w.heap.size w W) => c_join W (hr.below hW) (by decide) hk hB (by simp [Lib.join, List.intercalate, List.intersperse, ← sz]; omega) (by decide)
  have hjs : (mkS (Lib.join ([s0, s1, s2].map (·.data.toList)) [44, 32])).size ≤ 1000100 := by rw [sz, mkS_l]; simp [Lib.join, List.intercalate, List.intersperse, ← sz]; omega
  have hje : (⟨(Lib.join ([s0, s1, s2].map (·.data.toList)) [44, 32]).toArray⟩ : ByteArray) = mkS (Lib.join ([s0, s1, s2].map (·.data.toList)) [44, 32]) := rfl
  simp only [hje] at hJ
  clear hje
  generalize mkS (Lib.join ([s0, s1, s2].map (·.data.toList)) [44, 32]) = js at *
  go_enter Tryz.func54, Tryz.ntmps54
  go_wp2_with (go_at_call 85; (with_reducible refine (hM _ (hg.below (by repeat (first | exact Below.refl _ _ | assumption | refine b_then ?_ (by assumption) | refine b_alloc ?_ _ | refine b_drewN ?_ _ | refine Below.drew ?_ | refine b_set ?_ (by first | exact Nat.le_refl _ | (simp; done) | (simp; omega) | omega) _)))).mono ?_); rintro e w1 ⟨rfl, hb1⟩; obtain ⟨hc1, hf1⟩ := bcell hb1; have hs1 := hb1.size; (try simp at hs1); have hq1 : w.heap.size < w1.heap.size := (by omega))
  have hg1 : Glob w1 := hg.below (by repeat (first | exact Below.refl _ _ | assumption | refine b_then ?_ (by assumption) | refine b_alloc ?_ _ | refine b_drewN ?_ _ | refine Below.drew ?_ | refine b_set ?_ (by first | exact Nat.le_refl _ | (simp; done) | (simp; omega) | omega) _))
  have ix := word_ix12
  (refine wp_region_after (by kernel_rfl) (by kernel_rfl) ?_; (repeat (first | go_big_quiet_skip | (go_big_quiet_want; go_big_quiet_op; first | go_big_quiet_on | (apply Exists.intro; refine ⟨fun _ => ?_, ?_⟩; (focus ((go_at_call 86; with_reducible exact Calls.after (p_words _)))); go_big_quiet_on)))); refine wpQuiet_nil ?_; rintro w2 ⟨⟨_, hb2⟩, rfl⟩; (try dsimp only); obtain ⟨hc2, hf2⟩ := bcell hb2; have hs2 := hb2.size; (try simp at hs2))
  clear ix
  have hq2 : w.heap.size < w2.heap.size := by omega
  have hB2 : Below w.heap.size w w2 := (by repeat (first | exact Below.refl _ _ | assumption | refine b_then ?_ (by assumption) | refine b_alloc ?_ _ | refine b_drewN ?_ _ | refine Below.drew ?_ | refine b_set ?_ (by first | exact Nat.le_refl _ | (simp; done) | (simp; omega) | omega) _))
  go_wp2_with (go_at_call 89; (with_reducible refine (hJ _ (b_then hB2 (by repeat (first | exact Below.refl _ _ | assumption | refine b_then ?_ (by assumption) | refine b_alloc ?_ _ | refine b_drewN ?_ _ | refine Below.drew ?_ | refine b_set ?_ (by first | exact Nat.le_refl _ | (simp; done) | (simp; omega) | omega) _)))).mono ?_); rintro e w3 ⟨rfl, hb3⟩; obtain ⟨hc3, hf3⟩ := bcell hb3; have hs3 := hb3.size; (try simp at hs3); skip)
  go_ret2
  exact ⟨rfl, (by repeat (first | exact Below.refl _ _ | assumption | refine b_then ?_ (by assumption) | refine b_alloc ?_ _ | refine b_drewN ?_ _ | refine Below.drew ?_ | refine b_set ?_ (by first | exact Nat.le_refl _ | (simp; done) | (simp; omega) | omega) _))⟩
/-- term.node at any node. -/
theorem p_node (a0 : Int) (a1 a2 a3 : ByteArray) (a4 a5 : Int) {B : Option Addr} {m k : Nat} {l : List ByteArray} (w : World) (hg : Glob w) (h1 : a1.size ≤ 880000000) (h2 : a2.size ≤ 880000000) (h3 : a3.size ≤ 9223372036854775807)
    (ha : arity a0 = (m : Int)) (hl : l.length = m) (hr : Rd kCs 1 w B m l) (hs : (l.map ByteArray.size).sum ≤ 1000000) (hk : m ≤ k) (hB : ∀ ad, B = some ad → ∃ g o, ad = (⟨g, o, none⟩ : Addr)) :
    Calls Tryz.prog 54 #[.agg #[.int .i64 a0, .string a1, .string a2, .string a3, .int .i64 a4, .int .i64 a5], .slice B m k] w fun e w' => e = .returned (optS (pnode ⟨a0, ⟨a1, a2⟩, a3, a4, a5⟩ l)) ∧ Below w.heap.size w w' := by
  cases hm : nmay ⟨a0, ⟨a1, a2⟩, a3, a4, a5⟩ with
  | false => exact p_node_no a0 a1 a2 a3 a4 a5 w hg h1 h2 h3 hm
  | true =>
    have hop : 0 ≤ a0 ∧ a0 ≤ 12 := by
      unfold arity at ha
      split at ha
      · omega
      · omega
    have H : a0 = 0 ∨ a0 = 1 ∨ a0 = 2 ∨ a0 = 3 ∨ a0 = 4 ∨ a0 = 5 ∨ a0 = 6 ∨ a0 = 7 ∨ a0 = 8 ∨ a0 = 9 ∨ a0 = 10 ∨ a0 = 11 ∨ a0 = 12 := by omega
    rcases H with h | h | h | h | h | h | h | h | h | h | h | h | h
    · subst h
      have e : m = 0 := by unfold arity at ha; simp at ha; omega
      subst e
      exact p_node0 a1 a2 a3 a4 a5 w hg hm
    · subst h
      have e : m = 0 := by unfold arity at ha; simp at ha; omega
      subst e
      exact p_node1 a1 a2 a3 a4 a5 w hg hm
    · subst h
      have e : m = 0 := by unfold arity at ha; simp at ha; omega
      subst e
      exact p_node2 a1 a2 a3 a4 a5 w hg hm
    · subst h
      have e : m = 0 := by unfold arity at ha; simp at ha; omega
      subst e
      exact p_node3 a1 a2 a3 a4 a5 w hg hm
    · subst h
      have e : m = 0 := by unfold arity at ha; simp at ha; omega
      subst e
      exact p_node4 a1 a2 a3 a4 a5 w hg hm
    · subst h
      have e : m = 1 := by unfold arity at ha; simp at ha; omega
      subst e
      exact p_node5 a1 a2 a3 a4 a5 w hg hm hl hr hs
    · subst h
      have e : m = 2 := by unfold arity at ha; simp at ha; omega
      subst e
      exact p_node6 a1 a2 a3 a4 a5 w hg hm hl hr hs
    · subst h
      have e : m = 2 := by unfold arity at ha; simp at ha; omega
      subst e
      exact p_node7 a1 a2 a3 a4 a5 w hg hm hl hr hs
    · subst h
      have e : m = 2 := by unfold arity at ha; simp at ha; omega
      subst e
      exact p_node8 a1 a2 a3 a4 a5 w hg hm hl hr hs
    · subst h
      have e : m = 2 := by unfold arity at ha; simp at ha; omega
      subst e
      exact p_node9 a1 a2 a3 a4 a5 w hg hm hl hr hs
    · subst h
      have e : m = 2 := by unfold arity at ha; simp at ha; omega
      subst e
      exact p_node10 a1 a2 a3 a4 a5 w hg hm hl hr hs hk hB
    · subst h
      have e : m = 2 := by unfold arity at ha; simp at ha; omega
      subst e
      exact p_node11 a1 a2 a3 a4 a5 w hg hm hl hr hs hk hB
    · subst h
      have e : m = 3 := by unfold arity at ha; simp at ha; omega
      subst e
      exact p_node12 a1 a2 a3 a4 a5 w hg hm hl hr hs hk hB
/-- A node's sizes. -/
def nq (x : Nd) : Prop := x.num.num.size ≤ 880000000 ∧ x.num.den.size ≤ 880000000 ∧ x.asset.size ≤ 9223372036854775807
theorem p_print {A : Option Addr} {n c : Nat} {t : List Nd} (w : World) (hg : Glob w) (hx : Rd Nd.cs 6 w A n t) (hz : ∀ x ∈ t, nq x) :
    Calls Tryz.prog 18 #[.slice A n c] w fun e w' => e = .returned (.string (tpr t)) ∧ Below w.heap.size w w' := by
  have hF := fold_S (c := c) (node := pnode) (wt := ByteArray.size) (C := 200) w hx (fun x _ l y h => pnode_wt h) (fun a0 a1 a2 a3 a4 a5 l m hmem ha hl hs W B k hW hr hk hB => p_node a0 a1 a2 a3 a4 a5 W (hg.below hW) (hz _ hmem).1 (hz _ hmem).2.1 (hz _ hmem).2.2 ha hl hr (by omega) hk hB)
  have e : ∃ b, optS (tval pnode t) = .tuple #[.string (tpr t), .bool b] := by
    unfold tpr
    cases tval pnode t with
    | none => exact ⟨false, rfl⟩
    | some s => exact ⟨true, rfl⟩
  obtain ⟨b, hb⟩ := e
  rw [hb] at hF
  clear hb
  generalize tpr t = s at *
  go_enter Tryz.func18, Tryz.ntmps18
  go_wp2_with (go_at_call 53; (with_reducible refine hF.mono ?_); rintro e w1 ⟨rfl, hb1⟩)
  go_ret
  exact ⟨rfl, hb1⟩
end Go.Proofs.YtjdofncognaaoaaGreatDoor
