/- Walks: the reference's Formed, leaf, above. -/
import Derived.Test.YtjdofncognaaoaaGreatDoorTmY
import Derived.Test.YtjdofncognaaoaaGreatDoorGhF
import Derived.Test.YtjdofncognaaoaaGreatDoorRefJ
namespace Go.Proofs.YtjdofncognaaoaaGreatDoor
open Go.RowKit
set_option linter.unusedVariables false
set_option linter.unusedSimpArgs false

theorem r10_formed {A : Option Addr} {n c : Nat} {t : List Nd} (w : World) (hx : Rd Nd.cs 6 w A n t) :
    Calls Tryz.prog 30 #[.slice A n c] w fun e w' => e = .returned (.bool (tform t)) ∧ Below w.heap.size w w' := by
  have hB := r10_begins (c := c) w hx
  unfold BegIs at hB
  generalize tform t = R at *
  go_enter Tryz.func30, Tryz.ntmps30
  go_wp2_with (go_at_call 62; (with_reducible refine hB.mono ?_); rintro e w1 ⟨B1, m1, k1, rfl, hb1, _⟩)
  go_ret
  exact ⟨rfl, hb1⟩
theorem iS_day {d : Int} (h : 0 ≤ d) : iS d = nS d.toNat := by rw [iS_nonneg h, show d.natAbs = d.toNat by omega]
set_option maxRecDepth 100000 in
set_option maxHeartbeats 4000000 in
theorem r10_leaf0 (a1 a2 a3 : ByteArray) (a4 a5 : Int) (w : World) (hm : nmay ⟨0, ⟨a1, a2⟩, a3, a4, a5⟩ = true) :
    Calls Tryz.prog 56 #[.agg #[.int .i64 0, .string a1, .string a2, .string a3, .int .i64 a4, .int .i64 a5]] w fun e w' => e = .returned (.string (mkS (leafT numT ⟨0, ⟨a1, a2⟩, a3, a4, a5⟩))) ∧ Below w.heap.size w w' := by
  obtain ⟨q, hq, hs, hy, hy2, hy3⟩ := nmay_num hm rfl
  dsimp only at hq hy hy2 hy3
  injection hq with e1 e2
  subst e1; subst e2; subst hy; subst hy2; subst hy3
  have hN := fun W => r10_number q W (rsmall_mono hs (by omega))
  have e : leafT numT ⟨0, ⟨iS q.num, nS q.den⟩, ⟨#[]⟩, 0, 0⟩ = numT (enc q) := by unfold leafT; rw [if_pos rfl]; rfl
  rw [e]
  clear e hm hs
  generalize mkS (numT (enc q)) = R at *
  go_enter Tryz.func56, Tryz.ntmps56
  go_wp2_with (go_at_call 92; (with_reducible refine (hN _).mono ?_); rintro e w3 ⟨rfl, hb3⟩; obtain ⟨hc3, hf3⟩ := bcell hb3; have hs3 := hb3.size; (try simp at hs3); skip)
  go_ret
  exact ⟨rfl, (by repeat (first | exact Below.refl _ _ | assumption | refine b_then ?_ (by assumption) | refine b_alloc ?_ _ | refine b_drewN ?_ _ | refine Below.drew ?_ | refine b_set ?_ (by first | exact Nat.le_refl _ | (simp; done) | (simp; omega) | omega) _))⟩
set_option maxRecDepth 100000 in
set_option maxHeartbeats 4000000 in
theorem r10_leaf1 (a1 a2 a3 : ByteArray) (a4 a5 : Int) (w : World) (hm : nmay ⟨1, ⟨a1, a2⟩, a3, a4, a5⟩ = true) :
    Calls Tryz.prog 56 #[.agg #[.int .i64 1, .string a1, .string a2, .string a3, .int .i64 a4, .int .i64 a5]] w fun e w' => e = .returned (.string (mkS (leafT numT ⟨1, ⟨a1, a2⟩, a3, a4, a5⟩))) ∧ Below w.heap.size w w' := by
  obtain ⟨hn, hy, hy1, hy2, hy3⟩ := nmay_px hm rfl
  dsimp only at hn hy hy1 hy2 hy3
  injection hn with e1 e2
  subst e1; subst e2; subst hy
  have hz3 := tasset_size hy1
  have hz4 : (iS a4).size ≤ 4 := by rw [sz, iS_l]; exact day_len hy2 hy3
  have hI := fun W => r1_of a4.toNat W (by omega)
  rw [← iS_day hy2, Int.toNat_of_nonneg hy2] at hI
  have e : mkS (leafT numT ⟨1, ⟨⟨#[]⟩, ⟨#[]⟩⟩, a3, a4, 0⟩) = ((⟨#[112, 120, 40]⟩ : ByteArray) ++ a3 ++ ⟨#[44, 32]⟩ ++ iS a4 ++ ⟨#[41]⟩) := s_ext (by
    unfold leafT; rw [if_neg (by dsimp only; decide), if_pos rfl, s_append, s_append, s_append, s_append, iS_l, mkS_l]; simp)
  rw [e]
  clear e hm hy1
  generalize iS a4 = s4 at *
  go_enter Tryz.func56, Tryz.ntmps56
  go_wp2
  (refine wp_region_after (by kernel_rfl) (by kernel_rfl) ?_; (repeat (first | go_big_quiet_skip | (go_big_quiet_want; go_big_quiet_op; first | go_big_quiet_on | (apply Exists.intro; refine ⟨fun _ => ?_, ?_⟩; (focus ((go_at_call 93; with_reducible exact Calls.after_same (hI _)))); go_big_quiet_on)))); refine wpQuiet_nil ?_; rintro w3 ⟨⟨_, hb3⟩, rfl⟩; (try dsimp only); obtain ⟨hc3, hf3⟩ := bcell hb3; have hs3 := hb3.size; (try simp at hs3))
  go_wp2
  go_ret
  exact ⟨rfl, (by repeat (first | exact Below.refl _ _ | assumption | refine b_then ?_ (by assumption) | refine b_alloc ?_ _ | refine b_drewN ?_ _ | refine Below.drew ?_ | refine b_set ?_ (by first | exact Nat.le_refl _ | (simp; done) | (simp; omega) | omega) _))⟩
set_option maxRecDepth 100000 in
set_option maxHeartbeats 8000000 in
theorem r10_leaf2 (a1 a2 a3 : ByteArray) (a4 a5 : Int) (w : World) (hm : nmay ⟨2, ⟨a1, a2⟩, a3, a4, a5⟩ = true) :
    Calls Tryz.prog 56 #[.agg #[.int .i64 2, .string a1, .string a2, .string a3, .int .i64 a4, .int .i64 a5]] w fun e w' => e = .returned (.string (mkS (leafT numT ⟨2, ⟨a1, a2⟩, a3, a4, a5⟩))) ∧ Below w.heap.size w w' := by
  obtain ⟨hn, hy1, hy2, hy3, hy4, hy5⟩ := nmay_span hm (by dsimp only; decide) (by dsimp only; decide)
  dsimp only at hn hy1 hy2 hy3 hy4 hy5
  injection hn with e1 e2
  subst e1; subst e2
  have hz3 := tasset_size hy1
  have hz4 : (iS a4).size ≤ 4 := by rw [sz, iS_l]; exact day_len hy2 (by omega)
  have hz5 : (iS a5).size ≤ 4 := by rw [sz, iS_l]; exact day_len (by omega) hy3
  have hI := fun W => r1_of a4.toNat W (by omega)
  rw [← iS_day hy2, Int.toNat_of_nonneg hy2] at hI
  have hJ := fun W => r1_of a5.toNat W (by omega)
  rw [← iS_day (by omega), Int.toNat_of_nonneg (by omega)] at hJ
  have e : mkS (leafT numT ⟨2, ⟨⟨#[]⟩, ⟨#[]⟩⟩, a3, a4, a5⟩) = ((⟨#[97, 118, 103, 40]⟩ : ByteArray) ++ a3 ++ ⟨#[44, 32]⟩ ++ iS a4 ++ ⟨#[44, 32]⟩ ++ iS a5 ++ ⟨#[41]⟩) := s_ext (by
    unfold leafT; rw [if_neg (by dsimp only; decide), if_neg (by dsimp only; decide), s_append, s_append, s_append, s_append, s_append, s_append, iS_l, iS_l, mkS_l]; simp)
  rw [e]
  clear e hm hy1
  go_enter Tryz.func56, Tryz.ntmps56
  go_wp2
  have bx := Blk.new w 41 #[.int .i64 2, .string ⟨#[]⟩, .string ⟨#[]⟩, .string a3, .int .i64 a4, .int .i64 a5]
  (refine wp_region_pick 0 4 5 21 25 26 3 (fun p => .pointer (p.1.map fun a : Addr => a.add 0)) (.string ⟨#[97, 118, 103, 40]⟩) (fun B k' W => ∃ g, B = some ⟨g, 0, none⟩ ∧ Blk W g 9 #[.string ⟨#[97, 118, 103, 40]⟩, .string ⟨#[104, 105, 40]⟩, .string ⟨#[108, 111, 40]⟩]) ?pkA3 (by kernel_rfl) (fun pp => by kernel_rfl) (fun pp x => ?pkH3) ⟨by kernel_rfl, by kernel_rfl, by decide, by decide, by decide, by kernel_rfl, by kernel_rfl, ?pkK3, ?pkG3, ?pkC3, ?pkS3, ?pkZ3, ?pkQ3⟩ (by decide) (by decide); (case pkH3 => (simp only [pickl, List.modify_succ_cons, List.modify_zero_cons, repV]; (have hxs := x.h.size); (try simp at hxs); (repeat (first | go_big_quiet_skip | (go_big_quiet_want; go_big_quiet_op; first | go_big_quiet_on | (apply Exists.intro; refine ⟨fun _ => ?_, ?_⟩; (focus (first | (go_at_call 93; with_reducible exact Calls.after_same (hI _)) | (go_at_call 93; with_reducible exact Calls.after_same (hJ _)))); go_big_quiet_on)))); refine wpQuiet_nil ?_; rfl)); (case pkK3 => (intro pp; refine ⟨_, rfl, rfl, fun a W hW hgv => ?_⟩; exact src_built (b := .cells #[.string ⟨#[97, 118, 103, 40]⟩, .string ⟨#[104, 105, 40]⟩, .string ⟨#[108, 111, 40]⟩] 9) (k := 3) rfl rfl rfl (by simp [execOp, go_sem]) ⟨W.heap.size, rfl, Blk.new _ _ _⟩)); (case pkG3 => (intro pp; refine ⟨_, rfl, rfl, fun a W hW hR hgv => ?_⟩; obtain ⟨g, hg1, hk1⟩ := hR; have g1 := (hgv 0 _ 21 rfl rfl (by kernel_rfl)).trans rfl; have g2 := (hgv 3 _ 24 rfl rfl (by kernel_rfl)).trans rfl; exact pk_val rfl rfl rfl (by simp [execOp, go_sem, g1, g2, Sl.v, hg1]))); (case pkC3 => (intro pp; refine ⟨_, rfl, rfl, fun a W hW hR hgv => ?_⟩; obtain ⟨g, hg1, hk1⟩ := hR; have g1 := (hgv 4 _ 25 rfl rfl (by kernel_rfl)).trans rfl; have c0 := hk1.cell 0; exact pk_val rfl rfl rfl (by simp [execOp, go_sem, g1, hg1, Addr.add, c0]))); (case pkS3 => (intro B k W W' h hb; obtain ⟨g, e, h1⟩ := h; exact ⟨g, e, h1.below hb⟩)); (case pkZ3 => (intro pp; first | rfl | (simp; exact ⟨rfl, rfl⟩))); rintro ⟨B3, k3⟩ w3 hb3 R3; (try dsimp only); (try simp only [Sl.v]); obtain ⟨hc3, hf3⟩ := bcell hb3; have hs3 := hb3.size; (try simp at hs3))
  go_wp2
  go_ret
  exact ⟨rfl, (by repeat (first | exact Below.refl _ _ | assumption | refine b_then ?_ (by assumption) | refine b_alloc ?_ _ | refine b_drewN ?_ _ | refine Below.drew ?_ | refine b_set ?_ (by first | exact Nat.le_refl _ | (simp; done) | (simp; omega) | omega) _))⟩
set_option maxRecDepth 100000 in
set_option maxHeartbeats 8000000 in
theorem r10_leaf3 (a1 a2 a3 : ByteArray) (a4 a5 : Int) (w : World) (hm : nmay ⟨3, ⟨a1, a2⟩, a3, a4, a5⟩ = true) :
    Calls Tryz.prog 56 #[.agg #[.int .i64 3, .string a1, .string a2, .string a3, .int .i64 a4, .int .i64 a5]] w fun e w' => e = .returned (.string (mkS (leafT numT ⟨3, ⟨a1, a2⟩, a3, a4, a5⟩))) ∧ Below w.heap.size w w' := by
  obtain ⟨hn, hy1, hy2, hy3, hy4, hy5⟩ := nmay_span hm (by dsimp only; decide) (by dsimp only; decide)
  dsimp only at hn hy1 hy2 hy3 hy4 hy5
  injection hn with e1 e2
  subst e1; subst e2
  have hz3 := tasset_size hy1
  have hz4 : (iS a4).size ≤ 4 := by rw [sz, iS_l]; exact day_len hy2 (by omega)
  have hz5 : (iS a5).size ≤ 4 := by rw [sz, iS_l]; exact day_len (by omega) hy3
  have hI := fun W => r1_of a4.toNat W (by omega)
  rw [← iS_day hy2, Int.toNat_of_nonneg hy2] at hI
  have hJ := fun W => r1_of a5.toNat W (by omega)
  rw [← iS_day (by omega), Int.toNat_of_nonneg (by omega)] at hJ
  have e : mkS (leafT numT ⟨3, ⟨⟨#[]⟩, ⟨#[]⟩⟩, a3, a4, a5⟩) = ((⟨#[104, 105, 40]⟩ : ByteArray) ++ a3 ++ ⟨#[44, 32]⟩ ++ iS a4 ++ ⟨#[44, 32]⟩ ++ iS a5 ++ ⟨#[41]⟩) := s_ext (by
    unfold leafT; rw [if_neg (by dsimp only; decide), if_neg (by dsimp only; decide), s_append, s_append, s_append, s_append, s_append, s_append, iS_l, iS_l, mkS_l]; simp)
  rw [e]
  clear e hm hy1
  go_enter Tryz.func56, Tryz.ntmps56
  go_wp2
  have bx := Blk.new w 41 #[.int .i64 3, .string ⟨#[]⟩, .string ⟨#[]⟩, .string a3, .int .i64 a4, .int .i64 a5]
  (refine wp_region_pick 0 4 5 21 25 26 3 (fun p => .pointer (p.1.map fun a : Addr => a.add 1)) (.string ⟨#[104, 105, 40]⟩) (fun B k' W => ∃ g, B = some ⟨g, 0, none⟩ ∧ Blk W g 9 #[.string ⟨#[97, 118, 103, 40]⟩, .string ⟨#[104, 105, 40]⟩, .string ⟨#[108, 111, 40]⟩]) ?pkA3 (by kernel_rfl) (fun pp => by kernel_rfl) (fun pp x => ?pkH3) ⟨by kernel_rfl, by kernel_rfl, by decide, by decide, by decide, by kernel_rfl, by kernel_rfl, ?pkK3, ?pkG3, ?pkC3, ?pkS3, ?pkZ3, ?pkQ3⟩ (by decide) (by decide); (case pkH3 => (simp only [pickl, List.modify_succ_cons, List.modify_zero_cons, repV]; (have hxs := x.h.size); (try simp at hxs); (repeat (first | go_big_quiet_skip | (go_big_quiet_want; go_big_quiet_op; first | go_big_quiet_on | (apply Exists.intro; refine ⟨fun _ => ?_, ?_⟩; (focus (first | (go_at_call 93; with_reducible exact Calls.after_same (hI _)) | (go_at_call 93; with_reducible exact Calls.after_same (hJ _)))); go_big_quiet_on)))); refine wpQuiet_nil ?_; rfl)); (case pkK3 => (intro pp; refine ⟨_, rfl, rfl, fun a W hW hgv => ?_⟩; exact src_built (b := .cells #[.string ⟨#[97, 118, 103, 40]⟩, .string ⟨#[104, 105, 40]⟩, .string ⟨#[108, 111, 40]⟩] 9) (k := 3) rfl rfl rfl (by simp [execOp, go_sem]) ⟨W.heap.size, rfl, Blk.new _ _ _⟩)); (case pkG3 => (intro pp; refine ⟨_, rfl, rfl, fun a W hW hR hgv => ?_⟩; obtain ⟨g, hg1, hk1⟩ := hR; have g1 := (hgv 0 _ 21 rfl rfl (by kernel_rfl)).trans rfl; have g2 := (hgv 3 _ 24 rfl rfl (by kernel_rfl)).trans rfl; exact pk_val rfl rfl rfl (by simp [execOp, go_sem, g1, g2, Sl.v, hg1]))); (case pkC3 => (intro pp; refine ⟨_, rfl, rfl, fun a W hW hR hgv => ?_⟩; obtain ⟨g, hg1, hk1⟩ := hR; have g1 := (hgv 4 _ 25 rfl rfl (by kernel_rfl)).trans rfl; have c0 := hk1.cell 1; exact pk_val rfl rfl rfl (by simp [execOp, go_sem, g1, hg1, Addr.add, c0]))); (case pkS3 => (intro B k W W' h hb; obtain ⟨g, e, h1⟩ := h; exact ⟨g, e, h1.below hb⟩)); (case pkZ3 => (intro pp; first | rfl | (simp; exact ⟨rfl, rfl⟩))); rintro ⟨B3, k3⟩ w3 hb3 R3; (try dsimp only); (try simp only [Sl.v]); obtain ⟨hc3, hf3⟩ := bcell hb3; have hs3 := hb3.size; (try simp at hs3))
  go_wp2
  go_ret
  exact ⟨rfl, (by repeat (first | exact Below.refl _ _ | assumption | refine b_then ?_ (by assumption) | refine b_alloc ?_ _ | refine b_drewN ?_ _ | refine Below.drew ?_ | refine b_set ?_ (by first | exact Nat.le_refl _ | (simp; done) | (simp; omega) | omega) _))⟩
set_option maxRecDepth 100000 in
set_option maxHeartbeats 8000000 in
theorem r10_leaf4 (a1 a2 a3 : ByteArray) (a4 a5 : Int) (w : World) (hm : nmay ⟨4, ⟨a1, a2⟩, a3, a4, a5⟩ = true) :
    Calls Tryz.prog 56 #[.agg #[.int .i64 4, .string a1, .string a2, .string a3, .int .i64 a4, .int .i64 a5]] w fun e w' => e = .returned (.string (mkS (leafT numT ⟨4, ⟨a1, a2⟩, a3, a4, a5⟩))) ∧ Below w.heap.size w w' := by
  obtain ⟨hn, hy1, hy2, hy3, hy4, hy5⟩ := nmay_span hm (by dsimp only; decide) (by dsimp only; decide)
  dsimp only at hn hy1 hy2 hy3 hy4 hy5
  injection hn with e1 e2
  subst e1; subst e2
  have hz3 := tasset_size hy1
  have hz4 : (iS a4).size ≤ 4 := by rw [sz, iS_l]; exact day_len hy2 (by omega)
  have hz5 : (iS a5).size ≤ 4 := by rw [sz, iS_l]; exact day_len (by omega) hy3
  have hI := fun W => r1_of a4.toNat W (by omega)
  rw [← iS_day hy2, Int.toNat_of_nonneg hy2] at hI
  have hJ := fun W => r1_of a5.toNat W (by omega)
  rw [← iS_day (by omega), Int.toNat_of_nonneg (by omega)] at hJ
  have e : mkS (leafT numT ⟨4, ⟨⟨#[]⟩, ⟨#[]⟩⟩, a3, a4, a5⟩) = ((⟨#[108, 111, 40]⟩ : ByteArray) ++ a3 ++ ⟨#[44, 32]⟩ ++ iS a4 ++ ⟨#[44, 32]⟩ ++ iS a5 ++ ⟨#[41]⟩) := s_ext (by
    unfold leafT; rw [if_neg (by dsimp only; decide), if_neg (by dsimp only; decide), s_append, s_append, s_append, s_append, s_append, s_append, iS_l, iS_l, mkS_l]; simp)
  rw [e]
  clear e hm hy1
  go_enter Tryz.func56, Tryz.ntmps56
  go_wp2
  have bx := Blk.new w 41 #[.int .i64 4, .string ⟨#[]⟩, .string ⟨#[]⟩, .string a3, .int .i64 a4, .int .i64 a5]
  (refine wp_region_pick 0 4 5 21 25 26 3 (fun p => .pointer (p.1.map fun a : Addr => a.add 2)) (.string ⟨#[108, 111, 40]⟩) (fun B k' W => ∃ g, B = some ⟨g, 0, none⟩ ∧ Blk W g 9 #[.string ⟨#[97, 118, 103, 40]⟩, .string ⟨#[104, 105, 40]⟩, .string ⟨#[108, 111, 40]⟩]) ?pkA3 (by kernel_rfl) (fun pp => by kernel_rfl) (fun pp x => ?pkH3) ⟨by kernel_rfl, by kernel_rfl, by decide, by decide, by decide, by kernel_rfl, by kernel_rfl, ?pkK3, ?pkG3, ?pkC3, ?pkS3, ?pkZ3, ?pkQ3⟩ (by decide) (by decide); (case pkH3 => (simp only [pickl, List.modify_succ_cons, List.modify_zero_cons, repV]; (have hxs := x.h.size); (try simp at hxs); (repeat (first | go_big_quiet_skip | (go_big_quiet_want; go_big_quiet_op; first | go_big_quiet_on | (apply Exists.intro; refine ⟨fun _ => ?_, ?_⟩; (focus (first | (go_at_call 93; with_reducible exact Calls.after_same (hI _)) | (go_at_call 93; with_reducible exact Calls.after_same (hJ _)))); go_big_quiet_on)))); refine wpQuiet_nil ?_; rfl)); (case pkK3 => (intro pp; refine ⟨_, rfl, rfl, fun a W hW hgv => ?_⟩; exact src_built (b := .cells #[.string ⟨#[97, 118, 103, 40]⟩, .string ⟨#[104, 105, 40]⟩, .string ⟨#[108, 111, 40]⟩] 9) (k := 3) rfl rfl rfl (by simp [execOp, go_sem]) ⟨W.heap.size, rfl, Blk.new _ _ _⟩)); (case pkG3 => (intro pp; refine ⟨_, rfl, rfl, fun a W hW hR hgv => ?_⟩; obtain ⟨g, hg1, hk1⟩ := hR; have g1 := (hgv 0 _ 21 rfl rfl (by kernel_rfl)).trans rfl; have g2 := (hgv 3 _ 24 rfl rfl (by kernel_rfl)).trans rfl; exact pk_val rfl rfl rfl (by simp [execOp, go_sem, g1, g2, Sl.v, hg1]))); (case pkC3 => (intro pp; refine ⟨_, rfl, rfl, fun a W hW hR hgv => ?_⟩; obtain ⟨g, hg1, hk1⟩ := hR; have g1 := (hgv 4 _ 25 rfl rfl (by kernel_rfl)).trans rfl; have c0 := hk1.cell 2; exact pk_val rfl rfl rfl (by simp [execOp, go_sem, g1, hg1, Addr.add, c0]))); (case pkS3 => (intro B k W W' h hb; obtain ⟨g, e, h1⟩ := h; exact ⟨g, e, h1.below hb⟩)); (case pkZ3 => (intro pp; first | rfl | (simp; exact ⟨rfl, rfl⟩))); rintro ⟨B3, k3⟩ w3 hb3 R3; (try dsimp only); (try simp only [Sl.v]); obtain ⟨hc3, hf3⟩ := bcell hb3; have hs3 := hb3.size; (try simp at hs3))
  go_wp2
  go_ret
  exact ⟨rfl, (by repeat (first | exact Below.refl _ _ | assumption | refine b_then ?_ (by assumption) | refine b_alloc ?_ _ | refine b_drewN ?_ _ | refine Below.drew ?_ | refine b_set ?_ (by first | exact Nat.le_refl _ | (simp; done) | (simp; omega) | omega) _))⟩
end Go.Proofs.YtjdofncognaaoaaGreatDoor

/- Walks: the reference's above, Depth, Print, Check. -/
namespace Go.Proofs.YtjdofncognaaoaaGreatDoor
open Go.RowKit
set_option linter.unusedVariables false
set_option linter.unusedSimpArgs false

set_option maxRecDepth 100000 in
set_option maxHeartbeats 4000000 in
theorem r10_above5 {B : Option Addr} {k : Nat} {l : List ByteArray} (w : World) (hl : l.length = 1) (hr : Rd kCs 1 w B 1 l) (hs : (l.map ByteArray.size).sum ≤ 1000000) :
    Calls Tryz.prog 57 #[.int .i64 5, .slice B 1 k] w fun e w' => e = .returned (.string (mkS (upT 5 (l.map bsl)))) ∧ Below w.heap.size w w' := by
  obtain ⟨s0, rfl⟩ := len1 hl
  simp at hs
  obtain ⟨ad, rfl, hal, hac⟩ := str_cells hr (by decide)
  have e : mkS (upT 5 ([s0].map bsl)) = ((⟨#[40, 45]⟩ : ByteArray) ++ s0 ++ ⟨#[41]⟩) := s_ext (by
    rw [up5 rfl]
    simp only [s_append, mkS_l, List.map_cons, List.map_nil, bsl_nil]
    simp [b0, b1, b2, opc])
  rw [e]
  clear e
  obtain ⟨c0, c1, c2⟩ := hac w (Below.refl _ _)
  replace c0 := c0 s0 rfl
  clear hac
  go_enter Tryz.func57, Tryz.ntmps57
  go_wp2
  go_ret
  exact ⟨rfl, (by repeat (first | exact Below.refl _ _ | assumption | refine b_then ?_ (by assumption) | refine b_alloc ?_ _ | refine b_drewN ?_ _ | refine Below.drew ?_ | refine b_set ?_ (by first | exact Nat.le_refl _ | (simp; done) | (simp; omega) | omega) _))⟩
set_option maxRecDepth 100000 in
set_option maxHeartbeats 4000000 in
theorem r10_above6 {B : Option Addr} {k : Nat} {l : List ByteArray} (w : World) (hl : l.length = 2) (hr : Rd kCs 1 w B 2 l) (hs : (l.map ByteArray.size).sum ≤ 1000000) :
    Calls Tryz.prog 57 #[.int .i64 6, .slice B 2 k] w fun e w' => e = .returned (.string (mkS (upT 6 (l.map bsl)))) ∧ Below w.heap.size w w' := by
  obtain ⟨s0, s1, rfl⟩ := len2 hl
  simp at hs
  obtain ⟨ad, rfl, hal, hac⟩ := str_cells hr (by decide)
  have e : mkS (upT 6 ([s0, s1].map bsl)) = ((⟨#[40]⟩ : ByteArray) ++ s0 ++ ⟨#[32]⟩ ++ ⟨#[43]⟩ ++ ⟨#[32]⟩ ++ s1 ++ ⟨#[41]⟩) := s_ext (by
    rw [up6 (by decide) (by decide)]
    simp only [s_append, mkS_l, List.map_cons, List.map_nil, bsl_nil]
    simp [b0, b1, b2, opc])
  rw [e]
  clear e
  obtain ⟨c0, c1, c2⟩ := hac w (Below.refl _ _)
  replace c0 := c0 s0 rfl
  replace c1 := c1 s1 rfl
  clear hac
  have hsl : (⟨#[43, 45, 42, 47]⟩ : ByteArray).extract 0 1 = ⟨#[43]⟩ := by rfl
  go_enter Tryz.func57, Tryz.ntmps57
  go_wp2
  go_quiet (fail)
  go_wp2
  go_ret
  exact ⟨rfl, (by repeat (first | exact Below.refl _ _ | assumption | refine b_then ?_ (by assumption) | refine b_alloc ?_ _ | refine b_drewN ?_ _ | refine Below.drew ?_ | refine b_set ?_ (by first | exact Nat.le_refl _ | (simp; done) | (simp; omega) | omega) _))⟩
set_option maxRecDepth 100000 in
set_option maxHeartbeats 4000000 in
theorem r10_above7 {B : Option Addr} {k : Nat} {l : List ByteArray} (w : World) (hl : l.length = 2) (hr : Rd kCs 1 w B 2 l) (hs : (l.map ByteArray.size).sum ≤ 1000000) :
    Calls Tryz.prog 57 #[.int .i64 7, .slice B 2 k] w fun e w' => e = .returned (.string (mkS (upT 7 (l.map bsl)))) ∧ Below w.heap.size w w' := by
  obtain ⟨s0, s1, rfl⟩ := len2 hl
  simp at hs
  obtain ⟨ad, rfl, hal, hac⟩ := str_cells hr (by decide)
  have e : mkS (upT 7 ([s0, s1].map bsl)) = ((⟨#[40]⟩ : ByteArray) ++ s0 ++ ⟨#[32]⟩ ++ ⟨#[45]⟩ ++ ⟨#[32]⟩ ++ s1 ++ ⟨#[41]⟩) := s_ext (by
    rw [up6 (by decide) (by decide)]
    simp only [s_append, mkS_l, List.map_cons, List.map_nil, bsl_nil]
    simp [b0, b1, b2, opc])
  rw [e]
  clear e
  obtain ⟨c0, c1, c2⟩ := hac w (Below.refl _ _)
  replace c0 := c0 s0 rfl
  replace c1 := c1 s1 rfl
  clear hac
  have hsl : (⟨#[43, 45, 42, 47]⟩ : ByteArray).extract 1 2 = ⟨#[45]⟩ := by rfl
  go_enter Tryz.func57, Tryz.ntmps57
  go_wp2
  go_quiet (fail)
  go_wp2
  go_ret
  exact ⟨rfl, (by repeat (first | exact Below.refl _ _ | assumption | refine b_then ?_ (by assumption) | refine b_alloc ?_ _ | refine b_drewN ?_ _ | refine Below.drew ?_ | refine b_set ?_ (by first | exact Nat.le_refl _ | (simp; done) | (simp; omega) | omega) _))⟩
set_option maxRecDepth 100000 in
set_option maxHeartbeats 4000000 in
theorem r10_above8 {B : Option Addr} {k : Nat} {l : List ByteArray} (w : World) (hl : l.length = 2) (hr : Rd kCs 1 w B 2 l) (hs : (l.map ByteArray.size).sum ≤ 1000000) :
    Calls Tryz.prog 57 #[.int .i64 8, .slice B 2 k] w fun e w' => e = .returned (.string (mkS (upT 8 (l.map bsl)))) ∧ Below w.heap.size w w' := by
  obtain ⟨s0, s1, rfl⟩ := len2 hl
  simp at hs
  obtain ⟨ad, rfl, hal, hac⟩ := str_cells hr (by decide)
  have e : mkS (upT 8 ([s0, s1].map bsl)) = ((⟨#[40]⟩ : ByteArray) ++ s0 ++ ⟨#[32]⟩ ++ ⟨#[42]⟩ ++ ⟨#[32]⟩ ++ s1 ++ ⟨#[41]⟩) := s_ext (by
    rw [up6 (by decide) (by decide)]
    simp only [s_append, mkS_l, List.map_cons, List.map_nil, bsl_nil]
    simp [b0, b1, b2, opc])
  rw [e]
  clear e
  obtain ⟨c0, c1, c2⟩ := hac w (Below.refl _ _)
  replace c0 := c0 s0 rfl
  replace c1 := c1 s1 rfl
  clear hac
  have hsl : (⟨#[43, 45, 42, 47]⟩ : ByteArray).extract 2 3 = ⟨#[42]⟩ := by rfl
  go_enter Tryz.func57, Tryz.ntmps57
  go_wp2
  go_quiet (fail)
  go_wp2
  go_ret
  exact ⟨rfl, (by repeat (first | exact Below.refl _ _ | assumption | refine b_then ?_ (by assumption) | refine b_alloc ?_ _ | refine b_drewN ?_ _ | refine Below.drew ?_ | refine b_set ?_ (by first | exact Nat.le_refl _ | (simp; done) | (simp; omega) | omega) _))⟩
set_option maxRecDepth 100000 in
set_option maxHeartbeats 4000000 in
theorem r10_above9 {B : Option Addr} {k : Nat} {l : List ByteArray} (w : World) (hl : l.length = 2) (hr : Rd kCs 1 w B 2 l) (hs : (l.map ByteArray.size).sum ≤ 1000000) :
    Calls Tryz.prog 57 #[.int .i64 9, .slice B 2 k] w fun e w' => e = .returned (.string (mkS (upT 9 (l.map bsl)))) ∧ Below w.heap.size w w' := by
  obtain ⟨s0, s1, rfl⟩ := len2 hl
  simp at hs
  obtain ⟨ad, rfl, hal, hac⟩ := str_cells hr (by decide)
  have e : mkS (upT 9 ([s0, s1].map bsl)) = ((⟨#[40]⟩ : ByteArray) ++ s0 ++ ⟨#[32]⟩ ++ ⟨#[47]⟩ ++ ⟨#[32]⟩ ++ s1 ++ ⟨#[41]⟩) := s_ext (by
    rw [up6 (by decide) (by decide)]
    simp only [s_append, mkS_l, List.map_cons, List.map_nil, bsl_nil]
    simp [b0, b1, b2, opc])
  rw [e]
  clear e
  obtain ⟨c0, c1, c2⟩ := hac w (Below.refl _ _)
  replace c0 := c0 s0 rfl
  replace c1 := c1 s1 rfl
  clear hac
  have hsl : (⟨#[43, 45, 42, 47]⟩ : ByteArray).extract 3 4 = ⟨#[47]⟩ := by rfl
  go_enter Tryz.func57, Tryz.ntmps57
  go_wp2
  go_quiet (fail)
  go_wp2
  go_ret
  exact ⟨rfl, (by repeat (first | exact Below.refl _ _ | assumption | refine b_then ?_ (by assumption) | refine b_alloc ?_ _ | refine b_drewN ?_ _ | refine Below.drew ?_ | refine b_set ?_ (by first | exact Nat.le_refl _ | (simp; done) | (simp; omega) | omega) _))⟩
set_option maxRecDepth 100000 in
set_option maxHeartbeats 4000000 in
theorem r10_above10 {B : Option Addr} {k : Nat} {l : List ByteArray} (w : World) (hl : l.length = 2) (hr : Rd kCs 1 w B 2 l) (hs : (l.map ByteArray.size).sum ≤ 1000000) :
    Calls Tryz.prog 57 #[.int .i64 10, .slice B 2 k] w fun e w' => e = .returned (.string (mkS (upT 10 (l.map bsl)))) ∧ Below w.heap.size w w' := by
  obtain ⟨s0, s1, rfl⟩ := len2 hl
  simp at hs
  obtain ⟨ad, rfl, hal, hac⟩ := str_cells hr (by decide)
  have e : mkS (upT 10 ([s0, s1].map bsl)) = ((⟨#[109, 97, 120, 40]⟩ : ByteArray) ++ s0 ++ (⟨#[44, 32]⟩ ++ s1)) ++ ⟨#[41]⟩ := s_ext (by
    rw [up10 rfl]
    simp only [s_append, mkS_l, List.map_cons, List.map_nil, bsl_nil]
    simp [b0, b1, b2, opc])
  rw [e]
  clear e
  obtain ⟨S1, h1⟩ : ∃ S, (⟨#[109, 97, 120, 40]⟩ : ByteArray) ++ s0 = S := ⟨_, rfl⟩
  have z1 : S1.size ≤ 1000010 := by rw [← h1, ByteArray.size_append]; have : (⟨#[109, 97, 120, 40]⟩ : ByteArray).size = 4 := rfl; omega
  have zc : (⟨#[44, 32]⟩ : ByteArray).size = 2 := rfl
  obtain ⟨S2, h2⟩ : ∃ S, S1 ++ ((⟨#[44, 32]⟩ : ByteArray) ++ s1) = S := ⟨_, rfl⟩
  have z2 : S2.size ≤ 2000020 := by rw [← h2, ByteArray.size_append, ByteArray.size_append]; omega
  rw [h1, h2]
  have H1 := Lib.hid h1
  obtain ⟨c0, c1, c2⟩ := hac w (Below.refl _ _)
  replace c0 := c0 s0 rfl
  clear c1 c2
  clear h1
  go_enter Tryz.func57, Tryz.ntmps57
  go_wp2
  go_big_region
  all_goals
    go_wp2
    go_loopw [5, 6] (fun sv iv wr => ∃ i : Nat, iv = .int .i64 i ∧ 1 ≤ i ∧ i ≤ 2 ∧ ((i = 1 ∧ sv = .string S1) ∨ (i = 2 ∧ sv = .string S2)) ∧ Below w.heap.size w wr) (fun _ iv _ => 2 - (intOf iv).toNat)
    case atStart => exact ⟨1, rfl, by omega, by omega, .inl ⟨rfl, by first | rfl | (rw [← H1.out])⟩, (by repeat (first | exact Below.refl _ _ | assumption | refine b_then ?_ (by assumption) | refine b_alloc ?_ _ | refine b_drewN ?_ _ | refine Below.drew ?_ | refine b_set ?_ (by first | exact Nat.le_refl _ | (simp; done) | (simp; omega) | omega) _))⟩
    case round =>
      obtain ⟨i, rfl, hi1, hi2, hcase, hB⟩ := hrel
      obtain ⟨c0, c1, c2⟩ := hac wr hB
      rcases hcase with ⟨rfl, rfl⟩ | ⟨rfl, rfl⟩
      · have c1' := c1 s1 rfl
        clear c0 c1 c2
        have e1 : ((1 : Nat) : Int) = 1 := rfl
        rw [e1]
        go_wp2
        go_roundw
        case rel => exact ⟨2, by go_num, by omega, by omega, .inr ⟨rfl, by rw [← h2]⟩, hB⟩
        case measure => simp [intOf]
      · clear c0 c1 c2
        have e1 : ((2 : Nat) : Int) = 2 := rfl
        rw [e1]
        go_wp2
        go_ret
        exact ⟨rfl, hB⟩
set_option maxRecDepth 100000 in
set_option maxHeartbeats 4000000 in
theorem r10_above11 {B : Option Addr} {k : Nat} {l : List ByteArray} (w : World) (hl : l.length = 2) (hr : Rd kCs 1 w B 2 l) (hs : (l.map ByteArray.size).sum ≤ 1000000) :
    Calls Tryz.prog 57 #[.int .i64 11, .slice B 2 k] w fun e w' => e = .returned (.string (mkS (upT 11 (l.map bsl)))) ∧ Below w.heap.size w w' := by
  obtain ⟨s0, s1, rfl⟩ := len2 hl
  simp at hs
  obtain ⟨ad, rfl, hal, hac⟩ := str_cells hr (by decide)
  have e : mkS (upT 11 ([s0, s1].map bsl)) = ((⟨#[109, 105, 110, 40]⟩ : ByteArray) ++ s0 ++ (⟨#[44, 32]⟩ ++ s1)) ++ ⟨#[41]⟩ := s_ext (by
    rw [up11 rfl]
    simp only [s_append, mkS_l, List.map_cons, List.map_nil, bsl_nil]
    simp [b0, b1, b2, opc])
  rw [e]
  clear e
  obtain ⟨S1, h1⟩ : ∃ S, (⟨#[109, 105, 110, 40]⟩ : ByteArray) ++ s0 = S := ⟨_, rfl⟩
  have z1 : S1.size ≤ 1000010 := by rw [← h1, ByteArray.size_append]; have : (⟨#[109, 105, 110, 40]⟩ : ByteArray).size = 4 := rfl; omega
  have zc : (⟨#[44, 32]⟩ : ByteArray).size = 2 := rfl
  obtain ⟨S2, h2⟩ : ∃ S, S1 ++ ((⟨#[44, 32]⟩ : ByteArray) ++ s1) = S := ⟨_, rfl⟩
  have z2 : S2.size ≤ 2000020 := by rw [← h2, ByteArray.size_append, ByteArray.size_append]; omega
  rw [h1, h2]
  have H1 := Lib.hid h1
  obtain ⟨c0, c1, c2⟩ := hac w (Below.refl _ _)
  replace c0 := c0 s0 rfl
  clear c1 c2
  clear h1
  go_enter Tryz.func57, Tryz.ntmps57
  go_wp2
  go_big_region
  all_goals
    go_wp2
    go_loopw [5, 6] (fun sv iv wr => ∃ i : Nat, iv = .int .i64 i ∧ 1 ≤ i ∧ i ≤ 2 ∧ ((i = 1 ∧ sv = .string S1) ∨ (i = 2 ∧ sv = .string S2)) ∧ Below w.heap.size w wr) (fun _ iv _ => 2 - (intOf iv).toNat)
    case atStart => exact ⟨1, rfl, by omega, by omega, .inl ⟨rfl, by first | rfl | (rw [← H1.out])⟩, (by repeat (first | exact Below.refl _ _ | assumption | refine b_then ?_ (by assumption) | refine b_alloc ?_ _ | refine b_drewN ?_ _ | refine Below.drew ?_ | refine b_set ?_ (by first | exact Nat.le_refl _ | (simp; done) | (simp; omega) | omega) _))⟩
    case round =>
      obtain ⟨i, rfl, hi1, hi2, hcase, hB⟩ := hrel
      obtain ⟨c0, c1, c2⟩ := hac wr hB
      rcases hcase with ⟨rfl, rfl⟩ | ⟨rfl, rfl⟩
      · have c1' := c1 s1 rfl
        clear c0 c1 c2
        have e1 : ((1 : Nat) : Int) = 1 := rfl
        rw [e1]
        go_wp2
        go_roundw
        case rel => exact ⟨2, by go_num, by omega, by omega, .inr ⟨rfl, by rw [← h2]⟩, hB⟩
        case measure => simp [intOf]
      · clear c0 c1 c2
        have e1 : ((2 : Nat) : Int) = 2 := rfl
        rw [e1]
        go_wp2
        go_ret
        exact ⟨rfl, hB⟩
set_option maxRecDepth 100000 in
set_option maxHeartbeats 4000000 in
theorem r10_above12 {B : Option Addr} {k : Nat} {l : List ByteArray} (w : World) (hl : l.length = 3) (hr : Rd kCs 1 w B 3 l) (hs : (l.map ByteArray.size).sum ≤ 1000000) :
    Calls Tryz.prog 57 #[.int .i64 12, .slice B 3 k] w fun e w' => e = .returned (.string (mkS (upT 12 (l.map bsl)))) ∧ Below w.heap.size w w' := by
  obtain ⟨s0, s1, s2, rfl⟩ := len3 hl
  simp at hs
  obtain ⟨ad, rfl, hal, hac⟩ := str_cells hr (by decide)
  have e : mkS (upT 12 ([s0, s1, s2].map bsl)) = ((⟨#[105, 102, 40]⟩ : ByteArray) ++ s0 ++ (⟨#[44, 32]⟩ ++ s1) ++ (⟨#[44, 32]⟩ ++ s2)) ++ ⟨#[41]⟩ := s_ext (by
    rw [up12 rfl]
    simp only [s_append, mkS_l, List.map_cons, List.map_nil, bsl_nil]
    simp [b0, b1, b2, opc])
  rw [e]
  clear e
  obtain ⟨S1, h1⟩ : ∃ S, (⟨#[105, 102, 40]⟩ : ByteArray) ++ s0 = S := ⟨_, rfl⟩
  have z1 : S1.size ≤ 1000010 := by rw [← h1, ByteArray.size_append]; have : (⟨#[105, 102, 40]⟩ : ByteArray).size = 3 := rfl; omega
  have zc : (⟨#[44, 32]⟩ : ByteArray).size = 2 := rfl
  obtain ⟨S2, h2⟩ : ∃ S, S1 ++ ((⟨#[44, 32]⟩ : ByteArray) ++ s1) = S := ⟨_, rfl⟩
  have z2 : S2.size ≤ 2000020 := by rw [← h2, ByteArray.size_append, ByteArray.size_append]; omega
  obtain ⟨S3, h3⟩ : ∃ S, S2 ++ ((⟨#[44, 32]⟩ : ByteArray) ++ s2) = S := ⟨_, rfl⟩
  have z3 : S3.size ≤ 3000030 := by rw [← h3, ByteArray.size_append, ByteArray.size_append]; omega
  rw [h1, h2, h3]
  have H1 := Lib.hid h1
  obtain ⟨c0, c1, c2⟩ := hac w (Below.refl _ _)
  replace c0 := c0 s0 rfl
  clear c1 c2
  clear h1
  go_enter Tryz.func57, Tryz.ntmps57
  go_wp2
  go_big_region
  all_goals
    go_wp2
    go_loopw [5, 6] (fun sv iv wr => ∃ i : Nat, iv = .int .i64 i ∧ 1 ≤ i ∧ i ≤ 3 ∧ ((i = 1 ∧ sv = .string S1) ∨ (i = 2 ∧ sv = .string S2) ∨ (i = 3 ∧ sv = .string S3)) ∧ Below w.heap.size w wr) (fun _ iv _ => 3 - (intOf iv).toNat)
    case atStart => exact ⟨1, rfl, by omega, by omega, .inl ⟨rfl, by first | rfl | (rw [← H1.out])⟩, (by repeat (first | exact Below.refl _ _ | assumption | refine b_then ?_ (by assumption) | refine b_alloc ?_ _ | refine b_drewN ?_ _ | refine Below.drew ?_ | refine b_set ?_ (by first | exact Nat.le_refl _ | (simp; done) | (simp; omega) | omega) _))⟩
    case round =>
      obtain ⟨i, rfl, hi1, hi2, hcase, hB⟩ := hrel
      obtain ⟨c0, c1, c2⟩ := hac wr hB
      rcases hcase with ⟨rfl, rfl⟩ | ⟨rfl, rfl⟩ | ⟨rfl, rfl⟩
      · have c1' := c1 s1 rfl
        clear c0 c1 c2
        have e1 : ((1 : Nat) : Int) = 1 := rfl
        rw [e1]
        go_wp2
        go_roundw
        case rel => exact ⟨2, by go_num, by omega, by omega, .inr (.inl ⟨rfl, by rw [← h2]⟩), hB⟩
        case measure => simp [intOf]
      · have c2' := c2 s2 rfl
        clear c0 c1 c2
        have e1 : ((2 : Nat) : Int) = 2 := rfl
        rw [e1]
        go_wp2
        go_roundw
        case rel => exact ⟨3, by go_num, by omega, by omega, .inr (.inr ⟨rfl, by rw [← h3]⟩), hB⟩
        case measure => simp [intOf]
      · clear c0 c1 c2
        have e1 : ((3 : Nat) : Int) = 3 := rfl
        rw [e1]
        go_wp2
        go_ret
        exact ⟨rfl, hB⟩
theorem r10_above (op : Int) {B : Option Addr} {m k : Nat} {l : List ByteArray} (w : World) (h0 : 4 < op) (ha : arity op = (m : Int)) (hl : l.length = m) (hr : Rd kCs 1 w B m l) (hs : (l.map ByteArray.size).sum ≤ 1000000) :
    Calls Tryz.prog 57 #[.int .i64 op, .slice B m k] w fun e w' => e = .returned (.string (mkS (upT op (l.map bsl)))) ∧ Below w.heap.size w w' := by
  have hop : op ≤ 12 := by
    unfold arity at ha
    split at ha <;> omega
  have H : op = 5 ∨ op = 6 ∨ op = 7 ∨ op = 8 ∨ op = 9 ∨ op = 10 ∨ op = 11 ∨ op = 12 := by omega
  rcases H with h | h | h | h | h | h | h | h
  · subst h
    have e : m = 1 := by unfold arity at ha; simp at ha; omega
    subst e
    exact r10_above5 w hl hr hs
  · subst h
    have e : m = 2 := by unfold arity at ha; simp at ha; omega
    subst e
    exact r10_above6 w hl hr hs
  · subst h
    have e : m = 2 := by unfold arity at ha; simp at ha; omega
    subst e
    exact r10_above7 w hl hr hs
  · subst h
    have e : m = 2 := by unfold arity at ha; simp at ha; omega
    subst e
    exact r10_above8 w hl hr hs
  · subst h
    have e : m = 2 := by unfold arity at ha; simp at ha; omega
    subst e
    exact r10_above9 w hl hr hs
  · subst h
    have e : m = 2 := by unfold arity at ha; simp at ha; omega
    subst e
    exact r10_above10 w hl hr hs
  · subst h
    have e : m = 2 := by unfold arity at ha; simp at ha; omega
    subst e
    exact r10_above11 w hl hr hs
  · subst h
    have e : m = 3 := by unfold arity at ha; simp at ha; omega
    subst e
    exact r10_above12 w hl hr hs
end Go.Proofs.YtjdofncognaaoaaGreatDoor

/- Walks: the reference's Depth, Print, Check. -/
namespace Go.Proofs.YtjdofncognaaoaaGreatDoor
open Go.RowKit
set_option linter.unusedVariables false
set_option linter.unusedSimpArgs false

theorem FI.fin {T : Type} {node : Nd → List T → Option T} {wt : T → Nat} {C : Nat} {t : List Nd} {st : List T} (hf : tform t = true) (h : FI node wt C t t.length st) : ∃ x, st = [x] ∧ tval node t = some x :=
  tm_tval hf (by have := h.run; rwa [List.take_length] at this)
theorem FI.tot {T : Type} {node : Nd → List T → Option T} {wt : T → Nat} {C : Nat} {t : List Nd} {k : Nat} {st : List T} {a : Nd} (hT : Tm t) (h : FI node wt C t k st) (hk : t[k]? = some a) : ∃ m q : Nat, arity a.op = (m : Int) ∧ st.length = q + m := h.next hT hk
theorem add0 (B : Option Addr) : (B.map fun x : Addr => x.add 0) = B := by cases B <;> rfl
set_option maxRecDepth 100000 in
set_option maxHeartbeats 8000000 in
theorem r10_depth {A : Option Addr} {n c : Nat} {t : List Nd} (w : World) (hx : Rd Nd.cs 6 w A n t) :
    Calls Tryz.prog 21 #[.slice A n c] w fun e w' => e = .returned (.int .i64 (tdeep t)) ∧ Below w.heap.size w w' := by
  have hbig := hx.big
  have HL := Lib.hid hx.len
  have hFm := r10_formed (c := c) w hx
  cases hf : tform t with
  | false =>
    rw [tdeep_un hf]
    rw [hf] at hFm
    clear hf
    go_enter Tryz.func21, Tryz.ntmps21
    go_wp2_with (go_at_call 30; (with_reducible refine hFm.mono ?_); rintro e w1 ⟨rfl, hb1⟩)
    go_ret
    exact ⟨rfl, hb1⟩
  | true =>
    rw [hf] at hFm
    obtain ⟨htl, hT⟩ := tform_iff.1 hf
    rw [HL.out] at htl
    obtain ⟨R, hR⟩ : ∃ R, tdeep t = R := ⟨_, rfl⟩
    have HRR := Lib.hid hR
    rw [hR]
    have HFM := Lib.hid hf
    have HT := Lib.hid hT
    have HI0 := Lib.hid (FI.start ndep Int.natAbs 1 t)
    clear hf hT hR
    go_enter Tryz.func21, Tryz.ntmps21
    go_wp2_with (go_at_call 30; (with_reducible refine hFm.mono ?_); rintro e w1 ⟨rfl, hb1⟩)
    have hw0 : Below w.heap.size w (w1.alloc (.cells #[] 3)) := b_alloc hb1 _
    clear hFm
    go_loopw [3, 4] (fun sv iv wr => ∃ (k L cc : Nat) (B : Option Addr) (ss : List Int), k ≤ n ∧ iv = .int .i64 k ∧ sv = .slice B L cc ∧ L ≤ cc ∧ L ≤ k ∧ Hid (ss.length = L) ∧ Hid (Rd jCs 1 wr B L ss) ∧ Hid (FI ndep Int.natAbs 1 t k ss) ∧ Below w.heap.size w wr) (fun _ iv _ => n - (intOf iv).toNat)
    case atStart => exact ⟨0, 0, 0, _, [], Nat.zero_le _, rfl, rfl, Nat.le_refl _, Nat.le_refl _, rfl, Rd.nil, HI0, hw0⟩
    case round =>
      clear HI0 hw0 hb1
      obtain ⟨k, L, cc, B, ss, hk, rfl, rfl, hLc, hLk, HSL, HRS, HF, hB⟩ := hrel
      by_cases hlt : k < n
      · obtain ⟨ad, a0, a1, a2, a3, a4, a5, rfl, hxk, hl⟩ := nd_in hx hB hlt
        have HX := Lib.hid hxk
        obtain ⟨x0, x1, x2, x3, x4, x5, x6⟩ := hl wr (Below.refl _ _)
        have hAr := fun W => r10_arity a0 W
        obtain ⟨m, q, hm, hsl⟩ := HF.out.next HT.out hxk
        dsimp only at hm
        rw [hm] at hAr
        have HM := Lib.hid hm
        have hLq : L = q + m := by rw [← HSL.out]; exact hsl
        subst hLq
        have hm3 : m ≤ 3 := by have := arity_le a0; omega
        have hs1 := add0 B
        have htk : (ss.take q).length = q := by rw [List.length_take, HSL.out]; omega
        have HTK := Lib.hid htk
        have hdl : (ss.drop q).length = m := by rw [List.length_drop, HSL.out]; omega
        have HDL := Lib.hid hdl
        have hwt : ((ss.drop q).map Int.natAbs).sum ≤ 2000 := Nat.le_trans (by rw [List.map_drop]; exact sum_drop _ _) HF.out.wt
        have HDB := Lib.hid (fun j => ndeep_take (ss.drop q) j)
        have HWT := Lib.hid hwt
        have HST := Lib.hid (HF.out.some_ (fun x _ l y h => ndep_wt h) (by rw [HL.out]; exact htl) HX.out HM.out HSL.out (x := ndeep (ss.drop q) + 1) rfl)
        clear hl hxk hm hsl htk hdl hwt
        go_wp2_with (go_at_call 26; (with_reducible refine (hAr _).mono ?_); rintro e w1 ⟨rfl, hb1⟩; obtain ⟨hc1, hf1⟩ := bcell hb1; have hs1 := hb1.size; (try simp at hs1); skip)
        have HRW := Lib.hid (HRS.out.below hb1)
        go_loopw [6, 7] (fun dv kv wi => ∃ (j : Nat) (d : Int), j ≤ m ∧ kv = .int .i64 ((q + j : Nat) : Int) ∧ dv = .int .i64 d ∧ Hid (d = ndeep ((ss.drop q).take j)) ∧ wi = w1) (fun _ kv _ => q + m - (intOf kv).toNat)
        case atStart => exact ⟨0, 0, Nat.zero_le _, by go_num, rfl, rfl, rfl⟩
        case round =>
          obtain ⟨j, d, hj, rfl, rfl, HD, rfl⟩ := hrel
          have hdb := HDB.out j
          rw [← HD.out] at hdb
          have hdw := HWT.out
          have hdb2 : d ≤ 1000000 := by omega
          have hdb1 := hdb.1
          clear hdb hdw
          by_cases hlj : j < m
          · obtain ⟨ad2, s, rfl, hsj, hc⟩ := jnt_in HRW.out (Below.refl _ _) (show q + j < q + m by omega)
            have y0 := hc _ (Below.refl _ _)
            have hsj2 : (ss.drop q)[j]? = some s := by rw [List.getElem?_drop]; exact hsj
            have HS := Lib.hid (ndeep_step hsj2)
            rw [← HD.out] at HS
            clear hc hsj hsj2
            go_wp2
            go_roundw
            case rel => exact ⟨j + 1, max d s, by omega, by go_num, rfl, HS.out.symm, by first | rfl | trivial⟩
            case measure => simp [intOf]; omega
          · obtain rfl : j = m := by omega
            have hde : d = ndeep (ss.drop q) := by rw [HD.out, ← HDL.out, List.take_length]
            rw [← hde] at HST
            clear hde HD HDB HWT
            have HO0 : Hid (Own jCs 1 3 (wr.alloc (.cells #[] 3)) wr.heap.size (.slice (some ⟨wr.heap.size, 0, none⟩) 0 0) ([] : List Int)) := Own.made0 (Nat.le_refl _)
            have HR0 := Lib.hid ((HRS.out.pre (k := q) (by omega)).below (b_alloc hb1 (.cells #[] 3)))
            have hW0 : wr.heap.size ≤ (wr.alloc (.cells #[] 3)).heap.size := (b_alloc (Below.refl _ _) _).size
            have hy1 : (([] : List Int).length + q) * 8 ≤ 140737488355328 ∧ ([] : List Int).length + q ≤ 140737488355328 := by rw [List.length_nil]; omega
            go_wp2_with (first
              | (at_builtin; refine wpList_appr (v := .slice (some ⟨wr.heap.size, 0, none⟩) 0 0) Tryz.elI (Tryz.elI).und (by omega) jCs_length jCs_one rfl (.tmp 40) (.tmp 46) rfl rfl HO0.out B q cc (ss.take q) rfl HR0.out hy1.1 hy1.2 hW0 ?_; intro v2 w21 hown2 hg2 hat2; (have HF2 := Lib.hid (Own.frame HO0.out (b_alloc (Below.refl _ _) _) (Nat.le_refl _) hg2)); (have hsz2 := HF2.out.size); (have HOWN2 := Lib.hid (hown2.alloc (.cells #[.int .i64 (d + 1)] 3))); (have hW2 : wr.heap.size ≤ (w21.alloc (.cells #[.int .i64 (d + 1)] 3)).heap.size := Nat.le_trans hsz2 (b_alloc (Below.refl _ _) _).size); (have hy2 : ((([] : List Int) ++ ss.take q).length + 1) * 8 ≤ 140737488355328 ∧ (([] : List Int) ++ ss.take q).length ≤ 140737488355328 := by rw [List.nil_append, HTK.out]; omega); clear hown2 hg2 hat2)
              | (at_builtin; refine wpList_app (v := v2) Tryz.elI (by omega) jCs_length jCs_one rfl (.tmp 47) (.tmp 50) rfl rfl HOWN2.out ⟨w21.heap.size, 0, none⟩ 1 (d + 1) rfl (new_cells _ _ _ _ rfl) hy2.1 hy2.2 hW2 ?_; intro v3 w22 hown3 hg3 hat3; (have HF3 := Lib.hid (Own.frame HOWN2.out (b_alloc HF2.out _) (Nat.le_refl _) hg3)); (obtain ⟨B3, c3, hv3, hr3⟩ := hown3.rd jCs_length); subst hv3; (have hl3 : (([] : List Int) ++ ss.take q ++ [(d + 1)]).length = q + 1 := by rw [List.nil_append, List.length_append, HTK.out]; rfl); (have e3 : ([] : List Int) ++ ss.take q ++ [(d + 1)] = ss.take q ++ [(d + 1)] := rfl); (rw [hl3] at hown3 hr3 ⊢); (rw [e3] at hown3 hr3); (have HRD := Lib.hid hr3); (have hc3 : q + 1 ≤ c3 := hown3.shape.2.1); (have HL5 : Hid ((ss.take q ++ [(d + 1)]).length = q + 1) := by have := hl3; rwa [e3] at this); clear hown3 hg3 hat3 hr3 hl3 e3))
            go_roundw
            case rel => exact ⟨k + 1, q + 1, c3, B3, ss.take q ++ [d + 1], by omega, by go_num, rfl, hc3, by omega, HL5, HRD, HST, b_then (b_then hB hb1) HF3.out⟩
            case measure => simp [intOf]; omega
      · obtain rfl : k = n := by omega
        have hend := HF.out
        rw [← HL.out] at hend
        obtain ⟨x, hsx, hv⟩ := hend.fin HFM.out
        subst hsx
        have hL1 : L = 1 := HSL.out.symm
        subst hL1
        have hxr : R = x := by rw [← HRR.out]; unfold tdeep; rw [hv]; rfl
        have HXR := Lib.hid hxr
        obtain ⟨ad2, s, rfl, hs0, hcell⟩ := jnt_in HRS.out (Below.refl _ _) (Nat.lt_succ_self 0)
        have hs : x = s := by simpa using hs0
        subst hs
        have hc0 := hcell wr (Below.refl _ _)
        have ha : ad2.add 0 = ad2 := rfl
        rw [ha] at hc0
        clear hcell hs0 ha hend hv hxr
        go_wp2
        go_ret
        exact ⟨ret_int HXR.out.symm, hB⟩
set_option maxRecDepth 100000 in
set_option maxHeartbeats 8000000 in
theorem r10_print {A : Option Addr} {n c : Nat} {t : List Nd} (w : World) (hx : Rd Nd.cs 6 w A n t) (hz : ∀ x ∈ t, nq x) :
    Calls Tryz.prog 19 #[.slice A n c] w fun e w' => e = .returned (.string (tpr t)) ∧ Below w.heap.size w w' := by
  have hbig := hx.big
  have HL := Lib.hid hx.len
  have hFm := r10_formed (c := c) w hx
  obtain ⟨R, hR⟩ : ∃ R, tpr t = R := ⟨_, rfl⟩
  have HRR := Lib.hid hR
  rw [hR]
  clear hR
  cases hf : tform t with
  | false =>
    have HF0 : Hid (R = ⟨#[]⟩) := by rw [← HRR.out]; unfold tpr; rw [tval_unform hf]; rfl
    rw [hf] at hFm
    clear hf
    go_enter Tryz.func19, Tryz.ntmps19
    go_wp2_with (go_at_call 30; (with_reducible refine hFm.mono ?_); rintro e w1 ⟨rfl, hb1⟩)
    go_ret
    exact ⟨ret_str HF0.out.symm, hb1⟩
  | true =>
    rw [hf] at hFm
    obtain ⟨htl, hT⟩ := tform_iff.1 hf
    rw [HL.out] at htl
    have HFM := Lib.hid hf
    have HT := Lib.hid hT
    have HI0 := Lib.hid (FI.start pnode ByteArray.size 200 t)
    have HZ := Lib.hid hz
    clear hf hT hz
    go_enter Tryz.func19, Tryz.ntmps19
    go_wp2_with (go_at_call 30; (with_reducible refine hFm.mono ?_); rintro e w1 ⟨rfl, hb1⟩)
    have hw0 : Below w.heap.size w (w1.alloc (.cells #[] 9)) := b_alloc hb1 _
    clear hFm
    go_loopw [3, 4] (fun sv iv wr => ∃ (k L cc : Nat) (B : Option Addr) (ss : List ByteArray), k ≤ n ∧ iv = .int .i64 k ∧ sv = .slice B L cc ∧ L ≤ cc ∧ L ≤ k ∧ Hid (ss.length = L) ∧ Hid (Rd kCs 1 wr B L ss) ∧ Hid (FI pnode ByteArray.size 200 t k ss) ∧ Below w.heap.size w wr) (fun _ iv _ => n - (intOf iv).toNat)
    case atStart => exact ⟨0, 0, 0, _, [], Nat.zero_le _, rfl, rfl, Nat.le_refl _, Nat.le_refl _, rfl, Rd.nil, HI0, hw0⟩
    case round =>
      clear HI0 hw0 hb1
      obtain ⟨k, L, cc, B, ss, hk, rfl, rfl, hLc, hLk, HSL, HRS, HF, hB⟩ := hrel
      by_cases hlt : k < n
      · obtain ⟨ad, a0, a1, a2, a3, a4, a5, rfl, hxk, hl⟩ := nd_in hx hB hlt
        have HX := Lib.hid hxk
        have HLL := Lib.hid hl
        obtain ⟨hz1, hz2, hz3⟩ := HZ.out _ (List.mem_of_getElem? hxk)
        dsimp only at hz1 hz2 hz3
        obtain ⟨x0, x1, x2, x3, x4, x5, x6⟩ := hl wr (Below.refl _ _)
        have hNd := fun W => r10_node a0 a1 a2 a3 a4 a5 W hz1 hz2 hz3
        have hAr := fun W => r10_arity a0 W
        obtain ⟨m, q, hm, hsl⟩ := HF.out.next HT.out hxk
        dsimp only at hm
        rw [hm] at hAr
        have HM := Lib.hid hm
        have hLq : L = q + m := by rw [← HSL.out]; exact hsl
        subst hLq
        have hm3 : m ≤ 3 := by have := arity_le a0; omega
        have hs1 := add0 B
        have htk : (ss.take q).length = q := by rw [List.length_take, HSL.out]; omega
        have HTK := Lib.hid htk
        have h0op : 0 ≤ a0 := by
          unfold arity at hm
          split at hm <;> omega
        cases hmay : nmay ⟨a0, ⟨a1, a2⟩, a3, a4, a5⟩ with
        | false =>
          have hpn : pnode ⟨a0, ⟨a1, a2⟩, a3, a4, a5⟩ (ss.drop q) = none := by unfold pnode ptx pmay; rw [hmay, Bool.and_false]; rfl
          have HE := Lib.hid (HF.out.none_ HX.out HM.out HSL.out hpn)
          rw [hmay] at hNd
          clear hl hxk hm hsl htk hmay hpn
          go_wp2_with (go_at_call 55; (with_reducible refine (hNd _).mono ?_); rintro e w1 ⟨rfl, hb1⟩; obtain ⟨hc1, hf1⟩ := bcell hb1; have hs1 := hb1.size; (try simp at hs1); skip)
          go_ret
          exact ⟨ret_str (by rw [← HRR.out]; unfold tpr; rw [HE.out]; rfl), b_then hB hb1⟩
        | true =>
          rw [hmay] at hNd
          by_cases h4 : a0 ≤ 4
          · have hm0 : m = 0 := by
              unfold arity at hm
              (repeat' split at hm) <;> omega
            obtain ⟨S, hS⟩ : ∃ S, mkS (leafT numT ⟨a0, ⟨a1, a2⟩, a3, a4, a5⟩) = S := ⟨_, rfl⟩
            have hLf : ∀ W, Calls Tryz.prog 56 #[.agg #[.int .i64 a0, .string a1, .string a2, .string a3, .int .i64 a4, .int .i64 a5]] W fun e w' => e = .returned (.string S) ∧ Below W.heap.size W w' := fun W => by
              rw [← hS]
              have H5 : a0 = 0 ∨ a0 = 1 ∨ a0 = 2 ∨ a0 = 3 ∨ a0 = 4 := by omega
              rcases H5 with h | h | h | h | h
              · subst h; exact r10_leaf0 a1 a2 a3 a4 a5 W hmay
              · subst h; exact r10_leaf1 a1 a2 a3 a4 a5 W hmay
              · subst h; exact r10_leaf2 a1 a2 a3 a4 a5 W hmay
              · subst h; exact r10_leaf3 a1 a2 a3 a4 a5 W hmay
              · subst h; exact r10_leaf4 a1 a2 a3 a4 a5 W hmay
            have hpn : pnode ⟨a0, ⟨a1, a2⟩, a3, a4, a5⟩ (ss.drop q) = some S := pnode_yes hmay h0op (by rw [if_pos h4, ← hS]; rfl)
            have HST := Lib.hid (HF.out.some_ (fun x _ l y h => pnode_wt h) (by rw [HL.out]; exact htl) HX.out HM.out HSL.out hpn)
            have z0 : ((m : Int) == 0) = true := by rw [hm0]; rfl
            clear hl hxk hm hsl htk hmay hpn hS
            go_wp2_with (first
              | (go_at_call 55; (with_reducible refine (hNd _).mono ?_); rintro e w1 ⟨rfl, hb1⟩; obtain ⟨hc1, hf1⟩ := bcell hb1; have hs1 := hb1.size; (try simp at hs1); obtain ⟨x0, x1, x2, x3, x4, x5, x6⟩ := HLL.out w1 hb1)
              | (go_at_call 26; (with_reducible refine (hAr _).mono ?_); rintro e w2 ⟨rfl, hb2⟩; obtain ⟨hc2, hf2⟩ := bcell hb2; have hs2 := hb2.size; (try simp at hs2); obtain ⟨x0, x1, x2, x3, x4, x5, x6⟩ := HLL.out w2 (b_then hb1 hb2))
              | (go_at_call 56; (with_reducible refine (hLf _).mono ?_); rintro e w3 ⟨rfl, hb3⟩; obtain ⟨hc3, hf3⟩ := bcell hb3; have hs3 := hb3.size; (try simp at hs3); (have hb13 := b_then (b_then hb1 hb2) hb3); (have HO0 : Hid (Own kCs 1 9 (w3.alloc (.cells #[] 9)) w3.heap.size (.slice (some ⟨w3.heap.size, 0, none⟩) 0 0) ([] : List ByteArray)) := Own.made0 (Nat.le_refl _)); (have HR0 := Lib.hid ((HRS.out.pre (k := q) (by omega)).below (b_alloc hb13 (.cells #[] 9)))); (have hW0 : w3.heap.size ≤ (w3.alloc (.cells #[] 9)).heap.size := (b_alloc (Below.refl _ _) _).size); (have hy1 : (([] : List ByteArray).length + q) * 16 ≤ 140737488355328 ∧ ([] : List ByteArray).length + q ≤ 140737488355328 := by rw [List.length_nil]; omega))
              | (at_builtin; refine wpList_appr (v := .slice (some ⟨w3.heap.size, 0, none⟩) 0 0) Tryz.elS (Tryz.elS).und (by omega) kCs_length kCs_one rfl (.tmp 48) (.tmp 54) rfl rfl HO0.out B q cc (ss.take q) rfl HR0.out hy1.1 hy1.2 hW0 ?_; intro v2 w21 hown2 hg2 hat2; (have HF2 := Lib.hid (Own.frame HO0.out (b_alloc (Below.refl _ _) _) (Nat.le_refl _) hg2)); (have hsz2 := HF2.out.size); (have HOWN2 := Lib.hid (hown2.alloc (.cells #[.string S] 9))); (have hW2 : w3.heap.size ≤ (w21.alloc (.cells #[.string S] 9)).heap.size := Nat.le_trans hsz2 (b_alloc (Below.refl _ _) _).size); (have hy2 : ((([] : List ByteArray) ++ ss.take q).length + 1) * 16 ≤ 140737488355328 ∧ (([] : List ByteArray) ++ ss.take q).length ≤ 140737488355328 := by rw [List.nil_append, HTK.out]; omega); clear hown2 hg2 hat2)
              | (at_builtin; refine wpList_app (v := v2) Tryz.elS (by omega) kCs_length kCs_one rfl (.tmp 55) (.tmp 57) rfl rfl HOWN2.out ⟨w21.heap.size, 0, none⟩ 1 S rfl (new_cells _ _ _ _ rfl) hy2.1 hy2.2 hW2 ?_; intro v3 w22 hown3 hg3 hat3; (have HF3 := Lib.hid (Own.frame HOWN2.out (b_alloc HF2.out _) (Nat.le_refl _) hg3)); (obtain ⟨B3, c3, hv3, hr3⟩ := hown3.rd kCs_length); subst hv3; (have hl3 : (([] : List ByteArray) ++ ss.take q ++ [S]).length = q + 1 := by rw [List.nil_append, List.length_append, HTK.out]; rfl); (have e3 : ([] : List ByteArray) ++ ss.take q ++ [S] = ss.take q ++ [S] := rfl); (rw [hl3] at hown3 hr3 ⊢); (rw [e3] at hown3 hr3); (have HRD := Lib.hid hr3); (have hc3 : q + 1 ≤ c3 := hown3.shape.2.1); (have HL5 : Hid ((ss.take q ++ [S]).length = q + 1) := by have := hl3; rwa [e3] at this); clear hown3 hg3 hat3 hr3 hl3 e3))
            go_roundw
            case rel => exact ⟨k + 1, q + 1, c3, B3, ss.take q ++ [S], by omega, by go_num, rfl, hc3, by omega, HL5, HRD, HST, b_then (b_then hB hb13) HF3.out⟩
            case measure => simp [intOf]; omega
          · have hm0 : 0 < m := by
              unfold arity at hm
              (repeat' split at hm) <;> omega
            have hdl : (ss.drop q).length = m := by rw [List.length_drop, HSL.out]; omega
            have hwt : ((ss.drop q).map ByteArray.size).sum ≤ 1000000 := Nat.le_trans (by rw [List.map_drop]; exact sum_drop _ _) (Nat.le_trans HF.out.wt (by omega))
            obtain ⟨S, hS⟩ : ∃ S, mkS (upT a0 ((ss.drop q).map bsl)) = S := ⟨_, rfl⟩
            have hUp : ∀ W B2 k2, Rd kCs 1 W B2 m (ss.drop q) → Calls Tryz.prog 57 #[.int .i64 a0, .slice B2 m k2] W fun e w' => e = .returned (.string S) ∧ Below W.heap.size W w' := fun W B2 k2 hr => by
              rw [← hS]
              exact r10_above a0 W (by omega) hm hdl hr hwt
            have hpn : pnode ⟨a0, ⟨a1, a2⟩, a3, a4, a5⟩ (ss.drop q) = some S := pnode_yes hmay h0op (by rw [if_neg h4, ← hS]; rfl)
            have HST := Lib.hid (HF.out.some_ (fun x _ l y h => pnode_wt h) (by rw [HL.out]; exact htl) HX.out HM.out HSL.out hpn)
            have z0 : ((m : Int) == 0) = false := by rw [beq_eq_false_iff_ne]; omega
            have hcq : ¬ cc = q := by omega
            obtain ⟨ad2, rfl⟩ : ∃ ad2, B = some ad2 := by
              cases B with
              | none => have := HRS.out.none_; omega
              | some x => exact ⟨x, rfl⟩
            have HRQ := Lib.hid (fun W (hW : Below wr.heap.size wr W) => by
              have := (HRS.out.below hW).from_ (q := q) (by omega)
              rwa [show q + m - q = m by omega, Nat.mul_one] at this)
            clear hl hxk hm hsl htk hmay hpn hS hdl hwt
            go_wp2_with (first
              | (go_at_call 55; (with_reducible refine (hNd _).mono ?_); rintro e w1 ⟨rfl, hb1⟩; obtain ⟨hc1, hf1⟩ := bcell hb1; have hs1 := hb1.size; (try simp at hs1); obtain ⟨x0, x1, x2, x3, x4, x5, x6⟩ := HLL.out w1 hb1)
              | (go_at_call 26; (with_reducible refine (hAr _).mono ?_); rintro e w2 ⟨rfl, hb2⟩; obtain ⟨hc2, hf2⟩ := bcell hb2; have hs2 := hb2.size; (try simp at hs2); skip))
            have hb12 := b_then hb1 hb2
            have x0 := fun y : After w2 => (HLL.out y.W (b_then hb12 y.h)).c0
            (refine wp_region_after (by kernel_rfl) (by kernel_rfl) ?_; (repeat (first | go_big_quiet_skip | (go_big_quiet_want; go_big_quiet_op; first | go_big_quiet_on | (apply Exists.intro; refine ⟨fun _ => ?_, ?_⟩; (focus ((go_at_call 57; with_reducible exact Calls.after (hUp _ _ _ (HRQ.out _ (b_then hb12 (After.h _))))))); go_big_quiet_on)))); refine wpQuiet_nil ?_; rintro w3 ⟨⟨_, hb3⟩, rfl⟩; (try dsimp only); obtain ⟨hc3, hf3⟩ := bcell hb3; have hs3 := hb3.size; (try simp at hs3))
            have hb13 := b_then hb12 hb3
            have HO0 : Hid (Own kCs 1 9 (w3.alloc (.cells #[] 9)) w3.heap.size (.slice (some ⟨w3.heap.size, 0, none⟩) 0 0) ([] : List ByteArray)) := Own.made0 (Nat.le_refl _)
            have HR0 := Lib.hid ((HRS.out.pre (k := q) (by omega)).below (b_alloc hb13 (.cells #[] 9)))
            have hW0 : w3.heap.size ≤ (w3.alloc (.cells #[] 9)).heap.size := (b_alloc (Below.refl _ _) _).size
            have hy1 : (([] : List ByteArray).length + q) * 16 ≤ 140737488355328 ∧ ([] : List ByteArray).length + q ≤ 140737488355328 := by rw [List.length_nil]; omega
            go_wp2_with (first
              | (at_builtin; refine wpList_appr (v := .slice (some ⟨w3.heap.size, 0, none⟩) 0 0) Tryz.elS (Tryz.elS).und (by omega) kCs_length kCs_one rfl (.tmp 48) (.tmp 54) rfl rfl HO0.out (some ad2) q cc (ss.take q) rfl HR0.out hy1.1 hy1.2 hW0 ?_; intro v2 w21 hown2 hg2 hat2; (have HF2 := Lib.hid (Own.frame HO0.out (b_alloc (Below.refl _ _) _) (Nat.le_refl _) hg2)); (have hsz2 := HF2.out.size); (have HOWN2 := Lib.hid (hown2.alloc (.cells #[.string S] 9))); (have hW2 : w3.heap.size ≤ (w21.alloc (.cells #[.string S] 9)).heap.size := Nat.le_trans hsz2 (b_alloc (Below.refl _ _) _).size); (have hy2 : ((([] : List ByteArray) ++ ss.take q).length + 1) * 16 ≤ 140737488355328 ∧ (([] : List ByteArray) ++ ss.take q).length ≤ 140737488355328 := by rw [List.nil_append, HTK.out]; omega); clear hown2 hg2 hat2)
              | (at_builtin; refine wpList_app (v := v2) Tryz.elS (by omega) kCs_length kCs_one rfl (.tmp 55) (.tmp 57) rfl rfl HOWN2.out ⟨w21.heap.size, 0, none⟩ 1 S rfl (new_cells _ _ _ _ rfl) hy2.1 hy2.2 hW2 ?_; intro v3 w22 hown3 hg3 hat3; (have HF3 := Lib.hid (Own.frame HOWN2.out (b_alloc HF2.out _) (Nat.le_refl _) hg3)); (obtain ⟨B3, c3, hv3, hr3⟩ := hown3.rd kCs_length); subst hv3; (have hl3 : (([] : List ByteArray) ++ ss.take q ++ [S]).length = q + 1 := by rw [List.nil_append, List.length_append, HTK.out]; rfl); (have e3 : ([] : List ByteArray) ++ ss.take q ++ [S] = ss.take q ++ [S] := rfl); (rw [hl3] at hown3 hr3 ⊢); (rw [e3] at hown3 hr3); (have HRD := Lib.hid hr3); (have hc3 : q + 1 ≤ c3 := hown3.shape.2.1); (have HL5 : Hid ((ss.take q ++ [S]).length = q + 1) := by have := hl3; rwa [e3] at this); clear hown3 hg3 hat3 hr3 hl3 e3))
            go_roundw
            case rel => exact ⟨k + 1, q + 1, c3, B3, ss.take q ++ [S], by omega, by go_num, rfl, hc3, by omega, HL5, HRD, HST, b_then (b_then hB hb13) HF3.out⟩
            case measure => simp [intOf]; omega
      · obtain rfl : k = n := by omega
        have hend := HF.out
        rw [← HL.out] at hend
        obtain ⟨x, hsx, hv⟩ := hend.fin HFM.out
        subst hsx
        have hL1 : L = 1 := HSL.out.symm
        subst hL1
        have hxr : R = x := by rw [← HRR.out]; unfold tpr; rw [hv]; rfl
        have HXR := Lib.hid hxr
        obtain ⟨ad2, s, rfl, hs0, hcell⟩ := str_in HRS.out (Below.refl _ _) (Nat.lt_succ_self 0)
        have hs : x = s := by simpa using hs0
        subst hs
        have hc0 := hcell wr (Below.refl _ _)
        have ha : ad2.add 0 = ad2 := rfl
        rw [ha] at hc0
        clear hcell hs0 ha hend hv hxr
        go_wp2
        go_ret
        exact ⟨ret_str HXR.out.symm, hB⟩
theorem r10_check {A : Option Addr} {n c : Nat} {t : List Nd} (w : World) (hx : Rd Nd.cs 6 w A n t) (hz : ∀ x ∈ t, nq x) :
    Calls Tryz.prog 17 #[.slice A n c] w fun e w' => e = .returned (.int .i64 (tchk t)) ∧ Below w.heap.size w w' := by
  have hP := r10_print (c := c) w hx hz
  have hD := fun W (hW : Below w.heap.size w W) => r10_depth (c := c) W (hx.below hW)
  have hbg := tpr_big t
  unfold tchk
  generalize tpr t = s at *
  generalize tdeep t = d at *
  cases c1 : (s.toList == []) with
  | true =>
    rw [if_pos (.inl rfl)]
    go_enter Tryz.func17, Tryz.ntmps17
    go_wp2_with (first | (go_at_call 19; (with_reducible refine hP.mono ?_); rintro e w1 ⟨rfl, hb1⟩) | (go_at_call 21; (with_reducible refine (hD _ hb1).mono ?_); rintro e w2 ⟨rfl, hb2⟩; obtain ⟨hc2, hf2⟩ := bcell hb2; have hs2 := hb2.size; (try simp at hs2); skip))
    go_ret
    exact ⟨rfl, (by repeat (first | exact Below.refl _ _ | assumption | refine b_then ?_ (by assumption) | refine b_alloc ?_ _ | refine b_drewN ?_ _ | refine Below.drew ?_ | refine b_set ?_ (by first | exact Nat.le_refl _ | (simp; done) | (simp; omega) | omega) _))⟩
  | false =>
    by_cases c2 : 20000 < s.size
    · rw [if_pos (.inr (.inl c2))]
      have d2 : (20000 : Int) < (s.size : Int) := by omega
      go_enter Tryz.func17, Tryz.ntmps17
      go_wp2_with (first | (go_at_call 19; (with_reducible refine hP.mono ?_); rintro e w1 ⟨rfl, hb1⟩) | (go_at_call 21; (with_reducible refine (hD _ hb1).mono ?_); rintro e w2 ⟨rfl, hb2⟩; obtain ⟨hc2, hf2⟩ := bcell hb2; have hs2 := hb2.size; (try simp at hs2); skip))
      go_ret
      exact ⟨rfl, (by repeat (first | exact Below.refl _ _ | assumption | refine b_then ?_ (by assumption) | refine b_alloc ?_ _ | refine b_drewN ?_ _ | refine Below.drew ?_ | refine b_set ?_ (by first | exact Nat.le_refl _ | (simp; done) | (simp; omega) | omega) _))⟩
    · have d2 : ¬ (20000 : Int) < (s.size : Int) := by omega
      by_cases c3 : 150 < d
      · rw [if_pos (.inr (.inr c3))]
        go_enter Tryz.func17, Tryz.ntmps17
        go_wp2_with (first | (go_at_call 19; (with_reducible refine hP.mono ?_); rintro e w1 ⟨rfl, hb1⟩) | (go_at_call 21; (with_reducible refine (hD _ hb1).mono ?_); rintro e w2 ⟨rfl, hb2⟩; obtain ⟨hc2, hf2⟩ := bcell hb2; have hs2 := hb2.size; (try simp at hs2); skip))
        go_ret
        exact ⟨rfl, (by repeat (first | exact Below.refl _ _ | assumption | refine b_then ?_ (by assumption) | refine b_alloc ?_ _ | refine b_drewN ?_ _ | refine Below.drew ?_ | refine b_set ?_ (by first | exact Nat.le_refl _ | (simp; done) | (simp; omega) | omega) _))⟩
      · rw [if_neg (by simp [c2, c3])]
        go_enter Tryz.func17, Tryz.ntmps17
        go_wp2_with (first | (go_at_call 19; (with_reducible refine hP.mono ?_); rintro e w1 ⟨rfl, hb1⟩) | (go_at_call 21; (with_reducible refine (hD _ hb1).mono ?_); rintro e w2 ⟨rfl, hb2⟩; obtain ⟨hc2, hf2⟩ := bcell hb2; have hs2 := hb2.size; (try simp at hs2); skip))
        go_ret
        exact ⟨rfl, (by repeat (first | exact Below.refl _ _ | assumption | refine b_then ?_ (by assumption) | refine b_alloc ?_ _ | refine b_drewN ?_ _ | refine Below.drew ?_ | refine b_set ?_ (by first | exact Nat.le_refl _ | (simp; done) | (simp; omega) | omega) _))⟩
end Go.Proofs.YtjdofncognaaoaaGreatDoor

/- Walks: terms joined, compared, small; lists of terms. -/
namespace Go.Proofs.YtjdofncognaaoaaGreatDoor
open Go.RowKit
set_option linter.unusedVariables false
set_option linter.unusedSimpArgs false

/-- A slice, as a cell of another one. -/
abbrev Sv := Option Addr × Nat × Nat
abbrev vCs (p : Sv) : List Value := [.slice p.1 p.2.1 p.2.2]
theorem vCs_length (p : Sv) : (vCs p).length = 1 := rfl
theorem vCs_one (p : Sv) : ∀ u ∈ vCs p, u.oneCell' = true := by
  intro u hu
  rw [List.mem_singleton.1 hu]; rfl
/-- A list of terms that is read. -/
structure TL (w : World) (A : Option Addr) (n : Nat) (ts : List (List Nd)) : Prop where
  ex : ∃ ps : List Sv, Rd vCs 1 w A n ps ∧ ts.length = n ∧ ∀ (i : Nat) (p : Sv), ps[i]? = some p → p.2.1 ≤ p.2.2 ∧ ∃ t, ts[i]? = some t ∧ Rd Nd.cs 6 w p.1 p.2.1 t
theorem TL.len {w : World} {A : Option Addr} {n : Nat} {ts : List (List Nd)} (h : TL w A n ts) : ts.length = n := by obtain ⟨_, _, h2, _⟩ := h.ex; exact h2
theorem TL.big {w : World} {A : Option Addr} {n : Nat} {ts : List (List Nd)} (h : TL w A n ts) : n ≤ 9223372036854775807 := by obtain ⟨_, h1, _⟩ := h.ex; exact h1.big
theorem TL.below {w w1 : World} {A : Option Addr} {n : Nat} {ts : List (List Nd)} (h : TL w A n ts) (hb : Below w.heap.size w w1) : TL w1 A n ts := by
  obtain ⟨ps, h1, h2, h3⟩ := h.ex
  exact ⟨ps, h1.below hb, h2, fun i p hp => by obtain ⟨h4, t, h5, h6⟩ := h3 i p hp; exact ⟨h4, t, h5, h6.below hb⟩⟩
theorem tl_in {w wr : World} {A : Option Addr} {n : Nat} {ts : List (List Nd)} (h : TL w A n ts) (hB : Below w.heap.size w wr) {k : Nat} (hk : k < n) :
    ∃ ad C m c t, A = some ad ∧ ts[k]? = some t ∧ m ≤ c ∧ Rd Nd.cs 6 w C m t ∧ ∀ w1, Below wr.heap.size wr w1 → w1.cell? (ad.add k) = some (.slice C m c) := by
  obtain ⟨ps, h1, h2, h3⟩ := h.ex
  obtain ⟨ad, p, e, hl, hs, hc⟩ := h1.at_ hk
  obtain ⟨h4, t, h5, h6⟩ := h3 k p hs
  refine ⟨ad, p.1, p.2.1, p.2.2, t, e, h5, h4, h6, fun w1 hw1 => ?_⟩
  have hb := b_then hB hw1
  rw [hb.cell (by rw [add_block]; exact hl)]
  have := hc 0 _ rfl
  simpa using this
theorem all_stepN {α : Type} {p : α → Bool} {xs : List α} {k : Nat} {x : α} (h : (xs.take k).all p = true) (hx : xs[k]? = some x) (hp : p x = true) : (xs.take (k + 1)).all p = true := by
  rw [List.take_add_one, hx, List.all_append, h]
  simp [hp]
theorem all_badN {α : Type} {p : α → Bool} {xs : List α} {k : Nat} {x : α} (hx : xs[k]? = some x) (hp : p x = false) : xs.all p = false := by
  rw [← Bool.not_eq_true, List.all_eq_true]
  intro h
  have := h x (List.mem_of_getElem? hx)
  rw [hp] at this; cases this
def nd0 (op : Int) : Nd := ⟨op, nzero, ⟨#[]⟩, 0, 0⟩
theorem flat_step {ts : List (List Nd)} {k : Nat} {t : List Nd} (h : ts[k]? = some t) : (ts.take (k + 1)).flatten = (ts.take k).flatten ++ t := by
  rw [List.take_add_one, h, List.flatten_append]
  simp
theorem flat_le {ts : List (List Nd)} (k : Nat) : ((ts.take k).flatten).length ≤ ts.flatten.length := by
  have : ts.flatten.length = ((ts.take k).flatten).length + ((ts.drop k).flatten).length := by rw [← List.length_append, ← List.flatten_append, List.take_append_drop]
  omega
theorem flat_mem {ts : List (List Nd)} {k : Nat} {t : List Nd} (h : ts[k]? = some t) : t.length ≤ ts.flatten.length := by
  have h1 := flat_le (ts := ts) (k + 1)
  rw [flat_step h, List.length_append] at h1
  omega
set_option maxRecDepth 100000 in
set_option maxHeartbeats 4000000 in
theorem p_join (op : Int) {A : Option Addr} {n c : Nat} {ts : List (List Nd)} (w : World) (hx : TL w A n ts) (hs : ts.flatten.length ≤ 1000000) :
    Calls Tryz.prog 28 #[.int .i64 op, .slice A n c] w fun e w' => ∃ v, e = .returned v ∧ Own Nd.cs 6 41 w' w.heap.size v (ts.flatten ++ [nd0 op]) ∧ Below w.heap.size w w' := by
  have hbig := hx.big
  have HL := Lib.hid hx.len
  go_enter Tryz.func28, Tryz.ntmps28
  go_wp2
  go_loopw [5, 10] (fun ov iv wr => ∃ (k L cc : Nat) (O : Option Addr), k ≤ n ∧ iv = .int .i64 k ∧ ov = .slice O L cc ∧ Hid (((ts.take k).flatten).length = L) ∧ Hid (Own Nd.cs 6 41 wr w.heap.size (.slice O L cc) (ts.take k).flatten) ∧ Below w.heap.size w wr) (fun _ iv _ => n - (intOf iv).toNat)
  case atStart => exact ⟨0, 0, 0, none, Nat.zero_le _, rfl, rfl, by first | rfl | simp, Own.nil, Below.refl _ _⟩
  case round =>
    obtain ⟨k, L, cc, O, hk, rfl, rfl, HOL, HO, hB⟩ := hrel
    have hL1 : L ≤ 1000000 := by rw [← HOL.out]; exact Nat.le_trans (flat_le k) hs
    have hbase := hB.size
    by_cases hlt : k < n
    · obtain ⟨ad, C, m, cm, t, rfl, hxk, hmc, hR, hl⟩ := tl_in hx hB hlt
      have y0 := hl wr (Below.refl _ _)
      have HR := Lib.hid (hR.below hB)
      have hm1 : m ≤ 1000000 := by rw [← hR.len]; exact Nat.le_trans (flat_mem hxk) hs
      have HX := Lib.hid (flat_step hxk)
      have HTL := Lib.hid hR.len
      have hy : (((ts.take k).flatten).length + m) * 72 ≤ 140737488355328 ∧ ((ts.take k).flatten).length + m ≤ 140737488355328 := by rw [HOL.out]; omega
      clear hl hxk hR
      go_wp2_with (at_builtin; refine wpList_appr (v := .slice O L cc) Tryz.elemNd Tryz.elemNd.und (by omega) Nd.cs_length Nd.cs_one rfl (.tmp 14) (.tmp 15) rfl rfl HO.out C m cm t rfl HR.out hy.1 hy.2 hbase ?_; intro v2 w2 hown2 hg2 hat2)
      have HB2 : Below w.heap.size w w2 := Own.frame HO.out hB (Nat.le_refl _) hg2
      obtain ⟨O3, c3, hv3, hr3⟩ := hown2.rd Nd.cs_length
      subst hv3
      have HW := Lib.hid hown2
      clear hown2 hr3 hg2 hat2
      go_roundw
      case rel => exact ⟨k + 1, ((ts.take k).flatten ++ t).length, c3, O3, by omega, by go_num, rfl, by rw [HX.out]; rfl, by rw [HX.out]; exact HW.out, HB2⟩
      case measure => simp [intOf]; omega
    · obtain rfl : k = n := by omega
      have hfl : (ts.take k).flatten = ts.flatten := by rw [← HL.out, List.take_length]
      rw [hfl] at HO HOL
      have HN := Lib.hid (HO.out.alloc (.cells #[.int .i64 op, .string ⟨#[]⟩, .string ⟨#[]⟩, .string ⟨#[]⟩, .int .i64 0, .int .i64 0] 41))
      have hy : (ts.flatten.length + 1) * 72 ≤ 140737488355328 ∧ ts.flatten.length ≤ 140737488355328 := by omega
      have hbase2 : w.heap.size ≤ (wr.alloc (.cells #[.int .i64 op, .string ⟨#[]⟩, .string ⟨#[]⟩, .string ⟨#[]⟩, .int .i64 0, .int .i64 0] 41)).heap.size := (b_alloc hB _).size
      clear HO hfl
      go_wp2_with (at_builtin; refine wpList_app (v := .slice O L cc) Tryz.elemNd (by omega) Nd.cs_length Nd.cs_one rfl (.tmp 18) (.tmp 21) rfl rfl HN.out ⟨wr.heap.size, 0, none⟩ 1 (nd0 op) rfl (new_cells _ _ _ _ rfl) hy.1 hy.2 hbase2 ?_; intro v3 w3 hown3 hg3 hat3)
      have HB3 : Below w.heap.size w w3 := Own.frame HN.out (b_alloc hB _) (Nat.le_refl _) hg3
      go_ret
      exact ⟨_, rfl, hown3, HB3⟩
set_option maxRecDepth 100000 in
set_option maxHeartbeats 4000000 in
theorem r10_join (op : Int) {A : Option Addr} {n c : Nat} {ts : List (List Nd)} (w : World) (hx : TL w A n ts) (hs : ts.flatten.length ≤ 1000000) :
    Calls Tryz.prog 29 #[.int .i64 op, .slice A n c] w fun e w' => ∃ v, e = .returned v ∧ Own Nd.cs 6 41 w' w.heap.size v (ts.flatten ++ [nd0 op]) ∧ Below w.heap.size w w' := by
  have hbig := hx.big
  have HL := Lib.hid hx.len
  go_enter Tryz.func29, Tryz.ntmps29
  go_wp2
  go_loopw [5, 6] (fun ov iv wr => ∃ (k L cc : Nat) (O : Option Addr), k ≤ n ∧ iv = .int .i64 k ∧ ov = .slice O L cc ∧ Hid (((ts.take k).flatten).length = L) ∧ Hid (Own Nd.cs 6 41 wr w.heap.size (.slice O L cc) (ts.take k).flatten) ∧ Below w.heap.size w wr) (fun _ iv _ => n - (intOf iv).toNat)
  case atStart => exact ⟨0, 0, 0, _, Nat.zero_le _, rfl, rfl, by first | rfl | simp, Own.made0 (Nat.le_refl _), (by repeat (first | exact Below.refl _ _ | assumption | refine b_then ?_ (by assumption) | refine b_alloc ?_ _ | refine b_drewN ?_ _ | refine Below.drew ?_ | refine b_set ?_ (by first | exact Nat.le_refl _ | (simp; done) | (simp; omega) | omega) _))⟩
  case round =>
    obtain ⟨k, L, cc, O, hk, rfl, rfl, HOL, HO, hB⟩ := hrel
    have hL1 : L ≤ 1000000 := by rw [← HOL.out]; exact Nat.le_trans (flat_le k) hs
    have hbase := hB.size
    by_cases hlt : k < n
    · obtain ⟨ad, C, m, cm, t, rfl, hxk, hmc, hR, hl⟩ := tl_in hx hB hlt
      have y0 := hl wr (Below.refl _ _)
      have HR := Lib.hid (hR.below hB)
      have hm1 : m ≤ 1000000 := by rw [← hR.len]; exact Nat.le_trans (flat_mem hxk) hs
      have HX := Lib.hid (flat_step hxk)
      have HTL := Lib.hid hR.len
      have hy : (((ts.take k).flatten).length + m) * 72 ≤ 140737488355328 ∧ ((ts.take k).flatten).length + m ≤ 140737488355328 := by rw [HOL.out]; omega
      clear hl hxk hR
      go_wp2_with (at_builtin; refine wpList_appr (v := .slice O L cc) Tryz.elemNd Tryz.elemNd.und (by omega) Nd.cs_length Nd.cs_one rfl (.tmp 14) (.tmp 18) rfl rfl HO.out C m cm t rfl HR.out hy.1 hy.2 hbase ?_; intro v2 w2 hown2 hg2 hat2)
      have HB2 : Below w.heap.size w w2 := Own.frame HO.out hB (Nat.le_refl _) hg2
      obtain ⟨O3, c3, hv3, hr3⟩ := hown2.rd Nd.cs_length
      subst hv3
      have HW := Lib.hid hown2
      clear hown2 hr3 hg2 hat2
      go_roundw
      case rel => exact ⟨k + 1, ((ts.take k).flatten ++ t).length, c3, O3, by omega, by go_num, rfl, by rw [HX.out]; rfl, by rw [HX.out]; exact HW.out, HB2⟩
      case measure => simp [intOf]; omega
    · obtain rfl : k = n := by omega
      have hfl : (ts.take k).flatten = ts.flatten := by rw [← HL.out, List.take_length]
      rw [hfl] at HO HOL
      have HN := Lib.hid (HO.out.alloc (.cells #[.int .i64 op, .string ⟨#[]⟩, .string ⟨#[]⟩, .string ⟨#[]⟩, .int .i64 0, .int .i64 0] 41))
      have hy : (ts.flatten.length + 1) * 72 ≤ 140737488355328 ∧ ts.flatten.length ≤ 140737488355328 := by omega
      have hbase2 : w.heap.size ≤ (wr.alloc (.cells #[.int .i64 op, .string ⟨#[]⟩, .string ⟨#[]⟩, .string ⟨#[]⟩, .int .i64 0, .int .i64 0] 41)).heap.size := (b_alloc hB _).size
      clear HO hfl
      go_wp2_with (at_builtin; refine wpList_app (v := .slice O L cc) Tryz.elemNd (by omega) Nd.cs_length Nd.cs_one rfl (.tmp 20) (.tmp 23) rfl rfl HN.out ⟨wr.heap.size, 0, none⟩ 1 (nd0 op) rfl (new_cells _ _ _ _ rfl) hy.1 hy.2 hbase2 ?_; intro v3 w3 hown3 hg3 hat3)
      have HB3 : Below w.heap.size w w3 := Own.frame HN.out (b_alloc hB _) (Nat.le_refl _) hg3
      go_ret
      exact ⟨_, rfl, hown3, HB3⟩
theorem nd_same_no {xs ys : List Nd} {k : Nat} {x y : Nd} (hx : xs[k]? = some x) (hy : ys[k]? = some y) (h : ¬ x = y) : decide (xs = ys) = false := by
  rw [decide_eq_false_iff_not]
  intro e
  rw [e, hy] at hx
  injection hx with hx
  exact h hx.symm
theorem take_same {α : Type} {xs ys : List α} {k : Nat} {x y : α} (h : xs.take k = ys.take k) (hx : xs[k]? = some x) (hy : ys[k]? = some y) (e : x = y) : xs.take (k + 1) = ys.take (k + 1) := by
  rw [List.take_add_one, List.take_add_one, h, hx, hy, e]
set_option maxHeartbeats 2000000 in
theorem r10_same {A B : Option Addr} {n m c d : Nat} {xs ys : List Nd} (w : World) (hx : Rd Nd.cs 6 w A n xs) (hy : Rd Nd.cs 6 w B m ys) :
    Calls Tryz.prog 27 #[.slice A n c, .slice B m d] w fun e w' => e = .returned (.bool (decide (xs = ys))) ∧ Below w.heap.size w w' := by
  have hbig := hx.big
  have hbig2 := hy.big
  have HXL := Lib.hid hx.len
  have HYL := Lib.hid hy.len
  obtain ⟨R, hR⟩ : ∃ R, decide (xs = ys) = R := ⟨_, rfl⟩
  have HR := Lib.hid hR
  rw [hR]
  clear hR
  by_cases hnm : n = m
  · subst hnm
    go_enter Tryz.func27, Tryz.ntmps27
    go_wp2
    go_loopw [5] (fun i wr => ∃ k : Nat, k ≤ n ∧ i = .int .i64 k ∧ Hid (xs.take k = ys.take k) ∧ Below w.heap.size w wr) (fun i _ => n - (intOf i).toNat)
    case atStart => exact ⟨0, Nat.zero_le _, rfl, by simp [Hid], Below.refl _ _⟩
    case round =>
      obtain ⟨k, hk, rfl, H, hB⟩ := hrel
      by_cases hlt : k < n
      · obtain ⟨ad, a0, a1, a2, a3, a4, a5, rfl, hxk, hl⟩ := nd_in hx hB hlt
        obtain ⟨ad', b0, b1, b2, b3, b4, b5, rfl, hyk, hl'⟩ := nd_in hy hB hlt
        have x0 := fun y : After wr => (hl y.W y.h).c0
        have x1 := fun y : After wr => (hl y.W y.h).c1
        have x2 := fun y : After wr => (hl y.W y.h).c2
        have x3 := fun y : After wr => (hl y.W y.h).c3
        have x4 := fun y : After wr => (hl y.W y.h).c4
        have x5 := fun y : After wr => (hl y.W y.h).c5
        have y0 := fun y : After wr => (hl' y.W y.h).c0
        have y1 := fun y : After wr => (hl' y.W y.h).c1
        have y2 := fun y : After wr => (hl' y.W y.h).c2
        have y3 := fun y : After wr => (hl' y.W y.h).c3
        have y4 := fun y : After wr => (hl' y.W y.h).c4
        have y5 := fun y : After wr => (hl' y.W y.h).c5
        have HX := Lib.hid hxk
        have HY := Lib.hid hyk
        obtain ⟨E, hE⟩ : ∃ E, decide ((⟨a0, ⟨a1, a2⟩, a3, a4, a5⟩ : Nd) = ⟨b0, ⟨b1, b2⟩, b3, b4, b5⟩) = E := ⟨_, rfl⟩
        have heq : ∀ (d : Nat) (W : World), (Op.equalIn (d + 3) 41 (.agg #[.int .i64 a0, .string a1, .string a2, .string a3, .int .i64 a4, .int .i64 a5]) (.agg #[.int .i64 b0, .string b1, .string b2, .string b3, .int .i64 b4, .int .i64 b5])).run Tryz.prog W = .ok E W := fun d W => by rw [eqNd, nd_beq, hE]
        have HE := Lib.hid hE
        clear hxk hl hyk hl' hE
        cases E with
        | true =>
          have HS := Lib.hid (take_same H.out HX.out HY.out (of_decide_eq_true HE.out))
          go_wp2
          (refine wp_region_after (by kernel_rfl) (by kernel_rfl) ?_; (repeat (first | go_big_quiet_skip | (go_big_quiet_want; go_big_quiet_op; first | go_big_quiet_on | (apply Exists.intro; refine ⟨fun _ => ?_, ?_⟩; (focus (fail)); go_big_quiet_on)))); refine wpQuiet_nil ?_; rintro w1 ⟨⟨_, hb1⟩, rfl⟩; (try dsimp only); obtain ⟨hc1, hf1⟩ := bcell hb1; have hs1 := hb1.size; (try simp at hs1))
          go_wp2
          go_roundw
          case rel => exact ⟨k + 1, by omega, by go_num, HS, (by repeat (first | exact Below.refl _ _ | assumption | refine b_then ?_ (by assumption) | refine b_alloc ?_ _ | refine b_drewN ?_ _ | refine Below.drew ?_ | refine b_set ?_ (by first | exact Nat.le_refl _ | (simp; done) | (simp; omega) | omega) _))⟩
          case measure => simp [intOf]; omega
        | false =>
          have HS := Lib.hid (nd_same_no HX.out HY.out (of_decide_eq_false HE.out))
          go_wp2
          (refine wp_region_after (by kernel_rfl) (by kernel_rfl) ?_; (repeat (first | go_big_quiet_skip | (go_big_quiet_want; go_big_quiet_op; first | go_big_quiet_on | (apply Exists.intro; refine ⟨fun _ => ?_, ?_⟩; (focus (fail)); go_big_quiet_on)))); refine wpQuiet_nil ?_; rintro w1 ⟨⟨_, hb1⟩, rfl⟩; (try dsimp only); obtain ⟨hc1, hf1⟩ := bcell hb1; have hs1 := hb1.size; (try simp at hs1))
          go_wp2
          go_ret
          exact ⟨ret_bool (by rw [← HR.out, HS.out]), (by repeat (first | exact Below.refl _ _ | assumption | refine b_then ?_ (by assumption) | refine b_alloc ?_ _ | refine b_drewN ?_ _ | refine Below.drew ?_ | refine b_set ?_ (by first | exact Nat.le_refl _ | (simp; done) | (simp; omega) | omega) _))⟩
      · obtain rfl : k = n := by omega
        have hS : xs = ys := by
          have := H.out
          rwa [List.take_of_length_le (by rw [HXL.out]; exact Nat.le_refl _), List.take_of_length_le (by rw [HYL.out]; exact Nat.le_refl _)] at this
        have HS := Lib.hid hS
        clear hS
        go_wp2
        go_ret
        exact ⟨ret_bool (by rw [← HR.out]; exact (decide_eq_true HS.out).symm), hB⟩
  · have hne : R = false := by
      rw [← HR.out, decide_eq_false_iff_not]; rintro rfl; exact hnm (HXL.out.symm.trans HYL.out)
    have hnb : ((n : Int) == (m : Int)) = false := by rw [beq_eq_false_iff_ne]; omega
    subst hne
    go_enter Tryz.func27, Tryz.ntmps27
    go_wp2
    go_ret
    exact ⟨rfl, Below.refl _ _⟩
set_option maxHeartbeats 2000000 in
theorem r10_all {A B : Option Addr} {n m c d : Nat} {xs ys : List (List Nd)} (w : World) (hx : TL w A n xs) (hy : TL w B m ys) :
    Calls Tryz.prog 22 #[.slice A n c, .slice B m d] w fun e w' => e = .returned (.bool (decide (xs = ys))) ∧ Below w.heap.size w w' := by
  have hbig := hx.big
  have hbig2 := hy.big
  have HXL := Lib.hid hx.len
  have HYL := Lib.hid hy.len
  obtain ⟨R, hR⟩ : ∃ R, decide (xs = ys) = R := ⟨_, rfl⟩
  have HR := Lib.hid hR
  rw [hR]
  clear hR
  by_cases hnm : n = m
  · subst hnm
    go_enter Tryz.func22, Tryz.ntmps22
    go_wp2
    go_loopw [5] (fun i wr => ∃ k : Nat, k ≤ n ∧ i = .int .i64 k ∧ Hid (xs.take k = ys.take k) ∧ Below w.heap.size w wr) (fun i _ => n - (intOf i).toNat)
    case atStart => exact ⟨0, Nat.zero_le _, rfl, by simp [Hid], Below.refl _ _⟩
    case round =>
      obtain ⟨k, hk, rfl, H, hB⟩ := hrel
      by_cases hlt : k < n
      · obtain ⟨ad, C, p, cp, s, rfl, hxk, _, hR1, hl⟩ := tl_in hx hB hlt
        obtain ⟨ad', C', p', cp', s', rfl, hyk, _, hR2, hl'⟩ := tl_in hy hB hlt
        have x0 := fun y : After wr => hl y.W y.h
        have y0 := fun y : After wr => hl' y.W y.h
        have hSm := fun W (hW : Below w.heap.size w W) => r10_same (c := cp) (d := cp') W (hR1.below hW) (hR2.below hW)
        have HX := Lib.hid hxk
        have HY := Lib.hid hyk
        obtain ⟨E, hE⟩ : ∃ E, decide (s = s') = E := ⟨_, rfl⟩
        rw [hE] at hSm
        have HE := Lib.hid hE
        clear hxk hl hyk hl' hE hR1 hR2
        cases E with
        | true =>
          have HS := Lib.hid (take_same H.out HX.out HY.out (of_decide_eq_true HE.out))
          go_wp2
          (refine wp_region_after (by kernel_rfl) (by kernel_rfl) ?_; (repeat (first | go_big_quiet_skip | (go_big_quiet_want; go_big_quiet_op; first | go_big_quiet_on | (apply Exists.intro; refine ⟨fun _ => ?_, ?_⟩; (focus ((go_at_call 27; with_reducible exact Calls.after (hSm _ (b_then hB (After.h _)))))); go_big_quiet_on)))); refine wpQuiet_nil ?_; rintro w1 ⟨⟨_, hb1⟩, rfl⟩; (try dsimp only); obtain ⟨hc1, hf1⟩ := bcell hb1; have hs1 := hb1.size; (try simp at hs1))
          go_wp2
          go_roundw
          case rel => exact ⟨k + 1, by omega, by go_num, HS, (by repeat (first | exact Below.refl _ _ | assumption | refine b_then ?_ (by assumption) | refine b_alloc ?_ _ | refine b_drewN ?_ _ | refine Below.drew ?_ | refine b_set ?_ (by first | exact Nat.le_refl _ | (simp; done) | (simp; omega) | omega) _))⟩
          case measure => simp [intOf]; omega
        | false =>
          have hS : decide (xs = ys) = false := by
            rw [decide_eq_false_iff_not]
            intro e
            have h1 := HX.out
            rw [e, HY.out] at h1
            injection h1 with h1
            exact of_decide_eq_false HE.out h1.symm
          have HS := Lib.hid hS
          clear hS
          go_wp2
          (refine wp_region_after (by kernel_rfl) (by kernel_rfl) ?_; (repeat (first | go_big_quiet_skip | (go_big_quiet_want; go_big_quiet_op; first | go_big_quiet_on | (apply Exists.intro; refine ⟨fun _ => ?_, ?_⟩; (focus ((go_at_call 27; with_reducible exact Calls.after (hSm _ (b_then hB (After.h _)))))); go_big_quiet_on)))); refine wpQuiet_nil ?_; rintro w1 ⟨⟨_, hb1⟩, rfl⟩; (try dsimp only); obtain ⟨hc1, hf1⟩ := bcell hb1; have hs1 := hb1.size; (try simp at hs1))
          go_wp2
          go_ret
          exact ⟨ret_bool (by rw [← HR.out, HS.out]), (by repeat (first | exact Below.refl _ _ | assumption | refine b_then ?_ (by assumption) | refine b_alloc ?_ _ | refine b_drewN ?_ _ | refine Below.drew ?_ | refine b_set ?_ (by first | exact Nat.le_refl _ | (simp; done) | (simp; omega) | omega) _))⟩
      · obtain rfl : k = n := by omega
        have hS : xs = ys := by
          have := H.out
          rwa [List.take_of_length_le (by rw [HXL.out]; exact Nat.le_refl _), List.take_of_length_le (by rw [HYL.out]; exact Nat.le_refl _)] at this
        have HS := Lib.hid hS
        clear hS
        go_wp2
        go_ret
        exact ⟨ret_bool (by rw [← HR.out]; exact (decide_eq_true HS.out).symm), hB⟩
  · have hne : R = false := by
      rw [← HR.out, decide_eq_false_iff_not]; rintro rfl; exact hnm (HXL.out.symm.trans HYL.out)
    have hnb : ((n : Int) == (m : Int)) = false := by rw [beq_eq_false_iff_ne]; omega
    subst hne
    go_enter Tryz.func22, Tryz.ntmps22
    go_wp2
    go_ret
    exact ⟨rfl, Below.refl _ _⟩
/-- A node of few digits. -/
def nsm (x : Nd) : Bool := (decide (x.num.num.size ≤ 100) && decide (x.num.den.size ≤ 100)) && decide (x.asset.size ≤ 100)
def tsmall (t : List Nd) : Bool := t.all nsm && decide (t.length ≤ 200)
/-- A node that can be read. -/
def ndok (x : Nd) : Prop := x.num.num.size ≤ 9223372036854775807 ∧ x.num.den.size ≤ 9223372036854775807 ∧ x.asset.size ≤ 9223372036854775807
set_option maxHeartbeats 2000000 in
theorem r10_small {A : Option Addr} {n c : Nat} {xs : List Nd} (w : World) (hx : Rd Nd.cs 6 w A n xs) (hz : ∀ x ∈ xs, ndok x) :
    Calls Tryz.prog 14 #[.slice A n c] w fun e w' => e = .returned (.bool (tsmall xs)) ∧ Below w.heap.size w w' := by
  have hbig := hx.big
  have HXL := Lib.hid hx.len
  have HZ := Lib.hid hz
  obtain ⟨R, hR⟩ : ∃ R, tsmall xs = R := ⟨_, rfl⟩
  have HR := Lib.hid hR
  rw [hR]
  clear hR hz
  go_enter Tryz.func14, Tryz.ntmps14
  go_wp2
  go_loopw [3] (fun i wr => ∃ k : Nat, k ≤ n ∧ i = .int .i64 k ∧ Hid ((xs.take k).all nsm = true) ∧ Below w.heap.size w wr) (fun i _ => n - (intOf i).toNat)
  case atStart => exact ⟨0, Nat.zero_le _, rfl, by simp [Hid], Below.refl _ _⟩
  case round =>
    obtain ⟨k, hk, rfl, H, hB⟩ := hrel
    by_cases hlt : k < n
    · obtain ⟨ad, a0, a1, a2, a3, a4, a5, rfl, hxk, hl⟩ := nd_in hx hB hlt
      obtain ⟨z1, z2, z3⟩ := HZ.out _ (List.mem_of_getElem? hxk)
      dsimp only at z1 z2 z3
      have HX := Lib.hid hxk
      have HLL := Lib.hid hl
      obtain ⟨x0, x1, x2, x3, x4, x5, x6⟩ := hl wr (Below.refl _ _)
      have bk := Blk.new wr 39 #[.string a1, .string a2]
      have hS := fun c => r3_short1 wr.heap.size c a1 a2 (wr.alloc (.cells #[.string a1, .string a2] 39)) (bk.cell 0) (bk.cell 1) z1 z2
      have y3 := (hl (wr.alloc (.cells #[.string a1, .string a2] 39)) (b_alloc (Below.refl _ _) _)).c3
      obtain ⟨E, hE⟩ : ∃ E, (decide (a1.size ≤ 100) && decide (a2.size ≤ 100)) = E := ⟨_, rfl⟩
      rw [hE] at hS
      have HE := Lib.hid hE
      have hbad : nsm ⟨a0, ⟨a1, a2⟩, a3, a4, a5⟩ = false → R = false := fun h => by
        rw [← HR.out]
        unfold tsmall
        rw [all_badN HX.out h, Bool.false_and]
      have HBAD := Lib.hid hbad
      clear hxk hl hE hbad bk
      cases E with
      | false =>
        go_wp2_with (go_at_call 50; (with_reducible refine (hS _).mono ?_); rintro e w' ⟨rfl, rfl⟩)
        go_ret
        exact ⟨ret_bool (HBAD.out (by unfold nsm; dsimp only; rw [HE.out]; rfl)).symm, (by repeat (first | exact Below.refl _ _ | assumption | refine b_then ?_ (by assumption) | refine b_alloc ?_ _ | refine b_drewN ?_ _ | refine Below.drew ?_ | refine b_set ?_ (by first | exact Nat.le_refl _ | (simp; done) | (simp; omega) | omega) _))⟩
      | true =>
        by_cases c3 : a3.size ≤ 100
        · have d3 : ¬ (100 : Int) < (a3.size : Int) := by omega
          have HS := Lib.hid (all_stepN H.out HX.out (by unfold nsm; dsimp only; rw [HE.out, decide_eq_true c3]; rfl))
          go_wp2_with (go_at_call 50; (with_reducible refine (hS _).mono ?_); rintro e w' ⟨rfl, rfl⟩)
          go_roundw
          case rel => exact ⟨k + 1, by omega, by go_num, HS, (by repeat (first | exact Below.refl _ _ | assumption | refine b_then ?_ (by assumption) | refine b_alloc ?_ _ | refine b_drewN ?_ _ | refine Below.drew ?_ | refine b_set ?_ (by first | exact Nat.le_refl _ | (simp; done) | (simp; omega) | omega) _))⟩
          case measure => simp [intOf]; omega
        · have d3 : (100 : Int) < (a3.size : Int) := by omega
          go_wp2_with (go_at_call 50; (with_reducible refine (hS _).mono ?_); rintro e w' ⟨rfl, rfl⟩)
          go_ret
          exact ⟨ret_bool (HBAD.out (by unfold nsm; dsimp only; rw [HE.out, decide_eq_false c3]; rfl)).symm, (by repeat (first | exact Below.refl _ _ | assumption | refine b_then ?_ (by assumption) | refine b_alloc ?_ _ | refine b_drewN ?_ _ | refine Below.drew ?_ | refine b_set ?_ (by first | exact Nat.le_refl _ | (simp; done) | (simp; omega) | omega) _))⟩
    · obtain rfl : k = n := by omega
      have hS : xs.all nsm = true := by have := H.out; rwa [← HXL.out, List.take_length] at this
      have HS : Hid (R = decide ((k : Int) ≤ 200)) := by
        rw [← HR.out]
        unfold Hid tsmall
        rw [hS, HXL.out, Bool.true_and]
        congr 1
        simp; omega
      clear hS
      go_wp2
      go_ret
      exact ⟨ret_bool HS.out.symm, hB⟩
end Go.Proofs.YtjdofncognaaoaaGreatDoor

/- Walks: the reference's Args. -/
namespace Go.Proofs.YtjdofncognaaoaaGreatDoor
open Go.RowKit
set_option linter.unusedVariables false
set_option linter.unusedSimpArgs false

/-- What a term's last node takes, as both have it: none where the term is not formed. -/
def targsP (t : List Nd) : List (List Nd) := if tform t then targs t else []
theorem args_at {s : List Nd} {l : List (List Nd)} {on : List Nat} (hs : l.flatten = s) (ht : tends on l) {j : Nat} (hj : j < l.length) :
    ∃ x, l[j]? = some x ∧ 0 < x.length ∧ tlen (l.take (j + 1)) = tlen (l.take j) + x.length ∧ on[tlen (l.take (j + 1)) - 1]? = some (tlen (l.take j)) ∧ (s.drop (tlen (l.take j))).take x.length = x ∧ tlen (l.take (j + 1)) ≤ s.length := by
  have hx : l[j]? = some l[j] := List.getElem?_eq_getElem hj
  obtain ⟨h1, h2⟩ := ht j _ hx
  have e : tlen (l.take (j + 1)) = tlen (l.take j) + (l[j]).length := by rw [List.take_add_one, hx]; exact (tlen_append _ _).trans (by rw [show (some l[j]).toList = [l[j]] from rfl, tlen_one])
  refine ⟨l[j], hx, h1, e, by rw [e]; exact h2, ?_, ?_⟩
  · rw [← hs]; exact tpart hx
  · rw [← hs]
    show ((l.take (j + 1)).flatten).length ≤ _
    exact flat_le _
theorem tl_zero (l : List (List Nd)) : tlen (l.take 0) = 0 := rfl
theorem Tryz.elTm : Elem Tryz.prog 31 23 1 24 := ⟨Tryz.underlying31, ⟨.slice none 0 0, by kernel_rfl, rfl⟩⟩
theorem own_one {α : Type} {e : α → List Value} {z : Nat} {T : TypeId} (he : ∀ x, (e x).length = z) (w : World) (x : α) {arr : Array Value} (ha : arr = (e x).toArray) {base : Nat} (hb : base ≤ w.heap.size) : Own e z T (w.alloc (.cells arr T)) base (.slice (some ⟨w.heap.size, 0, none⟩) 1 1) [x] := by
  subst ha
  have := Own.of_ (z := z) (T := T) (base := base) (cap := 1) (xs := [x]) he hb (Blk.new w T (e x).toArray) (by simp) (by simp [maxLen]) (by rw [List.size_toArray, he]; omega) (by simp; exact List.take_of_length_le (by rw [he]; exact Nat.le_refl _))
  exact this
theorem targs_of {t s : List Nd} {nd : Nd} (hf : tform t = true) (e : t = s ++ [nd]) : ∃ l, targsP t = l ∧ tfold nterm [] s = some l ∧ (l.length : Int) = arity nd.op ∧ l.flatten = s ∧ ∀ x ∈ l, Tm x := by
  obtain ⟨_, hT⟩ := tform_iff.1 hf
  subst e
  obtain ⟨l, h1, h2⟩ := targs_snoc hT
  exact ⟨l, by unfold targsP; rw [if_pos hf, h1], h2⟩
theorem TL.nil {w : World} {A : Option Addr} : TL w A 0 [] := ⟨[], Rd.nil, rfl, fun i p h => by simp at h⟩
/-- One more ahead. -/
theorem TL.cons {w : World} {A B : Option Addr} {n C m c : Nat} {D : Option Addr} {ts : List (List Nd)} {t : List Nd} {ps : List Sv} (hp : Rd vCs 1 w B (n + 1) ((D, m, c) :: ps)) (hc : m ≤ c) (hd : Rd Nd.cs 6 w D m t) (hl : ts.length = n) (h : ∀ (i : Nat) (p : Sv), ps[i]? = some p → p.2.1 ≤ p.2.2 ∧ ∃ t, ts[i]? = some t ∧ Rd Nd.cs 6 w p.1 p.2.1 t) : TL w B (n + 1) (t :: ts) :=
  ⟨_, hp, by simp [hl], fun i p hi => by
    cases i with
    | zero =>
      have : (D, m, c) = p := by simpa using hi
      subst this
      exact ⟨hc, t, rfl, hd⟩
    | succ i =>
      have hi' : ps[i]? = some p := by simpa using hi
      obtain ⟨h1, t', h2, h3⟩ := h i p hi'
      exact ⟨h1, t', by simpa using h2, h3⟩⟩
set_option maxRecDepth 100000 in
set_option maxHeartbeats 8000000 in
theorem r10_args {A : Option Addr} {n c : Nat} {t : List Nd} (w : World) (hx : Rd Nd.cs 6 w A n t) (hnc : n ≤ c) :
    Calls Tryz.prog 24 #[.slice A n c] w fun e w' => ∃ B m k, e = .returned (.slice B m k) ∧ m ≤ k ∧ TL w' B m (targsP t) ∧ Below w.heap.size w w' := by
  have hbig := hx.big
  have HL := Lib.hid hx.len
  have hBg := r10_begins (c := c) w hx
  unfold BegIs at hBg
  cases hf : tform t with
  | false =>
    have he : targsP t = [] := by unfold targsP; rw [hf]; rfl
    rw [he]
    rw [hf] at hBg
    clear hf he
    go_enter Tryz.func24, Tryz.ntmps24
    go_wp2_with (go_at_call 62; (with_reducible refine hBg.mono ?_); rintro e w1 ⟨B1, m1, k1, rfl, hb1, _⟩)
    go_ret
    exact ⟨none, 0, 0, rfl, Nat.le_refl _, TL.nil, hb1⟩
  | true =>
    rw [hf] at hBg
    obtain ⟨htl, hT⟩ := tform_iff.1 hf
    rw [HL.out] at htl
    obtain ⟨s, nd, hsn⟩ : ∃ s nd, t = s ++ [nd] := by
      rcases List.eq_nil_or_concat t with h | ⟨s, nd, h⟩
      · rw [h] at hf; rw [tform_nil] at hf; cases hf
      · exact ⟨s, nd, by rw [h, List.concat_eq_append]⟩
    obtain ⟨l, e1, e2, e3, e4, _⟩ := targs_of hf hsn
    have hn1 : n = s.length + 1 := by rw [← HL.out, hsn]; simp
    obtain ⟨p, hp⟩ : ∃ p, s.length = p := ⟨_, rfl⟩
    rw [hp] at hn1
    subst hn1
    have htk : t.take p = s := by rw [hsn, ← hp, List.take_left]
    have htn : t[p]? = some nd := by rw [hsn, ← hp]; simp
    obtain ⟨m, hm⟩ : ∃ m, l.length = m := ⟨_, rfl⟩
    rw [hm] at e3
    have hm3 : m ≤ 3 := by have := arity_le nd.op; omega
    have hAr := fun W => r10_arity nd.op W
    rw [← e3] at hAr
    have E2 := Lib.hid e2
    have E4 := Lib.hid e4
    have HM := Lib.hid hm
    have HTK := Lib.hid htk
    have HSP := Lib.hid hp
    obtain ⟨ad, a0, a1, a2, a3, a4, a5, rfl, hxk, hl⟩ := nd_in hx (Below.refl _ _) (show p < p + 1 by omega)
    have hnd : nd = ⟨a0, ⟨a1, a2⟩, a3, a4, a5⟩ := by rw [htn] at hxk; injection hxk
    rw [hnd] at hAr
    dsimp only at hAr
    obtain ⟨LR, hLR⟩ : ∃ LR, targsP t = LR := ⟨_, rfl⟩
    have HLR := Lib.hid (hLR.symm.trans e1)
    rw [hLR]
    have HLL := Lib.hid hl
    clear hf hT hsn e1 e2 e3 e4 hm htk htn hxk hnd hl hLR
    go_enter Tryz.func24, Tryz.ntmps24
    go_wp2_with (first
      | (go_at_call 62; (with_reducible refine hBg.mono ?_); rintro e w1 ⟨B1, m1, k1, rfl, hb1, hpost⟩; obtain ⟨rfl, hmk, on, hon, hte, honl⟩ := hpost rfl; (have HON := Lib.hid hon); (have HTE := Lib.hid hte); (have HONL := Lib.hid honl); clear hpost hon hte honl; obtain ⟨x0, x1, x2, x3, x4, x5, x6⟩ := HLL.out w1 hb1)
      | (go_at_call 26; (with_reducible refine (hAr _).mono ?_); rintro e w2 ⟨rfl, hb2⟩; obtain ⟨hc2, hf2⟩ := bcell hb2; have hs2 := hb2.size; (try simp at hs2)))
    have hw0 : Below w.heap.size w (w2.alloc (.cells #[] 23)) := b_alloc (b_then hb1 hb2) _
    have HTL := Lib.hid (HTE.out p (by omega) l (by rw [HTK.out]; exact E2.out))
    have HON2 := Lib.hid (HON.out.below (b_alloc hb2 (.cells #[] 23)))
    have hend0 : tlen (l.take (m - 0)) = p := by rw [Nat.sub_zero, ← HM.out, List.take_length]; show l.flatten.length = p; rw [E4.out, HSP.out]
    have HE0 := Lib.hid hend0
    have hl0 : l.drop (m - 0) = [] := List.drop_of_length_le (by rw [HM.out]; omega)
    have H00 : Hid (TL (w2.alloc (.cells #[] 23)) (some ⟨w2.heap.size, 0, none⟩) 0 (l.drop (m - 0))) := by rw [hl0]; exact TL.nil
    obtain ⟨wo, hwo⟩ : ∃ wo, wo = w2.alloc (.cells #[] 23) := ⟨_, rfl⟩
    rw [← hwo] at hw0 HON2 H00
    have HWO := Lib.hid hwo
    have z2 : w2.alloc (.cells #[] 23) = wo := hwo.symm
    have hob : ∀ q, some (⟨w2.heap.size, 0, none⟩ : Addr) = some q → True := fun _ _ => trivial
    rw [z2]
    clear hend0 hl0 hc2 hf2 hs2 x0 x1 x2 x3 x4 x5 x6 hAr hwo z2 hob HTE
    go_loopw [6, 7, 8] (fun ov ev iv wr => ∃ (i ed mc : Nat) (O : Option Addr), i ≤ m ∧ iv = .int .i64 i ∧ ev = .int .i64 ed ∧ ed ≤ p ∧ ov = .slice O i mc ∧ i ≤ mc ∧ Hid (tlen (l.take (m - i)) = ed) ∧ Hid (TL wr O i (l.drop (m - i))) ∧ Below w.heap.size w wr ∧ Below wo.heap.size wo wr) (fun _ _ iv _ => m - (intOf iv).toNat)
    case atStart => exact ⟨0, p, 0, _, Nat.zero_le _, rfl, by go_num, Nat.le_refl _, rfl, Nat.le_refl _, HE0, H00, hw0, Below.refl _ _⟩
    case round =>
      clear H00 HE0
      obtain ⟨i, ed, mc, O, hi, rfl, rfl, hed, rfl, himc, HED, HTS, hB, hBo⟩ := hrel
      by_cases hlt : i < m
      · obtain ⟨j, hj⟩ : ∃ j, m - i = j + 1 := ⟨m - i - 1, by omega⟩
        have hj2 : m - (i + 1) = j := by omega
        rw [hj] at HED HTS
        obtain ⟨x, g1, g2, g3, g4, g5, g6⟩ := args_at E4.out HTL.out (show j < l.length by rw [HM.out]; omega)
        obtain ⟨fr, hfr⟩ : ∃ fr, tlen (l.take j) = fr := ⟨_, rfl⟩
        rw [HED.out, hfr] at g3 g4
        rw [hfr] at g5
        have hed1 : 1 ≤ ed := by omega
        obtain ⟨xl, hxl⟩ : ∃ xl, x.length = xl := ⟨_, rfl⟩
        rw [hxl] at g2 g3 g5
        have hed2 : ed = fr + xl := g3
        obtain ⟨adb, sb, hB1, hsb, hcb⟩ := jnt_in HON2.out hBo (show ed - 1 < p + 1 by omega)
        have hsb2 : sb = (fr : Int) := by
          rw [List.getElem?_map, g4] at hsb
          injection hsb with hsb
          exact hsb.symm
        subst hsb2
        obtain ⟨e', he'⟩ : ∃ e', ed = e' + 1 := ⟨ed - 1, by omega⟩
        have hcb2 := hcb wr (Below.refl _ _)
        rw [hed2] at hcb2
        subst hB1
        have hcf : ¬ c = fr := by omega
        have hXR : Rd Nd.cs 6 wr (some (ad.add (fr * 6))) xl x := by
          have h1 := (hx.below hB).from_ (q := fr) (by omega)
          have h2 := h1.pre (k := xl) (by omega)
          have h3 : (t.drop fr).take xl = x := by
            rw [← g5, ← HTK.out, List.drop_take]
            rw [List.take_take]
            congr 1
            have h7 : p - fr ≥ xl := by omega
            omega
          rwa [h3] at h2
        have HXR := Lib.hid hXR
        obtain ⟨ps, q1, q2, q3⟩ := HTS.out.ex
        have HQ1 := Lib.hid (q1.below (b_alloc (Below.refl _ _) (.cells #[.slice (some (ad.add (fr * 6))) xl (c - fr)] 23)))
        have HQ2 := Lib.hid q2
        have HQ3 := Lib.hid q3
        have HO1 : Hid (Own vCs 1 23 (wr.alloc (.cells #[.slice (some (ad.add (fr * 6))) xl (c - fr)] 23)) wr.heap.size (.slice (some ⟨wr.heap.size, 0, none⟩) 1 1) [(some (ad.add (fr * 6)), xl, c - fr)]) := own_one vCs_length wr (some (ad.add (fr * 6)), xl, c - fr) rfl (Nat.le_refl _)
        have hy : ((([(some (ad.add (fr * 6)), xl, c - fr)] : List Sv)).length + i) * 24 ≤ 140737488355328 ∧ (([(some (ad.add (fr * 6)), xl, c - fr)] : List Sv)).length + i ≤ 140737488355328 := by simp; omega
        have hbb : wr.heap.size ≤ (wr.alloc (.cells #[.slice (some (ad.add (fr * 6))) xl (c - fr)] 23)).heap.size := (b_alloc (Below.refl _ _) _).size
        have HXL := Lib.hid hxl
        have HG1 := Lib.hid g1
        have HFR := Lib.hid hfr
        have hdj : l.drop j = x :: l.drop (j + 1) := by
          have hjl := (List.getElem?_eq_some_iff.1 g1).1
          have hjx := (List.getElem?_eq_some_iff.1 g1).2
          rw [List.drop_eq_getElem_cons hjl, hjx]
        have HDJ := Lib.hid hdj
        have HJ2 := Lib.hid hj2
        have hE1 : ((ed : Nat) : Int) = (fr : Int) + (xl : Int) := by omega
        have hE3 : ed - fr = xl := by omega
        clear q1 q2 q3 hXR hxl g1 g3 g4 g5 g6 hfr hcb hsb hdj hj hj2
        go_wp2_with (at_builtin; refine wpList_appr (v := .slice (some ⟨wr.heap.size, 0, none⟩) 1 1) Tryz.elTm Tryz.elTm.und (by omega) vCs_length vCs_one rfl (.tmp 43) (.tmp 44) rfl rfl HO1.out O i mc ps rfl HQ1.out hy.1 hy.2 hbb ?_; intro v2 w3 hown2 hg2 hat2)
        have HF2 := Lib.hid (Own.frame HO1.out (b_alloc (Below.refl _ _) _) (Nat.le_refl _) hg2)
        obtain ⟨O3, c3, hv3, hr3⟩ := hown2.rd vCs_length
        subst hv3
        have hlen3 : ([(some (ad.add (fr * 6)), xl, c - fr)] ++ ps : List Sv).length = i + 1 := by rw [List.length_append, HQ1.out.len]; simp; omega
        rw [hlen3] at hown2 hr3 ⊢
        have hc3 := hown2.shape.2.1
        have hTL : TL w3 O3 (i + 1) (l.drop j) := by
          rw [HDJ.out]
          exact TL.cons (A := none) (C := 0) hr3 (by omega) (HXR.out.below HF2.out) HQ2.out (fun i p hp => by obtain ⟨h4, t, h5, h6⟩ := HQ3.out i p hp; exact ⟨h4, t, h5, h6.below HF2.out⟩)
        have HTL3 := Lib.hid hTL
        clear hown2 hr3 hg2 hat2 hlen3 hTL
        go_roundw
        case rel => exact ⟨i + 1, fr, c3, O3, by omega, by go_num, rfl, by omega, rfl, hc3, by rw [HJ2.out]; exact HFR.out, by rw [HJ2.out]; exact HTL3.out, b_then hB HF2.out, b_then hBo HF2.out⟩
        case measure => simp [intOf]; omega
      · obtain rfl : i = m := by omega
        have hlr : l.drop (i - i) = LR := by rw [Nat.sub_self, HLR.out]; rfl
        rw [hlr] at HTS
        clear hlr
        go_wp2
        go_ret
        exact ⟨O, i, mc, rfl, himc, HTS.out, hB⟩
end Go.Proofs.YtjdofncognaaoaaGreatDoor
