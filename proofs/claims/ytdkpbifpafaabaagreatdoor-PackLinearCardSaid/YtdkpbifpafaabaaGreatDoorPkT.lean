/- PackParts: the walk (given the fixed calls). -/
import Derived.Test.YtdkpbifpafaabaaGreatDoorPkR
namespace Go.Proofs.YtdkpbifpafaabaaGreatDoor
open Go.RowKit
set_option linter.unusedVariables false
set_option linter.unusedSimpArgs false

def F16 : Prop := ∀ w : World, Glob w → Calls Tryz.prog 16 #[] w fun e w' => e = .returned (.bool true) ∧ Below w.heap.size w w'
theorem fsmall_r {l : List Fx} (h : fsmall l = true) : (∀ f ∈ l, fxr 40 f) ∧ l.length ≤ 60 := by
  unfold fsmall at h
  rw [Bool.and_eq_true, List.all_eq_true, decide_eq_true_eq] at h
  refine ⟨fun f hf => ?_, h.2⟩
  have := h.1 f hf
  unfold fsm at this
  simp only [Bool.and_eq_true, decide_eq_true_eq] at this
  exact ⟨by omega, by omega, by omega⟩
theorem fxr_mono {j k : Nat} {f : Fx} (h : fxr j f) (hk : j ≤ k) : fxr k f := ⟨h.1, Nat.le_trans h.2.1 hk, Nat.le_trans h.2.2 hk⟩
theorem ptq_up {j k : Nat} {x : Pt} (h : ptq j x) (hk : j ≤ k) : ptq k x := ⟨h.1, Nat.le_trans h.2.1 hk, Nat.le_trans h.2.2 hk⟩
theorem psum_step {fs : List Fx} {d : Int} {l : List Pt} {c : RT} {k : Nat} {x : Pt} (hx : l[k]? = some x) : psum fs d (l.take (k + 1)) c = (match fget fs x.asset d with | some q => radd (psum fs d (l.take k) c) (rmul x.ratio q) | none => psum fs d (l.take k) c) := by
  unfold psum
  rw [List.take_add_one, hx, List.foldl_append]; rfl
theorem pall_step {fs : List Fx} {d : Int} {l : List Pt} {k : Nat} {x : Pt} (hx : l[k]? = some x) : pall fs d (l.take (k + 1)) = (pall fs d (l.take k) && (fget fs x.asset d).isSome) := by
  unfold pall
  rw [List.take_add_one, hx, List.all_append]; simp
/-- The value, in the law's words. -/
theorem val_parts {l : List Pt} {c : RT} {fs : List Fx} {d : Int} (hk : pkmay l c = true) (hf : fmay fs = true) : ∃ v0 v1, optR (pval l c fs d) = .tuple #[.agg #[.string v0, .string v1], .bool (pall fs d l)] ∧ (pall fs d l = true → (⟨v0, v1⟩ : RT) = psum fs d l c) := by
  unfold pval
  rw [hk, hf, Bool.and_self, if_pos rfl, pvalU_eq]
  cases h : pall fs d l with
  | false => exact ⟨_, _, rfl, fun e => by cases e⟩
  | true => exact ⟨_, _, rfl, fun _ => rfl⟩
theorem zero_add_mul (r p : Rat) : radd (enc 0) (rmul (enc r) (enc p)) = enc (r * p) := by
  rw [rmul_enc, radd_enc]; congr 1; grind
set_option maxRecDepth 100000 in
set_option maxHeartbeats 8000000 in
theorem l_parts (HF : F16) {A Af : Option Addr} {n c nf cf : Nat} {xs : List Pt} {fs : List Fx} (c0 c1 : ByteArray) (d : Int) (w : World) (hg : Glob w) (hx : Rd Pt.cs 3 w A n xs) (hcap : n ≤ c) (hz : ∀ x ∈ xs, x.asset.size ≤ 9223372036854775807 ∧ x.ratio.num.size ≤ 9223372036854775807 ∧ x.ratio.den.size ≤ 9223372036854775807) (hc0 : c0.size ≤ 9223372036854775807) (hc1 : c1.size ≤ 9223372036854775807)
    (hf : Rd Fx.cs 4 w Af nf fs) (hzf : ∀ f ∈ fs, f.asset.size ≤ 9223372036854775807 ∧ f.p.num.size ≤ 9223372036854775807 ∧ f.p.den.size ≤ 9223372036854775807) :
    Calls Tryz.prog 7 #[.agg #[.slice A n c, .string c0, .string c1], .slice Af nf cf, .int .i64 d] w fun e w' => e = .returned (.bool true) ∧ Below w.heap.size w w' := by
  have hF := fun W (h : Below w.heap.size w W) => HF W (hg.below h)
  have hxl := hx.len
  have hfl := hf.len
  have hLi := fun W (h : Below w.heap.size w W) => r16_light (c := c) c0 c1 W (hx.below h) hz hc0 hc1
  have hSm := fun W (h : Below w.heap.size w W) => r12_small (c := cf) W (hf.below h) hzf
  cases d1 : pksm xs ⟨c0, c1⟩ with
  | false =>
    rw [d1] at hLi
    clear d1
    go_enter Tryz.func7, Tryz.ntmps7
    go_wp2_with (first | (go_at_call 16; (with_reducible refine (hF w2 (by repeat (first | exact Below.refl _ _ | assumption | refine b_then ?_ (by assumption) | refine b_alloc ?_ _ | refine b_drewN ?_ _ | refine Below.drew ?_ | refine b_set ?_ (by first | exact Nat.le_refl _ | (simp; done) | (simp; omega) | omega) _))).mono ?_); rintro e w9 ⟨rfl, hb9⟩) | (go_at_call 16; (with_reducible refine (hF _ (by repeat (first | exact Below.refl _ _ | assumption | refine b_then ?_ (by assumption) | refine b_alloc ?_ _ | refine b_drewN ?_ _ | refine Below.drew ?_ | refine b_set ?_ (by first | exact Nat.le_refl _ | (simp; done) | (simp; omega) | omega) _))).mono ?_); rintro e w1 ⟨rfl, hb1⟩; obtain ⟨hc1', hf1'⟩ := bcell hb1; have hs1' := hb1.size; (try simp at hs1'); have hq1 : w.heap.size < w1.heap.size := (by omega)) | (go_at_call 14; (with_reducible refine (hLi _ (by repeat (first | exact Below.refl _ _ | assumption | refine b_then ?_ (by assumption) | refine b_alloc ?_ _ | refine b_drewN ?_ _ | refine Below.drew ?_ | refine b_set ?_ (by first | exact Nat.le_refl _ | (simp; done) | (simp; omega) | omega) _))).mono ?_); rintro e w2 ⟨rfl, hb2⟩; obtain ⟨hc2, hf2⟩ := bcell hb2; have hs2 := hb2.size; (try simp at hs2); have hq2 : w.heap.size < w2.heap.size := (by omega)))
    go_ret
    exact ⟨rfl, (by repeat (first | exact Below.refl _ _ | assumption | refine b_then ?_ (by assumption) | refine b_alloc ?_ _ | refine b_drewN ?_ _ | refine Below.drew ?_ | refine b_set ?_ (by first | exact Nat.le_refl _ | (simp; done) | (simp; omega) | omega) _))⟩
  | true =>
  rw [d1] at hLi
  obtain ⟨b1, b2, b3, b4⟩ := pksm_of d1
  dsimp only at b3 b4
  have hMy := fun W (h : Below w.heap.size w W) => r16_may (c := c) c0 c1 W (hx.below h) (fun x hx => ptq_up (b1 x hx) (by omega)) (by omega) (by omega)
  clear d1
  cases d2 : pkmay xs ⟨c0, c1⟩ with
  | false =>
    rw [d2] at hMy
    clear d2
    go_enter Tryz.func7, Tryz.ntmps7
    go_wp2_with (first | (go_at_call 16; (with_reducible refine (hF w3 (by repeat (first | exact Below.refl _ _ | assumption | refine b_then ?_ (by assumption) | refine b_alloc ?_ _ | refine b_drewN ?_ _ | refine Below.drew ?_ | refine b_set ?_ (by first | exact Nat.le_refl _ | (simp; done) | (simp; omega) | omega) _))).mono ?_); rintro e w9 ⟨rfl, hb9⟩) | (go_at_call 16; (with_reducible refine (hF _ (by repeat (first | exact Below.refl _ _ | assumption | refine b_then ?_ (by assumption) | refine b_alloc ?_ _ | refine b_drewN ?_ _ | refine Below.drew ?_ | refine b_set ?_ (by first | exact Nat.le_refl _ | (simp; done) | (simp; omega) | omega) _))).mono ?_); rintro e w1 ⟨rfl, hb1⟩; obtain ⟨hc1', hf1'⟩ := bcell hb1; have hs1' := hb1.size; (try simp at hs1'); have hq1 : w.heap.size < w1.heap.size := (by omega)) | (go_at_call 14; (with_reducible refine (hLi _ (by repeat (first | exact Below.refl _ _ | assumption | refine b_then ?_ (by assumption) | refine b_alloc ?_ _ | refine b_drewN ?_ _ | refine Below.drew ?_ | refine b_set ?_ (by first | exact Nat.le_refl _ | (simp; done) | (simp; omega) | omega) _))).mono ?_); rintro e w2 ⟨rfl, hb2⟩; obtain ⟨hc2, hf2⟩ := bcell hb2; have hs2 := hb2.size; (try simp at hs2); have hq2 : w.heap.size < w2.heap.size := (by omega)) | (go_at_call 23; (with_reducible refine (hMy _ (by repeat (first | exact Below.refl _ _ | assumption | refine b_then ?_ (by assumption) | refine b_alloc ?_ _ | refine b_drewN ?_ _ | refine Below.drew ?_ | refine b_set ?_ (by first | exact Nat.le_refl _ | (simp; done) | (simp; omega) | omega) _))).mono ?_); rintro e w3 ⟨rfl, hb3⟩; obtain ⟨hc3, hf3⟩ := bcell hb3; have hs3 := hb3.size; (try simp at hs3); have hq3 : w.heap.size < w3.heap.size := (by omega)))
    go_ret
    exact ⟨rfl, (by repeat (first | exact Below.refl _ _ | assumption | refine b_then ?_ (by assumption) | refine b_alloc ?_ _ | refine b_drewN ?_ _ | refine Below.drew ?_ | refine b_set ?_ (by first | exact Nat.le_refl _ | (simp; done) | (simp; omega) | omega) _))⟩
  | true =>
  rw [d2] at hMy
  by_cases d3 : n ≤ 3
  case neg =>
    clear d2
    go_enter Tryz.func7, Tryz.ntmps7
    go_wp2_with (first | (go_at_call 16; (with_reducible refine (hF w3 (by repeat (first | exact Below.refl _ _ | assumption | refine b_then ?_ (by assumption) | refine b_alloc ?_ _ | refine b_drewN ?_ _ | refine Below.drew ?_ | refine b_set ?_ (by first | exact Nat.le_refl _ | (simp; done) | (simp; omega) | omega) _))).mono ?_); rintro e w9 ⟨rfl, hb9⟩) | (go_at_call 16; (with_reducible refine (hF _ (by repeat (first | exact Below.refl _ _ | assumption | refine b_then ?_ (by assumption) | refine b_alloc ?_ _ | refine b_drewN ?_ _ | refine Below.drew ?_ | refine b_set ?_ (by first | exact Nat.le_refl _ | (simp; done) | (simp; omega) | omega) _))).mono ?_); rintro e w1 ⟨rfl, hb1⟩; obtain ⟨hc1', hf1'⟩ := bcell hb1; have hs1' := hb1.size; (try simp at hs1'); have hq1 : w.heap.size < w1.heap.size := (by omega)) | (go_at_call 14; (with_reducible refine (hLi _ (by repeat (first | exact Below.refl _ _ | assumption | refine b_then ?_ (by assumption) | refine b_alloc ?_ _ | refine b_drewN ?_ _ | refine Below.drew ?_ | refine b_set ?_ (by first | exact Nat.le_refl _ | (simp; done) | (simp; omega) | omega) _))).mono ?_); rintro e w2 ⟨rfl, hb2⟩; obtain ⟨hc2, hf2⟩ := bcell hb2; have hs2 := hb2.size; (try simp at hs2); have hq2 : w.heap.size < w2.heap.size := (by omega)) | (go_at_call 23; (with_reducible refine (hMy _ (by repeat (first | exact Below.refl _ _ | assumption | refine b_then ?_ (by assumption) | refine b_alloc ?_ _ | refine b_drewN ?_ _ | refine Below.drew ?_ | refine b_set ?_ (by first | exact Nat.le_refl _ | (simp; done) | (simp; omega) | omega) _))).mono ?_); rintro e w3 ⟨rfl, hb3⟩; obtain ⟨hc3, hf3⟩ := bcell hb3; have hs3 := hb3.size; (try simp at hs3); have hq3 : w.heap.size < w3.heap.size := (by omega)))
    go_ret
    exact ⟨rfl, (by repeat (first | exact Below.refl _ _ | assumption | refine b_then ?_ (by assumption) | refine b_alloc ?_ _ | refine b_drewN ?_ _ | refine Below.drew ?_ | refine b_set ?_ (by first | exact Nat.le_refl _ | (simp; done) | (simp; omega) | omega) _))⟩
  case pos =>
  cases d4 : fsmall fs with
  | false =>
    rw [d4] at hSm
    clear d4 d2
    go_enter Tryz.func7, Tryz.ntmps7
    go_wp2_with (first | (go_at_call 16; (with_reducible refine (hF w3 (by repeat (first | exact Below.refl _ _ | assumption | refine b_then ?_ (by assumption) | refine b_alloc ?_ _ | refine b_drewN ?_ _ | refine Below.drew ?_ | refine b_set ?_ (by first | exact Nat.le_refl _ | (simp; done) | (simp; omega) | omega) _))).mono ?_); rintro e w9 ⟨rfl, hb9⟩) | (go_at_call 16; (with_reducible refine (hF _ (by repeat (first | exact Below.refl _ _ | assumption | refine b_then ?_ (by assumption) | refine b_alloc ?_ _ | refine b_drewN ?_ _ | refine Below.drew ?_ | refine b_set ?_ (by first | exact Nat.le_refl _ | (simp; done) | (simp; omega) | omega) _))).mono ?_); rintro e w1 ⟨rfl, hb1⟩; obtain ⟨hc1', hf1'⟩ := bcell hb1; have hs1' := hb1.size; (try simp at hs1'); have hq1 : w.heap.size < w1.heap.size := (by omega)) | (go_at_call 14; (with_reducible refine (hLi _ (by repeat (first | exact Below.refl _ _ | assumption | refine b_then ?_ (by assumption) | refine b_alloc ?_ _ | refine b_drewN ?_ _ | refine Below.drew ?_ | refine b_set ?_ (by first | exact Nat.le_refl _ | (simp; done) | (simp; omega) | omega) _))).mono ?_); rintro e w2 ⟨rfl, hb2⟩; obtain ⟨hc2, hf2⟩ := bcell hb2; have hs2 := hb2.size; (try simp at hs2); have hq2 : w.heap.size < w2.heap.size := (by omega)) | (go_at_call 23; (with_reducible refine (hMy _ (by repeat (first | exact Below.refl _ _ | assumption | refine b_then ?_ (by assumption) | refine b_alloc ?_ _ | refine b_drewN ?_ _ | refine Below.drew ?_ | refine b_set ?_ (by first | exact Nat.le_refl _ | (simp; done) | (simp; omega) | omega) _))).mono ?_); rintro e w3 ⟨rfl, hb3⟩; obtain ⟨hc3, hf3⟩ := bcell hb3; have hs3 := hb3.size; (try simp at hs3); have hq3 : w.heap.size < w3.heap.size := (by omega)) | (go_at_call 15; (with_reducible refine (hSm _ (by repeat (first | exact Below.refl _ _ | assumption | refine b_then ?_ (by assumption) | refine b_alloc ?_ _ | refine b_drewN ?_ _ | refine Below.drew ?_ | refine b_set ?_ (by first | exact Nat.le_refl _ | (simp; done) | (simp; omega) | omega) _))).mono ?_); rintro e w' ⟨rfl, rfl⟩))
    go_ret
    exact ⟨rfl, (by repeat (first | exact Below.refl _ _ | assumption | refine b_then ?_ (by assumption) | refine b_alloc ?_ _ | refine b_drewN ?_ _ | refine Below.drew ?_ | refine b_set ?_ (by first | exact Nat.le_refl _ | (simp; done) | (simp; omega) | omega) _))⟩
  | true =>
  rw [d4] at hSm
  obtain ⟨f1, f2⟩ := fsmall_r d4
  have hMf := fun W (h : Below w.heap.size w W) => r12_may (c := cf) W (hf.below h) (fun f hf => fxq_sz (fxr_q (f1 f hf) (by omega)))
  clear d4
  cases d5 : fmay fs with
  | false =>
    rw [d5] at hMf
    clear d5 d2
    go_enter Tryz.func7, Tryz.ntmps7
    go_wp2_with (first | (go_at_call 16; (with_reducible refine (hF w5 (by repeat (first | exact Below.refl _ _ | assumption | refine b_then ?_ (by assumption) | refine b_alloc ?_ _ | refine b_drewN ?_ _ | refine Below.drew ?_ | refine b_set ?_ (by first | exact Nat.le_refl _ | (simp; done) | (simp; omega) | omega) _))).mono ?_); rintro e w9 ⟨rfl, hb9⟩) | (go_at_call 16; (with_reducible refine (hF _ (by repeat (first | exact Below.refl _ _ | assumption | refine b_then ?_ (by assumption) | refine b_alloc ?_ _ | refine b_drewN ?_ _ | refine Below.drew ?_ | refine b_set ?_ (by first | exact Nat.le_refl _ | (simp; done) | (simp; omega) | omega) _))).mono ?_); rintro e w1 ⟨rfl, hb1⟩; obtain ⟨hc1', hf1'⟩ := bcell hb1; have hs1' := hb1.size; (try simp at hs1'); have hq1 : w.heap.size < w1.heap.size := (by omega)) | (go_at_call 14; (with_reducible refine (hLi _ (by repeat (first | exact Below.refl _ _ | assumption | refine b_then ?_ (by assumption) | refine b_alloc ?_ _ | refine b_drewN ?_ _ | refine Below.drew ?_ | refine b_set ?_ (by first | exact Nat.le_refl _ | (simp; done) | (simp; omega) | omega) _))).mono ?_); rintro e w2 ⟨rfl, hb2⟩; obtain ⟨hc2, hf2⟩ := bcell hb2; have hs2 := hb2.size; (try simp at hs2); have hq2 : w.heap.size < w2.heap.size := (by omega)) | (go_at_call 23; (with_reducible refine (hMy _ (by repeat (first | exact Below.refl _ _ | assumption | refine b_then ?_ (by assumption) | refine b_alloc ?_ _ | refine b_drewN ?_ _ | refine Below.drew ?_ | refine b_set ?_ (by first | exact Nat.le_refl _ | (simp; done) | (simp; omega) | omega) _))).mono ?_); rintro e w3 ⟨rfl, hb3⟩; obtain ⟨hc3, hf3⟩ := bcell hb3; have hs3 := hb3.size; (try simp at hs3); have hq3 : w.heap.size < w3.heap.size := (by omega)) | (go_at_call 15; (with_reducible refine (hSm _ (by repeat (first | exact Below.refl _ _ | assumption | refine b_then ?_ (by assumption) | refine b_alloc ?_ _ | refine b_drewN ?_ _ | refine Below.drew ?_ | refine b_set ?_ (by first | exact Nat.le_refl _ | (simp; done) | (simp; omega) | omega) _))).mono ?_); rintro e w' ⟨rfl, rfl⟩) | (go_at_call 32; (with_reducible refine (hMf _ (by repeat (first | exact Below.refl _ _ | assumption | refine b_then ?_ (by assumption) | refine b_alloc ?_ _ | refine b_drewN ?_ _ | refine Below.drew ?_ | refine b_set ?_ (by first | exact Nat.le_refl _ | (simp; done) | (simp; omega) | omega) _))).mono ?_); rintro e w5 ⟨rfl, hb5⟩; obtain ⟨hc5, hf5⟩ := bcell hb5; have hs5 := hb5.size; (try simp at hs5); have hq5 : w.heap.size < w5.heap.size := (by omega)))
    go_ret
    exact ⟨rfl, (by repeat (first | exact Below.refl _ _ | assumption | refine b_then ?_ (by assumption) | refine b_alloc ?_ _ | refine b_drewN ?_ _ | refine Below.drew ?_ | refine b_set ?_ (by first | exact Nat.le_refl _ | (simp; done) | (simp; omega) | omega) _))⟩
  | true =>
  rw [d5] at hMf
  obtain ⟨v0, v1, hval, hv⟩ := val_parts (d := d) d2 d5
  have hV := fun W (h : Below w.heap.size w W) => p_value (c := c) (cf := cf) c0 c1 d W (hg.below h) (hx.below h) (by omega) (fun x hx => ptq_up (b1 x hx) (by omega)) (by omega) (by omega) (hf.below h) (by omega) (fun f hf => fxr_mono (f1 f hf) (by omega))
  rw [hval] at hV
  obtain ⟨ok, hok⟩ : ∃ ok, pall fs d xs = ok := ⟨_, rfl⟩
  rw [hok] at hV hv
  have HOK := Lib.hid hok
  have HVv := Lib.hid hv
  have HD5 := Lib.hid d5
  have M1' : ∀ x ∈ xs, pone x = true := by
    unfold pkmay pparts at d2
    simp only [Bool.and_eq_true, List.all_eq_true] at d2
    exact d2.1.1
  obtain ⟨qc, hqc⟩ := rmay_of (pkmay_of d2).2.2
  have hqs : rsmall 1000 qc := rsmall_of (by rw [← hqc]; show c0.size ≤ _; omega) (by rw [← hqc]; show c1.size ≤ _; omega)
  have MX := Lib.hid M1'
  have HB1 := Lib.hid b1
  have HF1 := Lib.hid f1
  injection hqc with e1 e2
  subst e1; subst e2
  have h0 : ∀ W, Calls Tryz.prog 28 #[.int .i64 0] W fun e w' => e = .returned (.agg #[.string ⟨#[48]⟩, .string ⟨#[49]⟩]) ∧ Below W.heap.size W w' := fun W => r3_of 0 W (by omega) (by omega)
  clear hok hv d2 d5 M1' hval b1 f1
  go_enter Tryz.func7, Tryz.ntmps7
  have pb : Blk (WPk w A n c (iS qc.num) (nS qc.den)) w.heap.size 28 #[.slice A n c, .string (iS qc.num), .string (nS qc.den)] := Blk.new w _ _
  have PB := Lib.hid pb
  clear pb
  go_wp2_with (first | (go_at_call 16; (with_reducible refine (hF _ (by repeat (first | exact Below.refl _ _ | assumption | refine b_then ?_ (by assumption) | refine b_alloc ?_ _ | refine b_drewN ?_ _ | refine Below.drew ?_ | refine b_set ?_ (by first | exact Nat.le_refl _ | (simp; done) | (simp; omega) | omega) _))).mono ?_); rintro e w1 ⟨rfl, hb1⟩; obtain ⟨hc1', hf1'⟩ := bcell hb1; have hs1' := hb1.size; (try simp at hs1'); have hq1 : w.heap.size < w1.heap.size := (by omega)) | (go_at_call 14; (with_reducible refine (hLi _ (by repeat (first | exact Below.refl _ _ | assumption | refine b_then ?_ (by assumption) | refine b_alloc ?_ _ | refine b_drewN ?_ _ | refine Below.drew ?_ | refine b_set ?_ (by first | exact Nat.le_refl _ | (simp; done) | (simp; omega) | omega) _))).mono ?_); rintro e w2 ⟨rfl, hb2⟩; obtain ⟨hc2, hf2⟩ := bcell hb2; have hs2 := hb2.size; (try simp at hs2); have hq2 : w.heap.size < w2.heap.size := (by omega)) | (go_at_call 23; (with_reducible refine (hMy _ (by repeat (first | exact Below.refl _ _ | assumption | refine b_then ?_ (by assumption) | refine b_alloc ?_ _ | refine b_drewN ?_ _ | refine Below.drew ?_ | refine b_set ?_ (by first | exact Nat.le_refl _ | (simp; done) | (simp; omega) | omega) _))).mono ?_); rintro e w3 ⟨rfl, hb3⟩; obtain ⟨hc3, hf3⟩ := bcell hb3; have hs3 := hb3.size; (try simp at hs3); have hq3 : w.heap.size < w3.heap.size := (by omega)) | (go_at_call 15; (with_reducible refine (hSm _ (by repeat (first | exact Below.refl _ _ | assumption | refine b_then ?_ (by assumption) | refine b_alloc ?_ _ | refine b_drewN ?_ _ | refine Below.drew ?_ | refine b_set ?_ (by first | exact Nat.le_refl _ | (simp; done) | (simp; omega) | omega) _))).mono ?_); rintro e w' ⟨rfl, rfl⟩) | (go_at_call 32; (with_reducible refine (hMf _ (by repeat (first | exact Below.refl _ _ | assumption | refine b_then ?_ (by assumption) | refine b_alloc ?_ _ | refine b_drewN ?_ _ | refine Below.drew ?_ | refine b_set ?_ (by first | exact Nat.le_refl _ | (simp; done) | (simp; omega) | omega) _))).mono ?_); rintro e w5 ⟨rfl, hb5⟩; obtain ⟨hc5, hf5⟩ := bcell hb5; have hs5 := hb5.size; (try simp at hs5); have hq5 : w.heap.size < w5.heap.size := (by omega)) | (go_at_call 17; (with_reducible refine (hV _ ?_).mono ?_); (· exact (by repeat (first | exact Below.refl _ _ | assumption | refine b_then ?_ (by assumption) | refine b_alloc ?_ _ | refine b_drewN ?_ _ | refine Below.drew ?_ | refine b_set ?_ (by first | exact Nat.le_refl _ | (simp; done) | (simp; omega) | omega) _))); rintro e w6 ⟨rfl, hb6⟩; revert hb6))
  intro hb6
  have hB6 : Below w.heap.size w w6 := b_then (b_then (b_then (b_then (b_then (b_alloc (Below.refl _ _) _) hb1) hb2) hb3) hb5) hb6
  have pb6 := ((((PB.out.below hb1).below hb2).below hb3).below hb5).below hb6
  have PB6 := Lib.hid pb6
  have n0 := pb6.cell 0
  have n1 := pb6.cell 1
  have n2 := pb6.cell 2
  simp at n0 n1 n2
  have hl6 := pb6.lt
  clear hb1 hb2 hb3 hb5 hb6 hc1' hf1' hs1' hq1 hc2 hf2 hs2 hq2 hc3 hf3 hs3 hq3 hc5 hf5 hs5 hq5 PB pb6 hF hLi hMy hMf hSm hV
  go_wp2
  go_loopw [10, 11] (fun bb i wr => ∃ (k : Nat) (q : Rat) (b : Bool), k ≤ n ∧ bb = .bool b ∧ i = .int .i64 (k : Nat) ∧ rsmall (1000 + k * 1001001) q ∧ Hid (psum fs d (xs.take k) (enc qc) = enc q) ∧ Hid (pall fs d (xs.take k) = b) ∧ Blk wr (w6.heap.size + 1) 23 #[.string (iS q.num), .string (nS q.den)] ∧ Blk wr w6.heap.size 23 #[.string v0, .string v1] ∧ Below w6.heap.size w6 wr) (fun _ i _ => n - (intOf i).toNat)
  case atStart => exact ⟨0, qc, true, Nat.zero_le _, rfl, rfl, by simpa using hqs, rfl, rfl, Blk.new2 w6 _ _ _, (Blk.new w6 _ _).alloc _, b_alloc (b_alloc (Below.refl _ _) _) _⟩
  case round =>
    obtain ⟨k, q, b, hk, rfl, rfl, hq, HS, HA, sb, vb, hB⟩ := hrel
    have hBw : Below w.heap.size w wr := b_then hB6 hB
    have pr := PB6.out.below hB
    have q0 := pr.cell 0
    simp at q0
    have hsl : w.heap.size < wr.heap.size := pr.lt
    obtain ⟨s0, s1, s2, s3⟩ := sb.two
    obtain ⟨t0, t1, t2, t3⟩ := vb.two
    have hlb := sb.lt
    by_cases hlt : k < n
    · obtain ⟨ad, a0, a1, a2, rfl, hxk, hl⟩ := pt_in hx hBw hlt
      obtain ⟨z1, z2, z3⟩ := HB1.out _ (List.mem_of_getElem? hxk)
      dsimp only at z1 z2 z3
      have hmx := MX.out _ (List.mem_of_getElem? hxk)
      obtain ⟨r, hrr, hr⟩ := pone_enc hmx (by omega) (by omega)
      injection hrr with e1 e2
      subst e1; subst e2
      have HX := Lib.hid hxk
      have hsub := (hx.below hBw).sub hlt hxk
      have RS := Lib.hid hsub
      have HM := Lib.hid hmx
      clear hxk hl hsub hmx
      have hkc : k < c := by omega
      have hVs := fun W (h : Below w.heap.size w W) (hr' : Rd Pt.cs 3 W (some (ad.add (k * 3))) 1 [⟨a0, ⟨iS r.num, nS r.den⟩⟩]) => p_value (c := c - k) (cf := cf) ⟨#[48]⟩ ⟨#[49]⟩ d W (hg.below h) hr' (by omega) (fun x hx => by rw [List.mem_singleton.1 hx]; exact ⟨z1, Nat.le_trans z2 (by omega), Nat.le_trans z3 (by omega)⟩) (by decide) (by decide) (hf.below h) (by omega) (fun f hf => fxr_mono (HF1.out f hf) (by omega))
      have hone : pval [⟨a0, ⟨iS r.num, nS r.den⟩⟩] ⟨⟨#[48]⟩, ⟨#[49]⟩⟩ fs d = (fget fs a0 d).map (fun q => radd (enc 0) (rmul (enc r) q)) := pval_one (x := ⟨a0, enc r⟩) HM.out HD5.out
      rw [hone] at hVs
      have x0 := fun (x : After wr) (y : After x.W) => (pr.below (b_then x.h y.h)).cell 0
      simp at x0
      have PR := Lib.hid pr
      have SB := Lib.hid sb
      have VB := Lib.hid vb
      clear pr sb vb hone s0 s1 s2 s3 t0 t1 t2 t3 n0 n1 n2
      cases g1 : fget fs a0 d with
      | none =>
        rw [g1] at hVs
        simp only [Option.map_none, optR_none] at hVs
        have HS2 : Hid (psum fs d (xs.take (k + 1)) (enc qc) = enc q) := by unfold Hid; rw [psum_step HX.out, g1]; exact HS.out
        have HA2 : Hid (pall fs d (xs.take (k + 1)) = false) := by unfold Hid; rw [pall_step HX.out, g1, HA.out]; cases b <;> rfl
        have hq' : rsmall (1000 + (k + 1) * 1001001) q := rsmall_mono hq (by omega)
        clear g1
        go_wp2
        (refine wp_region_boxed (T := 23) (A := ?boxA7) (u1 := .string ?boxU7) (u2 := .string ?boxV7) (z1 := .string ⟨#[]⟩) (z2 := .string ⟨#[]⟩) 14 15 12 12 71 (by kernel_rfl) (fun g => by kernel_rfl) (fun g x => ?boxH7) ⟨by kernel_rfl, by kernel_rfl, ⟨_, rfl, rfl, rfl, fun a W => run_alloc_rat rfl⟩, ⟨_, rfl, rfl, rfl, fun a W g h1 h2 hB => run_store_rat rfl h1 h2 hB⟩, ⟨_, rfl, rfl⟩, by kernel_rfl, by kernel_rfl, by decide, ?box17, ?box27, ?box37, ?box47⟩ (by decide) (by decide); (case boxH7 => (simp only [boxed, List.modify_succ_cons, List.modify_zero_cons, repA, repS]; (have hxs := x.h.size); (try simp at hxs); (repeat (first | go_big_quiet_skip | (go_big_quiet_want; go_big_quiet_op; first | go_big_quiet_on | (apply Exists.intro; refine ⟨fun _ => ?_, ?_⟩; (focus (first | (go_at_call 28; with_reducible exact Calls.after (h0 _)) | (go_at_call 17; with_reducible exact Calls.after (hVs _ (b_then hBw (b_then x.h (After.h _))) (RS.out.below (b_then x.h (After.h _))))))); go_big_quiet_on)))); refine wpQuiet_nil ?_; rfl)); (case box17 => exact fun g => rfl); (case box27 => first | decide | simp); (case box37 => intro g; first | rfl | (simp only [List.getElem?_toArray, List.getElem?_cons_succ, List.getElem?_cons_zero]; rfl) | (simp; exact ⟨rfl, rfl⟩)); rintro g7 w7 hg7 hb7 D7; (try dsimp only); obtain ⟨hc7, hf7⟩ := bcell hb7; have hs7 := hb7.size; (try simp at hs7))
        have sb7 := SB.out.below hb7
        have vb7 := VB.out.below hb7
        cases b
        all_goals
          go_wp2
          go_roundw
          case rel => exact ⟨k + 1, q, false, by omega, rfl, by go_num, hq', HS2, HA2, sb7, vb7, b_then hB hb7⟩
          case measure => simp [intOf]; omega
      | some pp =>
        obtain ⟨p, rfl, hp⟩ := fget_enc (fun f hf => fxr_mono (HF1.out f hf) (show 40 ≤ 1000000 by omega)) g1
        rw [g1] at hVs
        simp only [Option.map_some, zero_add_mul, optR_enc] at hVs
        have HS2 : Hid (psum fs d (xs.take (k + 1)) (enc qc) = enc (q + r * p)) := by
          unfold Hid
          rw [psum_step HX.out, g1, HS.out]
          show radd (enc q) (rmul (enc r) (enc p)) = _
          rw [rmul_enc, radd_enc]
        have HA2 : Hid (pall fs d (xs.take (k + 1)) = b) := by unfold Hid; rw [pall_step HX.out, g1, HA.out]; cases b <;> rfl
        have hq' : rsmall (1000 + (k + 1) * 1001001) (q + r * p) := rsmall_mono (rsmall_add hq (rsmall_mul hr hp)) (by omega)
        have hA := fun W => r3_add q (r * p) W (rsmall_mono hq (by omega)) (rsmall_mono (rsmall_mul hr hp) (by omega))
        simp only [enc_v] at hA
        generalize q + r * p = q' at *
        generalize r * p = m at *
        clear g1
        go_wp2
        (refine wp_region_boxed (T := 23) (A := ?boxA17) (u1 := .string ?boxU17) (u2 := .string ?boxV17) (z1 := .string ⟨#[]⟩) (z2 := .string ⟨#[]⟩) 14 15 12 12 71 (by kernel_rfl) (fun g => by kernel_rfl) (fun g x => ?boxH17) ⟨by kernel_rfl, by kernel_rfl, ⟨_, rfl, rfl, rfl, fun a W => run_alloc_rat rfl⟩, ⟨_, rfl, rfl, rfl, fun a W g h1 h2 hB => run_store_rat rfl h1 h2 hB⟩, ⟨_, rfl, rfl⟩, by kernel_rfl, by kernel_rfl, by decide, ?box117, ?box217, ?box317, ?box417⟩ (by decide) (by decide); (case boxH17 => (simp only [boxed, List.modify_succ_cons, List.modify_zero_cons, repA, repS]; (have hxs := x.h.size); (try simp at hxs); (repeat (first | go_big_quiet_skip | (go_big_quiet_want; go_big_quiet_op; first | go_big_quiet_on | (apply Exists.intro; refine ⟨fun _ => ?_, ?_⟩; (focus (first | (go_at_call 28; with_reducible exact Calls.after (h0 _)) | (go_at_call 17; with_reducible exact Calls.after (hVs _ (b_then hBw (b_then x.h (After.h _))) (RS.out.below (b_then x.h (After.h _))))))); go_big_quiet_on)))); refine wpQuiet_nil ?_; rfl)); (case box117 => exact fun g => rfl); (case box217 => first | decide | simp); (case box317 => intro g; first | rfl | (simp only [List.getElem?_toArray, List.getElem?_cons_succ, List.getElem?_cons_zero]; rfl) | (simp; exact ⟨rfl, rfl⟩)); rintro g17 w17 hg17 hb17 D17; (try dsimp only); obtain ⟨hc17, hf17⟩ := bcell hb17; have hs17 := hb17.size; (try simp at hs17))
        obtain ⟨u0, u1, u2, u3⟩ := D17.two
        have sb7 := SB.out.below hb17
        have vb7 := VB.out.below hb17
        obtain ⟨s0, s1, s2, s3⟩ := sb7.two
        have hlz := sb7.lt
        clear D17 hc17 hf17 hs17
        cases b
        all_goals
          go_wp2_with (go_at_call 27; (with_reducible refine (hA _).mono ?_); rintro e w8 ⟨rfl, hb8⟩; have sb8 := sb7.below hb8; have vb8 := vb7.below hb8; have hW8 := b_then (b_then hB hb17) hb8; obtain ⟨j0, j1, j2, j3⟩ := sb8.two)
          go_roundw
          case rel => exact ⟨k + 1, q', _, by omega, rfl, by go_num, hq', HS2, HA2, sb8.put2 _ _, (vb8.far (by simp) _).far (by simp) _, b_put2 hW8 (by omega) _ _⟩
          case measure => simp [intOf]; omega
    · obtain rfl : k = n := by omega
      have HS2 := HS.out
      have HA2 := HA.out
      rw [← hxl, List.take_length] at HS2 HA2
      have hbo : b = ok := HA2.symm.trans HOK.out
      have heq := eqRat
      subst hbo
      clear HA2
      cases b with
      | false =>
        clear HS2
        go_wp2
        go_ret
        exact ⟨rfl, (by repeat (first | exact Below.refl _ _ | assumption | refine b_then ?_ (by assumption) | refine b_alloc ?_ _ | refine b_drewN ?_ _ | refine Below.drew ?_ | refine b_set ?_ (by first | exact Nat.le_refl _ | (simp; done) | (simp; omega) | omega) _))⟩
      | true =>
        have hvv := (HVv.out rfl).trans HS2
        injection hvv with e1 e2
        subst e1; subst e2
        clear HS2
        go_wp2
        go_ret
        exact ⟨ret_bool (by simp), (by repeat (first | exact Below.refl _ _ | assumption | refine b_then ?_ (by assumption) | refine b_alloc ?_ _ | refine b_drewN ?_ _ | refine Below.drew ?_ | refine b_set ?_ (by first | exact Nat.le_refl _ | (simp; done) | (simp; omega) | omega) _))⟩
end Go.Proofs.YtdkpbifpafaabaaGreatDoor
