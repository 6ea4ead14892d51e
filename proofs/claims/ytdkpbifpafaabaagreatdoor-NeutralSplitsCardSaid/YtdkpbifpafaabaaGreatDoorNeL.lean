/- Plain laws of neutral prices: what the table has of any asset and day. -/
import Derived.Test.YtdkpbifpafaabaaGreatDoorNeD
namespace Go.Proofs.YtdkpbifpafaabaaGreatDoor
open Go.RowKit
set_option linter.unusedVariables false
set_option linter.unusedSimpArgs false

theorem fsmall_r {l : List Fx} (h : fsmall l = true) : (∀ f ∈ l, fxr 40 f) ∧ l.length ≤ 60 := by
  unfold fsmall at h
  rw [Bool.and_eq_true, List.all_eq_true, decide_eq_true_eq] at h
  refine ⟨fun f hf => ?_, h.2⟩
  have := h.1 f hf
  unfold fsm at this
  simp only [Bool.and_eq_true, decide_eq_true_eq] at this
  exact ⟨by omega, by omega, by omega⟩
theorem fget_some {l : List Fx} {s : ByteArray} {d : Int} {q : RT} (h : fget l s d = some q) : ∃ f ∈ l, f.asset = s ∧ f.day = d ∧ f.p = q := by
  unfold fget at h
  split at h
  · cases hf : l.find? (fhit s d) with
    | none => rw [hf] at h; cases h
    | some y =>
      rw [hf] at h
      injection h with h
      obtain ⟨e1, e2⟩ := fhit_iff.1 (List.find?_some hf)
      exact ⟨y, List.mem_of_find?_eq_some hf, e1, e2, h⟩
  · cases h
theorem fext {l m : List Fx} (hl : fmay l = true) (hm : fmay m = true) (h : ∀ s d, fget l s d = fget m s d) : l = m := by
  have key : ∀ {l m : List Fx}, fmay l = true → (∀ s d, fget l s d = fget m s d) → ∀ x, x ∈ l → x ∈ m := by
    intro l m hl h x hx
    have := fget_mem hl hx
    rw [h] at this
    obtain ⟨f, hf, e1, e2, e3⟩ := fget_some this
    have : f = x := by cases f; cases x; simp_all
    rwa [← this]
  exact rises_ext (rises_of hl) (rises_of hm) fun x => ⟨key hl h x, key hm (fun s d => (h s d).symm) x⟩
theorem pof_asset {a : Ac} (h : amay a = true) : ∀ x ∈ pofL a, x.asset = a.asset ∨ (3 ≤ a.kind ∧ x.asset = a.other) := by
  intro x hx
  rcases kinds (amay_of h) with k | k | k | k | k
  · rw [pofL_0 h k] at hx; simp at hx; subst hx; exact .inl rfl
  · rw [pofL_1 h k] at hx; simp at hx; subst hx; exact .inl rfl
  · rw [pofL_2 h k] at hx; simp at hx; subst hx; exact .inl rfl
  · rw [pofL_3 h k] at hx
    split at hx <;> simp at hx <;> rcases hx with rfl | rfl
    · exact .inl rfl
    · exact .inr ⟨by omega, rfl⟩
    · exact .inr ⟨by omega, rfl⟩
    · exact .inl rfl
  · rw [pofL_4 h k] at hx; simp at hx; subst hx; exact .inr ⟨by omega, rfl⟩
theorem pof_other {a : Ac} (h : amay a = true) (k : 3 ≤ a.kind) : ∃ x ∈ pofL a, x.asset = a.other := by
  have hk : a.kind = 3 ∨ a.kind = 4 := by have := (amay_of h).k4; omega
  rcases hk with k | k
  · rw [pofL_3 h k]
    split
    · exact ⟨⟨a.other, a.ratio⟩, by simp, rfl⟩
    · exact ⟨⟨a.other, a.ratio⟩, by simp, rfl⟩
  · rw [pofL_4 h k]; exact ⟨⟨a.other, a.ratio⟩, by simp, rfl⟩
theorem npart_mem {a : Ac} (h : amay a = true) : ∃ x ∈ pofL a, x.asset = npart a := by
  have hl := pof_len h
  unfold npart
  cases hp : pofL a with
  | nil => rw [hp] at hl; split at hl <;> simp at hl
  | cons x l => exact ⟨x, by simp, rfl⟩
theorem nworth_parts {a : Ac} {xs : List Fx} {d : Int} {v : RT} (h : nworth a xs d = some v) : ∀ x ∈ pofL a, ∃ q, fget xs x.asset d = some q := by
  intro x hx
  unfold nworth pval at h
  split at h
  · rw [pvalU_eq] at h
    split at h
    next hp => exact Option.isSome_iff_exists.1 (List.all_eq_true.1 hp x hx)
    next => cases h
  · cases h
theorem pvalU_congr {xs ys : List Fx} {d : Int} : ∀ (l : List Pt) (s : Option RT), (∀ x ∈ l, fget xs x.asset d = fget ys x.asset d) → l.foldl (pstep xs d) s = l.foldl (pstep ys d) s
  | [], _, _ => rfl
  | x :: l, s, h => by
    rw [List.foldl_cons, List.foldl_cons]
    have e : pstep xs d s x = pstep ys d s x := by unfold pstep; rw [h x (by simp)]
    rw [e]
    exact pvalU_congr l _ fun y hy => h y (by simp [hy])
theorem nworth_congr {a : Ac} {xs ys : List Fx} {d : Int} (hx : fmay xs = true) (hy : fmay ys = true) (h : ∀ x ∈ pofL a, fget xs x.asset d = fget ys x.asset d) : nworth a xs d = nworth a ys d := by
  unfold nworth pval pvalU
  rw [hx, hy, pvalU_congr _ _ h]
/-- What the neutral table has of any asset and day. -/
theorem nfix_get {a : Ac} {xs : List Fx} (hm : amay a = true) (hf : fmay xs = true) (s : ByteArray) (d : Int) : fget (nfix a xs) s d = if s = a.asset ∧ a.ex ≤ d then nworth a xs d else fget xs s d := by
  have hn := nfix_may hm hf
  split
  next hc =>
    obtain ⟨rfl, hd⟩ := hc
    cases hv : nworth a xs d with
    | none =>
      refine fget_none_of hn fun x hx e1 e2 => ?_
      rcases (nfix_mem hm hf).1 hx with ⟨_, h⟩ | ⟨_, f, _, _, h3, h4⟩
      · have := nkeep_iff.1 h e1; omega
      · rw [← h3, e2, hv] at h4; cases h4
    | some v =>
      obtain ⟨x, hx, e⟩ := npart_mem hm
      obtain ⟨q, hq⟩ := nworth_parts hv x hx
      obtain ⟨f, hfx, e1, e2, _⟩ := fget_some hq
      have : (⟨a.asset, d, v⟩ : Fx) ∈ nfix a xs := (nfix_mem hm hf).2 (.inr ⟨rfl, f, hfx, nhit_iff.2 ⟨e1.trans e, by omega⟩, e2.symm, by rw [e2]; exact hv⟩)
      exact fget_mem hn this
  next hc =>
    cases hv : fget xs s d with
    | none =>
      refine fget_none_of hn fun x hx e1 e2 => ?_
      rcases (nfix_mem hm hf).1 hx with ⟨h, _⟩ | ⟨h1, f, hfx, h2, h3, _⟩
      · exact fget_none_at hf hv x h e1 e2
      · have := (nhit_iff.1 h2).2
        exact hc ⟨e1.symm.trans h1, by omega⟩
    | some v =>
      obtain ⟨f, hfx, rfl, rfl, rfl⟩ := fget_some hv
      refine fget_mem hn ((nfix_mem hm hf).2 (.inl ⟨hfx, nkeep_iff.2 fun e => ?_⟩))
      exact Decidable.byContradiction fun h => hc ⟨e, by omega⟩
/-- Two actions that have nothing to do with each other change places. -/
theorem nfix_comm {a b : Ac} {xs : List Fx} (ha : amay a = true) (hb : amay b = true) (hf : fmay xs = true) (h1 : a.asset ≠ b.asset) (h2 : a.asset ≠ b.other) (h3 : a.other ≠ b.asset) : nfix a (nfix b xs) = nfix b (nfix a xs) := by
  have fa := nfix_may ha hf
  have fb := nfix_may hb hf
  have key : ∀ {a b : Ac}, amay a = true → amay b = true → a.asset ≠ b.asset → a.other ≠ b.asset → ∀ d, nworth a (nfix b xs) d = nworth a xs d := by
    intro a b ha hb h1 h3 d
    refine nworth_congr (nfix_may hb hf) hf fun x hx => ?_
    rw [nfix_get hb hf, if_neg]
    rintro ⟨e, _⟩
    rcases pof_asset ha x hx with e' | ⟨_, e'⟩
    · exact h1 (e'.symm.trans e)
    · exact h3 (e'.symm.trans e)
  refine fext (nfix_may ha fb) (nfix_may hb fa) fun s d => ?_
  rw [nfix_get ha fb, nfix_get hb fa, nfix_get hb hf, nfix_get ha hf, key ha hb h1 h3, key hb ha (fun e => h1 e.symm) (fun e => h2 e.symm)]
  split
  next hc => rw [if_neg]; rintro ⟨e, _⟩; exact h1 (hc.1.symm.trans e)
  next => rfl
/-- An action behind all prices changes none. -/
theorem nfix_late {a : Ac} {xs : List Fx} (ha : amay a = true) (hf : fmay xs = true) (h : ∀ f ∈ xs, f.day < a.ex) : nfix a xs = xs := by
  refine fext (nfix_may ha hf) hf fun s d => ?_
  rw [nfix_get ha hf]
  split
  next hc =>
    have none' : ∀ t, fget xs t d = none := fun t => fget_none_of hf fun x hx _ e => by have := h x hx; omega
    rw [none']
    cases hv : nworth a xs d with
    | none => rfl
    | some v =>
      obtain ⟨x, hx, _⟩ := npart_mem ha
      obtain ⟨q, hq⟩ := nworth_parts hv x hx
      rw [none'] at hq; cases hq
  next => rfl
/-- An action whose other part has no price takes the asset's away. -/
theorem nfix_bare {a : Ac} {xs : List Fx} (ha : amay a = true) (hf : fmay xs = true) (h : ∀ f ∈ xs, f.asset = a.other → f.day < a.ex) (k : 3 ≤ a.kind) : ∀ x ∈ nfix a xs, x.asset = a.asset → x.day < a.ex := by
  intro x hx e
  rcases (nfix_mem ha hf).1 hx with ⟨_, h1⟩ | ⟨_, f, hfx, h2, h3, h4⟩
  · exact nkeep_iff.1 h1 e
  · obtain ⟨y, hy, ey⟩ := pof_other ha k
    obtain ⟨q, hq⟩ := nworth_parts h4 y hy
    obtain ⟨g, hg, g1, g2, _⟩ := fget_some hq
    have := h g hg (g1.trans ey)
    omega
/-- Splits. -/
def splR (r : RT) : Ac := ⟨⟨#[115, 49]⟩, 0, ⟨#[120]⟩, ⟨#[]⟩, r, ⟨⟨#[48]⟩, ⟨#[49]⟩⟩, 5, 5, 5⟩
theorem splR_may : ∀ n d : Fin 9, amay (splR (enc (mkRat ((n.1 + 1 : Nat) : Int) (d.1 + 1)))) = true := by decide +kernel
theorem splR_worth {r : Rat} (h : amay (splR (enc r)) = true) {xs : List Fx} (hf : fmay xs = true) (d : Int) : nworth (splR (enc r)) xs d = (fget xs ⟨#[120]⟩ d).map (fun q => radd (enc 0) (rmul (enc r) q)) := by
  unfold nworth
  have e : pofL (splR (enc r)) = [⟨⟨#[120]⟩, enc r⟩] := pofL_0 h rfl
  have hp := pofL_pone h ⟨⟨#[120]⟩, enc r⟩ (by rw [e]; simp)
  rw [e, pofC_yes h]
  exact pval_one hp hf
theorem splR_two {p r : Rat} (hp : amay (splR (enc p)) = true) (hr : amay (splR (enc r)) = true) {xs : List Fx} (hf : fmay xs = true) (s : ByteArray) (d : Int) :
    fget (nfix (splR (enc p)) (nfix (splR (enc r)) xs)) s d = if s = ⟨#[120]⟩ ∧ 5 ≤ d then (fget xs ⟨#[120]⟩ d).map (fun q => enc (p * (r * dec q))) else fget xs s d := by
  have hr1 := nfix_may hr hf
  rw [nfix_get hp hr1]
  show (if s = ⟨#[120]⟩ ∧ (5 : Int) ≤ d then _ else _) = _
  split
  next hc =>
    rw [splR_worth hp hr1, nfix_get hr hf]
    rw [if_pos ⟨rfl, hc.2⟩, splR_worth hr hf]
    cases hg : fget xs ⟨#[120]⟩ d with
    | none => rfl
    | some q =>
      obtain ⟨y, rfl⟩ := rmay_of (fget_may hg)
      show some (radd (enc 0) (rmul (enc p) (radd (enc 0) (rmul (enc r) (enc y))))) = some (enc (p * (r * dec (enc y))))
      rw [rmul_enc, radd_enc, rmul_enc, radd_enc, dec_enc, Rat.zero_add, Rat.zero_add]
  next hc => rw [nfix_get hr hf]; exact if_neg hc
/-- A split, and one the other way round, leave all prices. -/
theorem splR_back {p r : Rat} (hp : amay (splR (enc p)) = true) (hr : amay (splR (enc r)) = true) (h : p * r = 1) {xs : List Fx} (hf : fmay xs = true) : nfix (splR (enc p)) (nfix (splR (enc r)) xs) = xs := by
  refine fext (nfix_may hp (nfix_may hr hf)) hf fun s d => ?_
  rw [splR_two hp hr hf]
  split
  next hc =>
    rw [hc.1]
    cases hg : fget xs ⟨#[120]⟩ d with
    | none => rfl
    | some q =>
      obtain ⟨y, rfl⟩ := rmay_of (fget_may hg)
      show some (enc (p * (r * dec (enc y)))) = some (enc y)
      rw [dec_enc, ← Rat.mul_assoc, h, Rat.one_mul]
  next => rfl
end Go.Proofs.YtdkpbifpafaabaaGreatDoor
