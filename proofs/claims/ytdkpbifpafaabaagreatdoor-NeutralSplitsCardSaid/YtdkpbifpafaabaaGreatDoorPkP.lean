/- Packs: plain laws. -/
import Derived.Test.YtdkpbifpafaabaaGreatDoorPkA
namespace Go.Proofs.YtdkpbifpafaabaaGreatDoor
open Go.RowKit
set_option linter.unusedVariables false
set_option linter.unusedSimpArgs false

theorem num_pos_iff {q : Rat} : 0 < q.num ↔ 0 < q := by
  have := Rat.lt_iff (a := 0) (b := q)
  rw [this]
  simp
theorem rsign_pos {x : RT} (h : 0 < rsign x) : rmay x = true ∧ 0 < dec x := by
  unfold rsign at h
  split at h
  next hm =>
    refine ⟨hm, ?_⟩
    obtain ⟨q, rfl⟩ := rmay_of hm
    rw [dec_enc]
    have e : rnum (enc q) = q.num := ival_itx _
    rw [e] at h
    have : 0 < q.num := by
      rcases Int.lt_trichotomy q.num 0 with h1 | h1 | h1
      · rw [Int.sign_eq_neg_one_of_neg h1] at h; omega
      · rw [h1] at h; simp at h
      · exact h1
    exact num_pos_iff.1 this
  next => omega
theorem rsign_of_pos {q : Rat} (h : 0 < q) : 0 < rsign (enc q) := by
  rw [rsign_enc]
  have := num_pos_iff.2 h
  rw [Int.sign_eq_one_of_pos this]; omega
structure POne (x : Pt) : Prop where
  name : isName x.asset = true
  may : rmay x.ratio = true
  pos : 0 < dec x.ratio
theorem pone_of {x : Pt} (h : pone x = true) : POne x := by
  unfold pone at h
  rw [Bool.and_eq_true, decide_eq_true_eq] at h
  exact ⟨h.1, (rsign_pos h.2).1, (rsign_pos h.2).2⟩
theorem pone_mk {x : Pt} (h1 : isName x.asset = true) (h2 : rmay x.ratio = true) (h3 : 0 < dec x.ratio) : pone x = true := by
  unfold pone
  rw [h1]
  have := rsign_of_pos h3
  rw [enc_dec h2] at this
  simpa using this
theorem radd_zero {x : RT} (h : rmay x = true) : radd (enc 0) x = x := by
  obtain ⟨q, rfl⟩ := rmay_of h
  rw [radd_enc]; congr 1; grind
theorem rmul_may {x y : RT} (hx : rmay x = true) (hy : rmay y = true) : rmay (rmul x y) = true := by
  unfold rmul; rw [hx, hy]; exact rmay_enc _
/-- What a pack is worth, by prices that are there. -/
def psum (fs : List Fx) (d : Int) (l : List Pt) (c : RT) : RT := l.foldl (fun s x => match fget fs x.asset d with | some q => radd s (rmul x.ratio q) | none => s) c
def pall (fs : List Fx) (d : Int) (l : List Pt) : Bool := l.all fun x => (fget fs x.asset d).isSome
theorem pvalU_eq (fs : List Fx) (d : Int) : ∀ (l : List Pt) (c : RT), pvalU l c fs d = if pall fs d l then some (psum fs d l c) else none
  | [], c => rfl
  | x :: l, c => by
    unfold pvalU
    rw [List.foldl_cons]
    cases h : fget fs x.asset d with
    | none =>
      have : pstep fs d (some c) x = none := by unfold pstep; rw [Option.bind_some, h]; rfl
      rw [this, pvalU_none]
      have : pall fs d (x :: l) = false := by unfold pall; rw [List.all_cons, h]; rfl
      rw [this]; rfl
    | some q =>
      have : pstep fs d (some c) x = some (radd c (rmul x.ratio q)) := by unfold pstep; rw [Option.bind_some, h]; rfl
      rw [this]
      have ih := pvalU_eq fs d l (radd c (rmul x.ratio q))
      unfold pvalU at ih
      rw [ih]
      have e1 : pall fs d (x :: l) = pall fs d l := by unfold pall; rw [List.all_cons, h]; rfl
      have e2 : psum fs d (x :: l) c = psum fs d l (radd c (rmul x.ratio q)) := by unfold psum; rw [List.foldl_cons, h]
      rw [e1, e2]
theorem pkmay_of {l : List Pt} {c : RT} (h : pkmay l c = true) : (∀ x ∈ l, POne x) ∧ rises pahead l = true ∧ rmay c = true := by
  unfold pkmay pparts at h
  simp only [Bool.and_eq_true, List.all_eq_true] at h
  exact ⟨fun x hx => pone_of (h.1.1 x hx), h.1.2, h.2⟩
theorem pkmay_one {x : Pt} {c : RT} (h : pone x = true) (hc : rmay c = true) : pkmay [x] c = true := by
  unfold pkmay pparts
  simp [h, hc, rises]
theorem pval_one {x : Pt} {fs : List Fx} {d : Int} (h : pone x = true) (hf : fmay fs = true) : pval [x] (enc 0) fs d = (fget fs x.asset d).map (fun q => radd (enc 0) (rmul x.ratio q)) := by
  unfold pval
  rw [pkmay_one h (rmay_enc 0), hf]
  cases hg : fget fs x.asset d <;> simp [pvalU, pstep, hg]
theorem fget_may {fs : List Fx} {s : ByteArray} {d : Int} {q : RT} (h : fget fs s d = some q) : rmay q = true := by
  unfold fget at h
  split at h
  next hm =>
    cases hf : fs.find? (fhit s d) with
    | none => rw [hf] at h; cases h
    | some f =>
      rw [hf] at h
      have hmem := List.mem_of_find?_eq_some hf
      unfold fmay at hm
      rw [Bool.and_eq_true, List.all_eq_true] at hm
      have h1 := hm.1 f hmem
      unfold fone at h1
      simp only [Bool.and_eq_true] at h1
      have : f.p = q := by simpa using h
      rw [← this]; exact h1.2.2.2
  next => cases h
/-! ### A pack of an action -/
structure ANum (x : RT) (least : Int) : Prop where
  may : rmay x = true
  sign : least ≤ rsign x
  num : x.num.size ≤ 20
  den : x.den.size ≤ 20
theorem anum_yes {x : RT} {least : Int} (h : anum x true least = true) : ANum x least := by
  unfold anum at h
  simp only [if_true, Bool.and_eq_true, decide_eq_true_eq] at h
  exact ⟨h.1, h.2.1, h.2.2.1, h.2.2.2⟩
theorem anum_no {x : RT} {least : Int} (h : anum x false least = true) : x = enc 0 := by
  unfold anum at h
  rw [if_neg (by simp), rt_nil] at h
  exact of_decide_eq_true h
theorem anum_mk {x : RT} {least : Int} (h1 : rmay x = true) (h2 : least ≤ rsign x) (h3 : x.num.size ≤ 20) (h4 : x.den.size ≤ 20) : anum x true least = true := by
  unfold anum
  simp [h1, h2, h3, h4]
structure AMay (a : Ac) : Prop where
  k0 : 0 ≤ a.kind
  k4 : a.kind ≤ 4
  name : isName a.name = true
  asset : aasset a.asset = true
  days : adays a = true
  other : aother a = true
  ratio : anum a.ratio (arat a.kind) 1 = true
  cash : anum a.cash (acas a.kind) (aleast a.kind) = true
theorem amay_of {a : Ac} (h : amay a = true) : AMay a := by
  unfold amay at h
  simp only [Bool.and_eq_true, decide_eq_true_eq] at h
  obtain ⟨⟨h1, h2⟩, ⟨h3, h4⟩, h5, h6, h7, h8⟩ := h
  exact ⟨h1, h2, h3, h4, h5, h6, h7, h8⟩
theorem amay_mk {a : Ac} (h : AMay a) : amay a = true := by
  unfold amay
  simp [h.k0, h.k4, h.name, h.asset, h.days, h.other, h.ratio, h.cash]
theorem aasset_of {s : ByteArray} (h : aasset s = true) : isName s = true ∧ lower1 s = true ∧ ¬ s.toList = [99, 97, 115, 104] := by
  unfold aasset at h
  simp only [Bool.and_eq_true, Bool.not_eq_true', beq_eq_false_iff_ne] at h
  exact ⟨h.1, h.2.1, h.2.2⟩
theorem AMay.rmayC {a : Ac} (h : AMay a) : rmay a.cash = true := by
  have := h.cash
  cases hc : acas a.kind with
  | true => rw [hc] at this; exact (anum_yes this).may
  | false => rw [hc] at this; rw [anum_no this]; exact rmay_enc 0
theorem AMay.cash20 {a : Ac} (h : AMay a) : a.cash.num.size ≤ 20 ∧ a.cash.den.size ≤ 20 := by
  have := h.cash
  cases hc : acas a.kind with
  | true => rw [hc] at this; exact ⟨(anum_yes this).num, (anum_yes this).den⟩
  | false => rw [hc] at this; rw [anum_no this]; exact ⟨by decide, by decide⟩
theorem AMay.rat {a : Ac} (h : AMay a) (hk : a.kind ≠ 2) : ANum a.ratio 1 := by
  have := h.ratio
  rw [show arat a.kind = true by unfold arat; simpa using hk] at this
  exact anum_yes this
theorem AMay.oth {a : Ac} (h : AMay a) (hk : 3 ≤ a.kind) : aasset a.other = true ∧ a.other ≠ a.asset := by
  have := h.other
  unfold aother at this
  rw [show aoth a.kind = true by unfold aoth; simpa using hk, if_pos rfl] at this
  simp only [Bool.and_eq_true, Bool.not_eq_true', beq_eq_false_iff_ne] at this
  exact ⟨this.1, fun e => this.2 (by rw [e])⟩
theorem AMay.noth {a : Ac} (h : AMay a) (hk : a.kind < 3) : a.other = ⟨#[]⟩ := by
  have := h.other
  unfold aother at this
  rw [show aoth a.kind = false by unfold aoth; simpa using hk, if_neg (by simp)] at this
  exact s_eq.2 (by rw [tl ⟨#[]⟩]; simpa using this)
theorem slt_tri {a b : ByteArray} (h : a ≠ b) (h1 : slt a b = false) : slt b a = true := by
  rw [← Bool.not_eq_true, slt_iff] at h1
  rw [slt_iff]
  rcases blt_tri a.data.toList b.data.toList with h2 | h2 | h2
  · exact absurd h2 h1
  · exact absurd (s_ext h2) h
  · exact h2
theorem pone_name {s : ByteArray} (h : aasset s = true) {q : RT} (hq : rmay q = true) (h0 : 0 < dec q) : pone ⟨s, q⟩ = true := pone_mk (aasset_of h).1 hq h0
theorem dec_one : dec (enc 1) = 1 := dec_enc 1
theorem one_pos : (0 : Rat) < dec (enc 1) := by rw [dec_one]; decide +kernel
theorem kinds {a : Ac} (h : AMay a) : a.kind = 0 ∨ a.kind = 1 ∨ a.kind = 2 ∨ a.kind = 3 ∨ a.kind = 4 := by have := h.k0; have := h.k4; omega
theorem pofL_0 {a : Ac} (h : amay a = true) (k : a.kind = 0) : pofL a = [⟨a.asset, a.ratio⟩] := by unfold pofL; rw [h, if_pos rfl, if_pos k]
theorem pofL_1 {a : Ac} (h : amay a = true) (k : a.kind = 1) : pofL a = [⟨a.asset, radd (enc 1) a.ratio⟩] := by unfold pofL; rw [h, if_pos rfl, if_neg (by omega), if_pos k]
theorem pofL_2 {a : Ac} (h : amay a = true) (k : a.kind = 2) : pofL a = [⟨a.asset, enc 1⟩] := by unfold pofL; rw [h, if_pos rfl, if_neg (by omega), if_neg (by omega), if_pos k]
theorem pofL_3 {a : Ac} (h : amay a = true) (k : a.kind = 3) : pofL a = if slt a.asset a.other then [⟨a.asset, enc 1⟩, ⟨a.other, a.ratio⟩] else [⟨a.other, a.ratio⟩, ⟨a.asset, enc 1⟩] := by unfold pofL; rw [h, if_pos rfl, if_neg (by omega), if_neg (by omega), if_neg (by omega), if_pos k]
theorem pofL_4 {a : Ac} (h : amay a = true) (k : a.kind = 4) : pofL a = [⟨a.other, a.ratio⟩] := by unfold pofL; rw [h, if_pos rfl, if_neg (by omega), if_neg (by omega), if_neg (by omega), if_neg (by omega)]
theorem pofL_no {a : Ac} (h : amay a = false) : pofL a = [] := by unfold pofL; rw [h]; rfl
theorem pofC_yes {a : Ac} (h : amay a = true) : pofC a = a.cash := if_pos h
theorem pofC_no {a : Ac} (h : amay a = false) : pofC a = rzero := by unfold pofC; rw [h]; rfl
theorem add_pos_one {q : Rat} (h : 0 < q) : 0 < 1 + q := by grind
theorem stock_one {a : Ac} (h : AMay a) (k : a.kind = 1) : rmay (radd (enc 1) a.ratio) = true ∧ dec (radd (enc 1) a.ratio) = 1 + dec a.ratio ∧ 0 < dec a.ratio := by
  have n := h.rat (by omega)
  obtain ⟨h1, h2⟩ := rsign_pos (x := a.ratio) (by have := n.sign; omega)
  obtain ⟨q, hq⟩ := rmay_of h1
  rw [hq] at h2 ⊢
  rw [radd_enc, dec_enc, dec_enc]
  rw [dec_enc] at h2
  exact ⟨rmay_enc _, rfl, h2⟩
theorem pofL_pone {a : Ac} (h : amay a = true) : ∀ x ∈ pofL a, pone x = true := by
  have o := amay_of h
  intro x hx
  rcases kinds o with k | k | k | k | k
  · rw [pofL_0 h k, List.mem_singleton] at hx
    subst hx
    obtain ⟨h1, h2⟩ := rsign_pos (x := a.ratio) (by have := (o.rat (by omega)).sign; omega)
    exact pone_name o.asset h1 h2
  · rw [pofL_1 h k, List.mem_singleton] at hx
    subst hx
    obtain ⟨h1, h2, h3⟩ := stock_one o k
    exact pone_name o.asset h1 (by rw [h2]; exact add_pos_one h3)
  · rw [pofL_2 h k, List.mem_singleton] at hx
    subst hx
    exact pone_name o.asset (rmay_enc 1) one_pos
  · obtain ⟨h1, h2⟩ := rsign_pos (x := a.ratio) (by have := (o.rat (by omega)).sign; omega)
    rw [pofL_3 h k] at hx
    have hh : x = ⟨a.asset, enc 1⟩ ∨ x = ⟨a.other, a.ratio⟩ := by
      split at hx
      · simpa using hx
      · exact Or.symm (by simpa using hx)
    rcases hh with rfl | rfl
    · exact pone_name o.asset (rmay_enc 1) one_pos
    · exact pone_name (o.oth (by omega)).1 h1 h2
  · rw [pofL_4 h k, List.mem_singleton] at hx
    subst hx
    obtain ⟨h1, h2⟩ := rsign_pos (x := a.ratio) (by have := (o.rat (by omega)).sign; omega)
    exact pone_name (o.oth (by omega)).1 h1 h2
theorem pofL_rises {a : Ac} (h : amay a = true) : rises pahead (pofL a) = true := by
  have o := amay_of h
  rcases kinds o with k | k | k | k | k
  · rw [pofL_0 h k]; rfl
  · rw [pofL_1 h k]; rfl
  · rw [pofL_2 h k]; rfl
  · rw [pofL_3 h k]
    cases c : slt a.asset a.other with
    | true => simp [rises, pahead, c]
    | false =>
      have := slt_tri (Ne.symm (o.oth (by omega)).2) c
      simp [rises, pahead, this]
  · rw [pofL_4 h k]; rfl
theorem pof_may {a : Ac} (h : amay a = true) : pkmay (pofL a) (pofC a) = true := by
  unfold pkmay pparts
  rw [pofL_rises h, pofC_yes h, (amay_of h).rmayC, List.all_eq_true.2 (pofL_pone h)]; rfl
theorem pof_len {a : Ac} (h : amay a = true) : (pofL a).length = if a.kind = 3 then 2 else 1 := by
  have o := amay_of h
  rcases kinds o with k | k | k | k | k
  · rw [pofL_0 h k, if_neg (by omega)]; rfl
  · rw [pofL_1 h k, if_neg (by omega)]; rfl
  · rw [pofL_2 h k, if_neg (by omega)]; rfl
  · rw [pofL_3 h k, if_pos k]; split <;> rfl
  · rw [pofL_4 h k, if_neg (by omega)]; rfl
theorem phit_eq (s : ByteArray) (x : Pt) : phit s x = (decide (x.asset = s) && decide (x.ratio = enc 1)) := by
  unfold phit
  rw [rt_one]
  congr 1
  rw [Bool.eq_iff_iff, beq_iff_eq, decide_eq_true_eq, s_eq]
theorem pof_keeps {a : Ac} (h : amay a = true) : pkeeps (pofL a) a.asset = (decide (a.kind = 2) || (decide (a.kind = 3) || (decide (a.kind = 0) && decide (a.ratio = enc 1)))) := by
  have o := amay_of h
  unfold pkeeps
  rcases kinds o with k | k | k | k | k
  · rw [pofL_0 h k]; simp [phit_eq, k]
  · rw [pofL_1 h k]
    obtain ⟨h1, h2, h3⟩ := stock_one o k
    have : radd (enc 1) a.ratio ≠ enc 1 := fun e => by rw [e, dec_one] at h2; grind
    simp [phit_eq, k, this]
  · rw [pofL_2 h k]; simp [phit_eq, k]
  · rw [pofL_3 h k]
    have := (o.oth (by omega)).2
    split <;> simp [phit_eq, k]
  · rw [pofL_4 h k]
    have := (o.oth (by omega)).2
    simp [phit_eq, k, this]
/-! ### Tables of a price for each part -/
def ptab : List Pt → List RT → List Fx
  | x :: l, q :: m => ⟨x.asset, 0, q⟩ :: ptab l m
  | _, _ => []
theorem ptab_mem : ∀ {l : List Pt} {m : List RT} {f : Fx}, f ∈ ptab l m → ∃ x ∈ l, ∃ q ∈ m, f = ⟨x.asset, 0, q⟩
  | x :: l, q :: m, f, h => by
    rcases List.mem_cons.1 h with e | e
    · exact ⟨x, by simp, q, by simp, e⟩
    · obtain ⟨y, hy, r, hr, e⟩ := ptab_mem e
      exact ⟨y, by simp [hy], r, by simp [hr], e⟩
  | [], _, _, h => by unfold ptab at h; cases h
  | _ :: _, [], _, h => by unfold ptab at h; cases h
theorem ptab_len : ∀ {l : List Pt} {m : List RT}, l.length = m.length → (ptab l m).length = l.length
  | x :: l, q :: m, h => by show (ptab l m).length + 1 = l.length + 1; rw [ptab_len (by simpa using h)]
  | [], _, _ => by unfold ptab; rfl
  | x :: l, [], h => by simp at h
theorem ptab_rises : ∀ {l : List Pt} {m : List RT}, rises pahead l = true → rises fahead (ptab l m) = true
  | [], _, _ => by unfold ptab; rfl
  | x :: l, [], _ => by unfold ptab; rfl
  | [x], q :: m, _ => by
    have : ptab [x] (q :: m) = [⟨x.asset, 0, q⟩] := by unfold ptab; cases m <;> (unfold ptab; rfl)
    rw [this]; rfl
  | x :: y :: l, [q], _ => by
    have : ptab (x :: y :: l) [q] = [⟨x.asset, 0, q⟩] := by unfold ptab; unfold ptab; rfl
    rw [this]; rfl
  | x :: y :: l, q :: r :: m, h => by
    have h' : (pahead x y && rises pahead (y :: l)) = true := h
    rw [Bool.and_eq_true] at h'
    have ih := ptab_rises (l := y :: l) (m := r :: m) h'.2
    show (fahead ⟨x.asset, 0, q⟩ ⟨y.asset, 0, r⟩ && rises fahead (ptab (y :: l) (r :: m))) = true
    rw [ih, Bool.and_true]
    unfold fahead
    have : slt x.asset y.asset = true := h'.1
    rw [Bool.or_eq_true]; exact .inl this
theorem ptab_may {l : List Pt} {m : List RT} (h1 : ∀ x ∈ l, isName x.asset = true) (h2 : rises pahead l = true) (h3 : ∀ q ∈ m, rmay q = true) : fmay (ptab l m) = true := by
  unfold fmay
  rw [ptab_rises h2, Bool.and_true, List.all_eq_true]
  intro f hf
  obtain ⟨x, hx, q, hq, rfl⟩ := ptab_mem hf
  unfold fone
  simp [h1 x hx, h3 q hq]
def dotq : List Pt → List RT → Rat
  | x :: l, q :: m => dec x.ratio * dec q + dotq l m
  | _, _ => 0
theorem psum_dot (fs : List Fx) (hf : fmay fs = true) : ∀ (l : List Pt) (m : List RT) (c : Rat), l.length = m.length → (∀ x ∈ l, rmay x.ratio = true) → (∀ q ∈ m, rmay q = true) → (∀ f ∈ ptab l m, f ∈ fs) → pvalU l (enc c) fs 0 = some (enc (c + dotq l m))
  | [], m, c, _, _, _, _ => by show some (enc c) = some (enc (c + dotq [] m)); unfold dotq; congr 2; grind
  | x :: l, [], c, h, _, _, _ => by simp at h
  | x :: l, q :: m, c, h, h1, h2, h3 => by
    have hq := fget_mem hf (h3 ⟨x.asset, 0, q⟩ (by show _ ∈ _ :: _; simp))
    have hp : pstep fs 0 (some (enc c)) x = some (enc (c + dec x.ratio * dec q)) := by
      unfold pstep
      rw [Option.bind_some, hq]
      obtain ⟨r, hr⟩ := rmay_of (h1 x (by simp))
      obtain ⟨p, hp⟩ := rmay_of (h2 q (by simp))
      show some (radd (enc c) (rmul x.ratio q)) = _
      rw [hr, hp, rmul_enc, radd_enc, dec_enc, dec_enc]
    show (x :: l).foldl (pstep fs 0) (some (enc c)) = _
    rw [List.foldl_cons, hp]
    have ih := psum_dot fs hf l m (c + dec x.ratio * dec q) (by simpa using h) (fun y hy => h1 y (by simp [hy])) (fun y hy => h2 y (by simp [hy])) (fun f hf => h3 f (by show _ ∈ _ :: _; simp [hf]))
    unfold pvalU at ih
    rw [ih]
    show _ = some (enc (c + (dec x.ratio * dec q + dotq l m)))
    congr 2; grind
theorem pval_tab {l : List Pt} {m : List RT} {c : Rat} (hk : pkmay l (enc c) = true) (hl : l.length = m.length) (hm : ∀ q ∈ m, rmay q = true) : pval l (enc c) (ptab l m) 0 = some (enc (c + dotq l m)) := by
  obtain ⟨h1, h2, _⟩ := pkmay_of hk
  have hf := ptab_may (fun x hx => (h1 x hx).name) h2 hm
  unfold pval
  rw [hk, hf]
  exact psum_dot _ hf l m c hl (fun x hx => (h1 x hx).may) hm fun f hf => hf
theorem dotq_add : ∀ (l : List Pt) (a b : List RT), a.length = l.length → b.length = l.length → (∀ q ∈ a, rmay q = true) → (∀ q ∈ b, rmay q = true) → dotq l (List.zipWith radd a b) = dotq l a + dotq l b
  | [], a, b, ha, hb, _, _ => by unfold dotq; grind
  | x :: l, [], b, ha, _, _, _ => by simp at ha
  | x :: l, q :: a, [], _, hb, _, _ => by simp at hb
  | x :: l, q :: a, r :: b, ha, hb, h1, h2 => by
    rw [List.zipWith_cons_cons]
    show dec x.ratio * dec (radd q r) + dotq l (List.zipWith radd a b) = (dec x.ratio * dec q + dotq l a) + (dec x.ratio * dec r + dotq l b)
    rw [dotq_add l a b (by simpa using ha) (by simpa using hb) (fun y hy => h1 y (by simp [hy])) (fun y hy => h2 y (by simp [hy]))]
    obtain ⟨p, hp⟩ := rmay_of (h1 q (by simp))
    obtain ⟨s, hs⟩ := rmay_of (h2 r (by simp))
    rw [hp, hs, radd_enc, dec_enc, dec_enc, dec_enc]
    grind
theorem dotq_zero : ∀ (l : List Pt) (n : Nat), dotq l (List.replicate n (enc 0)) = 0
  | [], n => by cases n <;> rfl
  | x :: l, 0 => rfl
  | x :: l, n + 1 => by
    rw [List.replicate_succ]
    show dec x.ratio * dec (enc 0) + dotq l (List.replicate n (enc 0)) = 0
    rw [dotq_zero l n, dec_enc]; grind
end Go.Proofs.YtdkpbifpafaabaaGreatDoor
