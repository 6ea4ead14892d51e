/- Plain laws of books: what is added and taken again, two lines in any order, sizes, holders. -/
import Derived.Test.YtpoejheienohjaaGreatDoorRefK
import Derived.Test.YtpoejheienohjaaGreatDoorBkL
namespace Go.Proofs.YtpoejheienohjaaGreatDoor
open Go.RowKit
set_option linter.unusedVariables false
set_option linter.unusedSimpArgs false

theorem badd_yes {xs : List Ln} {l : Ln} (h : bmay xs = true) (hl : lone l = true) : badd xs l = some (bput xs l) := by unfold badd; rw [h, hl]; rfl
theorem bget_yes {xs : List Ln} {s a : ByteArray} (h : bmay xs = true) : bget xs s a = bgetL xs s a := by unfold bget; rw [h]; rfl
def lneg (l : Ln) : Ln := ⟨l.acct, l.asset, enc (-(dec l.q))⟩
theorem lone_neg {l : Ln} (h : lone l = true) : lone (lneg l) = true := by
  obtain ⟨h1, h2, _⟩ := lone_of h
  unfold lone lneg
  simp only [h1, h2, rmay_enc, Bool.and_self]
theorem radd_back {g q : RT} (hg : rmay g = true) (hq : rmay q = true) : radd (radd g q) (enc (-(dec q))) = g := by
  obtain ⟨x, rfl⟩ := rmay_of hg
  obtain ⟨y, rfl⟩ := rmay_of hq
  rw [dec_enc, radd_enc, radd_enc, Rat.add_assoc, Rat.add_neg_cancel, Rat.add_zero]
theorem radd_swap {g x y : RT} (hg : rmay g = true) (hx : rmay x = true) (hy : rmay y = true) : radd (radd g x) y = radd (radd g y) x := by
  obtain ⟨p, rfl⟩ := rmay_of hg
  obtain ⟨q, rfl⟩ := rmay_of hx
  obtain ⟨r, rfl⟩ := rmay_of hy
  rw [radd_enc, radd_enc, radd_enc, radd_enc, Rat.add_assoc, Rat.add_assoc, Rat.add_comm q r]
theorem back_same {xs : List Ln} {l : Ln} (hx : bmay xs = true) (hl : lone l = true) : bput (bput xs l) (lneg l) = xs :=
  bext (bput_may (bput_may hx hl) (lone_neg hl)) hx fun s a => by
    rw [bput_get (bput_may hx hl) (lone_neg hl), bput_get hx hl]
    show (if s = l.acct ∧ a = l.asset then _ else _) = _
    split
    · exact radd_back (bget_may hx _ _) (lone_of hl).2.2
    · rfl
theorem both_same {xs : List Ln} {l m : Ln} (hx : bmay xs = true) (hl : lone l = true) (hm : lone m = true) : bput (bput xs l) m = bput (bput xs m) l :=
  bext (bput_may (bput_may hx hl) hm) (bput_may (bput_may hx hm) hl) fun s a => by
    rw [bput_get (bput_may hx hl) hm, bput_get hx hl, bput_get (bput_may hx hm) hl, bput_get hx hm]
    by_cases h1 : s = l.acct ∧ a = l.asset
    · by_cases h2 : s = m.acct ∧ a = m.asset
      · rw [if_pos h1, if_pos h2, if_pos h1, if_pos h2]
        exact radd_swap (bget_may hx _ _) (lone_of hl).2.2 (lone_of hm).2.2
      · rw [if_pos h1, if_neg h2, if_pos h1, if_neg h2]
    · by_cases h2 : s = m.acct ∧ a = m.asset
      · simp only [if_neg h1, if_pos h2]
      · simp only [if_neg h1, if_neg h2]
theorem put_total {xs : List Ln} {l : Ln} (hx : bmay xs = true) (hl : lone l = true) : btotal (bput xs l) l.asset = enc (dtot xs l.asset + dec l.q) := by
  rw [btotal_enc (bput_may hx hl), bput_tot hx hl, dtot_one, if_pos rfl]
/-! ### Sizes -/
def lnB (k : Nat) (l : Ln) : Prop := l.acct.size ≤ 9000000000 ∧ l.asset.size ≤ 9000000000 ∧ l.q.num.size ≤ k ∧ l.q.den.size ≤ k
theorem lnB_mono {j k : Nat} {l : Ln} (h : lnB j l) (hk : j ≤ k) : lnB k l := ⟨h.1, h.2.1, Nat.le_trans h.2.2.1 hk, Nat.le_trans h.2.2.2 hk⟩
theorem lnB_S {k : Nat} {l : Ln} (h : lnB k l) (hk : k ≤ 1000000) : lnS l := lnB_mono h hk
theorem lnB_q {k : Nat} {l : Ln} (h : lnB k l) (hk : k ≤ 400000000) : lnq l := lnB_mono h hk
theorem lsmall_B {l : List Ln} (h : lsmall l = true) : (∀ f ∈ l, lnB 100 f) ∧ l.length ≤ 40 := by
  unfold lsmall at h
  rw [Bool.and_eq_true, List.all_eq_true, decide_eq_true_eq] at h
  refine ⟨fun f hf => ?_, h.2⟩
  have := h.1 f hf
  unfold lnsm at this
  simp only [Bool.and_eq_true, decide_eq_true_eq] at this
  exact ⟨by omega, by omega, by omega, by omega⟩
theorem rat_of {x : RT} {k : Nat} (h : rmay x = true) (h1 : x.num.size ≤ k) (h2 : x.den.size ≤ k) : ∃ p : Rat, x = enc p ∧ dec x = p ∧ rsmall k p := by
  obtain ⟨p, rfl⟩ := rmay_of h
  exact ⟨p, rfl, dec_enc p, rsmall_of h1 h2⟩
theorem enc_size {k : Nat} {p : Rat} (h : rsmall k p) : (enc p).num.size ≤ k + 1 ∧ (enc p).den.size ≤ k + 1 :=
  ⟨iS_sz h.1, by show (nS p.den).size ≤ _; rw [nS_size]; exact Nat.le_succ_of_le h.2⟩
theorem get_rat {k : Nat} {xs : List Ln} (hz : ∀ f ∈ xs, lnB k f) (hk : 1 ≤ k) (hm : bmay xs = true) (s a : ByteArray) : ∃ p : Rat, bgetL xs s a = enc p ∧ rsmall k p := by
  obtain ⟨p, hp⟩ := rmay_of (bget_may hm s a)
  refine ⟨p, hp, ?_⟩
  cases hf : xs.find? (lhit s a) with
  | none =>
    rw [bget_none hf] at hp
    rw [← enc_inj hp]
    exact rsmall_zero _ hk
  | some x =>
    obtain ⟨_, _, h1, h2⟩ := hz x (List.mem_of_find?_eq_some hf)
    rw [bget_some hf] at hp
    rw [hp] at h1 h2
    exact rsmall_of h1 h2
theorem put_B {j k : Nat} {xs : List Ln} {l : Ln} (hx : bmay xs = true) (hl : lone l = true) (hz : ∀ f ∈ xs, lnB j f) (hj : 1 ≤ j) (hf : lnB k l) : ∀ f ∈ bput xs l, lnB (j + k + 2) f := by
  obtain ⟨x, m, z, hb, _, _, _, hp⟩ := bput_cut hx hl
  intro f hm
  rw [hp, List.mem_append, List.mem_append] at hm
  have hxs : ∀ g ∈ xs, lnB (j + k + 2) g := fun g hg => lnB_mono (hz g hg) (by omega)
  rcases hm with hm | hm | hm
  · exact hxs f (by rw [hb]; simp [hm])
  · obtain ⟨p, h1, h2⟩ := get_rat hz hj hx l.acct l.asset
    obtain ⟨q, h3, _, h4⟩ := rat_of (lone_of hl).2.2 hf.2.2.1 hf.2.2.2
    rw [h1, h3, radd_enc] at hm
    split at hm
    · cases hm
    · rw [List.mem_singleton.1 hm]
      have := enc_size (rsmall_add h2 h4)
      exact ⟨hf.1, hf.2.1, this.1, this.2⟩
  · exact hxs f (by rw [hb]; simp [hm])
theorem put_len {xs : List Ln} {l : Ln} (hx : bmay xs = true) (hl : lone l = true) : (bput xs l).length ≤ xs.length + 1 := by
  obtain ⟨x, m, z, hb, _, _, _, hp⟩ := bput_cut hx hl
  rw [hp, hb]
  simp only [List.length_append]
  split
  · simp; omega
  · simp only [List.length_singleton]; omega
/-! ### Holders -/
theorem hold_get {xs : List Ln} {a : ByteArray} {x : Ln} (hm : bmay xs = true) (h : x ∈ bholders xs a) : bgetL xs x.acct a = x.q ∧ x.asset = a := by
  rw [bholders_yes hm] at h
  obtain ⟨h1, h2⟩ := List.mem_filter.1 h
  have h3 := ofAsset_iff.1 h2
  rw [← h3]
  exact ⟨bget_mem hm h1, rfl⟩
theorem hold_rise {xs : List Ln} {a : ByteArray} {x y : Ln} {i : Nat} (hm : bmay xs = true) (hx : (bholders xs a)[i]? = some x) (hy : (bholders xs a)[i + 1]? = some y) : slt x.acct y.acct = true := by
  have h1 := (hold_get hm (List.mem_of_getElem? hx)).2
  have h2 := (hold_get hm (List.mem_of_getElem? hy)).2
  have hp := (rises_pw.1 (bmay_rises hm)).filter (ofAsset a)
  rw [← bholders_yes hm] at hp
  obtain ⟨hi, rfl⟩ := List.getElem?_eq_some_iff.1 hx
  obtain ⟨hj, rfl⟩ := List.getElem?_eq_some_iff.1 hy
  have := List.pairwise_iff_getElem.1 hp i (i + 1) hi hj (by omega)
  rw [lahead_iff, h1, h2] at this
  rw [slt_iff]
  rcases this with h | ⟨_, h⟩
  · exact h
  · exact absurd h (List.lt_irrefl _)
/-- So many ones more for an account. -/
def ones (xs : List Ln) (l : Ln) : Nat → List Ln
  | 0 => xs
  | n + 1 => bput (ones xs l n) l
theorem ones_may {xs : List Ln} {l : Ln} (hx : bmay xs = true) (hl : lone l = true) : ∀ n, bmay (ones xs l n) = true
  | 0 => hx
  | n + 1 => bput_may (ones_may hx hl n) hl
theorem ones_len {xs : List Ln} {l : Ln} (hx : bmay xs = true) (hl : lone l = true) : ∀ n, (ones xs l n).length ≤ xs.length + n
  | 0 => Nat.le_refl _
  | n + 1 => by
    have h1 := put_len (ones_may hx hl n) hl
    have h2 := ones_len hx hl n
    show (bput (ones xs l n) l).length ≤ _
    omega
theorem ones_B {xs : List Ln} {l : Ln} {j k : Nat} (hx : bmay xs = true) (hl : lone l = true) (hz : ∀ f ∈ xs, lnB j f) (hj : 1 ≤ j) (hf : lnB k l) : ∀ n, ∀ f ∈ ones xs l n, lnB (j + n * (k + 2)) f
  | 0 => fun f h => lnB_mono (hz f h) (by omega)
  | n + 1 => fun f h => by
    have := put_B (ones_may hx hl n) hl (ones_B hx hl hz hj hf n) (by omega) hf f h
    exact lnB_mono this (by rw [Nat.add_mul]; omega)
theorem ones_get {xs : List Ln} {l : Ln} {p q : Rat} (hx : bmay xs = true) (hl : lone l = true) (hp : bgetL xs l.acct l.asset = enc p) (hq : l.q = enc q) : ∀ n, bgetL (ones xs l n) l.acct l.asset = enc (p + (n : Rat) * q)
  | 0 => by show bgetL xs l.acct l.asset = _; rw [hp]; congr 1; simp [Rat.zero_mul, Rat.add_zero]
  | n + 1 => by
    show bgetL (bput (ones xs l n) l) l.acct l.asset = _
    rw [bput_get (ones_may hx hl n) hl, if_pos ⟨rfl, rfl⟩, ones_get hx hl hp hq n, hq, radd_enc]
    congr 1
    rw [show ((n + 1 : Nat) : Rat) = (n : Rat) + 1 by simp, Rat.add_mul, Rat.one_mul, Rat.add_assoc]
end Go.Proofs.YtpoejheienohjaaGreatDoor

/- What the laws of books take: one line, Add and Holders in their words. -/
namespace Go.Proofs.YtpoejheienohjaaGreatDoor
open Go.RowKit
set_option linter.unusedVariables false
set_option linter.unusedSimpArgs false

theorem ln1_at {a b : Ln} {i : Nat} (h : [a][i]? = some b) : i = 0 ∧ a = b := by
  cases i with
  | zero => exact ⟨rfl, by simpa using h⟩
  | succ i => simp at h
theorem ln_one (w : World) (f : Ln) : Rd Ln.cs 4 (w.alloc (.cells (Ln.cs f).toArray 43)) (some ⟨w.heap.size, 0, none⟩) 1 [f] :=
  ⟨rfl, by omega, fun _ => ⟨_, rfl, by simp, fun j x hj i u hu => by
    obtain ⟨rfl, rfl⟩ := ln1_at hj
    rw [Nat.zero_mul, Nat.zero_add, add_lit4]
    exact (Blk.cell (Blk.new w _ _) _).trans (by simpa using hu)⟩⟩
/-- What Add gives, in the law's words. -/
def AddIs (ys : List Ln) (m : Nat) (b : Bool) (w : World) (e : Ending) (w' : World) : Prop := ∃ B k, e = .returned (.tuple #[.slice B m k, .bool b]) ∧ Rd Ln.cs 4 w' B m ys ∧ Below w.heap.size w w'
theorem AddPost.is_ {xs : List Ln} {f : Ln} {w w' : World} {e : Ending} {ys : List Ln} {m : Nat} {b : Bool} (h : AddPost xs f w e w') (hy : (badd xs f).getD [] = ys) (hm : ys.length = m) (hb : (badd xs f).isSome = b) : AddIs ys m b w e w' := by
  obtain ⟨v, he, ho, hB⟩ := h
  rw [hy] at ho
  rw [hb] at he
  obtain ⟨B, k, hv, hr⟩ := ho.rd Ln.cs_length
  subst hm
  subst hv
  exact ⟨B, k, he, hr, hB⟩
def HoldIs (ys : List Ln) (m : Nat) (w : World) (e : Ending) (w' : World) : Prop := ∃ B k, e = .returned (.slice B m k) ∧ Rd Ln.cs 4 w' B m ys ∧ Below w.heap.size w w'
theorem HoldPost.is_ {xs : List Ln} {a : ByteArray} {w w' : World} {e : Ending} {ys : List Ln} {m : Nat} (h : HoldPost xs a w e w') (hy : bholders xs a = ys) (hm : ys.length = m) : HoldIs ys m w e w' := by
  obtain ⟨v, he, ho, hB⟩ := h
  rw [hy] at ho
  obtain ⟨B, k, hv, hr⟩ := ho.rd Ln.cs_length
  subst hm
  subst hv
  exact ⟨B, k, he, hr, hB⟩
theorem lsmall_S {l : List Ln} (h : lsmall l = true) : (∀ f ∈ l, lnS f) ∧ l.length ≤ 40 := by
  unfold lsmall at h
  rw [Bool.and_eq_true, List.all_eq_true, decide_eq_true_eq] at h
  refine ⟨fun f hf => ?_, h.2⟩
  have := h.1 f hf
  unfold lnsm at this
  simp only [Bool.and_eq_true, decide_eq_true_eq] at this
  exact ⟨by omega, by omega, by omega, by omega⟩
end Go.Proofs.YtpoejheienohjaaGreatDoor
