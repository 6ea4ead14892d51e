/- Instructions: plain words and laws. -/
import Derived.Test.YtjdkbmlkplbmoaaGreatDoorPoP
import Derived.Test.YtjdkbmlkplbmoaaGreatDoorInS
namespace Go.Proofs.YtjdkbmlkplbmoaaGreatDoor
open Go.RowKit
set_option linter.unusedVariables false
set_option linter.unusedSimpArgs false

def sCash : ByteArray := ⟨#[99, 97, 115, 104]⟩
/-- May an instruction be? -/
def ione (x : In) : Bool := decide (1 ≤ x.id) && (decide (0 ≤ x.dealt) && (decide (x.dealt ≤ x.due) && (isName x.src && (isName x.dst && (isName x.asset && (!(x.src.toList == x.dst.toList) && (decide (0 < rsign x.q) && (rmay x.pay && decide (0 ≤ rsign x.pay)))))))))
def iahead (a b : In) : Bool := decide (a.id < b.id)
def imay (l : List In) : Bool := l.all ione && rises iahead l
/-- Its lines. -/
def ilinesU (x : In) : List Ln := [⟨x.src, x.asset, enc (-(dec x.q))⟩, ⟨x.dst, x.asset, x.q⟩] ++ if 0 < rsign x.pay then [⟨x.dst, sCash, enc (-(dec x.pay))⟩, ⟨x.src, sCash, x.pay⟩] else []
def ilines (x : In) : List Ln := if ione x then ilinesU x else []
/-- A day's run, one by one. -/
def istep (day : Int) (s : List Ln × List In × List Int) (x : In) : List Ln × List In × List Int :=
  if decide (x.due ≤ day) && (papply s.1 (ilines x) true).2 == 0 then ((papply s.1 (ilines x) true).1, s.2.1, s.2.2 ++ [x.id]) else (s.1, s.2.1 ++ [x], s.2.2)
def irun (b : List Ln) (l : List In) (day : Int) : List Ln × List In × List Int := l.foldl (istep day) (b, [], [])
def iRun (b : List Ln) (l : List In) (day : Int) : (List Ln × List In × List Int) × Int := if bmay b && imay l then (irun b l day, 0) else (([], [], []), 1)
def ifind (l : List In) (id : Int) : Int := match l.findIdx? (fun x => x.id == id) with | some k => (k : Int) | none => -1

structure IOne (x : In) : Prop where
  id : 1 ≤ x.id
  dealt : 0 ≤ x.dealt
  due : x.dealt ≤ x.due
  src : isName x.src = true
  dst : isName x.dst = true
  asset : isName x.asset = true
  apart : x.src ≠ x.dst
  q : 0 < rsign x.q
  mayq : rmay x.q = true
  mayp : rmay x.pay = true
  pay : 0 ≤ rsign x.pay
theorem ione_of {x : In} (h : ione x = true) : IOne x := by
  unfold ione at h
  simp only [Bool.and_eq_true, decide_eq_true_eq, Bool.not_eq_true', beq_eq_false_iff_ne] at h
  obtain ⟨h1, h2, h3, h4, h5, h6, h7, h8, h9, h10⟩ := h
  refine ⟨h1, h2, h3, h4, h5, h6, fun e => h7 (by rw [e]), h8, ?_, h9, h10⟩
  unfold rsign at h8
  split at h8
  · assumption
  · omega
theorem ilines_yes {x : In} (h : ione x = true) : ilines x = ilinesU x := if_pos h
theorem ilines_no {x : In} (h : ione x = false) : ilines x = [] := by unfold ilines; rw [h]; rfl
theorem sCash_name : isName sCash = true := by decide +kernel
theorem lone_mk {a0 a1 : ByteArray} {q : RT} (h0 : isName a0 = true) (h1 : isName a1 = true) (h2 : rmay q = true) : lone ⟨a0, a1, q⟩ = true := by
  unfold lone; dsimp only; rw [h0, h1, h2]; rfl
theorem ilines_lone {x : In} : ∀ f ∈ ilines x, lone f = true := by
  intro f hf
  cases h : ione x with
  | false => rw [ilines_no h] at hf; cases hf
  | true =>
    have o := ione_of h
    rw [ilines_yes h] at hf
    unfold ilinesU at hf
    rcases List.mem_append.1 hf with hf | hf
    · simp only [List.mem_cons, List.not_mem_nil, or_false] at hf
      rcases hf with rfl | rfl
      · exact lone_mk o.src o.asset (rmay_enc _)
      · exact lone_mk o.dst o.asset o.mayq
    · split at hf
      · simp only [List.mem_cons, List.not_mem_nil, or_false] at hf
        rcases hf with rfl | rfl
        · exact lone_mk o.dst sCash_name (rmay_enc _)
        · exact lone_mk o.src sCash_name o.mayp
      · cases hf
theorem dtot_two (f g : Ln) (a : ByteArray) : dtot [f, g] a = (if a = f.asset then dec f.q else 0) + if a = g.asset then dec g.q else 0 := by
  rw [show [f, g] = [f] ++ [g] from rfl, dtot_append, dtot_one, dtot_one]
theorem ilines_tot (x : In) (a : ByteArray) : dtot (ilines x) a = 0 := by
  cases h : ione x with
  | false => rw [ilines_no h]; rfl
  | true =>
    rw [ilines_yes h]
    unfold ilinesU
    rw [dtot_append, dtot_two]
    dsimp only
    rw [dec_enc]
    have h2 : dtot (if 0 < rsign x.pay then [(⟨x.dst, sCash, enc (-(dec x.pay))⟩ : Ln), ⟨x.src, sCash, x.pay⟩] else []) a = 0 := by
      split
      · rw [dtot_two]
        dsimp only
        rw [dec_enc]
        split <;> grind
      · rfl
    rw [h2]
    split <;> grind
theorem ilines_bal (x : In) : lbal (ilines x) = true := lbal_mk ilines_lone (ilines_tot x)
theorem ilines_len (x : In) : (ilines x).length ≤ 4 := by
  cases h : ione x with
  | false => rw [ilines_no h]; simp
  | true =>
    rw [ilines_yes h]
    unfold ilinesU
    split <;> simp
/-- Few digits. -/
def inB (k : Nat) (x : In) : Prop := x.src.size ≤ 9000000000 ∧ x.dst.size ≤ 9000000000 ∧ x.asset.size ≤ 9000000000 ∧ x.q.num.size ≤ k ∧ x.q.den.size ≤ k ∧ x.pay.num.size ≤ k ∧ x.pay.den.size ≤ k
theorem ilines_B {k : Nat} {x : In} (h : inB k x) : ∀ f ∈ ilines x, lnB (k + 1) f := by
  intro f hf
  cases ho : ione x with
  | false => rw [ilines_no ho] at hf; cases hf
  | true =>
    have o := ione_of ho
    obtain ⟨z0, z1, z2, z3, z4, z5, z6⟩ := h
    obtain ⟨q, hq, hqd, hqs⟩ := rat_of o.mayq z3 z4
    obtain ⟨p, hp, hpd, hps⟩ := rat_of o.mayp z5 z6
    have e1 := enc_size (rsmall_neg hqs)
    have e2 := enc_size (rsmall_neg hps)
    have e3 : sCash.size ≤ 9000000000 := by decide +kernel
    rw [ilines_yes ho] at hf
    unfold ilinesU at hf
    rw [hqd, hpd] at hf
    rcases List.mem_append.1 hf with hf | hf
    · simp only [List.mem_cons, List.not_mem_nil, or_false] at hf
      rcases hf with rfl | rfl
      · exact ⟨z0, z2, e1.1, e1.2⟩
      · exact ⟨z1, z2, by dsimp only; omega, by dsimp only; omega⟩
    · split at hf
      · simp only [List.mem_cons, List.not_mem_nil, or_false] at hf
        rcases hf with rfl | rfl
        · exact ⟨z1, e3, e2.1, e2.2⟩
        · exact ⟨z0, e3, by dsimp only; omega, by dsimp only; omega⟩
      · cases hf
/-- A step of a run: done, or not. -/
theorem papply_lines {b : List Ln} (x : In) (hb : bmay b = true) : papply b (ilines x) true = (bposts b (ilines x), 0) ∨ papply b (ilines x) true = ([], 71) := by
  unfold papply
  rw [if_pos hb, if_pos (ilines_bal x)]
  split
  · exact .inr rfl
  · exact .inl rfl
theorem istep_due {day : Int} {s : List Ln × List In × List Int} {x : In} (h1 : x.due ≤ day) (h2 : papply s.1 (ilines x) true = (bposts s.1 (ilines x), 0)) : istep day s x = (bposts s.1 (ilines x), s.2.1, s.2.2 ++ [x.id]) := by
  unfold istep
  rw [h2, decide_eq_true h1]; rfl
theorem istep_late {day : Int} {s : List Ln × List In × List Int} {x : In} (h1 : ¬ x.due ≤ day) : istep day s x = (s.1, s.2.1 ++ [x], s.2.2) := by
  unfold istep
  rw [decide_eq_false h1]; rfl
theorem istep_short {day : Int} {s : List Ln × List In × List Int} {x : In} (h2 : papply s.1 (ilines x) true = ([], 71)) : istep day s x = (s.1, s.2.1 ++ [x], s.2.2) := by
  unfold istep
  rw [h2]
  simp
theorem irun_take {b : List Ln} {l : List In} {day : Int} {k : Nat} {x : In} (hx : l[k]? = some x) : irun b (l.take (k + 1)) day = istep day (irun b (l.take k) day) x := by
  unfold irun
  rw [List.take_add_one, hx, List.foldl_append]; rfl
/-- What a run keeps. -/
structure RunOk (b : List Ln) (J n : Nat) (l : List In) (s : List Ln × List In × List Int) : Prop where
  may : bmay s.1 = true
  len : s.1.length + 4 * s.2.1.length ≤ n + 4 * l.length
  cnt : s.2.1.length + s.2.2.length = l.length
  B : ∀ f ∈ s.1, lnB (J + 4 * l.length * 203) f
theorem list_rev_ind {α : Type} {p : List α → Prop} (h0 : p []) (h1 : ∀ l x, p l → p (l ++ [x])) : ∀ l, p l := by
  intro l
  have key : ∀ m : List α, p m.reverse := by
    intro m
    induction m with
    | nil => exact h0
    | cons a m ih => rw [List.reverse_cons]; exact h1 _ _ ih
  have := key l.reverse
  rwa [List.reverse_reverse] at this
theorem run_ok {b : List Ln} {J n : Nat} {day : Int} (hb : bmay b = true) (hn : b.length ≤ n) (hz : ∀ f ∈ b, lnB J f) (hJ : 1 ≤ J) : ∀ {l : List In}, (∀ x ∈ l, inB 200 x) → RunOk b J n l (irun b l day) := by
  intro l
  refine list_rev_ind (p := fun l => (∀ x ∈ l, inB 200 x) → RunOk b J n l (irun b l day)) ?_ ?_ l
  · intro _; exact ⟨hb, by show b.length + 0 ≤ _; simp; exact hn, rfl, fun f hf => lnB_mono (hz f hf) (by omega)⟩
  · intro l x ih hl
    have ih := ih fun y hy => hl y (List.mem_append_left _ hy)
    have hx := hl x (by simp)
    have e : irun b (l ++ [x]) day = istep day (irun b l day) x := by unfold irun; rw [List.foldl_append]; rfl
    rw [e]
    obtain ⟨i1, i2, i3, i4⟩ := ih
    have hstay : RunOk b J n (l ++ [x]) ((irun b l day).1, (irun b l day).2.1 ++ [x], (irun b l day).2.2) :=
      ⟨i1, by simp only [List.length_append, List.length_singleton]; omega, by simp only [List.length_append, List.length_singleton]; omega, fun f hf => lnB_mono (i4 f hf) (by simp only [List.length_append, List.length_singleton]; omega)⟩
    by_cases h1 : x.due ≤ day
    · rcases papply_lines x i1 with h2 | h2
      · rw [istep_due h1 h2]
        have hlen := posts_len (l := ilines x) i1 ilines_lone
        have h4 := ilines_len x
        refine ⟨posts_may i1 ilines_lone, by simp only [List.length_append, List.length_singleton]; omega, by simp only [List.length_append, List.length_singleton]; omega, fun f hf => ?_⟩
        refine lnB_mono (posts_B (k := 201) (l := ilines x) i1 ilines_lone i4 (by omega) (ilines_B hx) f hf) ?_
        have : (ilines x).length * 203 ≤ 4 * 203 := Nat.mul_le_mul_right _ h4
        simp only [List.length_append, List.length_singleton]
        omega
      · rw [istep_short h2]; exact hstay
    · rw [istep_late h1]; exact hstay
end Go.Proofs.YtjdkbmlkplbmoaaGreatDoor
