/- Actions and packs: plain words and laws. -/
import Derived.Test.YtdkpbifpafaabaaGreatDoorPkM
import Derived.Test.YtdkpbifpafaabaaGreatDoorLawS
namespace Go.Proofs.YtdkpbifpafaabaaGreatDoor
open Go.RowKit
set_option linter.unusedVariables false
set_option linter.unusedSimpArgs false

def aCash : ByteArray := ⟨#[99, 97, 115, 104]⟩
def lower1 (s : ByteArray) : Bool := match s.data.toList with | c :: _ => decide (97 ≤ c.toNat) && decide (c.toNat ≤ 122) | [] => false
/-- An asset that an action may have. -/
def aasset (s : ByteArray) : Bool := isName s && (lower1 s && !(s.toList == [99, 97, 115, 104]))
/-- A number that is named, or not. -/
def anum (x : RT) (named : Bool) (least : Int) : Bool := if named then rmay x && (decide (least ≤ rsign x) && (decide (x.num.size ≤ 20) && decide (x.den.size ≤ 20))) else x.num.toList == [48] && x.den.toList == [49]
def aoth (k : Int) : Bool := decide (3 ≤ k)
def arat (k : Int) : Bool := !(k == 2)
def acas (k : Int) : Bool := k == 2 || k == 4
def aleast (k : Int) : Int := if k = 4 then 0 else 1
def adays (a : Ac) : Bool := decide (0 ≤ a.ex) && (decide (a.ex ≤ a.rcd) && (decide (a.rcd ≤ a.pay) && decide (a.pay ≤ 9999)))
def aother (a : Ac) : Bool := if aoth a.kind then aasset a.other && !(a.other.toList == a.asset.toList) else a.other.toList == []
def amay (a : Ac) : Bool := (decide (0 ≤ a.kind) && decide (a.kind ≤ 4)) && ((isName a.name && aasset a.asset) && (adays a && (aother a && (anum a.ratio (arat a.kind) 1 && anum a.cash (acas a.kind) (aleast a.kind)))))

/-- Packs. -/
def pone (x : Pt) : Bool := isName x.asset && decide (0 < rsign x.ratio)
def pahead (a b : Pt) : Bool := slt a.asset b.asset
def pparts (l : List Pt) : Bool := l.all pone && rises pahead l
def pkmay (l : List Pt) (c : RT) : Bool := pparts l && rmay c
def pofL (a : Ac) : List Pt :=
  if amay a then
    (if a.kind = 0 then [⟨a.asset, a.ratio⟩] else if a.kind = 1 then [⟨a.asset, radd (enc 1) a.ratio⟩] else if a.kind = 2 then [⟨a.asset, enc 1⟩]
      else if a.kind = 3 then (if slt a.asset a.other then [⟨a.asset, enc 1⟩, ⟨a.other, a.ratio⟩] else [⟨a.other, a.ratio⟩, ⟨a.asset, enc 1⟩]) else [⟨a.other, a.ratio⟩])
  else []
def pofC (a : Ac) : RT := if amay a then a.cash else rzero
def pstep (fs : List Fx) (d : Int) (s : Option RT) (x : Pt) : Option RT := s.bind fun s => (fget fs x.asset d).map fun q => radd s (rmul x.ratio q)
def pvalU (l : List Pt) (c : RT) (fs : List Fx) (d : Int) : Option RT := l.foldl (pstep fs d) (some c)
def pval (l : List Pt) (c : RT) (fs : List Fx) (d : Int) : Option RT := if pkmay l c && fmay fs then pvalU l c fs d else none
def phit (s : ByteArray) (x : Pt) : Bool := x.asset.toList == s.toList && (x.ratio.num.toList == [49] && x.ratio.den.toList == [49])
def pkeeps (l : List Pt) (s : ByteArray) : Bool := l.any (phit s)
def ptsm (x : Pt) : Bool := decide (x.ratio.num.size ≤ 20) && (decide (x.ratio.den.size ≤ 20) && decide (x.asset.size ≤ 100))
def pksm (l : List Pt) (c : RT) : Bool := l.all ptsm && (decide (l.length ≤ 4) && (decide (c.num.size ≤ 20) && decide (c.den.size ≤ 20)))
theorem lower1_of {s : ByteArray} (h : 0 < s.size) : lower1 s = (decide (97 ≤ s[0].toNat) && decide (s[0].toNat ≤ 122)) := by
  unfold lower1
  have := s_at s 0 h
  cases hs : s.data.toList with
  | nil => rw [hs] at this; cases this
  | cons c l => rw [hs] at this; injection this with e; dsimp only; rw [e]
theorem lower1_ref {s : ByteArray} (h : isName s = true) (h0 : 0 < s.size) : lower1 s = (!(s[0].toNat == 33) && (decide (s[0].toNat < 48) || !decide (s[0].toNat ≤ 57)) ) := by
  rw [lower1_of h0]
  have hn : nmAll s.data.toList = true := by unfold isName at h; rw [Bool.and_eq_true] at h; exact h.1
  have := (nmAll_iff _).1 hn 0 _ (s_at s 0 h0)
  unfold nmAt nmc at this
  rw [Bool.eq_iff_iff]
  simp only [Bool.or_eq_true, Bool.and_eq_true, decide_eq_true_eq, beq_iff_eq, Bool.not_eq_true', decide_eq_false_iff_not, beq_eq_false_iff_ne] at this ⊢
  omega
theorem rt_one (x : RT) : (x.num.toList == [49] && x.den.toList == [49]) = decide (x = enc 1) := by
  have h : enc 1 = ⟨⟨#[49]⟩, ⟨#[49]⟩⟩ := rfl
  rw [Bool.eq_iff_iff, h]
  simp only [Bool.and_eq_true, beq_iff_eq, decide_eq_true_eq, rt_eq, s_eq]
  rw [tl ⟨#[49]⟩]
theorem rt_nil (x : RT) : (x.num.toList == [48] && x.den.toList == [49]) = decide (x = enc 0) := by
  have h : enc 0 = ⟨⟨#[48]⟩, ⟨#[49]⟩⟩ := rfl
  rw [Bool.eq_iff_iff, h]
  simp only [Bool.and_eq_true, beq_iff_eq, decide_eq_true_eq, rt_eq, s_eq]
  rw [tl ⟨#[49]⟩, tl ⟨#[48]⟩]
theorem pvalU_none (l : List Pt) (fs : List Fx) (d : Int) : l.foldl (pstep fs d) none = none := by
  induction l with
  | nil => rfl
  | cons x l ih => exact ih
end Go.Proofs.YtdkpbifpafaabaaGreatDoor
