/- ClaimSum: the walk (given the fixed calls). -/
import Derived.Test.YtjdkbmlkplbmoaaGreatDoorClG
namespace Go.Proofs.YtjdkbmlkplbmoaaGreatDoor
open Go.RowKit
set_option linter.unusedVariables false
set_option linter.unusedSimpArgs false

def anames (xs : List Ln) (ls : List In) : List ByteArray := xs.map Ln.acct ++ ls.flatMap fun x => [x.src, x.dst]
theorem pair_at : ∀ (ls : List In) (j : Nat) (x : In), ls[j]? = some x → (ls.flatMap fun x => [x.src, x.dst])[2 * j]? = some x.src ∧ (ls.flatMap fun x => [x.src, x.dst])[2 * j + 1]? = some x.dst
  | [], j, x, h => by simp at h
  | y :: l, 0, x, h => by
    have : y = x := by simpa using h
    subst this
    rw [List.flatMap_cons]
    exact ⟨rfl, rfl⟩
  | y :: l, j + 1, x, h => by
    have ih := pair_at l j x (by simpa using h)
    rw [List.flatMap_cons]
    refine ⟨?_, ?_⟩
    · rw [List.getElem?_append_right (by simp; omega), show 2 * (j + 1) - [y.src, y.dst].length = 2 * j by simp; omega]
      exact ih.1
    · rw [List.getElem?_append_right (by simp; omega), show 2 * (j + 1) + 1 - [y.src, y.dst].length = 2 * j + 1 by simp; omega]
      exact ih.2
theorem pair_len : ∀ ls : List In, (ls.flatMap fun x => [x.src, x.dst]).length = 2 * ls.length
  | [] => rfl
  | y :: l => by
    rw [List.flatMap_cons, List.length_append, pair_len l, List.length_cons]
    simp
    omega
theorem anames_lo {xs : List Ln} {ls : List In} {k : Nat} {x : Ln} (h : xs[k]? = some x) : (anames xs ls)[k]? = some x.acct := by
  unfold anames
  have hl := (List.getElem?_eq_some_iff.1 h).1
  rw [List.getElem?_append_left (by rw [List.length_map]; exact hl), List.getElem?_map, h]; rfl
theorem anames_hi {xs : List Ln} {ls : List In} {j : Nat} {x : In} (h : ls[j]? = some x) : (anames xs ls)[xs.length + 2 * j]? = some x.src ∧ (anames xs ls)[xs.length + 2 * j + 1]? = some x.dst := by
  unfold anames
  have := pair_at ls j x h
  refine ⟨?_, ?_⟩
  · rw [List.getElem?_append_right (by rw [List.length_map]; omega), List.length_map, show xs.length + 2 * j - xs.length = 2 * j by omega]; exact this.1
  · rw [List.getElem?_append_right (by rw [List.length_map]; omega), List.length_map, show xs.length + 2 * j + 1 - xs.length = 2 * j + 1 by omega]; exact this.2
theorem anames_len (xs : List Ln) (ls : List In) : (anames xs ls).length = xs.length + 2 * ls.length := by unfold anames; rw [List.length_append, List.length_map, pair_len]
/-- The free ones, none twice. -/
def fstep (F : List ByteArray) (a : ByteArray) : List ByteArray := if pfree a && !(memB F a) then F ++ [a] else F
def frees (l : List ByteArray) : List ByteArray := l.foldl fstep []
theorem frees_take {l : List ByteArray} {k : Nat} {a : ByteArray} (h : l[k]? = some a) : frees (l.take (k + 1)) = fstep (frees (l.take k)) a := by
  unfold frees
  rw [List.take_add_one, h, List.foldl_append]; rfl
theorem frees_snoc (l : List ByteArray) (a : ByteArray) : frees (l ++ [a]) = fstep (frees l) a := by unfold frees; rw [List.foldl_append]; rfl
theorem frees_ok (l : List ByteArray) : (frees l).Nodup ∧ (∀ a ∈ frees l, pfree a = true) ∧ (∀ a ∈ l, pfree a = true → a ∈ frees l) ∧ (frees l).length ≤ l.length := by
  refine list_rev_ind (p := fun l => (frees l).Nodup ∧ (∀ a ∈ frees l, pfree a = true) ∧ (∀ a ∈ l, pfree a = true → a ∈ frees l) ∧ (frees l).length ≤ l.length) ⟨List.nodup_nil, (fun (a : ByteArray) (h : a ∈ ([] : List ByteArray)) => absurd h (List.not_mem_nil)), (fun (a : ByteArray) (h : a ∈ ([] : List ByteArray)) _ => absurd h (List.not_mem_nil)), Nat.le_refl _⟩ ?_ l
  rintro l x ⟨h1, h2, h3, h4⟩
  rw [frees_snoc]
  unfold fstep
  split
  · rename_i hc
    rw [Bool.and_eq_true, Bool.not_eq_true'] at hc
    refine ⟨List.nodup_append.2 ⟨h1, by simp, fun a ha b hb e => ?_⟩, fun a ha => ?_, fun a ha hp => ?_, by simp; omega⟩
    · rw [List.mem_singleton.1 hb] at e
      rw [e] at ha
      exact memB_no.1 hc.2 ha
    · rcases List.mem_append.1 ha with h | h
      · exact h2 a h
      · rw [List.mem_singleton.1 h]; exact hc.1
    · rcases List.mem_append.1 ha with h | h
      · exact List.mem_append_left _ (h3 a h hp)
      · exact List.mem_append_right _ h
  · rename_i hc
    refine ⟨h1, h2, fun a ha hp => ?_, by simp; omega⟩
    rcases List.mem_append.1 ha with h | h
    · exact h3 a h hp
    · rw [List.mem_singleton.1 h] at hp ⊢
      rw [hp, Bool.true_and, Bool.not_eq_true', Bool.not_eq_false] at hc
      exact memB_iff.1 hc
theorem fstep_keep {F : List ByteArray} {a : ByteArray} (h : pfree a = false ∨ memB F a = true) : fstep F a = F := by
  unfold fstep
  rcases h with h | h <;> rw [h] <;> simp
theorem fstep_new {F : List ByteArray} {a : ByteArray} (h1 : pfree a = true) (h2 : memB F a = false) : fstep F a = F ++ [a] := by
  unfold fstep
  rw [h1, h2]; rfl
theorem memB_take {F : List ByteArray} {j : Nat} {a b : ByteArray} (h : F[j]? = some b) : memB (F.take (j + 1)) a = (memB (F.take j) a || (b.toList == a.toList)) := by
  unfold memB
  rw [List.take_add_one, h, List.any_append]
  simp
theorem caccts_names {xs : List Ln} {ls : List In} {s : ByteArray} {ex : Int} : ∀ a ∈ caccts xs ls s ex, a ∈ anames xs ls := by
  intro a h
  unfold caccts at h
  unfold anames
  rcases List.mem_append.1 h with h | h
  · obtain ⟨x, hx, e⟩ := List.mem_map.1 h
    refine List.mem_append_left _ (List.mem_map.2 ⟨x, ?_, e⟩)
    unfold bholders at hx
    split at hx
    · exact (List.mem_filter.1 hx).1
    · cases hx
  · obtain ⟨x, hx, hm⟩ := List.mem_flatMap.1 h
    refine List.mem_append_right _ (List.mem_flatMap.2 ⟨x, hx, ?_⟩)
    split at hm
    · exact hm
    · cases hm
def cval (xs : List Ln) (ls : List In) (s : ByteArray) (ex : Int) (a : ByteArray) : Rat := dec (bgetL xs a s) + dpend ls a s ex
/-- All together. -/
theorem csum_all {xs : List Ln} {ls : List In} {s : ByteArray} {ex : Int} (hb : bmay xs = true) (hl : imay ls = true) : dsum (ceff xs ls s ex) + asum (cval xs ls s ex) (frees (anames xs ls)) = dtot xs s := by
  obtain ⟨h1, h2, h3, _⟩ := frees_ok (anames xs ls)
  exact ceff_sum hb hl h1 h2 fun a ha hp => h3 a (caccts_names a ha) hp
theorem asum_snoc (f : ByteArray → Rat) (F : List ByteArray) (a : ByteArray) : asum f (F ++ [a]) = asum f F + f a := by
  rw [asum_append, asum_cons, asum_nil, Rat.add_zero]
/-- What a line of those that count is. -/
structure CeOk (xs : List Ln) (ls : List In) (s : ByteArray) (ex : Int) (f : Ln) : Prop where
  asset : f.asset = s
  q : f.q = enc (cval xs ls s ex f.acct)
  ne : cval xs ls s ex f.acct ≠ 0
  free : pfree f.acct = false
  name : isName f.acct = true
theorem ceff_ok {xs : List Ln} {ls : List In} {s : ByteArray} {ex : Int} (hb : bmay xs = true) (hl : imay ls = true) : ∀ f ∈ ceff xs ls s ex, CeOk xs ls s ex f := by
  intro f hf
  rw [ceff_yes hb hl] at hf
  obtain ⟨h1, h2⟩ := List.mem_filter.1 hf
  obtain ⟨g1, g2, g3⟩ := (call_mem hb hl).1 h1
  unfold cfree at h2
  rw [Bool.not_eq_true'] at h2
  exact ⟨g1, g2, g3, h2, (lgood_of (bmay_all (call_may s ex hb hl) f h1)).1⟩
theorem ceff_rises {xs : List Ln} {ls : List In} {s : ByteArray} {ex : Int} (hb : bmay xs = true) (hl : imay ls = true) : rises lahead (ceff xs ls s ex) = true := by
  rw [ceff_yes hb hl]; exact rises_filt (bmay_rises (call_may s ex hb hl))
theorem ceff_ahead {xs : List Ln} {ls : List In} {s : ByteArray} {ex : Int} (hb : bmay xs = true) (hl : imay ls = true) {k : Nat} {f g : Ln} (hk : 0 < k) (hf : (ceff xs ls s ex)[k - 1]? = some f) (hg : (ceff xs ls s ex)[k]? = some g) : slt f.acct g.acct = true := by
  have h := lrises_lt (ceff_rises hb hl) (show k - 1 < k by omega) hf hg
  have e1 := (ceff_ok hb hl f (List.mem_of_getElem? hf)).asset
  have e2 := (ceff_ok hb hl g (List.mem_of_getElem? hg)).asset
  rw [lahead_iff, e1, e2] at h
  rcases h with h | h
  · rw [slt_iff]; exact h
  · exact absurd h.2 (List.lt_irrefl _)
/-- The sum, so far: of those that count. -/
def sumC (us : List Ln) (k : Nat) (z : Rat) : Prop := z = dsum (us.take k) ∧ rsmall (1 + k * 310000) z
theorem sumC_zero (us : List Ln) : sumC us 0 0 := ⟨rfl, rsmall_zero _ (by omega)⟩
theorem sumC_step {us : List Ln} {k : Nat} {z y : Rat} {x : Ln} (h : sumC us k z) (hx : us[k]? = some x) (hy : dec x.q = y) (hys : rsmall 300000 y) : sumC us (k + 1) (z + y) := by
  refine ⟨?_, rsmall_mono (rsmall_add h.2 hys) (by omega)⟩
  rw [List.take_add_one, hx, dsum_append, ← h.1]
  show _ = _ + (dec x.q + 0)
  rw [Rat.add_zero, hy]
/-- .. and of the free ones. -/
def sumF (z0 : Rat) (f : ByteArray → Rat) (l : List ByteArray) (k : Nat) (z : Rat) : Prop := z = z0 + asum f (frees (l.take k)) ∧ rsmall (100000000 + k * 310000) z
theorem sumF_zero {z0 : Rat} (f : ByteArray → Rat) (l : List ByteArray) (h : rsmall 100000000 z0) : sumF z0 f l 0 z0 := ⟨by rw [List.take_zero]; show z0 = z0 + 0; rw [Rat.add_zero], rsmall_mono h (by omega)⟩
theorem sumF_keep {z0 z : Rat} {f : ByteArray → Rat} {l : List ByteArray} {k : Nat} {a : ByteArray} (h : sumF z0 f l k z) (ha : l[k]? = some a) (hk : fstep (frees (l.take k)) a = frees (l.take k)) : sumF z0 f l (k + 1) z :=
  ⟨by rw [frees_take ha, hk]; exact h.1, rsmall_mono h.2 (by omega)⟩
theorem sumF_new {z0 z y : Rat} {f : ByteArray → Rat} {l : List ByteArray} {k : Nat} {a : ByteArray} (h : sumF z0 f l k z) (ha : l[k]? = some a) (hk : fstep (frees (l.take k)) a = frees (l.take k) ++ [a]) (hy : f a = y) (hys : rsmall 300000 y) : sumF z0 f l (k + 1) (z + y) :=
  ⟨by rw [frees_take ha, hk, asum_snoc, hy, h.1, Rat.add_assoc], rsmall_mono (rsmall_add h.2 hys) (by omega)⟩
theorem cval_rs {xs : List Ln} {ls : List In} (s : ByteArray) (ex : Int) (hb : bmay xs = true) (hz : ∀ f ∈ xs, lnB 1000 f) (hl : imay ls = true) (hlz : ∀ x ∈ ls, inB 1000 x) (hln : ls.length ≤ 40) (a : ByteArray) : ∃ p : Rat, bgetL xs a s = enc p ∧ rsmall 1000 p ∧ cval xs ls s ex a = p + dpend ls a s ex ∧ rsmall 90000 (dpend ls a s ex) ∧ rsmall 300000 (cval xs ls s ex a) := by
  obtain ⟨p, hp, hps⟩ := get_rat hz (by omega) hb a s
  have hsm : ∀ x ∈ ls, rsmall 1000 (dec x.q) := fun x hx => by
    obtain ⟨q, hq, hqd, hqs⟩ := rat_of (ione_of (imay_all hl x hx)).mayq (hlz x hx).2.2.2.1 (hlz x hx).2.2.2.2.1
    rw [hqd]; exact hqs
  have h2 : rsmall 90000 (dpend ls a s ex) := rsmall_mono (dpend_rs hsm) (by omega)
  have e : cval xs ls s ex a = p + dpend ls a s ex := by unfold cval; rw [hp, dec_enc]
  exact ⟨p, hp, hps, e, h2, by rw [e]; exact rsmall_mono (rsmall_add hps h2) (by omega)⟩
theorem sign_two {y : Rat} (h : y ≠ 0) : y.num.sign = 1 ∨ y.num.sign = -1 := by
  rcases Int.lt_trichotomy y.num 0 with h1 | h1 | h1
  · exact .inr (Int.sign_eq_neg_one_of_neg h1)
  · exact absurd (Rat.num_eq_zero.1 h1) h
  · exact .inl (Int.sign_eq_one_of_pos h1)
theorem slt_flip {a b : ByteArray} (h : slt a b = true) : Op.bytesLess b.toList a.toList = false ∧ (b.toList == a.toList) = false := by
  rw [slt_iff] at h
  constructor
  · have : ¬ slt b a = true := fun k => List.lt_irrefl _ (List.lt_trans h (slt_iff b a |>.1 k))
    simpa [slt] using this
  · rw [beq_eq_false_iff_ne]
    intro e
    rw [s_eq.2 e] at h
    exact List.lt_irrefl _ h
set_option maxRecDepth 100000 in
set_option maxHeartbeats 4000000 in
theorem l_csum (HF : Fixed20Ok) {A A2 : Option Addr} {n c n2 c2 : Nat} {xs : List Ln} {ls : List In} (a s : ByteArray) (ex : Int) (w : World) (hg : Glob w) (hx : Rd Ln.cs 4 w A n xs) (hy : Rd In.cs 10 w A2 n2 ls) (hz : ∀ f ∈ xs, lnok f) (hzl : ∀ f ∈ ls, inok f) :
    Calls Tryz.prog 10 #[.slice A n c, .slice A2 n2 c2, .agg #[.string a, .string s, .int .i64 ex]] w fun e w' => e = .returned (.bool true) ∧ Below w.heap.size w w' := by
  have HFX := Lib.hid HF
  clear HF
  have hS := fun W (h : Below w.heap.size w W) => r6_small (c := c) W (hx.below h) hz
  have hS2 := fun W (h : Below w.heap.size w W) => r8_small (c := c2) W (hy.below h) hzl
  have hB0 : Below w.heap.size w (w.alloc (.cells #[.string a, .string s, .int .i64 ex] 55)) := b_alloc (Below.refl _ _) _
  have bx0 : Blk (w.alloc (.cells #[.string a, .string s, .int .i64 ex] 55)) w.heap.size 55 #[.string a, .string s, .int .i64 ex] := Blk.new w _ _
  cases d1 : lsmall xs with
  | false =>
    rw [d1] at hS
    go_enter Tryz.func10, Tryz.ntmps10
    go_wp2_with (first
      | (go_at_call 35; (with_reducible refine (HFX.out w2 (hg.below (by repeat (first | exact Below.refl _ _ | assumption | refine b_then ?_ (by assumption) | refine b_alloc ?_ _ | refine b_drewN ?_ _ | refine Below.drew ?_ | refine b_set ?_ (by first | exact Nat.le_refl _ | (simp; done) | (simp; omega) | omega) _)))).mono ?_); rintro e w3 ⟨rfl, hb3⟩; obtain ⟨hc3, hf3⟩ := bcell hb3; have hs3 := hb3.size; (try simp at hs3))
      | (go_at_call 35; (with_reducible refine (HFX.out _ (hg.below hB0)).mono ?_); rintro e w1 ⟨rfl, hb1⟩; obtain ⟨hc1, hf1⟩ := bcell hb1; have hs1 := hb1.size; (try simp at hs1))
      | (go_at_call 12; (with_reducible refine (hS _ (b_then hB0 hb1)).mono ?_); rintro e w2 ⟨rfl, hb2⟩; obtain ⟨hc2, hf2⟩ := bcell hb2; have hs2 := hb2.size; (try simp at hs2)))
    go_ret
    exact ⟨rfl, (by repeat (first | exact Below.refl _ _ | assumption | refine b_then ?_ (by assumption) | refine b_alloc ?_ _ | refine b_drewN ?_ _ | refine Below.drew ?_ | refine b_set ?_ (by first | exact Nat.le_refl _ | (simp; done) | (simp; omega) | omega) _))⟩
  | true =>
  rw [d1] at hS
  cases d2 : ismall ls with
  | false =>
    rw [d2] at hS2
    go_enter Tryz.func10, Tryz.ntmps10
    go_wp2_with (first
      | (go_at_call 35; (with_reducible refine (HFX.out w3 (hg.below (by repeat (first | exact Below.refl _ _ | assumption | refine b_then ?_ (by assumption) | refine b_alloc ?_ _ | refine b_drewN ?_ _ | refine Below.drew ?_ | refine b_set ?_ (by first | exact Nat.le_refl _ | (simp; done) | (simp; omega) | omega) _)))).mono ?_); rintro e w4 ⟨rfl, hb4⟩; obtain ⟨hc4, hf4⟩ := bcell hb4; have hs4 := hb4.size; (try simp at hs4))
      | (go_at_call 35; (with_reducible refine (HFX.out _ (hg.below hB0)).mono ?_); rintro e w1 ⟨rfl, hb1⟩; obtain ⟨hc1, hf1⟩ := bcell hb1; have hs1 := hb1.size; (try simp at hs1))
      | (go_at_call 12; (with_reducible refine (hS _ (b_then hB0 hb1)).mono ?_); rintro e w2 ⟨rfl, hb2⟩; obtain ⟨hc2, hf2⟩ := bcell hb2; have hs2 := hb2.size; (try simp at hs2))
      | (go_at_call 13; (with_reducible refine (hS2 w2 (b_then (b_then hB0 hb1) hb2)).mono ?_); rintro e w3 ⟨rfl, hb3⟩; obtain ⟨hc3, hf3⟩ := bcell hb3; have hs3 := hb3.size; (try simp at hs3)))
    go_ret
    exact ⟨rfl, (by repeat (first | exact Below.refl _ _ | assumption | refine b_then ?_ (by assumption) | refine b_alloc ?_ _ | refine b_drewN ?_ _ | refine Below.drew ?_ | refine b_set ?_ (by first | exact Nat.le_refl _ | (simp; done) | (simp; omega) | omega) _))⟩
  | true =>
  rw [d2] at hS2
  obtain ⟨hxB, hxn⟩ := lsmall_B d1
  obtain ⟨hyB, hyn⟩ := ismall_B d2
  have hxl := hx.len
  have hyl := hy.len
  have hM := fun W (h : Below w.heap.size w W) => r6_may (c := c) W (hx.below h) (fun f hf => lnB_q (hxB f hf) (by omega))
  have hM2 := fun W (h : Below w.heap.size w W) => r8_may (c := c2) W (hy.below h) (by omega) (fun f hf => inB_mono (hyB f hf) (by omega))
  cases d3 : bmay xs with
  | false =>
    rw [d3] at hM
    clear d1 d2 d3 hxB hyB hxn hyn hxl hyl
    go_enter Tryz.func10, Tryz.ntmps10
    go_wp2_with (first
      | (go_at_call 35; (with_reducible refine (HFX.out w4 (hg.below (by repeat (first | exact Below.refl _ _ | assumption | refine b_then ?_ (by assumption) | refine b_alloc ?_ _ | refine b_drewN ?_ _ | refine Below.drew ?_ | refine b_set ?_ (by first | exact Nat.le_refl _ | (simp; done) | (simp; omega) | omega) _)))).mono ?_); rintro e w5 ⟨rfl, hb5⟩; obtain ⟨hc5, hf5⟩ := bcell hb5; have hs5 := hb5.size; (try simp at hs5))
      | (go_at_call 35; (with_reducible refine (HFX.out _ (hg.below hB0)).mono ?_); rintro e w1 ⟨rfl, hb1⟩; obtain ⟨hc1, hf1⟩ := bcell hb1; have hs1 := hb1.size; (try simp at hs1))
      | (go_at_call 12; (with_reducible refine (hS _ (b_then hB0 hb1)).mono ?_); rintro e w2 ⟨rfl, hb2⟩; obtain ⟨hc2, hf2⟩ := bcell hb2; have hs2 := hb2.size; (try simp at hs2))
      | (go_at_call 13; (with_reducible refine (hS2 w2 (b_then (b_then hB0 hb1) hb2)).mono ?_); rintro e w3 ⟨rfl, hb3⟩; obtain ⟨hc3, hf3⟩ := bcell hb3; have hs3 := hb3.size; (try simp at hs3))
      | (go_at_call 26; (with_reducible refine (hM w3 (b_then (b_then (b_then hB0 hb1) hb2) hb3)).mono ?_); rintro e w4 ⟨rfl, hb4⟩; obtain ⟨hc4, hf4⟩ := bcell hb4; have hs4 := hb4.size; (try simp at hs4)))
    go_ret
    exact ⟨rfl, (by repeat (first | exact Below.refl _ _ | assumption | refine b_then ?_ (by assumption) | refine b_alloc ?_ _ | refine b_drewN ?_ _ | refine Below.drew ?_ | refine b_set ?_ (by first | exact Nat.le_refl _ | (simp; done) | (simp; omega) | omega) _))⟩
  | true =>
  rw [d3] at hM
  cases d4 : imay ls with
  | false =>
    rw [d4] at hM2
    clear d1 d2 d3 d4 hxB hyB hxn hyn hxl hyl
    go_enter Tryz.func10, Tryz.ntmps10
    go_wp2_with (first
      | (go_at_call 35; (with_reducible refine (HFX.out w5 (hg.below (by repeat (first | exact Below.refl _ _ | assumption | refine b_then ?_ (by assumption) | refine b_alloc ?_ _ | refine b_drewN ?_ _ | refine Below.drew ?_ | refine b_set ?_ (by first | exact Nat.le_refl _ | (simp; done) | (simp; omega) | omega) _)))).mono ?_); rintro e w6 ⟨rfl, hb6⟩; obtain ⟨hc6, hf6⟩ := bcell hb6; have hs6 := hb6.size; (try simp at hs6))
      | (go_at_call 35; (with_reducible refine (HFX.out _ (hg.below hB0)).mono ?_); rintro e w1 ⟨rfl, hb1⟩; obtain ⟨hc1, hf1⟩ := bcell hb1; have hs1 := hb1.size; (try simp at hs1))
      | (go_at_call 12; (with_reducible refine (hS _ (b_then hB0 hb1)).mono ?_); rintro e w2 ⟨rfl, hb2⟩; obtain ⟨hc2, hf2⟩ := bcell hb2; have hs2 := hb2.size; (try simp at hs2))
      | (go_at_call 13; (with_reducible refine (hS2 w2 (b_then (b_then hB0 hb1) hb2)).mono ?_); rintro e w3 ⟨rfl, hb3⟩; obtain ⟨hc3, hf3⟩ := bcell hb3; have hs3 := hb3.size; (try simp at hs3))
      | (go_at_call 26; (with_reducible refine (hM w3 (b_then (b_then (b_then hB0 hb1) hb2) hb3)).mono ?_); rintro e w4 ⟨rfl, hb4⟩; obtain ⟨hc4, hf4⟩ := bcell hb4; have hs4 := hb4.size; (try simp at hs4))
      | (go_at_call 21; (with_reducible refine (hM2 w4 (b_then (b_then (b_then (b_then hB0 hb1) hb2) hb3) hb4)).mono ?_); rintro e w5 ⟨rfl, hb5⟩; obtain ⟨hc5, hf5⟩ := bcell hb5; have hs5 := hb5.size; (try simp at hs5)))
    go_ret
    exact ⟨rfl, (by repeat (first | exact Below.refl _ _ | assumption | refine b_then ?_ (by assumption) | refine b_alloc ?_ _ | refine b_drewN ?_ _ | refine Below.drew ?_ | refine b_set ?_ (by first | exact Nat.le_refl _ | (simp; done) | (simp; omega) | omega) _))⟩
  | true =>
  rw [d4] at hM2
  have hx1 : ∀ f ∈ xs, lnB 1000 f := fun f hf => lnB_mono (hxB f hf) (by omega)
  have hy1 : ∀ x ∈ ls, inB 1000 x := fun x hx => inB_mono (hyB x hx) (by omega)
  obtain ⟨us, hus⟩ : ∃ us, ceff xs ls s ex = us := ⟨_, rfl⟩
  obtain ⟨mu, hmu⟩ : ∃ mu, us.length = mu := ⟨_, rfl⟩
  have kE := fun W (h : Below w.heap.size w W) => (p_eff (c := c) (c2 := c2) s ex W (hg.below h) (hx.below h) (by omega) hx1 (hy.below h) (by omega) hy1).mono fun e w' h => by rw [hus] at h; exact h.is_ hmu
  have hcv := cval_rs s ex d3 hx1 d4 hy1 (by omega)
  have hok := ceff_ok (s := s) (ex := ex) d3 d4
  have hah := fun (k : Nat) (f g : Ln) => ceff_ahead (s := s) (ex := ex) (k := k) (f := f) (g := g) d3 d4
  have hall := csum_all (s := s) (ex := ex) d3 d4
  rw [hus] at hok hah hall
  have hel : us.length ≤ 300 := by
    rw [← hus, ceff_yes d3 d4]
    have h1 := List.length_filter_le cfree (call xs ls s ex)
    have h2 := (cb2_len s ex d3 (by omega) hx1 d4 (by omega) hy1 ls.length).1
    rw [cb2_all] at h2
    omega
  have hmu3 : mu ≤ 300 := by omega
  have hT : ∀ W, Below w.heap.size w W → Calls Tryz.prog 30 #[.slice A n c, .string s] W fun e w' => e = .returned (.agg #[.string (iS (dtot xs s).num), .string (nS (dtot xs s).den)]) ∧ Below W.heap.size W w' := fun W hW => by
    have := r6_total (c := c) s W (hx.below hW) (by omega) (fun f hf => lnB_S (hxB f hf) (by omega))
    rw [btotal_enc d3] at this
    exact this
  have hOf := fun W => r3_of 0 W (by omega) (by omega)
  simp only [enc_of, RT.v] at hOf
  have hnl := anames_len xs ls
  rw [hxl, hyl] at hnl
  have hnx : ∀ f ∈ xs, isName f.acct = true := fun f hf => (lgood_of (bmay_all d3 f hf)).1
  have hny : ∀ x ∈ ls, isName x.src = true ∧ isName x.dst = true := fun x hx => ⟨(ione_of (imay_all d4 x hx)).src, (ione_of (imay_all d4 x hx)).dst⟩
  have hGet : ∀ (ac : ByteArray) (p : Rat), bgetL xs ac s = enc p → ∀ W, Below w.heap.size w W → Calls Tryz.prog 29 #[.slice A n c, .string ac, .string s] W fun e w' => e = .returned (.agg #[.string (iS p.num), .string (nS p.den)]) ∧ Below W.heap.size W w' := fun ac p hp W hW => by
    have := r6_get (c := c) ac s W (hx.below hW) (fun f hf => lnB_q (hx1 f hf) (by omega))
    rw [bget_yes d3, hp] at this
    exact this
  have hPen : ∀ (ac : ByteArray) W, Below w.heap.size w W → Calls Tryz.prog 38 #[.slice A2 n2 c2, .string ac, .string s, .int .i64 ex] W fun e w' => e = .returned (.agg #[.string (iS (dpend ls ac s ex).num), .string (nS (dpend ls ac s ex).den)]) ∧ Below W.heap.size W w' := fun ac W hW => by
    have := p_pend (c := c2) ac s ex W (hg.below hW) (hy.below hW) (by omega) hy1
    unfold ipend at this
    rw [if_pos d4] at this
    exact this
  have KGET := Lib.hid hGet
  have KPEN := Lib.hid hPen
  clear hGet hPen
  have KE := Lib.hid kE
  have HCV := Lib.hid hcv
  have HOK := Lib.hid hok
  have HAH := Lib.hid hah
  have HALL := Lib.hid hall
  have HMU := Lib.hid hmu
  have HXL := Lib.hid hxl
  have HYL := Lib.hid hyl
  have HNL := Lib.hid hnl
  have HNX := Lib.hid hnx
  have HNY := Lib.hid hny
  have HXB := Lib.hid hx1
  have HYB := Lib.hid hy1
  have D3 := Lib.hid d3
  have D4 := Lib.hid d4
  have hn40 : n ≤ 40 := by omega
  have hn240 : n2 ≤ 40 := by omega
  have hy2 := hy
  have HWA : Hid (Value.int .i64 (wrap64 (2 * (n2 : Int))) = Value.int .i64 (2 * (n2 : Int))) := by unfold Hid; congr 1; unfold wrap64; omega
  have HWB : Hid (Value.int .i64 (wrap64 ((n : Int) + 2 * (n2 : Int))) = Value.int .i64 ((n : Int) + 2 * (n2 : Int))) := by unfold Hid; congr 1; unfold wrap64; omega
  have heq := eqRat
  clear d1 d2 d3 d4 hxB hyB hxn hyn hxl hyl hx1 hy1 hus hmu kE hcv hok hah hall hel hnl hnx hny
  go_enter Tryz.func10, Tryz.ntmps10
  go_wp2_with (first
    | (go_at_call 32; (with_reducible refine (hOf w6).mono ?_); rintro e w7 ⟨rfl, hb7⟩; obtain ⟨hc7, hf7⟩ := bcell hb7; have hs7 := hb7.size; (try simp at hs7))
    | (go_at_call 36; (with_reducible refine (KE.out w5 hB5).mono ?_); rintro e w6 ⟨B6, k6, rfl, R6, hb6⟩)
    | (go_at_call 35; (with_reducible refine (HFX.out _ (hg.below hB0)).mono ?_); rintro e w1 ⟨rfl, hb1⟩; obtain ⟨hc1, hf1⟩ := bcell hb1; have hs1 := hb1.size; (try simp at hs1))
    | (go_at_call 12; (with_reducible refine (hS _ (b_then hB0 hb1)).mono ?_); rintro e w2 ⟨rfl, hb2⟩; obtain ⟨hc2, hf2⟩ := bcell hb2; have hs2 := hb2.size; (try simp at hs2))
    | (go_at_call 13; (with_reducible refine (hS2 w2 (b_then (b_then hB0 hb1) hb2)).mono ?_); rintro e w3 ⟨rfl, hb3⟩; obtain ⟨hc3, hf3⟩ := bcell hb3; have hs3 := hb3.size; (try simp at hs3))
    | (go_at_call 26; (with_reducible refine (hM w3 (b_then (b_then (b_then hB0 hb1) hb2) hb3)).mono ?_); rintro e w4 ⟨rfl, hb4⟩; obtain ⟨hc4, hf4⟩ := bcell hb4; have hs4 := hb4.size; (try simp at hs4))
    | ((go_at_call 21; (with_reducible refine (hM2 w4 (b_then (b_then (b_then (b_then hB0 hb1) hb2) hb3) hb4)).mono ?_); rintro e w5 ⟨rfl, hb5⟩; obtain ⟨hc5, hf5⟩ := bcell hb5; have hs5 := hb5.size; (try simp at hs5)); have hB5 := b_then (b_then (b_then (b_then (b_then hB0 hb1) hb2) hb3) hb4) hb5; have bx5 := ((((bx0.below hb1).below hb2).below hb3).below hb4).below hb5; obtain ⟨q0, q1, q2⟩ := bx5.three))
  have hB7 := b_then (b_then hB5 hb6) hb7
  have R7 := R6.below hb7
  have bx7 := (bx5.below hb6).below hb7
  obtain ⟨g8, hg8⟩ : ∃ g, w7.heap.size = g := ⟨_, rfl⟩
  have D0 : Blk (w7.alloc (.cells #[.string (iS 0), .string (nS 1)] 35)) w7.heap.size 35 #[.string (iS (0 : Rat).num), .string (nS (0 : Rat).den)] := Blk.new w7 _ _
  rw [hg8] at D0 ⊢
  have H0 : Hid (sumC us 0 0) := sumC_zero us
  clear hb1 hc1 hf1 hs1 hb2 hc2 hf2 hs2 hb3 hc3 hf3 hs3 hb4 hc4 hf4 hs4 hb5 hc5 hf5 hs5 hb6 hb7 hc7 hf7 hs7 hS hS2 hM hM2 bx0 bx5 q0 q1 q2 hOf R6
  go_loopw [9] (fun iv wr => ∃ (k : Nat) (z : Rat), k ≤ mu ∧ iv = .int .i64 (k : Nat) ∧ Hid (sumC us k z) ∧ Blk wr g8 35 #[.string (iS z.num), .string (nS z.den)] ∧ Below w7.heap.size w7 wr) (fun i _ => mu - (intOf i).toNat)
  case atStart => exact ⟨0, 0, Nat.zero_le _, rfl, H0, D0, b_alloc (Below.refl _ _) _⟩
  case round =>
    clear H0 D0
    obtain ⟨k, z, hk, rfl, H, D8, hB⟩ := hrel
    have hgl := D8.lt
    have hg7 : w7.heap.size ≤ g8 := by omega
    by_cases hlt : k < mu
    · obtain ⟨ad, a0, a1, a2, a3, rfl, hxk, hl⟩ := ln_in R7 hB hlt
      have hmem := List.mem_of_getElem? hxk
      obtain ⟨o1, o2, o3, o4, o5⟩ := HOK.out _ hmem
      dsimp only at o1 o2 o3 o4 o5
      obtain ⟨_, _, _, _, _, hvs⟩ := HCV.out a0
      obtain ⟨y, hy⟩ : ∃ y, cval xs ls s ex a0 = y := ⟨_, rfl⟩
      rw [hy] at o2 o3 hvs
      have hyd : dec (⟨a2, a3⟩ : RT) = y := by rw [o2, dec_enc]
      injection o2 with e2 e3
      subst e2; subst e3
      obtain rfl : s = a1 := o1.symm
      have hA := fun W => r3_add z y W (rsmall_mono H.out.2 (by omega)) (rsmall_mono hvs (by omega))
      simp only [enc_v] at hA
      have HS := Lib.hid (sumC_step H.out hxk hyd hvs)
      have hSg := fun W => r3_sign (iS y.num) (nS y.den) W (by have := iS_sz hvs.1; omega) (by rw [nS_size]; have := hvs.2; omega)
      rw [show rsign ⟨iS y.num, nS y.den⟩ = y.num.sign from rsign_enc y] at hSg
      generalize hzz : z + y = zz at *
      have hnm := (isName_size o5).1
      have hfp := pfree_pos hnm
      rw [o4] at hfp
      have hf33 : ¬ a0[0] = 33 := by simpa using hfp.symm
      obtain ⟨bv, hbv⟩ : ∃ v : UInt8, a0[0] = v := ⟨_, rfl⟩
      rw [hbv] at hf33
      have hf34 : ((bv.toNat : Int) == 33) = false := by
        rw [beq_eq_false_iff_ne]
        intro e
        exact hf33 (UInt8.toNat_inj.1 (by show bv.toNat = 33; omega))
      have hf35 : ((bv.toNat : Int) != 33) = true := by rw [bne, hf34]; rfl
      clear hf33
      have he0 : (a0.toList == []) = false := by
        rw [beq_eq_false_iff_ne, tl]
        intro e
        have : a0.size = 0 := by rw [sz, e]; rfl
        omega
      have x2 := fun y : After wr => (hl y.W y.h).c2
      have x4 := fun y : After wr => (hl y.W y.h).c4
      have v0 := fun y : After wr => (D8.below y.h).two.1
      have v1 := fun y : After wr => (D8.below y.h).two.2.1
      obtain ⟨p0, p1, p2, p3⟩ := D8.two
      have HXK := Lib.hid hxk
      have hsg := sign_two o3
      obtain ⟨sg, hsg'⟩ : ∃ sg, y.num.sign = sg := ⟨_, rfl⟩
      rw [hsg'] at hsg hSg
      have hsg0 : (sg == 0) = false := by rw [beq_eq_false_iff_ne]; omega
      clear hl hxk hmem hy hyd hvs hzz hfp o3 o4 hsg' hsg
      go_wp2
      (refine wp_region_ahead 7 (by kernel_rfl) (by kernel_rfl) ?_; simp only [List.take_succ_cons, List.take_zero, List.drop_succ_cons, List.drop_zero]; (repeat (first | go_big_quiet_skip | (go_big_quiet_want; go_big_quiet_op; first | go_big_quiet_on | (apply Exists.intro; refine ⟨fun _ => ?_, ?_⟩; (focus ((go_at_call 33; with_reducible exact Calls.after (hA _)))); go_big_quiet_on)))); refine wpQuiet_nil ?_; rintro ⟨w8, hb8⟩; (try dsimp only); obtain ⟨hc8, hf8⟩ := bcell hb8; have hs8 := hb8.size; (try simp at hs8))
      have hW1 := b_set (b_set (b_then hB hb8) (p := ⟨g8, 0, none⟩) (by simp; omega) (.string (iS zz.num))) (p := ⟨g8, 1, none⟩) (by simp; omega) (.string (nS zz.den))
      have D81 := (D8.below hb8).put2 (.string (iS zz.num)) (.string (nS zz.den))
      clear x2 x4 v0 v1
      have x0 := fun y : After ((w8.setCell ⟨g8, 0, none⟩ (.string (iS zz.num))).setCell ⟨g8, 1, none⟩ (.string (nS zz.den))) => (ln_get R7 (b_then hW1 y.h) hlt HXK.out).c0
      have x1 := fun y : After ((w8.setCell ⟨g8, 0, none⟩ (.string (iS zz.num))).setCell ⟨g8, 1, none⟩ (.string (nS zz.den))) => (ln_get R7 (b_then hW1 y.h) hlt HXK.out).c1
      have x2 := fun y : After ((w8.setCell ⟨g8, 0, none⟩ (.string (iS zz.num))).setCell ⟨g8, 1, none⟩ (.string (nS zz.den))) => (ln_get R7 (b_then hW1 y.h) hlt HXK.out).c2
      have x4 := fun y : After ((w8.setCell ⟨g8, 0, none⟩ (.string (iS zz.num))).setCell ⟨g8, 1, none⟩ (.string (nS zz.den))) => (ln_get R7 (b_then hW1 y.h) hlt HXK.out).c4
      have u1 := fun y : After ((w8.setCell ⟨g8, 0, none⟩ (.string (iS zz.num))).setCell ⟨g8, 1, none⟩ (.string (nS zz.den))) => (bx7.below (b_then hW1 y.h)).three.2.1
      by_cases hk0 : 0 < k
      · obtain ⟨ad2, b0, b1, b2, b3, e2, hxp, _⟩ := ln_in R7 hB (show k - 1 < mu by omega)
        obtain ⟨hl1, hl2⟩ := slt_flip (HAH.out k _ _ hk0 hxp HXK.out)
        dsimp only at hl1 hl2
        have y0 := fun y : After ((w8.setCell ⟨g8, 0, none⟩ (.string (iS zz.num))).setCell ⟨g8, 1, none⟩ (.string (nS zz.den))) => (ln_get R7 (b_then hW1 y.h) (show k - 1 < mu by omega) hxp).c0
        clear hxp e2
        go_wp2
        (refine wp_region_after (by kernel_rfl) (by kernel_rfl) ?_; (repeat (first | go_big_quiet_skip | (go_big_quiet_want; go_big_quiet_op; first | go_big_quiet_on | (apply Exists.intro; refine ⟨fun _ => ?_, ?_⟩; (focus ((go_at_call 28; with_reducible exact Calls.after (hSg _)))); go_big_quiet_on)))); refine wpQuiet_nil ?_; rintro w9 ⟨⟨_, hb9⟩, rfl⟩; (try dsimp only); obtain ⟨hc9, hf9⟩ := bcell hb9; have hs9 := hb9.size; (try simp at hs9))
        go_wp2
        go_roundw
        case rel => exact ⟨k + 1, zz, by omega, by go_num, HS.out, D81.below hb9, b_then hW1 hb9⟩
        case measure => simp [intOf]; omega
      · go_wp2
        (refine wp_region_after (by kernel_rfl) (by kernel_rfl) ?_; (repeat (first | go_big_quiet_skip | (go_big_quiet_want; go_big_quiet_op; first | go_big_quiet_on | (apply Exists.intro; refine ⟨fun _ => ?_, ?_⟩; (focus ((go_at_call 28; with_reducible exact Calls.after (hSg _)))); go_big_quiet_on)))); refine wpQuiet_nil ?_; rintro w9 ⟨⟨_, hb9⟩, rfl⟩; (try dsimp only); obtain ⟨hc9, hf9⟩ := bcell hb9; have hs9 := hb9.size; (try simp at hs9))
        go_wp2
        go_roundw
        case rel => exact ⟨k + 1, zz, by omega, by go_num, HS.out, D81.below hb9, b_then hW1 hb9⟩
        case measure => simp [intOf]; omega
    · obtain rfl : k = mu := by omega
      have hzd : z = dsum us := by have h := H.out.1; rwa [← HMU.out, List.take_length] at h
      have hzs : rsmall 100000000 z := rsmall_mono H.out.2 (by omega)
      have H1 : Hid (sumF z (cval xs ls s ex) (anames xs ls) 0 z) := sumF_zero _ _ hzs
      have HZD := Lib.hid hzd
      obtain ⟨zb, hzb⟩ : ∃ zb, zb = z := ⟨_, rfl⟩
      subst hzb
      have o1 : Own sCs 1 9 (wr.alloc (.cells #[] 9)) (g8 + 1) (.slice (some ⟨wr.heap.size, 0, none⟩) 0 0) (frees ((anames xs ls).take 0)) := by
        rw [List.take_zero]; exact (Own.made0 (Nat.le_refl _)).lower (by omega)
      have D1 := D8.alloc (.cells #[] 9)
      have hB1 := b_alloc hB (.cells #[] 9)
      clear H D8 hB hzd hzs hgl R7
      go_wp2
      go_loopw [10, 11] (fun fv iv wr' => ∃ (k : Nat) (z' : Rat), k ≤ n + 2 * n2 ∧ iv = .int .i64 (k : Nat) ∧ Own sCs 1 9 wr' (g8 + 1) fv (frees ((anames xs ls).take k)) ∧ Hid (sumF zb (cval xs ls s ex) (anames xs ls) k z') ∧ Blk wr' g8 35 #[.string (iS z'.num), .string (nS z'.den)] ∧ Below w7.heap.size w7 wr') (fun _ i _ => n + 2 * n2 - (intOf i).toNat)
      case atStart => exact ⟨0, zb, Nat.zero_le _, rfl, o1, H1, D1, hB1⟩
      case round =>
        clear o1 H1 D1 hB1
        obtain ⟨k, z, hk, rfl, hown, H, D8, hB⟩ := hrel
        have hgl := D8.lt
        obtain ⟨A10, c10, hv10, RF⟩ := hown.rd sCs_length
        subst hv10
        obtain ⟨mF, hmF⟩ : ∃ m, (frees ((anames xs ls).take k)).length = m := ⟨_, rfl⟩
        have hFl : mF ≤ 120 := by
          have h1 := (frees_ok ((anames xs ls).take k)).2.2.2
          have h2 := List.length_take_le' k (anames xs ls)
          have h3 := HNL.out
          omega
        rw [hmF] at RF hown ⊢
        have HMF := Lib.hid hmF
        clear hmF
        by_cases hlt : k < n + 2 * n2
        · have hlt' : (k : Int) < (n : Int) + 2 * (n2 : Int) := by omega
          by_cases hlo : k < n
          · obtain ⟨ad, a0, a1, a2, a3, eA, hxk, hl⟩ := ln_in hx (b_then hB7 hB) hlo
            have hnm := (isName_size (HNX.out _ (List.mem_of_getElem? hxk))).1
            dsimp only at hnm
            have hak := anames_lo (ls := ls) hxk
            dsimp only at hak
            have f0 := (hl wr (Below.refl _ _)).c0
            subst eA
            clear hl hxk
            have hfp := pfree_pos hnm
            cases hpf : pfree a0 with
            | false =>
              have hkeep := fstep_keep (F := frees ((anames xs ls).take k)) (a := a0) (.inl hpf)
              have HN := Lib.hid (sumF_keep H.out hak hkeep)
              have HFR := Lib.hid ((frees_take hak).trans hkeep)
              rw [hpf] at hfp
              have hf33 : ¬ a0[0] = 33 := by simpa using hfp.symm
              obtain ⟨bv, hbv⟩ : ∃ v : UInt8, a0[0] = v := ⟨_, rfl⟩
              rw [hbv] at hf33
              have hf34 : ((bv.toNat : Int) == 33) = false := by
                rw [beq_eq_false_iff_ne]
                intro e
                exact hf33 (UInt8.toNat_inj.1 (by show bv.toNat = 33; omega))
              have hf35 : ((bv.toNat : Int) != 33) = true := by rw [bne, hf34]; rfl
              clear hf33
              clear hak hfp hpf hkeep
              have hwa := HWA.out
              have hwb := HWB.out
              go_wp2
              clear hwa hwb
              go_loopw [13, 14] (fun dv jv wr' => ∃ j : Nat, j ≤ mF ∧ jv = .int .i64 (j : Nat) ∧ dv = .bool true ∧ Below wr.heap.size wr wr') (fun _ i _ => mF - (intOf i).toNat)
              case atStart => exact ⟨0, Nat.zero_le _, rfl, rfl, Below.refl _ _⟩
              case round =>
                obtain ⟨j, hj, rfl, rfl, hBj⟩ := hrel
                by_cases hlt2 : j < mF
                · obtain ⟨ae, b, eF, hbj, hlb⟩ := nm_in RF hBj hlt2
                  have v0 := hlb wr (Below.refl _ _)
                  subst eF
                  clear hbj hlb
                  go_wp2
                  go_roundw
                  case rel => exact ⟨j + 1, by omega, by go_num, rfl, hBj⟩
                  case measure => simp [intOf]; omega
                · obtain rfl : j = mF := by omega
                  go_wp2
                  go_roundw
                  case rel => exact ⟨k + 1, z, by omega, by go_num, by rw [HFR.out]; exact hown.below hBj, HN.out, D8.below hBj, b_then hB hBj⟩
                  case measure => simp [intOf]; omega
            | true =>
              rw [hpf] at hfp
              have hf33 : a0[0] = 33 := by simpa using hfp.symm
              obtain ⟨bv, hbv⟩ : ∃ v : UInt8, a0[0] = v := ⟨_, rfl⟩
              rw [hbv] at hf33
              have hf34 : ((bv.toNat : Int) == 33) = true := by rw [hf33]; rfl
              have hf35 : ((bv.toNat : Int) != 33) = false := by rw [hf33]; rfl
              clear hf33
              have HAK := Lib.hid hak
              have HPF := Lib.hid hpf
              clear hak hfp hpf
              have hwa := HWA.out
              have hwb := HWB.out
              go_wp2
              clear hwa hwb
              go_loopw [13, 14] (fun dv jv wr' => ∃ (j : Nat) (bd : Bool), j ≤ mF ∧ jv = .int .i64 (j : Nat) ∧ dv = .bool bd ∧ Hid (memB ((frees ((anames xs ls).take k)).take j) a0 = bd) ∧ Below wr.heap.size wr wr') (fun _ i _ => mF - (intOf i).toNat)
              case atStart => exact ⟨0, false, Nat.zero_le _, rfl, rfl, by simp [Hid, memB], Below.refl _ _⟩
              case round =>
                obtain ⟨j, bd, hj, rfl, rfl, HB, hBj⟩ := hrel
                by_cases hlt2 : j < mF
                · obtain ⟨ae, b, eF, hbj, hlb⟩ := nm_in RF hBj hlt2
                  have v0 := hlb wr (Below.refl _ _)
                  have HM := memB_take (a := a0) hbj
                  rw [HB.out] at HM
                  subst eF
                  clear hbj hlb
                  cases bd with
                  | true =>
                    have HM := Lib.hid HM
                    go_wp2
                    go_roundw
                    case rel => exact ⟨j + 1, true, by omega, by go_num, rfl, HM.out, hBj⟩
                    case measure => simp [intOf]; omega
                  | false =>
                    cases hbe : (b.toList == a0.toList) with
                    | true =>
                      rw [hbe] at HM
                      have HM := Lib.hid HM
                      go_wp2
                      go_roundw
                      case rel => exact ⟨j + 1, true, by omega, by go_num, rfl, HM.out, hBj⟩
                      case measure => simp [intOf]; omega
                    | false =>
                      rw [hbe] at HM
                      have HM := Lib.hid HM
                      go_wp2
                      go_roundw
                      case rel => exact ⟨j + 1, false, by omega, by go_num, rfl, HM.out, hBj⟩
                      case measure => simp [intOf]; omega
                · obtain rfl : j = mF := by omega
                  have hall : memB (frees ((anames xs ls).take k)) a0 = bd := by have h := HB.out; rwa [← HMF.out, List.take_length] at h
                  have D8j := D8.below hBj
                  have hownj := hown.below hBj
                  have hBw := b_then hB hBj
                  have hszj := hBj.size
                  cases bd with
                  | true =>
                    have hkeep := fstep_keep (F := frees ((anames xs ls).take k)) (a := a0) (.inr hall)
                    have HN := Lib.hid (sumF_keep H.out HAK.out hkeep)
                    have HFR := Lib.hid ((frees_take HAK.out).trans hkeep)
                    clear hkeep hall
                    go_wp2
                    go_roundw
                    case rel => exact ⟨k + 1, z, by omega, by go_num, by rw [HFR.out]; exact hownj, HN.out, D8j, hBw⟩
                    case measure => simp [intOf]; omega
                  | false =>
                    have hnew := fstep_new HPF.out hall
                    obtain ⟨p, hp, hps, hve, hds, hvs⟩ := HCV.out a0
                    obtain ⟨y, hy⟩ : ∃ y, cval xs ls s ex a0 = y := ⟨_, rfl⟩
                    rw [hy] at hve hvs
                    have HN := Lib.hid (sumF_new H.out HAK.out hnew hy hvs)
                    have HFR := Lib.hid ((frees_take HAK.out).trans hnew)
                    obtain ⟨d, hd⟩ : ∃ d, dpend ls a0 s ex = d := ⟨_, rfl⟩
                    rw [hd] at hve hds
                    have hG := fun W hW => KGET.out a0 p hp W hW
                    have hP := fun W hW => KPEN.out a0 W hW
                    rw [hd] at hP
                    have hA1 := fun W => r3_add p d W (rsmall_mono hps (by omega)) (rsmall_mono hds (by omega))
                    rw [← hve] at hA1
                    have hA2 := fun W => r3_add z y W (rsmall_mono H.out.2 (by omega)) (rsmall_mono hvs (by omega))
                    simp only [enc_v] at hA1 hA2
                    generalize hzz : z + y = zz at *
                    clear hnew hall hp hps hve hds hvs hy hd hzz
                    have hown2 := hownj.alloc (.cells #[.string a0] 9)
                    have hBa := b_alloc hBw (.cells #[.string a0] 9)
                    have hr2 : Rd sCs 1 (wr.alloc (.cells #[.string a0] 9)) (some ⟨wr.heap.size, 0, none⟩) 1 [a0] := Rd.of_newAt sCs_length _ 9 [a0] (by simp) rfl rfl rfl
                    have hbg : g8 + 1 ≤ (wr.alloc (.cells #[.string a0] 9)).heap.size := by have := D8j.lt; simp; omega
                    go_wp2_with (at_builtin; refine wpList_apps0 (v := .slice A10 j c10) Tryz.elemStr (by omega) sCs_length sCs_one rfl (.tmp 175) (.tmp 177) rfl rfl hown2 (some ⟨wr.heap.size, 0, none⟩) 1 1 [a0] rfl hr2 (by rw [HMF.out]; omega) (by rw [HMF.out]; omega) hbg ?_; intro v21 w21 hown21 hg21 hat21)
                    have hB21 := hown2.frame hBa (by omega) hg21
                    have D21 := (D8j.alloc (.cells #[.string a0] 9)).grown hg21 (hown2.apart (show g8 < g8 + 1 by omega))
                    have hB21w := b_then hB7 hB21
                    have bx21 := bx7.below hB21
                    have v0 := fun y : After w21 => (D21.below y.h).two.1
                    have v1 := fun y : After w21 => (D21.below y.h).two.2.1
                    have x1 := fun y : After w21 => (bx21.below y.h).three.2.1
                    have x2 := fun y : After w21 => (bx21.below y.h).three.2.2
                    obtain ⟨p0, p1, p2, p3⟩ := D21.two
                    have hgl := D21.lt
                    go_wp2
                    (refine wp_region_ahead 15 (by kernel_rfl) (by kernel_rfl) ?_; simp only [List.take_succ_cons, List.take_zero, List.drop_succ_cons, List.drop_zero]; (repeat (first | go_big_quiet_skip | (go_big_quiet_want; go_big_quiet_op; first | go_big_quiet_on | (apply Exists.intro; refine ⟨fun _ => ?_, ?_⟩; (focus (first | (go_at_call 29; with_reducible exact Calls.after (hG _ (b_then hB21w (After.h _)))) | (go_at_call 38; with_reducible exact Calls.after (hP _ (b_then hB21w (After.h _)))) | (go_at_call 33; with_reducible exact Calls.after (hA1 _)) | (go_at_call 33; with_reducible exact Calls.after (hA2 _)))); go_big_quiet_on)))); refine wpQuiet_nil ?_; rintro ⟨w22, hb22⟩; (try dsimp only); obtain ⟨hc22, hf22⟩ := bcell hb22; have hs22 := hb22.size; (try simp at hs22))
                    go_wp2
                    go_roundw
                    case rel => exact ⟨k + 1, zz, by omega, by go_num, by rw [HFR.out]; exact ((hown21.below hb22).setOld (by simp) _).setOld (by simp) _, HN.out, (D21.below hb22).put2 _ _, b_set (b_set (b_then hB21 hb22) (by simp; omega) _) (by simp; omega) _⟩
                    case measure => simp [intOf]; omega
          · obtain ⟨i2, hi2, hi3⟩ : ∃ i2, i2 < n2 ∧ (k = n + 2 * i2 ∨ k = n + 2 * i2 + 1) := ⟨(k - n) / 2, by omega, by omega⟩
            obtain ⟨ad, a0, a1, a2, a3, a4, a5, a6, a7, a8, a9, eA, hxk, hl⟩ := in_in hy2 (b_then hB7 hB) hi2
            obtain ⟨hnm3, hnm4⟩ := HNY.out _ (List.mem_of_getElem? hxk)
            obtain ⟨hak3, hak4⟩ := anames_hi (xs := xs) hxk
            rw [HXL.out] at hak3 hak4
            dsimp only at hak3 hak4 hnm3 hnm4
            obtain ⟨f0, f1, f2, f3, f4, f5, f6, f7, f8, f9, f10, f11⟩ := hl wr (Below.refl _ _)
            subst eA
            clear hl hxk
            have HWJ : Hid (Value.int .i64 (wrap64 (i2 : Int)) = Value.int .i64 (i2 : Int)) := by unfold Hid; congr 1; unfold wrap64; omega
            rcases hi3 with hi3 | hi3
            · have hnm := (isName_size hnm3).1
              have hak : (anames xs ls)[k]? = some a3 := by rw [hi3]; exact hak3
              have HW1 : Hid (Value.int .i64 (wrap64 ((k : Int) - (n : Int))) = Value.int .i64 (2 * (i2 : Int))) := by unfold Hid; congr 1; unfold wrap64; omega
              have HW2 : Hid (Value.int .i64 (Int.tmod (2 * (i2 : Int)) 2) = Value.int .i64 0) := by unfold Hid; congr 1; rw [Int.tmod_eq_emod_of_nonneg (by omega)]; omega
              have HW3 : Hid (Value.int .i64 (Int.tdiv (2 * (i2 : Int)) 2) = Value.int .i64 (i2 : Int)) := by unfold Hid; congr 1; rw [Int.tdiv_eq_ediv_of_nonneg (by omega)]; omega
              have he2 : (k - n) / 2 = i2 := by omega
              have he3 : (k - n) % 2 = 0 := by omega
              clear hak3 hak4 hnm3 hnm4 hi3
              have hfp := pfree_pos hnm
              cases hpf : pfree a3 with
              | false =>
                have hkeep := fstep_keep (F := frees ((anames xs ls).take k)) (a := a3) (.inl hpf)
                have HN := Lib.hid (sumF_keep H.out hak hkeep)
                have HFR := Lib.hid ((frees_take hak).trans hkeep)
                rw [hpf] at hfp
                have hf33 : ¬ a3[0] = 33 := by simpa using hfp.symm
                obtain ⟨bv, hbv⟩ : ∃ v : UInt8, a3[0] = v := ⟨_, rfl⟩
                rw [hbv] at hf33
                have hf34 : ((bv.toNat : Int) == 33) = false := by
                  rw [beq_eq_false_iff_ne]
                  intro e
                  exact hf33 (UInt8.toNat_inj.1 (by show bv.toNat = 33; omega))
                have hf35 : ((bv.toNat : Int) != 33) = true := by rw [bne, hf34]; rfl
                clear hf33
                clear hak hfp hpf hkeep
                have hwa := HWA.out
                have hwb := HWB.out
                have hw1 := HW1.out
                have hw2 := HW2.out
                have hw3 := HW3.out
                have hwj := HWJ.out
                go_wp2
                clear hwa hwb hw1 hw2 hw3 hwj
                go_loopw [13, 14] (fun dv jv wr' => ∃ j : Nat, j ≤ mF ∧ jv = .int .i64 (j : Nat) ∧ dv = .bool true ∧ Below wr.heap.size wr wr') (fun _ i _ => mF - (intOf i).toNat)
                case atStart => exact ⟨0, Nat.zero_le _, rfl, rfl, Below.refl _ _⟩
                case round =>
                  obtain ⟨j, hj, rfl, rfl, hBj⟩ := hrel
                  by_cases hlt2 : j < mF
                  · obtain ⟨ae, b, eF, hbj, hlb⟩ := nm_in RF hBj hlt2
                    have v0 := hlb wr (Below.refl _ _)
                    subst eF
                    clear hbj hlb
                    go_wp2
                    go_roundw
                    case rel => exact ⟨j + 1, by omega, by go_num, rfl, hBj⟩
                    case measure => simp [intOf]; omega
                  · obtain rfl : j = mF := by omega
                    go_wp2
                    go_roundw
                    case rel => exact ⟨k + 1, z, by omega, by go_num, by rw [HFR.out]; exact hown.below hBj, HN.out, D8.below hBj, b_then hB hBj⟩
                    case measure => simp [intOf]; omega
              | true =>
                rw [hpf] at hfp
                have hf33 : a3[0] = 33 := by simpa using hfp.symm
                obtain ⟨bv, hbv⟩ : ∃ v : UInt8, a3[0] = v := ⟨_, rfl⟩
                rw [hbv] at hf33
                have hf34 : ((bv.toNat : Int) == 33) = true := by rw [hf33]; rfl
                have hf35 : ((bv.toNat : Int) != 33) = false := by rw [hf33]; rfl
                clear hf33
                have HAK := Lib.hid hak
                have HPF := Lib.hid hpf
                clear hak hfp hpf
                have hwa := HWA.out
                have hwb := HWB.out
                have hw1 := HW1.out
                have hw2 := HW2.out
                have hw3 := HW3.out
                have hwj := HWJ.out
                go_wp2
                clear hwa hwb hw1 hw2 hw3 hwj
                go_loopw [13, 14] (fun dv jv wr' => ∃ (j : Nat) (bd : Bool), j ≤ mF ∧ jv = .int .i64 (j : Nat) ∧ dv = .bool bd ∧ Hid (memB ((frees ((anames xs ls).take k)).take j) a3 = bd) ∧ Below wr.heap.size wr wr') (fun _ i _ => mF - (intOf i).toNat)
                case atStart => exact ⟨0, false, Nat.zero_le _, rfl, rfl, by simp [Hid, memB], Below.refl _ _⟩
                case round =>
                  obtain ⟨j, bd, hj, rfl, rfl, HB, hBj⟩ := hrel
                  by_cases hlt2 : j < mF
                  · obtain ⟨ae, b, eF, hbj, hlb⟩ := nm_in RF hBj hlt2
                    have v0 := hlb wr (Below.refl _ _)
                    have HM := memB_take (a := a3) hbj
                    rw [HB.out] at HM
                    subst eF
                    clear hbj hlb
                    cases bd with
                    | true =>
                      have HM := Lib.hid HM
                      go_wp2
                      go_roundw
                      case rel => exact ⟨j + 1, true, by omega, by go_num, rfl, HM.out, hBj⟩
                      case measure => simp [intOf]; omega
                    | false =>
                      cases hbe : (b.toList == a3.toList) with
                      | true =>
                        rw [hbe] at HM
                        have HM := Lib.hid HM
                        go_wp2
                        go_roundw
                        case rel => exact ⟨j + 1, true, by omega, by go_num, rfl, HM.out, hBj⟩
                        case measure => simp [intOf]; omega
                      | false =>
                        rw [hbe] at HM
                        have HM := Lib.hid HM
                        go_wp2
                        go_roundw
                        case rel => exact ⟨j + 1, false, by omega, by go_num, rfl, HM.out, hBj⟩
                        case measure => simp [intOf]; omega
                  · obtain rfl : j = mF := by omega
                    have hall : memB (frees ((anames xs ls).take k)) a3 = bd := by have h := HB.out; rwa [← HMF.out, List.take_length] at h
                    have D8j := D8.below hBj
                    have hownj := hown.below hBj
                    have hBw := b_then hB hBj
                    have hszj := hBj.size
                    cases bd with
                    | true =>
                      have hkeep := fstep_keep (F := frees ((anames xs ls).take k)) (a := a3) (.inr hall)
                      have HN := Lib.hid (sumF_keep H.out HAK.out hkeep)
                      have HFR := Lib.hid ((frees_take HAK.out).trans hkeep)
                      clear hkeep hall
                      go_wp2
                      go_roundw
                      case rel => exact ⟨k + 1, z, by omega, by go_num, by rw [HFR.out]; exact hownj, HN.out, D8j, hBw⟩
                      case measure => simp [intOf]; omega
                    | false =>
                      have hnew := fstep_new HPF.out hall
                      obtain ⟨p, hp, hps, hve, hds, hvs⟩ := HCV.out a3
                      obtain ⟨y, hy⟩ : ∃ y, cval xs ls s ex a3 = y := ⟨_, rfl⟩
                      rw [hy] at hve hvs
                      have HN := Lib.hid (sumF_new H.out HAK.out hnew hy hvs)
                      have HFR := Lib.hid ((frees_take HAK.out).trans hnew)
                      obtain ⟨d, hd⟩ : ∃ d, dpend ls a3 s ex = d := ⟨_, rfl⟩
                      rw [hd] at hve hds
                      have hG := fun W hW => KGET.out a3 p hp W hW
                      have hP := fun W hW => KPEN.out a3 W hW
                      rw [hd] at hP
                      have hA1 := fun W => r3_add p d W (rsmall_mono hps (by omega)) (rsmall_mono hds (by omega))
                      rw [← hve] at hA1
                      have hA2 := fun W => r3_add z y W (rsmall_mono H.out.2 (by omega)) (rsmall_mono hvs (by omega))
                      simp only [enc_v] at hA1 hA2
                      generalize hzz : z + y = zz at *
                      clear hnew hall hp hps hve hds hvs hy hd hzz
                      have hown2 := hownj.alloc (.cells #[.string a3] 9)
                      have hBa := b_alloc hBw (.cells #[.string a3] 9)
                      have hr2 : Rd sCs 1 (wr.alloc (.cells #[.string a3] 9)) (some ⟨wr.heap.size, 0, none⟩) 1 [a3] := Rd.of_newAt sCs_length _ 9 [a3] (by simp) rfl rfl rfl
                      have hbg : g8 + 1 ≤ (wr.alloc (.cells #[.string a3] 9)).heap.size := by have := D8j.lt; simp; omega
                      go_wp2_with (at_builtin; refine wpList_apps0 (v := .slice A10 j c10) Tryz.elemStr (by omega) sCs_length sCs_one rfl (.tmp 175) (.tmp 177) rfl rfl hown2 (some ⟨wr.heap.size, 0, none⟩) 1 1 [a3] rfl hr2 (by rw [HMF.out]; omega) (by rw [HMF.out]; omega) hbg ?_; intro v21 w21 hown21 hg21 hat21)
                      have hB21 := hown2.frame hBa (by omega) hg21
                      have D21 := (D8j.alloc (.cells #[.string a3] 9)).grown hg21 (hown2.apart (show g8 < g8 + 1 by omega))
                      have hB21w := b_then hB7 hB21
                      have bx21 := bx7.below hB21
                      have v0 := fun y : After w21 => (D21.below y.h).two.1
                      have v1 := fun y : After w21 => (D21.below y.h).two.2.1
                      have x1 := fun y : After w21 => (bx21.below y.h).three.2.1
                      have x2 := fun y : After w21 => (bx21.below y.h).three.2.2
                      obtain ⟨p0, p1, p2, p3⟩ := D21.two
                      have hgl := D21.lt
                      go_wp2
                      (refine wp_region_ahead 15 (by kernel_rfl) (by kernel_rfl) ?_; simp only [List.take_succ_cons, List.take_zero, List.drop_succ_cons, List.drop_zero]; (repeat (first | go_big_quiet_skip | (go_big_quiet_want; go_big_quiet_op; first | go_big_quiet_on | (apply Exists.intro; refine ⟨fun _ => ?_, ?_⟩; (focus (first | (go_at_call 29; with_reducible exact Calls.after (hG _ (b_then hB21w (After.h _)))) | (go_at_call 38; with_reducible exact Calls.after (hP _ (b_then hB21w (After.h _)))) | (go_at_call 33; with_reducible exact Calls.after (hA1 _)) | (go_at_call 33; with_reducible exact Calls.after (hA2 _)))); go_big_quiet_on)))); refine wpQuiet_nil ?_; rintro ⟨w22, hb22⟩; (try dsimp only); obtain ⟨hc22, hf22⟩ := bcell hb22; have hs22 := hb22.size; (try simp at hs22))
                      go_wp2
                      go_roundw
                      case rel => exact ⟨k + 1, zz, by omega, by go_num, by rw [HFR.out]; exact ((hown21.below hb22).setOld (by simp) _).setOld (by simp) _, HN.out, (D21.below hb22).put2 _ _, b_set (b_set (b_then hB21 hb22) (by simp; omega) _) (by simp; omega) _⟩
                      case measure => simp [intOf]; omega
            · have hnm := (isName_size hnm4).1
              have hak : (anames xs ls)[k]? = some a4 := by rw [hi3]; exact hak4
              have HW1 : Hid (Value.int .i64 (wrap64 ((k : Int) - (n : Int))) = Value.int .i64 (2 * (i2 : Int) + 1)) := by unfold Hid; congr 1; unfold wrap64; omega
              have HW2 : Hid (Value.int .i64 (Int.tmod (2 * (i2 : Int) + 1) 2) = Value.int .i64 1) := by unfold Hid; congr 1; rw [Int.tmod_eq_emod_of_nonneg (by omega)]; omega
              have HW3 : Hid (Value.int .i64 (Int.tdiv (2 * (i2 : Int) + 1) 2) = Value.int .i64 (i2 : Int)) := by unfold Hid; congr 1; rw [Int.tdiv_eq_ediv_of_nonneg (by omega)]; omega
              have he2 : (k - n) / 2 = i2 := by omega
              have he3 : (k - n) % 2 = 1 := by omega
              clear hak3 hak4 hnm3 hnm4 hi3
              have hfp := pfree_pos hnm
              cases hpf : pfree a4 with
              | false =>
                have hkeep := fstep_keep (F := frees ((anames xs ls).take k)) (a := a4) (.inl hpf)
                have HN := Lib.hid (sumF_keep H.out hak hkeep)
                have HFR := Lib.hid ((frees_take hak).trans hkeep)
                rw [hpf] at hfp
                have hf33 : ¬ a4[0] = 33 := by simpa using hfp.symm
                obtain ⟨bv, hbv⟩ : ∃ v : UInt8, a4[0] = v := ⟨_, rfl⟩
                rw [hbv] at hf33
                have hf34 : ((bv.toNat : Int) == 33) = false := by
                  rw [beq_eq_false_iff_ne]
                  intro e
                  exact hf33 (UInt8.toNat_inj.1 (by show bv.toNat = 33; omega))
                have hf35 : ((bv.toNat : Int) != 33) = true := by rw [bne, hf34]; rfl
                clear hf33
                clear hak hfp hpf hkeep
                have hwa := HWA.out
                have hwb := HWB.out
                have hw1 := HW1.out
                have hw2 := HW2.out
                have hw3 := HW3.out
                have hwj := HWJ.out
                go_wp2
                clear hwa hwb hw1 hw2 hw3 hwj
                go_loopw [13, 14] (fun dv jv wr' => ∃ j : Nat, j ≤ mF ∧ jv = .int .i64 (j : Nat) ∧ dv = .bool true ∧ Below wr.heap.size wr wr') (fun _ i _ => mF - (intOf i).toNat)
                case atStart => exact ⟨0, Nat.zero_le _, rfl, rfl, Below.refl _ _⟩
                case round =>
                  obtain ⟨j, hj, rfl, rfl, hBj⟩ := hrel
                  by_cases hlt2 : j < mF
                  · obtain ⟨ae, b, eF, hbj, hlb⟩ := nm_in RF hBj hlt2
                    have v0 := hlb wr (Below.refl _ _)
                    subst eF
                    clear hbj hlb
                    go_wp2
                    go_roundw
                    case rel => exact ⟨j + 1, by omega, by go_num, rfl, hBj⟩
                    case measure => simp [intOf]; omega
                  · obtain rfl : j = mF := by omega
                    go_wp2
                    go_roundw
                    case rel => exact ⟨k + 1, z, by omega, by go_num, by rw [HFR.out]; exact hown.below hBj, HN.out, D8.below hBj, b_then hB hBj⟩
                    case measure => simp [intOf]; omega
              | true =>
                rw [hpf] at hfp
                have hf33 : a4[0] = 33 := by simpa using hfp.symm
                obtain ⟨bv, hbv⟩ : ∃ v : UInt8, a4[0] = v := ⟨_, rfl⟩
                rw [hbv] at hf33
                have hf34 : ((bv.toNat : Int) == 33) = true := by rw [hf33]; rfl
                have hf35 : ((bv.toNat : Int) != 33) = false := by rw [hf33]; rfl
                clear hf33
                have HAK := Lib.hid hak
                have HPF := Lib.hid hpf
                clear hak hfp hpf
                have hwa := HWA.out
                have hwb := HWB.out
                have hw1 := HW1.out
                have hw2 := HW2.out
                have hw3 := HW3.out
                have hwj := HWJ.out
                go_wp2
                clear hwa hwb hw1 hw2 hw3 hwj
                go_loopw [13, 14] (fun dv jv wr' => ∃ (j : Nat) (bd : Bool), j ≤ mF ∧ jv = .int .i64 (j : Nat) ∧ dv = .bool bd ∧ Hid (memB ((frees ((anames xs ls).take k)).take j) a4 = bd) ∧ Below wr.heap.size wr wr') (fun _ i _ => mF - (intOf i).toNat)
                case atStart => exact ⟨0, false, Nat.zero_le _, rfl, rfl, by simp [Hid, memB], Below.refl _ _⟩
                case round =>
                  obtain ⟨j, bd, hj, rfl, rfl, HB, hBj⟩ := hrel
                  by_cases hlt2 : j < mF
                  · obtain ⟨ae, b, eF, hbj, hlb⟩ := nm_in RF hBj hlt2
                    have v0 := hlb wr (Below.refl _ _)
                    have HM := memB_take (a := a4) hbj
                    rw [HB.out] at HM
                    subst eF
                    clear hbj hlb
                    cases bd with
                    | true =>
                      have HM := Lib.hid HM
                      go_wp2
                      go_roundw
                      case rel => exact ⟨j + 1, true, by omega, by go_num, rfl, HM.out, hBj⟩
                      case measure => simp [intOf]; omega
                    | false =>
                      cases hbe : (b.toList == a4.toList) with
                      | true =>
                        rw [hbe] at HM
                        have HM := Lib.hid HM
                        go_wp2
                        go_roundw
                        case rel => exact ⟨j + 1, true, by omega, by go_num, rfl, HM.out, hBj⟩
                        case measure => simp [intOf]; omega
                      | false =>
                        rw [hbe] at HM
                        have HM := Lib.hid HM
                        go_wp2
                        go_roundw
                        case rel => exact ⟨j + 1, false, by omega, by go_num, rfl, HM.out, hBj⟩
                        case measure => simp [intOf]; omega
                  · obtain rfl : j = mF := by omega
                    have hall : memB (frees ((anames xs ls).take k)) a4 = bd := by have h := HB.out; rwa [← HMF.out, List.take_length] at h
                    have D8j := D8.below hBj
                    have hownj := hown.below hBj
                    have hBw := b_then hB hBj
                    have hszj := hBj.size
                    cases bd with
                    | true =>
                      have hkeep := fstep_keep (F := frees ((anames xs ls).take k)) (a := a4) (.inr hall)
                      have HN := Lib.hid (sumF_keep H.out HAK.out hkeep)
                      have HFR := Lib.hid ((frees_take HAK.out).trans hkeep)
                      clear hkeep hall
                      go_wp2
                      go_roundw
                      case rel => exact ⟨k + 1, z, by omega, by go_num, by rw [HFR.out]; exact hownj, HN.out, D8j, hBw⟩
                      case measure => simp [intOf]; omega
                    | false =>
                      have hnew := fstep_new HPF.out hall
                      obtain ⟨p, hp, hps, hve, hds, hvs⟩ := HCV.out a4
                      obtain ⟨y, hy⟩ : ∃ y, cval xs ls s ex a4 = y := ⟨_, rfl⟩
                      rw [hy] at hve hvs
                      have HN := Lib.hid (sumF_new H.out HAK.out hnew hy hvs)
                      have HFR := Lib.hid ((frees_take HAK.out).trans hnew)
                      obtain ⟨d, hd⟩ : ∃ d, dpend ls a4 s ex = d := ⟨_, rfl⟩
                      rw [hd] at hve hds
                      have hG := fun W hW => KGET.out a4 p hp W hW
                      have hP := fun W hW => KPEN.out a4 W hW
                      rw [hd] at hP
                      have hA1 := fun W => r3_add p d W (rsmall_mono hps (by omega)) (rsmall_mono hds (by omega))
                      rw [← hve] at hA1
                      have hA2 := fun W => r3_add z y W (rsmall_mono H.out.2 (by omega)) (rsmall_mono hvs (by omega))
                      simp only [enc_v] at hA1 hA2
                      generalize hzz : z + y = zz at *
                      clear hnew hall hp hps hve hds hvs hy hd hzz
                      have hown2 := hownj.alloc (.cells #[.string a4] 9)
                      have hBa := b_alloc hBw (.cells #[.string a4] 9)
                      have hr2 : Rd sCs 1 (wr.alloc (.cells #[.string a4] 9)) (some ⟨wr.heap.size, 0, none⟩) 1 [a4] := Rd.of_newAt sCs_length _ 9 [a4] (by simp) rfl rfl rfl
                      have hbg : g8 + 1 ≤ (wr.alloc (.cells #[.string a4] 9)).heap.size := by have := D8j.lt; simp; omega
                      go_wp2_with (at_builtin; refine wpList_apps0 (v := .slice A10 j c10) Tryz.elemStr (by omega) sCs_length sCs_one rfl (.tmp 175) (.tmp 177) rfl rfl hown2 (some ⟨wr.heap.size, 0, none⟩) 1 1 [a4] rfl hr2 (by rw [HMF.out]; omega) (by rw [HMF.out]; omega) hbg ?_; intro v21 w21 hown21 hg21 hat21)
                      have hB21 := hown2.frame hBa (by omega) hg21
                      have D21 := (D8j.alloc (.cells #[.string a4] 9)).grown hg21 (hown2.apart (show g8 < g8 + 1 by omega))
                      have hB21w := b_then hB7 hB21
                      have bx21 := bx7.below hB21
                      have v0 := fun y : After w21 => (D21.below y.h).two.1
                      have v1 := fun y : After w21 => (D21.below y.h).two.2.1
                      have x1 := fun y : After w21 => (bx21.below y.h).three.2.1
                      have x2 := fun y : After w21 => (bx21.below y.h).three.2.2
                      obtain ⟨p0, p1, p2, p3⟩ := D21.two
                      have hgl := D21.lt
                      go_wp2
                      (refine wp_region_ahead 15 (by kernel_rfl) (by kernel_rfl) ?_; simp only [List.take_succ_cons, List.take_zero, List.drop_succ_cons, List.drop_zero]; (repeat (first | go_big_quiet_skip | (go_big_quiet_want; go_big_quiet_op; first | go_big_quiet_on | (apply Exists.intro; refine ⟨fun _ => ?_, ?_⟩; (focus (first | (go_at_call 29; with_reducible exact Calls.after (hG _ (b_then hB21w (After.h _)))) | (go_at_call 38; with_reducible exact Calls.after (hP _ (b_then hB21w (After.h _)))) | (go_at_call 33; with_reducible exact Calls.after (hA1 _)) | (go_at_call 33; with_reducible exact Calls.after (hA2 _)))); go_big_quiet_on)))); refine wpQuiet_nil ?_; rintro ⟨w22, hb22⟩; (try dsimp only); obtain ⟨hc22, hf22⟩ := bcell hb22; have hs22 := hb22.size; (try simp at hs22))
                      go_wp2
                      go_roundw
                      case rel => exact ⟨k + 1, zz, by omega, by go_num, by rw [HFR.out]; exact ((hown21.below hb22).setOld (by simp) _).setOld (by simp) _, HN.out, (D21.below hb22).put2 _ _, b_set (b_set (b_then hB21 hb22) (by simp; omega) _) (by simp; omega) _⟩
                      case measure => simp [intOf]; omega
        · obtain rfl : k = n + 2 * n2 := by omega
          have hnot : ¬ ((n + 2 * n2 : Nat) : Int) < (n : Int) + 2 * (n2 : Int) := by omega
          have hz : z = dtot xs s := by
            have h := H.out.1
            rw [← HNL.out, List.take_length] at h
            rw [h, HZD.out]
            exact HALL.out
          have hBw := b_then hB7 hB
          have bx9 := bx7.below hB
          rw [← hz] at hT
          have v0 := fun y : After wr => (D8.below y.h).two.1
          have v1 := fun y : After wr => (D8.below y.h).two.2.1
          have x1 := fun y : After wr => (bx9.below y.h).three.2.1
          clear H HZD HALL hz RF hown
          have hwa := HWA.out
          have hwb := HWB.out
          go_wp2
          clear hwa hwb
          (refine wp_region_after (by kernel_rfl) (by kernel_rfl) ?_; (repeat (first | go_big_quiet_skip | (go_big_quiet_want; go_big_quiet_op; first | go_big_quiet_on | (apply Exists.intro; refine ⟨fun _ => ?_, ?_⟩; (focus ((go_at_call 30; with_reducible exact Calls.after (hT _ (b_then hBw (After.h _)))))); go_big_quiet_on)))); refine wpQuiet_nil ?_; rintro w30 ⟨⟨_, hb30⟩, rfl⟩; (try dsimp only); obtain ⟨hc30, hf30⟩ := bcell hb30; have hs30 := hb30.size; (try simp at hs30))
          go_wp2
          go_ret
          exact ⟨ret_bool (by simp), b_then hBw hb30⟩
end Go.Proofs.YtjdkbmlkplbmoaaGreatDoor
