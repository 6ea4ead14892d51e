/- Instructions: plain laws for InstructWhole: done or not, the book as posted, cover, totals. -/
import Derived.Test.YtjdkbmlkplbmoaaGreatDoorInQ
namespace Go.Proofs.YtjdkbmlkplbmoaaGreatDoor
open Go.RowKit
set_option linter.unusedVariables false
set_option linter.unusedSimpArgs false

/-- Is the k-th one done? -/
def idid (b : List Ln) (l : List In) (day : Int) (k : Nat) (x : In) : Bool := decide (x.due ≤ day) && (papply (irun b (l.take k) day).1 (ilines x) true).2 == 0
theorem ifind_any (l : List In) (i : Int) : decide (0 ≤ ifind l i) = l.any (fun x => x.id == i) := by
  unfold ifind
  cases hf : l.findIdx? (fun y => y.id == i) with
  | some k =>
    have h1 : (l.any fun x => x.id == i) = true := by
      cases h : (l.any fun x => x.id == i) with
      | true => rfl
      | false =>
        have : l.findIdx? (fun y => y.id == i) = none := List.findIdx?_eq_none_iff.2 fun x hx => by
          have := List.any_eq_false.1 h x hx
          simpa using this
        rw [this] at hf; cases hf
    rw [h1]
    simp
  | none =>
    have h1 : (l.any fun x => x.id == i) = false := List.any_eq_false.2 fun x hx => by
      have := List.findIdx?_eq_none_iff.1 hf x hx
      simpa using this
    rw [h1]
    simp
theorem irun_ids {b : List Ln} {day : Int} {l : List In} : ∀ i ∈ (irun b l day).2.2, ∃ x ∈ l, x.id = i := by
  refine list_rev_ind (p := fun l => ∀ i ∈ (irun b l day).2.2, ∃ x ∈ l, x.id = i) (fun i h => by cases h) ?_ l
  intro l y ih i hi
  rw [irun_snoc] at hi
  unfold istep at hi
  split at hi
  · rcases List.mem_append.1 hi with h | h
    · obtain ⟨x, hx, e⟩ := ih i h
      exact ⟨x, List.mem_append_left _ hx, e⟩
    · exact ⟨y, by simp, (List.mem_singleton.1 h).symm⟩
  · obtain ⟨x, hx, e⟩ := ih i hi
    exact ⟨x, List.mem_append_left _ hx, e⟩
theorem imay_pw {l : List In} (h : imay l = true) : l.Pairwise (fun a b => iahead a b = true) := by
  unfold imay at h
  rw [Bool.and_eq_true] at h
  exact irises_pw.1 h.2
theorem irun_part {b : List Ln} {day : Int} {l : List In} : imay l = true → ∀ k x, l[k]? = some x → (irun b l day).2.1.any (fun y => y.id == x.id) = !(idid b l day k x) ∧ (irun b l day).2.2.any (fun i => i == x.id) = idid b l day k x := by
  refine list_rev_ind (p := fun l => imay l = true → ∀ k x, l[k]? = some x → (irun b l day).2.1.any (fun y => y.id == x.id) = !(idid b l day k x) ∧ (irun b l day).2.2.any (fun i => i == x.id) = idid b l day k x) ?_ ?_ l
  · intro _ k x h; simp at h
  · intro l y ih hm k x hx
    have hp := imay_pw hm
    rw [List.pairwise_append] at hp
    obtain ⟨hp1, _, hp2⟩ := hp
    have hml : imay l = true := imay_sub hm (List.sublist_append_left _ _)
    have hne : ∀ z ∈ l, ¬ z.id = y.id := fun z hz => by
      have := hp2 z hz y (by simp)
      unfold iahead at this
      rw [decide_eq_true_eq] at this
      omega
    rw [irun_snoc]
    by_cases hk : k < l.length
    · rw [List.getElem?_append_left hk] at hx
      have hn := hne x (List.mem_of_getElem? hx)
      have hn' : ¬ y.id = x.id := fun e => hn e.symm
      obtain ⟨h1, h2⟩ := ih hml k x hx
      have e : idid b (l ++ [y]) day k x = idid b l day k x := by unfold idid; rw [List.take_append_of_le_length (by omega)]
      rw [e]
      unfold istep
      split
      · exact ⟨h1, by dsimp only; rw [List.any_append, h2]; simp [hn']⟩
      · exact ⟨by dsimp only; rw [List.any_append, h1]; simp [hn'], h2⟩
    · have hlt := (List.getElem?_eq_some_iff.1 hx).1
      rw [List.length_append, List.length_singleton] at hlt
      obtain rfl : k = l.length := by omega
      rw [List.getElem?_append_right (Nat.le_refl _), Nat.sub_self] at hx
      obtain rfl : y = x := by simpa using hx
      have e : idid b (l ++ [y]) day l.length y = (decide (y.due ≤ day) && (papply (irun b l day).1 (ilines y) true).2 == 0) := by unfold idid; rw [List.take_left]
      have n1 : (irun b l day).2.1.any (fun z => z.id == y.id) = false := List.any_eq_false.2 fun z hz => by
        have := hne z ((irun_sub b day l).subset hz)
        simpa using this
      have n2 : (irun b l day).2.2.any (fun i => i == y.id) = false := List.any_eq_false.2 fun i hi => by
        obtain ⟨z, hz, rfl⟩ := irun_ids i hi
        have := hne z hz
        simpa using this
      rw [e]
      unfold istep
      split
      · rename_i hc
        rw [hc]
        exact ⟨n1, by dsimp only; rw [List.any_append, n2]; simp⟩
      · rename_i hc
        rw [Bool.not_eq_true] at hc
        rw [hc]
        exact ⟨by dsimp only; rw [List.any_append, n1]; simp, n2⟩
/-- The book, one by one. -/
theorem irun_yes {b : List Ln} {l : List In} {day : Int} {k : Nat} {x : In} (hx : l[k]? = some x) (h : idid b l day k x = true) : (irun b (l.take (k + 1)) day).1 = bposts (irun b (l.take k) day).1 (ilines x) := by
  rw [irun_take hx]
  unfold idid at h
  unfold istep
  rw [if_pos h]
  rw [Bool.and_eq_true, beq_iff_eq] at h
  dsimp only
  exact (papply_ok (Prod.ext rfl h.2)).2.2.1.symm
theorem irun_no {b : List Ln} {l : List In} {day : Int} {k : Nat} {x : In} (hx : l[k]? = some x) (h : idid b l day k x = false) : (irun b (l.take (k + 1)) day).1 = (irun b (l.take k) day).1 := by
  rw [irun_take hx]
  unfold idid at h
  unfold istep
  rw [h]
  rfl
theorem idid_due {b : List Ln} {l : List In} {day : Int} {k : Nat} {x : In} (h : idid b l day k x = true) : x.due ≤ day := by
  unfold idid at h
  rw [Bool.and_eq_true, decide_eq_true_eq] at h
  exact h.1
theorem dpost_none {l : List Ln} {s a : ByteArray} (h : ∀ x ∈ l, ¬ (s = x.acct ∧ a = x.asset)) : dpost l s a = 0 := by
  induction l with
  | nil => rfl
  | cons x l ih => rw [dpost_cons, if_neg (h x (by simp)), ih fun y hy => h y (by simp [hy]), Rat.add_zero]
/-- Nobody who is not free goes below 0 who was not. -/
theorem papply_cover {b ls ys : List Ln} (h : papply b ls true = (ys, 0)) {s a : ByteArray} (hs : pfree s = false) (h0 : 0 ≤ dec (bgetL b s a)) : 0 ≤ dec (bgetL ys s a) := by
  obtain ⟨hm, hbal, hpo, hsh⟩ := papply_ok h
  have hlo := lbal_lone hbal
  by_cases hc : ∃ x ∈ ls, s = x.acct ∧ a = x.asset
  · obtain ⟨x, hx, rfl, rfl⟩ := hc
    have := hsh rfl x hx
    unfold pshort at this
    rw [hs, Bool.not_false, Bool.true_and, Bool.and_eq_false_iff, decide_eq_false_iff_not, decide_eq_false_iff_not] at this
    grind
  · rw [← hpo, posts_dec hm hlo, dpost_none fun x hx e => hc ⟨x, hx, e⟩, Rat.add_zero]
    exact h0
theorem irun_may {b : List Ln} {day : Int} (hb : bmay b = true) (l : List In) : bmay (irun b l day).1 = true := by
  refine list_rev_ind (p := fun l => bmay (irun b l day).1 = true) hb ?_ l
  intro l x ih
  rw [irun_snoc]
  unfold istep
  split
  · rename_i hc
    rw [Bool.and_eq_true, beq_iff_eq] at hc
    obtain ⟨_, hbal, hpo, _⟩ := papply_ok (Prod.ext rfl hc.2 : papply (irun b l day).1 (ilines x) true = ((papply (irun b l day).1 (ilines x) true).1, 0))
    dsimp only
    rw [← hpo]
    exact posts_may ih (lbal_lone hbal)
  · exact ih
theorem irun_cover {b : List Ln} {day : Int} {s a : ByteArray} (hs : pfree s = false) (h0 : 0 ≤ dec (bgetL b s a)) (l : List In) : 0 ≤ dec (bgetL (irun b l day).1 s a) := by
  refine list_rev_ind (p := fun l => 0 ≤ dec (bgetL (irun b l day).1 s a)) h0 ?_ l
  intro l x ih
  rw [irun_snoc]
  unfold istep
  split
  · rename_i hc
    rw [Bool.and_eq_true, beq_iff_eq] at hc
    exact papply_cover (Prod.ext rfl hc.2 : papply (irun b l day).1 (ilines x) true = ((papply (irun b l day).1 (ilines x) true).1, 0)) hs ih
  · exact ih
theorem irun_tot {b : List Ln} {day : Int} (hb : bmay b = true) (a : ByteArray) (l : List In) : btotal (irun b l day).1 a = btotal b a := by
  have key : dtot (irun b l day).1 a = dtot b a := by
    refine list_rev_ind (p := fun l => dtot (irun b l day).1 a = dtot b a) rfl ?_ l
    intro l x ih
    rw [irun_snoc]
    unfold istep
    split
    · rename_i hc
      rw [Bool.and_eq_true, beq_iff_eq] at hc
      obtain ⟨hm, hbal, hpo, _⟩ := papply_ok (Prod.ext rfl hc.2 : papply (irun b l day).1 (ilines x) true = ((papply (irun b l day).1 (ilines x) true).1, 0))
      dsimp only
      rw [← hpo, posts_tot _ hm (lbal_lone hbal), ilines_tot, Rat.add_zero, ih]
    · exact ih
  rw [btotal_enc (irun_may hb l), btotal_enc hb, key]
/-- Below 0 now, so it was. -/
theorem irun_below {b : List Ln} {day : Int} {l : List In} (hb : bmay b = true) {x : Ln} (hx : x ∈ (irun b l day).1) (hs : pfree x.acct = false) (hn : rsign x.q < 0) : rsign (bgetL b x.acct x.asset) < 0 := by
  have h1 := bget_mem (irun_may hb l) hx
  have h2 := bget_may hb x.acct x.asset
  have h3 := bget_may (irun_may (day := day) hb l) x.acct x.asset
  rw [h1] at h3
  have e1 : rsign (bgetL b x.acct x.asset) = (dec (bgetL b x.acct x.asset)).num.sign := by rw [← rsign_enc, enc_dec h2]
  have e2 : rsign x.q = (dec x.q).num.sign := by rw [← rsign_enc, enc_dec h3]
  rw [e1, sg_neg]
  rw [e2, sg_neg] at hn
  by_cases h0 : 0 ≤ dec (bgetL b x.acct x.asset)
  · have := irun_cover (day := day) hs h0 l
    rw [h1] at this
    grind
  · grind
end Go.Proofs.YtjdkbmlkplbmoaaGreatDoor
