/- Plain laws of postings: totals, signs turned, several postings in one. -/
import Derived.Test.YtjdkbmlkplbmoaaGreatDoorPoH
namespace Go.Proofs.YtjdkbmlkplbmoaaGreatDoor
open Go.RowKit
set_option linter.unusedVariables false
set_option linter.unusedSimpArgs false

theorem dpost_take {l : List Ln} {k : Nat} {x : Ln} (s a : ByteArray) (hx : l[k]? = some x) : dpost (l.take (k + 1)) s a = dpost (l.take k) s a + if s = x.acct ∧ a = x.asset then dec x.q else 0 := by
  unfold dpost
  rw [List.take_add_one, hx, List.filter_append, dsum_append]
  congr 1
  have := dpost_cons x [] s a
  rw [dpost_nil, Rat.add_zero] at this
  exact this
theorem lbal_zero {ls : List Ln} (h : lbal ls = true) {x : Ln} (hx : x ∈ ls) : dtot ls x.asset = 0 := by
  unfold lbal at h
  rw [Bool.and_eq_true] at h
  have := List.all_eq_true.1 h.2 x hx
  exact of_decide_eq_true this
theorem keeps_total {xs ls ys : List Ln} (hm : bmay xs = true) (hb : lbal ls = true) (hy : bposts xs ls = ys) {x : Ln} (hx : x ∈ ls) : btotal ys x.asset = btotal xs x.asset := by
  have hl := lbal_lone hb
  rw [← hy, btotal_enc (posts_may hm hl), btotal_enc hm, posts_tot _ hm hl, lbal_zero hb hx, Rat.add_zero]
/-- What papply gives where all is right. -/
theorem papply_ok {xs ls ys : List Ln} {cov : Bool} (h : papply xs ls cov = (ys, 0)) : bmay xs = true ∧ lbal ls = true ∧ bposts xs ls = ys ∧ (cov = true → ∀ x ∈ ls, pshort xs ys x = false) := by
  unfold papply at h
  split at h
  · rename_i h1
    split at h
    · rename_i h2
      split at h
      · cases h
      · rename_i h3
        have e : bposts xs ls = ys := congrArg Prod.fst h
        refine ⟨h1, h2, e, fun hc x hx => ?_⟩
        rw [hc, Bool.true_and, e] at h3
        rw [← Bool.not_eq_true]
        intro hh
        exact h3 (List.any_eq_true.2 ⟨x, hx, hh⟩)
    · cases h
  · cases h
theorem papply_bad {xs ls : List Ln} {cov : Bool} (h : (papply xs ls cov).2 ≠ 0) (hm : bmay xs = true) : papply xs ls cov = ([], 70) ∨ (cov = true ∧ papply xs ls cov = ([], 71)) := by
  unfold papply at h ⊢
  rw [if_pos hm] at h ⊢
  split
  · rename_i h2
    rw [if_pos h2] at h
    split
    · rename_i h3
      right
      rw [Bool.and_eq_true] at h3
      exact ⟨h3.1, rfl⟩
    · rename_i h3
      rw [if_neg h3] at h
      exact absurd rfl h
  · exact .inl rfl
theorem dsum_neg : ∀ l : List Ln, dsum (l.map lneg) = -(dsum l)
  | [] => by rw [List.map_nil, dsum_nil]; rfl
  | x :: l => by
    rw [List.map_cons, dsum_cons, dsum_cons, dsum_neg l]
    show dec (enc (-(dec x.q))) + _ = _
    rw [dec_enc]
    grind
theorem dtot_neg (l : List Ln) (a : ByteArray) : dtot (l.map lneg) a = -(dtot l a) := by
  unfold dtot
  rw [List.filter_map, dsum_neg]
  rfl
theorem dpost_neg (l : List Ln) (s a : ByteArray) : dpost (l.map lneg) s a = -(dpost l s a) := by
  unfold dpost
  rw [List.filter_map, dsum_neg]
  rfl
theorem dpost_append (l m : List Ln) (s a : ByteArray) : dpost (l ++ m) s a = dpost l s a + dpost m s a := by
  unfold dpost
  rw [List.filter_append, dsum_append]
theorem lbal_all {ls : List Ln} (h : lbal ls = true) (a : ByteArray) : dtot ls a = 0 := by
  cases hc : ls.any (fun x => x.asset.toList == a.toList) with
  | false => exact dtot_none hc
  | true =>
    obtain ⟨x, hx, e⟩ := List.any_eq_true.1 hc
    have e' : x.asset = a := s_eq.2 (beq_iff_eq.1 e)
    rw [← e']
    exact lbal_zero h hx
theorem lbal_mk {ls : List Ln} (h : ∀ x ∈ ls, lone x = true) (h0 : ∀ a, dtot ls a = 0) : lbal ls = true := by
  unfold lbal
  rw [Bool.and_eq_true, List.all_eq_true, List.all_eq_true]
  exact ⟨h, fun x hx => decide_eq_true (h0 _)⟩
theorem lbal_neg {ls : List Ln} (h : lbal ls = true) : lbal (ls.map lneg) = true := by
  refine lbal_mk (fun x hx => ?_) fun a => by rw [dtot_neg, lbal_all h]; rfl
  obtain ⟨y, hy, rfl⟩ := List.mem_map.1 hx
  exact lone_neg (lbal_lone h y hy)
theorem lbal_append {ls ms : List Ln} (h : lbal ls = true) (k : lbal ms = true) : lbal (ls ++ ms) = true := by
  refine lbal_mk (fun x hx => ?_) fun a => by rw [dtot_append, lbal_all h, lbal_all k, Rat.add_zero]
  rcases List.mem_append.1 hx with h' | h'
  · exact lbal_lone h x h'
  · exact lbal_lone k x h'
theorem papply_free {xs ls : List Ln} (hm : bmay xs = true) (hb : lbal ls = true) : papply xs ls false = (bposts xs ls, 0) := by
  unfold papply
  rw [if_pos hm, if_pos hb]; rfl
theorem papply_un {xs ls : List Ln} (hm : bmay xs = true) (hb : lbal ls = false) (cov : Bool) : papply xs ls cov = ([], 70) := by
  unfold papply
  rw [if_pos hm, hb]; rfl
/-- What is posted, and then with the other signs, is as it was. -/
theorem posts_same {xs ls : List Ln} (hm : bmay xs = true) (h : ∀ x ∈ ls, lone x = true) (h0 : ∀ s a, dpost ls s a = 0) : bposts xs ls = xs := by
  refine bext (posts_may hm h) hm fun s a => ?_
  rw [posts_get s a hm h, h0, Rat.add_zero, enc_dec (bget_may hm s a)]
theorem posts_back {xs ls : List Ln} (hm : bmay xs = true) (hb : lbal ls = true) : bposts (bposts xs ls) (ls.map lneg) = xs := by
  rw [← posts_append]
  refine posts_same hm (fun x hx => ?_) fun s a => by rw [dpost_append, dpost_neg]; grind
  rcases List.mem_append.1 hx with h' | h'
  · exact lbal_lone hb x h'
  · exact lbal_lone (lbal_neg hb) x h'
theorem lneg_B {x : Ln} (h : lnB 100 x) (hl : lone x = true) : lnB 200 (lneg x) := by
  obtain ⟨q, hq, hqd, hqs⟩ := rat_of (lone_of hl).2.2 h.2.2.1 h.2.2.2
  have := enc_size (rsmall_neg hqs)
  unfold lneg
  rw [hqd]
  exact ⟨h.1, h.2.1, by dsimp only; omega, by dsimp only; omega⟩
theorem map_take_succ {α β : Type} (f : α → β) {l : List α} {k : Nat} {x : α} (hx : l[k]? = some x) : (l.take (k + 1)).map f = (l.take k).map f ++ [f x] := by
  rw [List.take_add_one, hx, List.map_append]; rfl
/-- Where nothing changes, nobody goes short. -/
theorem papply_same {xs ls : List Ln} (hm : bmay xs = true) (hb : lbal ls = true) (h : bposts xs ls = xs) (cov : Bool) : papply xs ls cov = (xs, 0) := by
  unfold papply
  rw [if_pos hm, if_pos hb, h]
  rw [if_neg]
  intro hc
  rw [Bool.and_eq_true, List.any_eq_true] at hc
  obtain ⟨_, x, _, hx⟩ := hc
  unfold pshort at hx
  simp only [Bool.and_eq_true, decide_eq_true_eq] at hx
  exact Rat.lt_irrefl hx.2.2
theorem none_apply {xs : List Ln} (hm : bmay xs = true) (cov : Bool) : papply xs [] cov = (xs, 0) := papply_same hm rfl rfl cov
end Go.Proofs.YtjdkbmlkplbmoaaGreatDoor
