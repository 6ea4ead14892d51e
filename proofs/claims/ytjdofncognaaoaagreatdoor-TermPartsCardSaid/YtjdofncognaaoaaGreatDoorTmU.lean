/- Plain laws of prints: a number's, a node's; how long they are. -/
import Derived.Test.YtjdofncognaaoaaGreatDoorTmT
namespace Go.Proofs.YtjdofncognaaoaaGreatDoor
open Go.RowKit
set_option linter.unusedVariables false
set_option linter.unusedSimpArgs false

theorem numT_yes {q : Rat} {n : Nat} (hp : dplaces q.den = some n) (hn : n ≤ 20) (h0 : 0 ≤ q.num) : mkS (numT (enc q)) = mkS (dtext (dM q n) n) := by
  have e1 : nval (enc q).den.data.toList = q.den := nval_ntx q.den
  have e2 : ival (enc q).num.data.toList = q.num := ival_itx q.num
  unfold numT
  rw [e1, e2, hp]
  dsimp only
  rw [if_pos ⟨hn, h0⟩]; rfl
def numF (s d : ByteArray) : ByteArray := (⟨#[110, 117, 109, 40]⟩ : ByteArray) ++ s ++ ⟨#[44, 32]⟩ ++ d ++ ⟨#[41]⟩
theorem numF_l (s d : ByteArray) : (numF s d).data.toList = 110 :: 117 :: 109 :: 40 :: (s.data.toList ++ 44 :: (32 :: (d.data.toList ++ 41 :: []))) := by
  unfold numF
  rw [s_append, s_append, s_append, s_append]
  simp
theorem numT_no {q : Rat} (h : ∀ n, dplaces q.den = some n → ¬ (n ≤ 20 ∧ 0 ≤ q.num)) : mkS (numT (enc q)) = numF (iS q.num) (nS q.den) := by
  have e1 : nval (enc q).den.data.toList = q.den := nval_ntx q.den
  have e2 : ival (enc q).num.data.toList = q.num := ival_itx q.num
  refine s_ext ?_
  rw [numF_l, mkS_l]
  unfold numT
  rw [e1, e2]
  cases hp : dplaces q.den with
  | none => rfl
  | some n => dsimp only; rw [if_neg (h n hp)]; rfl
theorem dtext_len (m n : Nat) : (dtext m n).length ≤ n + 2 + ndg m := by
  unfold dtext
  split
  · rw [ntx_length]; omega
  · have hl : (ddig n m).length = (n + 1 - ndg m) + ndg m := by unfold ddig; simp [ntx_length]
    rw [List.length_append, List.length_cons, List.length_take, List.length_drop]
    omega
theorem numT_len {q : Rat} (h : rsmall 61 q) : (numT (enc q)).length ≤ 200 := by
  have hs := h.1
  have hd := h.2
  by_cases hc : ∃ n, dplaces q.den = some n ∧ n ≤ 20 ∧ 0 ≤ q.num
  · obtain ⟨n, hp, hn, h0⟩ := hc
    have e := mkS_inj (numT_yes hp hn h0)
    rw [e]
    have h1 := dtext_len (dM q n) n
    obtain ⟨h2, _⟩ := dM_ndg (rsmall_mono h (by omega)) hn
    have h3 : ndg (dM q n) ≤ 82 := by
      have h4 : ndg (10 ^ n / q.den) ≤ n + 1 := by rw [← ndg_pow n]; exact ndg_mono (Nat.div_le_self _ _)
      have h5 := ndg_mul q.num.natAbs (10 ^ n / q.den)
      unfold dM
      omega
    omega
  · have e := numT_no (q := q) (fun n hp hn => hc ⟨n, hp, hn.1, hn.2⟩)
    have e2 : numT (enc q) = (numF (iS q.num) (nS q.den)).data.toList := by rw [← e, mkS_l]
    rw [e2, numF_l, iS_l, nS_l]
    simp [itx_length, ntx_length]
    split <;> omega
/-- What is known of a node that may be. -/
theorem nmay_num {n : Nd} (h : nmay n = true) (h0 : n.op = 0) : ∃ q, n.num = enc q ∧ rsmall 60 q ∧ n.asset = ⟨#[]⟩ ∧ n.a = 0 ∧ n.b = 0 := by
  unfold nmay at h
  rw [if_pos h0] at h
  simp only [Bool.and_eq_true, beq_iff_eq, decide_eq_true_eq] at h
  obtain ⟨⟨h1, h2, h3⟩, h4, h5, h6⟩ := h
  obtain ⟨q, hq⟩ := rmay_of h4
  refine ⟨q, hq, ⟨?_, ?_⟩, empty_of (by simpa using h1), h2, h3⟩
  · rw [hq, show ival (enc q).num.data.toList = q.num from ival_itx q.num] at h5; exact h5
  · rw [hq, show (enc q).den.size = ndg q.den from nS_size _] at h6; exact h6
theorem nmay_px {n : Nd} (h : nmay n = true) (h0 : n.op = 1) : n.num = nzero ∧ n.b = 0 ∧ tasset n.asset = true ∧ 0 ≤ n.a ∧ n.a ≤ 9999 := by
  unfold nmay at h
  rw [if_neg (by omega), if_pos h0] at h
  simp only [Bool.and_eq_true, beq_iff_eq, decide_eq_true_eq] at h
  exact ⟨rzer_of h.1.1, h.1.2, h.2.1, h.2.2.1, h.2.2.2⟩
theorem nmay_span {n : Nd} (h : nmay n = true) (h0 : 2 ≤ n.op) (h1 : n.op ≤ 4) : n.num = nzero ∧ tasset n.asset = true ∧ 0 ≤ n.a ∧ n.b ≤ 9999 ∧ n.a ≤ n.b ∧ n.b - n.a < 60 := by
  unfold nmay at h
  rw [if_neg (by omega), if_neg (by omega), if_pos ⟨h0, h1⟩] at h
  simp only [Bool.and_eq_true, beq_iff_eq, decide_eq_true_eq] at h
  exact ⟨rzer_of h.1, h.2.1, h.2.2.1, h.2.2.2.1, h.2.2.2.2.1, h.2.2.2.2.2⟩
theorem nmay_up {n : Nd} (h : nmay n = true) (h0 : 4 < n.op) : n.num = nzero ∧ n.asset = ⟨#[]⟩ ∧ n.a = 0 ∧ n.b = 0 := by
  unfold nmay at h
  rw [if_neg (by omega), if_neg (by omega), if_neg (by omega)] at h
  simp only [Bool.and_eq_true, beq_iff_eq, decide_eq_true_eq] at h
  exact ⟨rzer_of h.1, empty_of (by simpa using h.2.1), h.2.2.1, h.2.2.2⟩
theorem tasset_size {s : ByteArray} (h : tasset s = true) : s.size ≤ 20 := by
  unfold tasset at h
  rw [Bool.and_eq_true] at h
  exact (isName_size h.1).2
theorem day_len {d : Int} (h0 : 0 ≤ d) (h1 : d ≤ 9999) : (itx d).length ≤ 4 := by
  rw [itx_length, if_neg (by omega)]
  have := ndg_le_of (n := d.natAbs) (k := 4) (by omega) (by omega)
  omega
theorem leafT_len {n : Nd} (h : nmay n = true) (h0 : 0 ≤ n.op) (h4 : n.op ≤ 4) : (leafT numT n).length ≤ 200 := by
  unfold leafT
  split
  next e =>
    obtain ⟨q, hq, hs, _⟩ := nmay_num h e
    rw [hq]
    exact numT_len (rsmall_mono hs (by omega))
  split
  next e =>
    obtain ⟨_, _, h2, h3, h5⟩ := nmay_px h e
    have h6 := tasset_size h2
    rw [sz] at h6
    have h7 := day_len h3 h5
    simp only [List.length_cons, List.length_append, List.length_nil]
    omega
  next e1 e2 =>
    obtain ⟨_, h2, h3, h5, h6, h7⟩ := nmay_span h (by omega) h4
    have h8 := tasset_size h2
    rw [sz] at h8
    have h9 := day_len h3 (by omega)
    have h10 := day_len (d := n.b) (by omega) h5
    have h11 : (if n.op = 2 then ([97, 118, 103] : Bs) else if n.op = 3 then [104, 105] else [108, 111]).length ≤ 3 := by (repeat' split) <;> simp
    rw [List.length_append]
    simp only [List.length_cons, List.length_append, List.length_nil]
    omega
theorem get3_len (l : List Bs) : (b0 l).length + (b1 l).length + (b2 l).length ≤ (l.map List.length).sum := by
  unfold b0 b1 b2
  match l with
  | [] => simp
  | [x] => simp
  | [x, y] => simp
  | x :: y :: z :: l => simp; omega
theorem upT_len (op : Int) (l : List Bs) : (upT op l).length ≤ (l.map List.length).sum + 20 := by
  have := get3_len l
  unfold upT
  split
  · simp; omega
  split
  · simp; omega
  split
  · simp; omega
  split
  · simp; omega
  · simp; omega
theorem pnode_wt {n : Nd} {l : List ByteArray} {x : ByteArray} (h : pnode n l = some x) : x.size ≤ (l.map ByteArray.size).sum + 200 := by
  unfold pnode at h
  cases hp : ptx numT pmay n (l.map bsl) with
  | none => rw [hp] at h; cases h
  | some s =>
    rw [hp] at h
    injection h with h
    subst h
    obtain ⟨hm, hs⟩ := ptx_some hp
    unfold pmay at hm
    rw [Bool.and_eq_true, decide_eq_true_eq] at hm
    have hsum : ((l.map bsl).map List.length).sum = (l.map ByteArray.size).sum := by
      rw [List.map_map]
      exact congrArg List.sum (List.map_congr_left fun a _ => (sz a).symm)
    rw [sz, mkS_l, hs]
    split
    next h4 => have := leafT_len hm.2 hm.1 h4; omega
    next h4 =>
      have := upT_len n.op (l.map bsl)
      rw [hsum] at this
      omega
end Go.Proofs.YtjdofncognaaoaaGreatDoor
