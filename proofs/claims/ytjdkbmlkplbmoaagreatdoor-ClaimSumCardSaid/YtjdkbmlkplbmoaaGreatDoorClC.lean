/- Claims: names sorted, none twice: slices.Sort and slices.Compact at a slice of the call's own. -/
import Derived.Test.YtjdkbmlkplbmoaaGreatDoorClA
import Derived.Test.YtjdkbmlkplbmoaaGreatDoorNmA
import Derived.Test.YtjdkbmlkplbmoaaGreatDoorShelf2
import Derived.Sort.OwnSorted
namespace Go.Proofs.YtjdkbmlkplbmoaaGreatDoor
open Go.RowKit Go.Sort
set_option linter.unusedVariables false
set_option linter.unusedSimpArgs false

def ckey (ss : List ByteArray) : List (List UInt8) := ss.map fun s => s.data.toList
theorem ckey_enc (ss : List ByteArray) : (ckey ss).map encStr = ss.flatMap sCs := by
  induction ss with
  | nil => rfl
  | cons s l ih =>
    show encStr s.data.toList :: (ckey l).map encStr = sCs s ++ l.flatMap sCs
    rw [ih]
    rfl
theorem ckey_mk (l : List (List UInt8)) : ckey (l.map mkS) = l := by
  unfold ckey
  rw [List.map_map]
  have : ((fun s : ByteArray => s.data.toList) ∘ mkS) = id := by funext x; rfl
  rw [this, List.map_id]
theorem ckey_len (ss : List ByteArray) : (ckey ss).length = ss.length := by unfold ckey; rw [List.length_map]
/-! ### Order -/
theorem compact_take {zs : List (List UInt8)} : ∀ m, m ≤ zs.length → ∀ x, x ∈ Lib.compactUpTo zs.toArray m ↔ x ∈ zs.take m := by
  intro m
  induction m with
  | zero => intro _ x; simp [Lib.compactUpTo]
  | succ m ih =>
    intro hm x
    have hlt : m < zs.length := by omega
    have hz : zs.toArray[m]! = zs[m] := by simp [getElem!_pos, hlt]
    rw [Lib.compactUpTo_succ, List.mem_append, ih (by omega), List.take_add_one, List.mem_append, List.getElem?_eq_getElem hlt]
    by_cases hk : Lib.keeps zs.toArray m = true
    · rw [if_pos hk, hz]
      simp
    · rw [if_neg hk]
      have h0 : ¬ m = 0 := fun e => hk (Lib.keeps_lt_one _ m (by omega))
      have he : zs.toArray[m]! = zs.toArray[m - 1]! := by
        by_cases e : zs.toArray[m]! = zs.toArray[m - 1]!
        · exact e
        · exact absurd (Lib.keeps_pos e) hk
      have hz1 : zs.toArray[m - 1]! = zs[m - 1] := by simp [getElem!_pos, show m - 1 < zs.length by omega]
      rw [hz, hz1] at he
      constructor
      · rintro (h | h)
        · exact .inl h
        · cases h
      · rintro (h | h)
        · exact .inl h
        · left
          have hx : x = zs[m] := by simpa using h
          rw [hx, he]
          exact List.mem_take_iff_getElem.2 ⟨m - 1, by omega, rfl⟩
theorem le_ne_lt {a b : List UInt8} (h : a ≤ b) (hn : a ≠ b) : a < b := by
  rcases Decidable.em (a < b) with h1 | h1
  · exact h1
  · exact absurd (List.le_antisymm h (List.not_lt.1 h1)) hn
theorem compact_pw {zs : List (List UInt8)} (hp : zs.Pairwise (fun a b => a ≤ b)) : ∀ m, m ≤ zs.length → (Lib.compactUpTo zs.toArray m).Pairwise (fun a b => a < b) := by
  intro m
  induction m with
  | zero => intro _; simp [Lib.compactUpTo]
  | succ m ih =>
    intro hm
    have hlt : m < zs.length := by omega
    have hz : zs.toArray[m]! = zs[m] := by simp [getElem!_pos, hlt]
    rw [Lib.compactUpTo_succ]
    by_cases hk : Lib.keeps zs.toArray m = true
    · rw [if_pos hk, List.pairwise_append]
      refine ⟨ih (by omega), by simp, fun a ha b hb => ?_⟩
      rw [hz] at hb
      have hb' : b = zs[m] := by simpa using hb
      subst hb'
      obtain ⟨i, hi, rfl⟩ := List.mem_take_iff_getElem.1 ((compact_take m (by omega) a).1 ha)
      have hi' : i < m := by omega
      have h0 : 0 < m := by omega
      have hz1 : zs.toArray[m - 1]! = zs[m - 1] := by simp [getElem!_pos, show m - 1 < zs.length by omega]
      have hne : zs[m - 1] ≠ zs[m] := by
        intro e
        have : Lib.keeps zs.toArray m = false := Lib.keeps_neg h0 (by rw [hz, hz1, e])
        rw [this] at hk
        cases hk
      have h1 : zs[m - 1] ≤ zs[m] := List.pairwise_iff_getElem.1 hp (m - 1) m (by omega) hlt (by omega)
      have h2 := le_ne_lt h1 hne
      by_cases hi1 : i = m - 1
      · subst hi1; exact h2
      · have h3 : zs[i] ≤ zs[m - 1] := List.pairwise_iff_getElem.1 hp i (m - 1) (by omega) (by omega) (by omega)
        exact List.lt_of_le_of_lt h3 h2
    · rw [if_neg hk, List.append_nil]
      exact ih (by omega)
/-- Names by their order, none twice. -/
def csort (ss : List ByteArray) : List (List UInt8) := (ckey ss).mergeSort fun x y => decide (x ≤ y)
def cdist (ss : List ByteArray) : List ByteArray := (Lib.compact (csort ss)).map mkS
theorem csort_pw (ss : List ByteArray) : (csort ss).Pairwise (fun a b => a ≤ b) := by
  unfold csort
  have h := List.pairwise_mergeSort (le := fun (x y : List UInt8) => decide (x ≤ y)) (fun a b c h1 h2 => by rw [decide_eq_true_eq] at *; exact List.le_trans h1 h2) (fun a b => by rw [Bool.or_eq_true, decide_eq_true_eq, decide_eq_true_eq]; exact List.le_total a b) (ckey ss)
  exact h.imp fun {a b} h => of_decide_eq_true h
theorem csort_len (ss : List ByteArray) : (csort ss).length = ss.length := by unfold csort; rw [List.length_mergeSort, ckey_len]
theorem csort_mem (ss : List ByteArray) (x : List UInt8) : x ∈ csort ss ↔ x ∈ ckey ss := by unfold csort; exact List.mem_mergeSort
theorem cdist_pw (ss : List ByteArray) : (cdist ss).Pairwise (fun a b => slt a b = true) := by
  unfold cdist
  rw [List.pairwise_map]
  refine (compact_pw (csort_pw ss) _ (Nat.le_refl _)).imp fun {a b} h => ?_
  rw [slt_iff]
  exact h
theorem cdist_mem (ss : List ByteArray) (a : ByteArray) : a ∈ cdist ss ↔ a ∈ ss := by
  unfold cdist Lib.compact
  rw [List.mem_map]
  constructor
  · rintro ⟨x, hx, rfl⟩
    rw [compact_take _ (Nat.le_refl _), List.take_length, csort_mem] at hx
    unfold ckey at hx
    obtain ⟨s, hs, rfl⟩ := List.mem_map.1 hx
    exact hs
  · intro h
    refine ⟨a.data.toList, ?_, rfl⟩
    rw [compact_take _ (Nat.le_refl _), List.take_length, csort_mem]
    exact List.mem_map.2 ⟨a, h, rfl⟩
/-! ### The calls -/
theorem c_sort {w : World} {base : Nat} {v : Value} {ss : List ByteArray} (h : Own sCs 1 9 w base v ss) (hn : ss.length ≤ 1000000) :
    Calls Tryz.prog 66 #[v] w fun e w' => e = .returned (.tuple #[]) ∧ Own sCs 1 9 w' base v ((csort ss).map mkS) ∧ w.grownBy w' v.ownBlock := by
  rcases h.row.2 with ⟨rfl, h0⟩ | ⟨g, cap, cur, rfl, hb, hh, hc, hm, hs, ht⟩
  · have e0 : ss = [] := List.eq_nil_of_length_eq_zero h0
    subst e0
    refine (Tryz.slices_Sort_string_none none 0 w).mono fun e w' he => ?_
    obtain ⟨rfl, rfl⟩ := he
    refine ⟨rfl, ?_, World.grownBy.refl _ _⟩
    have : (csort []).map mkS = [] := by rw [List.eq_nil_of_length_eq_zero (csort_len [])]; rfl
    rw [this]; exact h
  · have hl : (ckey ss).length = ss.length := ckey_len ss
    have hH : Holds encStr w g 0 (ckey ss).toArray := holds_of_block hh (by rw [hl, ckey_enc]; simpa using ht)
    have hc' : (ckey ss).length ≤ cap := by rw [hl]; exact hc
    have := Tryz.slices_Sort_string g 0 cap (ckey ss) w hH (Array.getElem?_eq_some_iff.1 hh).1 (by rw [hl]; omega)
    rw [hl] at this
    refine this.mono fun e w' he => ?_
    obtain ⟨rfl, n, os, rfl⟩ := he
    refine ⟨rfl, ?_, grownBy_sorted _⟩
    have hls : (csort ss).length = (ckey ss).length := by rw [csort_len, hl]
    have ho := ownsRow_sorted (n := n) (os := os) hls hb hh hc' hm (by simpa using hs)
    have e1 : ((csort ss).map mkS).length = (ckey ss).length := by rw [List.length_map, hls]
    have e2 : ((csort ss).map mkS).flatMap sCs = (csort ss).map encStr := by rw [← ckey_enc, ckey_mk]
    constructor
    rw [e2, e1, ← hl]
    exact ho
theorem c_compact {w : World} {base : Nat} {v : Value} {ss : List ByteArray} (h : Own sCs 1 9 w base v ((csort ss).map mkS)) (hn : ss.length ≤ 1000000) :
    Calls Tryz.prog 67 #[v] w fun e w' => ∃ A c, e = .returned (.slice A (cdist ss).length c) ∧ Rd sCs 1 w' A (cdist ss).length (cdist ss) ∧ w.grownBy w' v.ownBlock := by
  have hls := csort_len ss
  have e1 : ((csort ss).map mkS).length = (csort ss).length := List.length_map _
  have e2 : ((csort ss).map mkS).flatMap sCs = (csort ss).map encStr := by rw [← ckey_enc, ckey_mk]
  have hrow := h.row
  rw [e1, e2] at hrow
  rcases hrow.2 with ⟨rfl, h0⟩ | ⟨g, cap, cur, rfl, hb, hh, hc, hm, hs, ht⟩
  · have e0 : csort ss = [] := List.eq_nil_of_length_eq_zero h0
    refine (Tryz.slices_Compact_string_empty none 0 w).mono fun e w' he => ?_
    obtain ⟨rfl, rfl⟩ := he
    have : cdist ss = [] := by unfold cdist; rw [e0]; rfl
    rw [this]
    exact ⟨_, _, rfl, Rd.nil, World.grownBy.refl _ _⟩
  · have hH : Holds encStr w g 0 (csort ss).toArray := holds_of_block hh (by simpa using ht)
    refine (Tryz.slices_Compact_string g 0 cap (csort ss) w hH (by omega) hc).mono fun e w' he => ?_
    obtain ⟨rfl, q, rfl⟩ := he
    have ecl : (cdist ss).length = (Lib.compact (csort ss)).length := by unfold cdist; rw [List.length_map]
    have hle : (Lib.compact (csort ss)).length ≤ (csort ss).length := by
      unfold Lib.compact Lib.compactUpTo
      rw [List.length_map]
      have := List.length_filter_le (Lib.keeps (csort ss).toArray) (List.range (csort ss).length)
      simpa using this
    have hlt : (Lib.compact (csort ss) ++ List.replicate ((csort ss).length - (Lib.compact (csort ss)).length) ([] : List UInt8)).length = (csort ss).length := by
      rw [List.length_append, List.length_replicate]; omega
    have ho := ownsRow_sorted (n := q) (os := #[]) hlt hb hh hc hm (by simpa using hs)
    have hgr := grownBy_sorted (w := w) (g := g) (n := q) (os := #[]) (Lib.compact (csort ss) ++ List.replicate ((csort ss).length - (Lib.compact (csort ss)).length) ([] : List UInt8)).toArray
    rw [grow_empty] at ho hgr
    have e3 : ((Lib.compact (csort ss) ++ List.replicate ((csort ss).length - (Lib.compact (csort ss)).length) ([] : List UInt8)).map mkS).flatMap sCs = (Lib.compact (csort ss) ++ List.replicate ((csort ss).length - (Lib.compact (csort ss)).length) ([] : List UInt8)).map encStr := by rw [← ckey_enc, ckey_mk]
    have hown : Own sCs 1 9 (putRow encStr (Sort.ahead w q) g 0 (Lib.compact (csort ss) ++ List.replicate ((csort ss).length - (Lib.compact (csort ss)).length) ([] : List UInt8)).toArray) base (.slice (some ⟨g, 0, none⟩) (csort ss).length cap) ((Lib.compact (csort ss) ++ List.replicate ((csort ss).length - (Lib.compact (csort ss)).length) ([] : List UInt8)).map mkS) := by
      constructor
      rw [e3, List.length_map, hlt]
      exact ho
    obtain ⟨A', c', hv, hr⟩ := hown.rd sCs_length
    injection hv with v1 v2 v3
    subst v1
    rw [List.length_map, hlt] at hr
    have hr2 := hr.take hle
    have e4 : ((Lib.compact (csort ss) ++ List.replicate ((csort ss).length - (Lib.compact (csort ss)).length) ([] : List UInt8)).map mkS).take (Lib.compact (csort ss)).length = cdist ss := by
      rw [List.map_append, List.take_append_of_le_length (by rw [List.length_map]; exact Nat.le_refl _), List.take_of_length_le (by rw [List.length_map]; exact Nat.le_refl _)]
      rfl
    rw [e4, ← ecl] at hr2
    rw [ecl]
    rw [ecl] at hr2
    exact ⟨_, _, rfl, hr2, hgr⟩
end Go.Proofs.YtjdkbmlkplbmoaaGreatDoor
