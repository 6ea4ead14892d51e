/- Slices of limbs that the call has made: read, written, cut. -/
import Derived.Test.YtpoejheienohjaaGreatDoorOwn
import Derived.Test.YtpoejheienohjaaGreatDoorLimb
namespace Go.Proofs.YtpoejheienohjaaGreatDoor
open Go.RowKit
set_option linter.unusedVariables false
set_option linter.unusedSimpArgs false

def ie (x : Nat) : List Value := [.int .i64 (x : Nat)]
/-- v is a slice of the call's own that holds the limbs xs. -/
abbrev Mu (w : World) (base : Nat) (v : Value) (xs : List Nat) : Prop := Own ie 1 3 w base v xs
theorem ie_flat (xs : List Nat) : xs.flatMap ie = xs.map fun x : Nat => Value.int .i64 x := by
  induction xs with
  | nil => rfl
  | cons x r ih => rw [List.flatMap_cons, ih]; rfl
theorem ie_length (x : Nat) : (ie x).length = 1 := rfl
theorem ie_one (x : Nat) : ∀ u ∈ ie x, u.oneCell' = true := fun u hu => by rw [List.mem_singleton.1 hu]; rfl
/-- What a slice of the call's own is. -/
theorem Mu.open_ {w : World} {base : Nat} {v : Value} {xs : List Nat} (h : Mu w base v xs) (hn : 0 < xs.length) : ∃ g cap cur, v = .slice (some ⟨g, 0, none⟩) xs.length cap ∧ base ≤ g ∧ g < w.heap.size ∧ Blk w g 3 cur ∧ xs.length ≤ cap ∧ cap ≤ 9223372036854775807 ∧ cur.size = cap ∧ ∀ (j x : Nat), xs[j]? = some x → cur[j]? = some (.int .i64 x) := by
  rcases h.row.2 with ⟨_, h0⟩ | ⟨g, cap, cur, hv, hb, hh, hc, hm, hs, ht⟩
  · omega
  · refine ⟨g, cap, cur, hv, hb, (Array.getElem?_eq_some_iff.1 hh).1, hh, hc, by simpa [maxLen] using hm, by simpa using hs, fun j x hj => ?_⟩
    have h1 : (xs.flatMap ie)[j]? = some (.int .i64 x) := by rw [ie_flat]; simp [hj]
    rw [← ht, List.getElem?_take] at h1
    split at h1
    · simpa using h1
    · cases h1
theorem Mu.of {w : World} {base g cap : Nat} {cur : Array Value} {xs : List Nat} (hb : base ≤ g) (h : Blk w g 3 cur) (hc : xs.length ≤ cap) (hm : cap ≤ 9223372036854775807) (hs : cur.size = cap) (hx : ∀ (j x : Nat), xs[j]? = some x → cur[j]? = some (.int .i64 x)) : Mu w base (.slice (some ⟨g, 0, none⟩) xs.length cap) xs := by
  refine ⟨⟨by rw [ie_flat]; simp, .inr ⟨g, cap, cur, rfl, hb, h, hc, by simpa [maxLen] using hm, by omega, ?_⟩⟩⟩
  rw [ie_flat, Nat.mul_one]
  apply List.ext_getElem?
  intro j
  rw [List.getElem?_take, List.getElem?_map]
  split
  · rename_i hj
    rw [List.getElem?_eq_getElem hj, Option.map_some, ← hx j _ (List.getElem?_eq_getElem hj)]
    simp
  · rename_i hj
    rw [List.getElem?_eq_none (by omega)]; rfl
theorem Mu.ls {w : World} {base : Nat} {v : Value} {xs : List Nat} (h : Mu w base v xs) (hn : xs.length ≤ 1000000000) : ∃ A c, v = .slice A xs.length c ∧ Ls w A xs.length xs ∧ xs.length ≤ c ∧ c ≤ 9223372036854775807 := by
  by_cases h0 : 0 < xs.length
  · obtain ⟨g, cap, cur, rfl, hb, hg, hh, hc, hm, hs, hx⟩ := h.open_ h0
    exact ⟨_, _, rfl, ⟨rfl, hn, fun _ => ⟨g, 0, rfl, hg, fun j x hj => by rw [hh.cell, Nat.zero_add]; exact hx j x hj⟩⟩, hc, hm⟩
  · have he : xs = [] := List.eq_nil_of_length_eq_zero (by omega)
    subst he
    rcases h.row.2 with ⟨rfl, _⟩ | ⟨g, cap, cur, rfl, _, _, hc, hm, _⟩
    · exact ⟨_, _, rfl, Ls.nil, Nat.le_refl _, by omega⟩
    · exact ⟨_, _, rfl, Ls.nil, Nat.zero_le _, by simpa [maxLen] using hm⟩
theorem Mu.shape {w : World} {base : Nat} {v : Value} {xs : List Nat} (h : Mu w base v xs) : ∃ A c, v = .slice A xs.length c := by
  rcases h.row.2 with ⟨rfl, h0⟩ | ⟨g, cap, cur, rfl, _⟩
  · exact ⟨_, _, by rw [h0]⟩
  · exact ⟨_, _, rfl⟩
/-- A cut at the end. -/
theorem Mu.take {w : World} {base c : Nat} {A : Option Addr} {n : Nat} {xs : List Nat} (h : Mu w base (.slice A n c) xs) {k : Nat} (hk : k ≤ xs.length) : Mu w base (.slice A k c) (xs.take k) := by
  by_cases h0 : 0 < xs.length
  · obtain ⟨g, cap, cur, e, hb, hg, hh, hc, hm, hs, hx⟩ := h.open_ h0
    injection e with e1 e2 e3
    subst e1; subst e3
    have := Mu.of (xs := xs.take k) hb hh (by rw [List.length_take]; omega) hm hs fun j x hj => hx j x (by
      rw [List.getElem?_take] at hj
      split at hj
      · exact hj
      · cases hj)
    rwa [List.length_take, Nat.min_eq_left hk] at this
  · have he : xs = [] := List.eq_nil_of_length_eq_zero (by omega)
    subst he
    obtain rfl : k = 0 := by simpa using hk
    have hn : n = 0 := by
      obtain ⟨A', c', e⟩ := h.shape
      injection e
    subst hn
    simpa using h
/-- A store. -/
theorem Mu.set_ {w : World} {base g n cap : Nat} {xs : List Nat} (h : Mu w base (.slice (some ⟨g, 0, none⟩) n cap) xs) {i : Nat} (hi : i < xs.length) (x : Nat) : Mu (w.setCell ⟨g, i, none⟩ (.int .i64 x)) base (.slice (some ⟨g, 0, none⟩) n cap) (xs.set i x) := by
  obtain ⟨g', cap', cur, e, hb, hg, hh, hc, hm, hs, hx⟩ := h.open_ (by omega)
  injection e with e1 e2 e3
  injection e1 with e1
  injection e1 with e1
  subst e1; subst e2; subst e3
  have := Mu.of (xs := xs.set i x) hb (hh.set_ i (.int .i64 x)) (by rw [List.length_set]; exact hc) hm (by simp [hs]) fun j y hj => by
    rw [List.getElem?_set] at hj
    rw [Array.getElem?_setIfInBounds]
    by_cases he : i = j
    · subst he
      rw [if_pos rfl] at hj ⊢
      rw [if_pos hi] at hj
      rw [if_pos (by omega)]
      injection hj with hj; rw [hj]
    · rw [if_neg he] at hj ⊢
      exact hx j y hj
  rwa [List.length_set] at this
theorem Mu.cell {w : World} {base g n cap : Nat} {xs : List Nat} (h : Mu w base (.slice (some ⟨g, 0, none⟩) n cap) xs) {i : Nat} (hi : i < xs.length) : w.cell? ⟨g, i, none⟩ = some (.int .i64 (xs[i] : Nat)) ∧ w.frozen? ⟨g, i, none⟩ = false ∧ base ≤ g ∧ g < w.heap.size := by
  obtain ⟨g', cap', cur, e, hb, hg, hh, hc, hm, hs, hx⟩ := h.open_ (by omega)
  injection e with e1 e2 e3
  injection e1 with e1
  injection e1 with e1
  subst e1
  exact ⟨(hh.cell i).trans (hx i _ (List.getElem?_eq_getElem hi)), hh.frozen i, hb, hg⟩
theorem Mu.block {w : World} {base : Nat} {v : Value} {xs : List Nat} (h : Mu w base v xs) (hn : 0 < xs.length) : ∃ g cap, v = .slice (some ⟨g, 0, none⟩) xs.length cap ∧ base ≤ g ∧ g < w.heap.size := by
  obtain ⟨g, cap, cur, e, hb, hg, _⟩ := h.open_ hn
  exact ⟨g, cap, e, hb, hg⟩
/-- A store into another block. -/
theorem Mu.far {w : World} {base : Nat} {v : Value} {xs : List Nat} (h : Mu w base v xs) {p : Addr} (hp : v.ownBlock ≠ some p.block) (u : Value) : Mu (w.setCell p u) base v xs :=
  h.grown (row := some p.block) ⟨rfl, rfl, rfl, by simp [World.setCell], fun k _ hk => Below.heap_setCell w p u k (fun e => hk (by rw [e]))⟩ (.inr hp)
theorem Mu.made {w : World} {base : Nat} (hb : base ≤ w.heap.size) (n : Nat) (hn : n ≤ 4000000000) : Mu (w.alloc (.cells (madeCells #[.int .i64 0] n) 3)) base (.slice (some ⟨w.heap.size, 0, none⟩) n n) (List.replicate n 0) := by
  have hc : madeCells #[.int .i64 0] n = (List.replicate n (Value.int .i64 0)).toArray := by
    apply Array.ext'
    simp only [madeCells]
    apply List.ext_getElem
    · simp
    · intro i h1 h2
      simp [Nat.mod_one]
  have := Mu.of (w := w.alloc (.cells (madeCells #[.int .i64 0] n) 3)) (xs := List.replicate n 0) (cap := n) hb (Blk.new w 3 _) (by simp) (by omega) (by rw [hc]; simp) fun j x hj => by
    rw [hc]
    rw [List.getElem?_replicate] at hj
    split at hj
    · rename_i hlt
      injection hj with hj
      subst hj
      simp [hlt]
    · cases hj
  rwa [List.length_replicate] at this
theorem infoInt : (Tryz.prog.info? 3).map (fun i => (i.zero, i.size, i.bytes)) = some (some (.int .i64 0), 1, 8) := by kernel_rfl
/-- 'make(limbs, n)'. -/
theorem make_limbs (n : Nat) (h : n ≤ 4000000000) (w : World) : (Instr.makeSlice 126 (.int .i64 (n : Int)) (.int .i64 (n : Int))).run Tryz.prog w = .ok (.slice (some ⟨w.heap.size, 0, none⟩) n n) (w.alloc (.cells (madeCells #[.int .i64 0] n) 3)) := by
  obtain ⟨i0, hi, hz0, hz1, hz2⟩ := info_parts infoInt
  have hr := run_make (P := Tryz.prog) w 126 3 i0 _ Tryz.underlying126 hi hz0 .i64 .i64 n n (by omega) (by omega) (by rw [hz2]; omega) (by omega)
  simp only [Int.toNat_natCast, hz1, Nat.mul_one] at hr
  rw [hr]; rfl
theorem E_limbs : Elem Tryz.prog 126 3 1 8 := ⟨Tryz.underlying126, ⟨.int .i64 0, by kernel_rfl, by decide⟩⟩
end Go.Proofs.YtpoejheienohjaaGreatDoor
