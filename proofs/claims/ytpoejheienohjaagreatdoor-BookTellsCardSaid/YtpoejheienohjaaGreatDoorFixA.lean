/- Walks of book.Name, cmp.Or, fixing.compare, fixing.one. -/
import Derived.Test.YtpoejheienohjaaGreatDoorWhole
import Derived.Test.YtpoejheienohjaaGreatDoorRefH
namespace Go.Proofs.YtpoejheienohjaaGreatDoor
open Go.RowKit
set_option linter.unusedVariables false
set_option linter.unusedSimpArgs false

def nmSet : List UInt8 := [97, 98, 99, 100, 101, 102, 103, 104, 105, 106, 107, 108, 109, 110, 111, 112, 113, 114, 115, 116, 117, 118, 119, 120, 121, 122, 48, 49, 50, 51, 52, 53, 54, 55, 56, 57]
set_option maxRecDepth 100000 in
theorem nmSet_nat : ∀ n, n < 256 → nmSet.contains (UInt8.ofNat n) = ((decide (97 ≤ n) && decide (n ≤ 122)) || (decide (48 ≤ n) && decide (n ≤ 57))) := by decide
theorem nmSet_c (c : UInt8) : nmSet.contains c = nmc c := by
  have := nmSet_nat c.toNat c.toNat_lt
  rw [show UInt8.ofNat c.toNat = c by simp] at this
  exact this
theorem dropW_nil {α : Type} (p : α → Bool) : ∀ l : List α, l.dropWhile p = [] ↔ ∀ x ∈ l, p x = true
  | [] => by simp
  | a :: l => by
    rw [List.dropWhile_cons]
    cases h : p a with
    | true => simp [dropW_nil p l, h]
    | false => simp [h]
theorem dropW_head {α : Type} (p : α → Bool) : ∀ (l : List α) (y : α) (r : List α), l.dropWhile p = y :: r → p y = false
  | [], _, _, h => by simp at h
  | a :: l, y, r, h => by
    rw [List.dropWhile_cons] at h
    cases hp : p a with
    | true => rw [hp] at h; exact dropW_head p l y r (by simpa using h)
    | false =>
      rw [hp] at h
      have : a = y := by simp at h; exact h.1
      rw [← this]; exact hp
theorem dropW_mem {α : Type} (p : α → Bool) : ∀ (l : List α) (x : α), x ∈ l.dropWhile p → x ∈ l
  | [], _, h => by simp at h
  | a :: l, x, h => by
    rw [List.dropWhile_cons] at h
    cases hp : p a with
    | true => rw [hp] at h; exact List.mem_cons_of_mem _ (dropW_mem p l x (by simpa using h))
    | false => rw [hp] at h; simpa using h
theorem trimS_nil (l cs : List UInt8) : Lib.trimS l cs = [] ↔ l.all (cs.contains ·) = true := by
  unfold Lib.trimS Lib.trimLeftS Lib.trimRightS
  rw [dropW_nil, List.all_eq_true]
  constructor
  · intro h x hx
    rcases hm : l.reverse.dropWhile (cs.contains ·) with _ | ⟨y, r⟩
    · exact (dropW_nil _ _).1 hm x (by simpa using hx)
    · have h1 := h y (by rw [hm]; simp)
      have h2 := dropW_head _ _ _ _ hm
      rw [h1] at h2; cases h2
  · intro h x hx
    have h1 := dropW_mem _ _ _ (List.mem_reverse.1 hx)
    exact h x (by simpa using h1)
theorem isName_prog (s : ByteArray) : isName s = (!(s.toList == []) && (decide (s.size ≤ 20) && ((mkS (Lib.trimS (Lib.trimPrefix s.data.toList [33]) nmSet)).toList == []))) := by
  have h1 : ((mkS (Lib.trimS (Lib.trimPrefix s.data.toList [33]) nmSet)).toList == []) = nmAll s.data.toList := by
    rw [tl, mkS_l, Bool.eq_iff_iff, beq_iff_eq, trimS_nil]
    have hc : (fun c => nmSet.contains c) = nmc := funext nmSet_c
    rw [hc]
    unfold Lib.trimPrefix Lib.hasPrefix
    cases hl : s.data.toList with
    | nil => simp [nmAll]
    | cons c t =>
      by_cases h33 : c = 33
      · subst h33; simp [nmAll, List.isPrefixOf]
      · have : ([33].isPrefixOf (c :: t)) = false := by simp [List.isPrefixOf]; exact fun e => h33 e.symm
        rw [this, if_neg (by simp), show nmAll (c :: t) = (c :: t).all nmc by unfold nmAll; split <;> simp_all]
  have h2 : decide (1 ≤ s.size) = !(s.toList == []) := by
    rw [tl, sz]
    cases s.data.toList <;> simp
  rw [h1, isName, h2]
  cases nmAll s.data.toList <;> cases (s.toList == []) <;> cases decide (s.size ≤ 20) <;> rfl
theorem mkS_nil (l : List UInt8) (h : l.length ≤ 9223372036854775807) : (mkS l).size ≤ 9223372036854775807 := by rw [mkS_size]; exact h
theorem trimPrefix_len (l p : List UInt8) : (Lib.trimPrefix l p).length ≤ l.length := by
  unfold Lib.trimPrefix; split
  · rw [List.length_drop]; omega
  · omega
theorem c_bang (s : ByteArray) (w : World) : Calls Tryz.prog 74 #[.string s, .string ⟨#[33]⟩] w fun e w' => e = .returned (.string (mkS (Lib.trimPrefix s.data.toList [33]))) ∧ w = w' := c_trimPrefix s ⟨#[33]⟩ w
theorem nmSet_small : ∀ (j : Nat) b, nmSet[j]? = some b → b.toNat < 128 := by
  intro j b hb
  have : ∀ b ∈ nmSet, b.toNat < 128 := by decide
  exact this b (List.mem_of_getElem? hb)
theorem c_trimNm (l : List UInt8) (w : World) (h : l.length ≤ 9223372036854775807) : Calls Tryz.prog 75 #[.string (mkS l), .string ⟨#[97, 98, 99, 100, 101, 102, 103, 104, 105, 106, 107, 108, 109, 110, 111, 112, 113, 114, 115, 116, 117, 118, 119, 120, 121, 122, 48, 49, 50, 51, 52, 53, 54, 55, 56, 57]⟩] w fun e w' => e = .returned (.string (mkS (Lib.trimS l nmSet))) ∧ Below w.heap.size w w' :=
  c_trim (mkS l) ⟨nmSet.toArray⟩ w (by rw [mkS_size]; exact h) (by decide) nmSet_small
set_option maxHeartbeats 800000 in
theorem p_name (s : ByteArray) (w : World) (hs : s.size ≤ 9223372036854775807) :
    Calls Tryz.prog 35 #[.string s] w fun e w' => e = .returned (.bool (isName s)) ∧ Below w.heap.size w w' := by
  rw [isName_prog]
  have hl := trimPrefix_len s.data.toList [33]
  rw [← sz] at hl
  obtain ⟨t, ht⟩ : ∃ t, Lib.trimPrefix s.data.toList [33] = t := ⟨_, rfl⟩
  have hb := c_bang s w
  rw [ht] at hl hb ⊢
  clear ht
  cases c1 : (s.toList == []) <;> cases c2 : ((mkS (Lib.trimS t nmSet)).toList == []) <;> by_cases c3 : s.size ≤ 20
  all_goals
    go_enter Tryz.func35, Tryz.ntmps35
    go_wp2_with (first | (go_at_call 74; (with_reducible refine (hb).mono ?_); rintro e w' ⟨rfl, rfl⟩) | (go_at_call 75; (with_reducible refine (c_trimNm t _ (by omega)).mono ?_); rintro e w1 ⟨rfl, hb1⟩; obtain ⟨hc1, hf1⟩ := bcell hb1; have hs1 := hb1.size; (try simp at hs1)))
    go_ret
    exact ⟨ret_bool (by simp [c3]), (by repeat (first | exact Below.refl _ _ | assumption | refine b_then ?_ (by assumption) | refine b_alloc ?_ _ | refine b_drewN ?_ _ | refine Below.drew ?_ | refine b_set ?_ (by first | exact Nat.le_refl _ | (simp; done) | (simp; omega) | omega) _))⟩
end Go.Proofs.YtpoejheienohjaaGreatDoor
