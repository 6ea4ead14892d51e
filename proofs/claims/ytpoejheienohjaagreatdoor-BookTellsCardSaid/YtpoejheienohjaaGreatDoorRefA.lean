/- Walks of the reference's naturals: May, at, trim, Of, Cmp. -/
import Derived.Test.YtpoejheienohjaaGreatDoorText
namespace Go.Proofs.YtpoejheienohjaaGreatDoor
open Go.RowKit
set_option linter.unusedVariables false
set_option linter.unusedSimpArgs false

/-! ### What the tests of May say -/
def dgUpto (s : ByteArray) (k : Nat) : Prop := ∀ j, (h : j < s.size) → j < k → isDg s[j] = true
theorem dgUpto_succ {s : ByteArray} {k : Nat} (h : dgUpto s k) (hk : k < s.size) (h1 : (48 : Int) ≤ (s[k].toNat : Int)) (h2 : (s[k].toNat : Int) ≤ 57) : dgUpto s (k + 1) := by
  intro j hj hjk
  by_cases e : j = k
  · subst e; simp [isDg]; omega
  · exact h j hj (by omega)
theorem isNB_no {s : ByteArray} {k : Nat} (hk : k < s.size) (h : (s[k].toNat : Int) < 48 ∨ 57 < (s[k].toNat : Int)) : isNB s = false := by
  rw [← Bool.not_eq_true]
  intro e
  simp only [isNB, isN, Bool.and_eq_true, List.all_eq_true] at e
  have h1 := e.1.2 s[k] (List.mem_of_getElem? (s_at s k hk))
  simp [isDg] at h1; omega
theorem isNB_all {s : ByteArray} (h : dgUpto s s.size) : isNB s = (decide (0 < s.size) && ((s.data.toList == [48]) || (s.data.toList.head? != some 48))) := by
  have h1 : s.data.toList.all isDg = true := by
    rw [List.all_eq_true]
    intro c hc
    obtain ⟨i, hi, rfl⟩ := List.mem_iff_getElem.1 hc
    exact h i (by rw [sz]; exact hi) (by rw [sz]; exact hi)
  simp only [isNB, isN, h1, Bool.and_true]
  congr 1
  rw [sz, Bool.eq_iff_iff]
  cases s.data.toList <;> simp
theorem head_at {s : ByteArray} (h : 0 < s.size) : s.data.toList.head? = some s[0] := by rw [← s_at s 0 h, List.head?_eq_getElem?]
theorem isNB_zero {s : ByteArray} (h : dgUpto s s.size) (h0 : ¬ 0 < s.size) : isNB s = false := by rw [isNB_all h]; simp [h0]
theorem isNB_hd {s : ByteArray} (h : dgUpto s s.size) (h0 : 0 < s.size) : isNB s = (s.toList == [48] || ((s[0].toNat : Int) != 48)) := by
  rw [isNB_all h, head_at h0, tl]
  simp only [h0, decide_true, Bool.true_and]
  congr 1
  rw [Bool.eq_iff_iff]
  simp only [bne_iff_ne, ne_eq, Option.some.injEq]
  refine not_congr ⟨fun h => by rw [h]; rfl, fun h => UInt8.toNat_inj.1 (by rw [show (48 : UInt8).toNat = 48 from rfl]; omega)⟩

set_option maxHeartbeats 400000 in
theorem r1_may (s : ByteArray) (w : World) (hs : s.size ≤ 9223372036854775807) :
    Calls Tryz.prog 94 #[.string s] w fun e w' => e = .returned (.bool (isNB s)) ∧ w = w' := by
  go_enter Tryz.func94, Tryz.ntmps94
  go_wp2
  go_loop [3] (fun i => ∃ k : Nat, k ≤ s.size ∧ i = .int .i64 k ∧ Hid (dgUpto s k)) (fun i => s.size - (intOf i).toNat)
  case atStart => exact ⟨0, Nat.zero_le _, rfl, fun _ _ h => by omega⟩
  case round =>
    obtain ⟨k, hk, rfl, H⟩ := hrel
    by_cases hlt : k < s.size
    · have hr := s[k].toNat_lt
      go_wp2
      · go_ret
        exact ⟨ret_bool (isNB_no hlt (by omega)).symm, rfl⟩
      · go_round
        case rel => exact ⟨k + 1, by omega, by go_num, dgUpto_succ H.out hlt (by omega) (by omega)⟩
        case measure => simp [intOf]; omega
      · go_ret
        exact ⟨ret_bool (isNB_no hlt (by omega)).symm, rfl⟩
    · obtain rfl : k = s.size := by omega
      by_cases h0 : 0 < s.size
      · go_wp2
        all_goals
          go_ret
          exact ⟨ret_bool (by rw [isNB_hd (Hid.out H) h0]; try simp [*]), rfl⟩
      · go_wp2
        go_ret
        exact ⟨ret_bool (isNB_zero H.out h0).symm, rfl⟩

/-! ### at -/
set_option maxHeartbeats 400000 in
theorem r1_at (n i : Nat) (w : World) (hn : ndg n ≤ 1000000000) (hi : i ≤ 2000000000) :
    Calls Tryz.prog 122 #[.string (nS n), .int .i64 (i : Int)] w fun e w' => e = .returned (.int .i64 (ndigit n i)) ∧ w = w' := by
  have hz : (nS n).size = ndg n := nS_size n
  have hp := ndg_pos n
  have hq : (nS n).size ≤ 1000000000 := by omega
  by_cases h : (nS n).size ≤ i
  · have hb := ndigit_big n i (by omega)
    clear hz
    go_enter Tryz.func122, Tryz.ntmps122
    go_wp2
    go_ret
    exact ⟨ret_int (by rw [hb]; rfl), rfl⟩
  · have hk : (nS n).size - 1 - i < (nS n).size := by omega
    have hB := nS_byte n ((nS n).size - 1 - i) hk
    have hd := ndigit_lt n i
    have he : ndg n - 1 - ((nS n).size - 1 - i) = i := by omega
    rw [he] at hB
    have HB := Lib.hid hB
    have HE := Lib.hid he
    clear hz hB he
    go_enter Tryz.func122, Tryz.ntmps122
    go_wp2
    go_ret
    exact ⟨ret_int (by rw [HB.out]; omega), rfl⟩

/-! ### trim -/
theorem ntrim_drop {l : List UInt8} {k : Nat} (h : ntrim (l.drop k) = ntrim l) (h1 : k + 1 < l.length) (h2 : l[k]? = some 48) : ntrim (l.drop (k + 1)) = ntrim l := by
  rw [← h]
  have e1 : l.drop k = 48 :: l.drop (k + 1) := by
    rw [List.drop_eq_getElem_cons (by omega)]
    congr 1
    rw [List.getElem?_eq_getElem (by omega)] at h2
    exact Option.some.inj h2
  rw [e1]
  have e2 := List.drop_eq_getElem_cons h1
  rw [e2, ntrim, if_pos rfl]
theorem ntrim_stop {l : List UInt8} {k : Nat} (h : ntrim (l.drop k) = ntrim l) (h1 : k + 1 < l.length → l[k]? ≠ some 48) : ntrim l = l.drop k := by
  rw [← h]
  rcases Nat.lt_or_ge (k + 1) l.length with h2 | h2
  · have h3 := h1 h2
    rw [List.drop_eq_getElem_cons (by omega), List.drop_eq_getElem_cons h2, ntrim, if_neg]
    intro e
    exact h3 (by rw [List.getElem?_eq_getElem (by omega), e])
  · have : (l.drop k).length ≤ 1 := by rw [List.length_drop]; omega
    match l.drop k, this with
    | [], _ => rfl
    | [c], _ => rfl
theorem byte48 {s : ByteArray} {k : Nat} (h : k < s.size) : s.data.toList[k]? = some 48 ↔ (s[k].toNat : Int) = 48 := by
  rw [s_at s k h, Option.some.injEq]
  exact ⟨fun h => by rw [h]; rfl, fun h => UInt8.toNat_inj.1 (by rw [show (48 : UInt8).toNat = 48 from rfl]; omega)⟩
def trimB (s : ByteArray) : ByteArray := mkS (ntrim s.data.toList)
theorem trim_done {s : ByteArray} {k : Nat} (hk : k ≤ s.size) (h : ntrim (s.data.toList.drop k) = ntrim s.data.toList) (h1 : ∀ h : k < s.size, k + 1 < s.size → ¬ (s[k].toNat : Int) = 48) : s.extract k s.size = trimB s := by
  unfold trimB
  apply s_ext
  rw [s_extract, mkS_l, sz, List.take_length]
  refine (ntrim_stop h fun h2 => ?_).symm
  have h3 : k < s.size := by rw [sz]; omega
  rw [ne_eq, byte48 h3]
  exact h1 h3 (by rw [sz]; exact h2)
set_option maxHeartbeats 400000 in
theorem r1_trim (s : ByteArray) (w : World) (hs : s.size ≤ 4000000000) :
    Calls Tryz.prog 123 #[.string s] w fun e w' => e = .returned (.string (trimB s)) ∧ w = w' := by
  go_enter Tryz.func123, Tryz.ntmps123
  go_wp2
  go_loop [3] (fun i => ∃ k : Nat, k ≤ s.size ∧ i = .int .i64 k ∧ Hid (ntrim (s.data.toList.drop k) = ntrim s.data.toList)) (fun i => s.size - (intOf i).toNat)
  case atStart => exact ⟨0, Nat.zero_le _, rfl, rfl⟩
  case round =>
    obtain ⟨k, hk, rfl, H⟩ := hrel
    by_cases hlt : k + 1 < s.size
    · have hr := s[k].toNat_lt
      by_cases he : (s[k].toNat : Int) = 48
      · have HE := Lib.hid he
        have he' : ((s[k].toNat : Int) == 48) = true := by simpa using he
        clear he
        go_wp2
        go_round
        case rel => exact ⟨k + 1, by omega, by go_num, ntrim_drop H.out (by rw [← sz]; omega) ((byte48 (by omega)).2 HE.out)⟩
        case measure => simp [intOf]; omega
      · go_wp2
        go_ret
        exact ⟨ret_str (trim_done hk H.out (fun _ _ => he)), rfl⟩
    · go_wp2
      go_ret
      exact ⟨ret_str (trim_done hk H.out (fun _ h => absurd h hlt)), rfl⟩

/-! ### Of -/
theorem of_digit (d : Nat) (h : d < 10) : (ByteArray.mk #[48, 49, 50, 51, 52, 53, 54, 55, 56, 57]).extract d (d + 1) = mkS [dg d] := by
  apply s_ext
  rw [s_extract, mkS_l]
  match d, h with
  | 0, _ | 1, _ | 2, _ | 3, _ | 4, _ | 5, _ | 6, _ | 7, _ | 8, _ | 9, _ => rfl
theorem of_small {n : Nat} {l : List UInt8} {m : Nat} (h : n < 10) (e : ntx n ++ l = ntx m) : (ByteArray.mk #[48, 49, 50, 51, 52, 53, 54, 55, 56, 57]).extract n (n + 1) ++ mkS l = nS m := by
  apply s_ext
  rw [of_digit n h, s_append, mkS_l, mkS_l, nS_l, ← e, ntx_small h]
theorem of_big {n : Nat} {l : List UInt8} {m : Nat} (h : 10 ≤ n) (e : ntx n ++ l = ntx m) : ntx (n / 10) ++ (dg (n % 10) :: l) = ntx m := by
  rw [← e, ntx_big h]; simp
theorem of_step (d : Nat) (h : d < 10) (l : List UInt8) : (ByteArray.mk #[48, 49, 50, 51, 52, 53, 54, 55, 56, 57]).extract d (d + 1) ++ mkS l = mkS (dg d :: l) := by
  apply s_ext
  rw [of_digit d h, s_append, mkS_l, mkS_l, mkS_l]; rfl
theorem of_len {n m : Nat} {l : List UInt8} (e : ntx n ++ l = ntx m) (hm : m ≤ 9223372036854775807) : (mkS l).size ≤ 19 := by
  have h1 := congrArg List.length e
  rw [List.length_append, ntx_length, ntx_length] at h1
  have h2 : ndg m ≤ 19 := ndg_le_of (by omega) (by omega)
  rw [sz, mkS_l]; omega
set_option maxHeartbeats 800000 in
theorem r1_of (m : Nat) (w : World) (hm : m ≤ 9223372036854775807) :
    Calls Tryz.prog 98 #[.int .i64 (m : Int)] w fun e w' => e = .returned (.string (nS m)) ∧ w = w' := by
  go_enter Tryz.func98, Tryz.ntmps98
  go_wp2
  go_loop [0, 3] (fun x t => ∃ (n : Nat) (l : List UInt8), n ≤ 9223372036854775807 ∧ x = .int .i64 n ∧ t = .string (mkS l) ∧ Hid (ntx n ++ l = ntx m)) (fun x _ => (intOf x).toNat)
  case atStart => exact ⟨m, [], hm, rfl, rfl, by simp [Hid]⟩
  case round =>
    obtain ⟨n, l, hn, rfl, rfl, H⟩ := hrel
    have hl := of_len H.out hm
    by_cases hlt : 10 ≤ n
    · have hs := Lib.hid (of_step (n % 10) (Nat.mod_lt _ (by omega)) l)
      have hx : (ByteArray.extract { data := #[48, 49, 50, 51, 52, 53, 54, 55, 56, 57] } (n % 10) (n % 10 + 1)).size ≤ 10 := by
        rw [of_digit _ (Nat.mod_lt _ (by omega)), sz]; exact Nat.le_of_ble_eq_true rfl
      have hm10 : n % 10 < 10 := Nat.mod_lt _ (by omega)
      go_wp2
      go_round
      case rel => exact ⟨n / 10, _, by omega, by go_num, by rw [hs.out], of_big hlt H.out⟩
      case measure => simp [intOf]; omega
    · go_wp2
      go_ret
      exact ⟨ret_str (of_small (by omega) H.out), rfl⟩

/-! ### Cmp -/
def cmpN (m n : Nat) : Int := if m < n then -1 else if m = n then 0 else 1
theorem bytesLess_iff (a b : List UInt8) : Op.bytesLess a b = true ↔ a < b := by
  induction a generalizing b with
  | nil => cases b <;> simp [Op.bytesLess]
  | cons x a ih =>
    cases b with
    | nil => simp [Op.bytesLess]
    | cons y b =>
      simp only [Op.bytesLess, Bool.or_eq_true, Bool.and_eq_true, decide_eq_true_eq, beq_iff_eq, ih, List.cons_lt_cons_iff]
theorem cmp_of (m n : Nat) : cmpN m n = if (nS m).toList == (nS n).toList then 0 else if (nS m).size < (nS n).size then -1 else if (nS m).size = (nS n).size then (if Op.bytesLess (nS m).toList (nS n).toList then -1 else 1) else 1 := by
  have h := ntx_lt_iff m n
  rw [nS_t, nS_t, nS_size, nS_size]
  rw [ntx_length, ntx_length, ← bytesLess_iff] at h
  unfold cmpN
  by_cases e : m = n
  · subst e; simp
  · have e1 : (ntx m == ntx n) = false := by
      rw [beq_eq_false_iff_ne]; exact fun h => e (ntx_inj h)
    rw [e1, if_neg Bool.false_ne_true, if_neg e]
    by_cases hl : m < n
    · rw [if_pos hl]
      rcases h.1 hl with h1 | ⟨h1, h2⟩
      · rw [if_pos h1]
      · rw [if_neg (by omega), if_pos h1, if_pos h2]
    · rw [if_neg hl]
      have h1 := fun x => hl (h.2 (.inl x))
      have h2 := fun x y => hl (h.2 (.inr ⟨x, y⟩))
      rw [if_neg h1]
      by_cases h3 : ndg m = ndg n
      · rw [if_pos h3, if_neg (h2 h3)]
      · rw [if_neg h3]
set_option maxHeartbeats 400000 in
theorem r1_cmp (m n : Nat) (w : World) (hm : ndg m ≤ 1000000000) (hn : ndg n ≤ 1000000000) :
    Calls Tryz.prog 120 #[.string (nS m), .string (nS n)] w fun e w' => e = .returned (.int .i64 (cmpN m n)) ∧ w = w' := by
  have h1 : (nS m).size ≤ 1000000000 := by rw [nS_size]; exact hm
  have h2 : (nS n).size ≤ 1000000000 := by rw [nS_size]; exact hn
  have c1 := isNB_nS m
  have c2 := isNB_nS n
  go_enter Tryz.func120, Tryz.ntmps120
  go_wp2_with (go_at_call 94; refine (r1_may _ _ (by omega)).mono ?_; rintro e w' ⟨rfl, rfl⟩)
  all_goals
    go_ret
    exact ⟨ret_int (by rw [cmp_of]; grind), rfl⟩
end Go.Proofs.YtpoejheienohjaaGreatDoor
