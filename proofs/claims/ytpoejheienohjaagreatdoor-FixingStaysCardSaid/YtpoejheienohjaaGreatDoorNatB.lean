/- Walks of nat: May, at, trim. -/
import Derived.Test.YtpoejheienohjaaGreatDoorInts
namespace Go.Proofs.YtpoejheienohjaaGreatDoor
open Go.RowKit
set_option linter.unusedVariables false
set_option linter.unusedSimpArgs false

theorem isNB_lead {s : ByteArray} (h0 : 0 < s.size) (h1 : (s[0].toNat : Int) = 48) (h2 : (s.toList == [48]) = false) : isNB s = false := by
  rw [← Bool.not_eq_true]
  intro e
  have h3 : s.data.toList.head? = some 48 := by
    rw [head_at h0]
    exact congrArg some (UInt8.toNat_inj.1 (by rw [show (48 : UInt8).toNat = 48 from rfl]; omega))
  simp only [isNB, isN, Bool.and_eq_true, h3] at e
  rw [tl] at h2
  simp [h2] at e
theorem isNB_go {s : ByteArray} (h : dgUpto s s.size) (h0 : 0 < s.size) (h1 : (s[0].toNat : Int) = 48 → (s.toList == [48]) = true) : isNB s = true := by
  rw [isNB_hd h h0]
  by_cases h2 : (s[0].toNat : Int) = 48
  · rw [h1 h2]; rfl
  · simp [h2]
set_option maxHeartbeats 800000 in
theorem n_may (s : ByteArray) (w : World) (hs : s.size ≤ 9223372036854775807) :
    Calls Tryz.prog 128 #[.string s] w fun e w' => e = .returned (.bool (isNB s)) ∧ w = w' := by
  by_cases h0 : 0 < s.size
  · have hE : (s.toList == []) = false := by
      rw [tl]
      have := sz s
      cases hl : s.data.toList with
      | nil => rw [hl, List.length_nil] at this; omega
      | cons => rfl
    by_cases hq : (s[0].toNat : Int) = 48 ∧ (s.toList == [48]) = false
    · obtain ⟨hq1, hq2⟩ := hq
      have hr := isNB_lead h0 hq1 hq2
      go_enter Tryz.func128, Tryz.ntmps128
      go_wp2
      go_ret
      exact ⟨ret_bool hr.symm, rfl⟩
    · have HQ : Hid ((s[0].toNat : Int) = 48 → (s.toList == [48]) = true) := fun h => by
        cases h2 : (s.toList == [48]) with
        | true => rfl
        | false => exact absurd ⟨h, h2⟩ hq
      go_enter Tryz.func128, Tryz.ntmps128
      by_cases hq1 : (s[0].toNat : Int) = 48
      · have hq2 := HQ.out hq1
        go_wp2
        go_loop [17] (fun i => ∃ k : Nat, k ≤ s.size ∧ i = .int .i64 k ∧ Hid (dgUpto s k)) (fun i => s.size - (intOf i).toNat)
        case atStart => exact ⟨0, Nat.zero_le _, rfl, fun _ _ h => by omega⟩
        case round =>
          obtain ⟨k, hk, rfl, H⟩ := hrel
          by_cases hlt : k < s.size
          · have hr := s[k].toNat_lt
            go_wp2
            · go_ret
              exact ⟨ret_bool (isNB_no hlt (by omega)).symm, rfl⟩
            · go_round
              case rel => exact ⟨k + 1, by omega, by go_num, dgUpto_succ H.out hlt (by omega) (by omega)⟩
              case measure => simp [intOf]; omega
            · go_ret
              exact ⟨ret_bool (isNB_no hlt (by omega)).symm, rfl⟩
          · obtain rfl : k = s.size := by omega
            go_wp2
            go_ret
            exact ⟨ret_bool (isNB_go H.out h0 HQ.out).symm, rfl⟩
      · go_wp2
        go_loop [17] (fun i => ∃ k : Nat, k ≤ s.size ∧ i = .int .i64 k ∧ Hid (dgUpto s k)) (fun i => s.size - (intOf i).toNat)
        case atStart => exact ⟨0, Nat.zero_le _, rfl, fun _ _ h => by omega⟩
        case round =>
          obtain ⟨k, hk, rfl, H⟩ := hrel
          by_cases hlt : k < s.size
          · have hr := s[k].toNat_lt
            go_wp2
            · go_ret
              exact ⟨ret_bool (isNB_no hlt (by omega)).symm, rfl⟩
            · go_round
              case rel => exact ⟨k + 1, by omega, by go_num, dgUpto_succ H.out hlt (by omega) (by omega)⟩
              case measure => simp [intOf]; omega
            · go_ret
              exact ⟨ret_bool (isNB_no hlt (by omega)).symm, rfl⟩
          · obtain rfl : k = s.size := by omega
            go_wp2
            go_ret
            exact ⟨ret_bool (isNB_go H.out h0 HQ.out).symm, rfl⟩
  · have hE : (s.toList == []) = true := by
      rw [tl]
      have := sz s
      cases hl : s.data.toList with
      | nil => rfl
      | cons => rw [hl, List.length_cons] at this; omega
    have hr : isNB s = false := by
      have h1 : s.data.toList = [] := by rw [tl] at hE; simpa using hE
      simp [isNB, isN, h1]
    go_enter Tryz.func128, Tryz.ntmps128
    go_wp2
    go_ret
    exact ⟨ret_bool hr.symm, rfl⟩

/-! ### at -/
set_option maxHeartbeats 400000 in
theorem n_at (A : Option Addr) (n c : Nat) (xs : List Nat) (i : Nat) (w : World) (ha : Ls w A n xs) (hi : i ≤ 4000000000) :
    Calls Tryz.prog 160 #[.slice A n c, .int .i64 (i : Nat)] w fun e w' => e = .returned (.int .i64 (xs.getD i 0 : Nat)) ∧ w = w' := by
  have hbig := ha.big
  have hl := ha.len
  by_cases h : i < n
  · obtain ⟨b, off, rfl, hb, hc⟩ := ha.at_ h
    have hg : xs.getD i 0 = xs[i] := by rw [List.getD, List.getElem?_eq_getElem (by omega)]; rfl
    go_enter Tryz.func160, Tryz.ntmps160
    go_wp2
    go_ret
    exact ⟨ret_int (by rw [hg]), rfl⟩
  · have hg : xs.getD i 0 = 0 := by rw [List.getD, List.getElem?_eq_none (by omega)]; rfl
    go_enter Tryz.func160, Tryz.ntmps160
    go_wp2
    go_ret
    exact ⟨ret_int (by rw [hg]; rfl), rfl⟩

/-! ### trim -/
theorem lim_cut {xs : List Nat} (h : isL xs) {k : Nat} (hk : k ≤ xs.length) (he : lv (xs.take k) = lv xs) (h0 : ∀ h : 0 < k, xs[k - 1]'(by omega) ≠ 0) : xs.take k = lim (lv xs) := by
  rw [← he]
  apply lim_of (isL_take h k)
  intro x hx
  rw [List.getLast?_eq_getElem?, List.length_take, Nat.min_eq_left hk, List.getElem?_take] at hx
  split at hx
  · rename_i hlt
    rw [List.getElem?_eq_getElem (by omega)] at hx
    injection hx with hx
    rw [← hx]
    exact h0 (by omega)
  · cases hx
theorem lv_cut {xs : List Nat} {k : Nat} (hk : k < xs.length) (he : lv (xs.take (k + 1)) = lv xs) (h0 : xs[k] = 0) : lv (xs.take k) = lv xs := by
  rw [← he, lv_take_succ _ _ hk, h0, Nat.mul_zero, Nat.add_zero]
theorem len_cut {xs : List Nat} {k : Nat} (hk : k ≤ xs.length) (h : xs.take k = lim (lv xs)) : (lim (lv xs)).length = k := by rw [← h, List.length_take, Nat.min_eq_left hk]
set_option maxHeartbeats 400000 in
theorem n_trim (A : Option Addr) (n c : Nat) (xs : List Nat) (w : World) (ha : Ls w A n xs) (hL : isL xs) (hc : n ≤ c) (hc2 : c ≤ 9223372036854775807) :
    Calls Tryz.prog 161 #[.slice A n c] w fun e w' => e = .returned (.slice A (lim (lv xs)).length c) ∧ w = w' := by
  have hbig := ha.big
  have hl := ha.len
  go_enter Tryz.func161, Tryz.ntmps161
  go_wp2
  go_loop [0] (fun v => ∃ k : Nat, k ≤ n ∧ v = .slice A k c ∧ Hid (lv (xs.take k) = lv xs)) (fun v => match v with | .slice _ k _ => k | _ => 0)
  case atStart => exact ⟨n, Nat.le_refl _, rfl, by rw [← hl, List.take_length]; rfl⟩
  case round =>
    obtain ⟨k, hk, rfl, H⟩ := hrel
    by_cases hlt : 0 < k
    · have hp : k - 1 < n := by omega
      obtain ⟨b, off, rfl, hb, hcell⟩ := ha.at_ hp
      obtain ⟨p, hp1⟩ : ∃ p, k = p + 1 := ⟨k - 1, by omega⟩
      subst hp1
      simp only [Nat.add_sub_cancel] at hcell hp
      have hx : xs[p]'(by omega) < 10000 := isL_get hL (by omega)
      by_cases he : xs[p]'(by omega) = 0
      · rw [he] at hcell
        go_wp2
        go_round
        case rel => exact ⟨p, by omega, by simp, lv_cut (by omega) H.out he⟩
        case measure => simp
      · go_wp2
        go_ret
        have h1 := len_cut (by omega) (lim_cut hL (by omega) H.out fun _ => by simpa using he)
        exact ⟨by rw [h1]; rfl, rfl⟩
    · go_wp2
      go_ret
      have h1 := len_cut (by omega) (lim_cut hL (by omega) H.out fun h => absurd h hlt)
      exact ⟨by rw [h1]; rfl, rfl⟩
end Go.Proofs.YtpoejheienohjaaGreatDoor
