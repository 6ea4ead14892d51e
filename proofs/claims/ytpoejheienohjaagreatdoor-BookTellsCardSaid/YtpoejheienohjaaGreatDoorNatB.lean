/- Walks of nat: May, at, trim. -/
import Derived.Test.YtpoejheienohjaaGreatDoorInts
namespace Go.Proofs.YtpoejheienohjaaGreatDoor
open Go.RowKit
set_option linter.unusedVariables false
set_option linter.unusedSimpArgs false

theorem isNB_lead {s : ByteArray} (h0 : 0 < s.size) (h1 : (s[0].toNat : Int) = 48) (h2 : (s.toList == [48]) = false) : isNB s = false := by
  rw [← Bool.not_eq_true]
  intro e
  have h3 : s.data.toList.head? = some 48 := by
    rw [head_at h0]
    exact congrArg some (UInt8.toNat_inj.1 (by rw [show (48 : UInt8).toNat = 48 from rfl]; omega))
  simp only [isNB, isN, Bool.and_eq_true, h3] at e
  rw [tl] at h2
  simp [h2] at e
theorem isNB_go {s : ByteArray} (h : dgUpto s s.size) (h0 : 0 < s.size) (h1 : (s[0].toNat : Int) = 48 → (s.toList == [48]) = true) : isNB s = true := by
  rw [isNB_hd h h0]
  by_cases h2 : (s[0].toNat : Int) = 48
  · rw [h1 h2]; rfl
  · simp [h2]
set_option maxHeartbeats 800000 in
theorem n_may (s : ByteArray) (w : World) (hs : s.size ≤ 9223372036854775807) :
    Calls Tryz.prog 128 #[.string s] w fun e w' => e = .returned (.bool (isNB s)) ∧ w = w' := by
  by_cases h0 : 0 < s.size
  · have hE : (s.toList == []) = false := by
      rw [tl]
      have := sz s
      cases hl : s.data.toList with
      | nil => rw [hl, List.length_nil] at this; omega
      | cons => rfl
    by_cases hq : (s[0].toNat : Int) = 48 ∧ (s.toList == [48]) = false
    · obtain ⟨hq1, hq2⟩ := hq
      have hr := isNB_lead h0 hq1 hq2
      go_enter Tryz.func128, Tryz.ntmps128
      go_wp2
      go_ret
      exact ⟨ret_bool hr.symm, rfl⟩
    · have HQ : Hid ((s[0].toNat : Int) = 48 → (s.toList == [48]) = true) := fun h => by
        cases h2 : (s.toList == [48]) with
        | true => rfl
        | false => exact absurd ⟨h, h2⟩ hq
      go_enter Tryz.func128, Tryz.ntmps128
      by_cases hq1 : (s[0].toNat : Int) = 48
      · have hq2 := HQ.out hq1
        go_wp2
        go_loop [17] (fun i => ∃ k : Nat, k ≤ s.size ∧ i = .int .i64 k ∧ Hid (dgUpto s k)) (fun i => s.size - (intOf i).toNat)
        case atStart => exact ⟨0, Nat.zero_le _, rfl, fun _ _ h => by omega⟩
        case round =>
          obtain ⟨k, hk, rfl, H⟩ := hrel
          by_cases hlt : k < s.size
          · have hr := s[k].toNat_lt
            go_wp2
            · go_ret
              exact ⟨ret_bool (isNB_no hlt (by omega)).symm, rfl⟩
            · go_round
              case rel => exact ⟨k + 1, by omega, by go_num, dgUpto_succ H.out hlt (by omega) (by omega)⟩
              case measure => simp [intOf]; omega
            · go_ret
              exact ⟨ret_bool (isNB_no hlt (by omega)).symm, rfl⟩
          · obtain rfl : k = s.size := by omega
            go_wp2
            go_ret
            exact ⟨ret_bool (isNB_go H.out h0 HQ.out).symm, rfl⟩
      · go_wp2
        go_loop [17] (fun i => ∃ k : Nat, k ≤ s.size ∧ i = .int .i64 k ∧ Hid (dgUpto s k)) (fun i => s.size - (intOf i).toNat)
        case atStart => exact ⟨0, Nat.zero_le _, rfl, fun _ _ h => by omega⟩
        case round =>
          obtain ⟨k, hk, rfl, H⟩ := hrel
          by_cases hlt : k < s.size
          · have hr := s[k].toNat_lt
            go_wp2
            · go_ret
              exact ⟨ret_bool (isNB_no hlt (by omega)).symm, rfl⟩
            · go_round
              case rel => exact ⟨k + 1, by omega, by go_num, dgUpto_succ H.out hlt (by omega) (by omega)⟩
              case measure => simp [intOf]; omega
            · go_ret
              exact ⟨ret_bool (isNB_no hlt (by omega)).symm, rfl⟩
          · obtain rfl : k = s.size := by omega
            go_wp2
            go_ret
            exact ⟨ret_bool (isNB_go H.out h0 HQ.out).symm, rfl⟩
  · have hE : (s.toList == []) = true := by
      rw [tl]
      have := sz s
      cases hl : s.data.toList with
      | nil => rfl
      | cons => rw [hl, List.length_cons] at this; omega
    have hr : isNB s = false := by
      have h1 : s.data.toList = [] := by rw [tl] at hE; simpa using hE
      simp [isNB, isN, h1]
    go_enter Tryz.func128, Tryz.ntmps128
    go_wp2
    go_ret
    exact ⟨ret_bool hr.symm, rfl⟩

/-! ### at -/
set_option maxHeartbeats 400000 in
theorem n_at (A : Option Addr) (n c : Nat) (xs : List Nat) (i : Nat) (w : World) (ha : Ls w A n xs) (hi : i ≤ 4000000000) :
    Calls Tryz.prog 160 #[.slice A n c, .int .i64 (i : Nat)] w fun e w' => e = .returned (.int .i64 (xs.getD i 0 : Nat)) ∧ w = w' := by
  have hbig := ha.big
  have hl := ha.len
  by_cases h : i < n
  · obtain ⟨b, off, rfl, hb, hc⟩ := ha.at_ h
    have hg : xs.getD i 0 = xs[i] := by rw [List.getD, List.getElem?_eq_getElem (by omega)]; rfl
    go_enter Tryz.func160, Tryz.ntmps160
    go_wp2
    go_ret
    exact ⟨ret_int (by rw [hg]), rfl⟩
  · have hg : xs.getD i 0 = 0 := by rw [List.getD, List.getElem?_eq_none (by omega)]; rfl
    go_enter Tryz.func160, Tryz.ntmps160
    go_wp2
    go_ret
    exact ⟨ret_int (by rw [hg]; rfl), rfl⟩

/-! ### trim -/
theorem lim_cut {xs : List Nat} (h : isL xs) {k : Nat} (hk : k ≤ xs.length) (he : lv (xs.take k) = lv xs) (h0 : ∀ h : 0 < k, xs[k - 1]'(by omega) ≠ 0) : xs.take k = lim (lv xs) := by
  rw [← he]
  apply lim_of (isL_take h k)
  intro x hx
  rw [List.getLast?_eq_getElem?, List.length_take, Nat.min_eq_left hk, List.getElem?_take] at hx
  split at hx
  · rename_i hlt
    rw [List.getElem?_eq_getElem (by omega)] at hx
    injection hx with hx
    rw [← hx]
    exact h0 (by omega)
  · cases hx
theorem lv_cut {xs : List Nat} {k : Nat} (hk : k < xs.length) (he : lv (xs.take (k + 1)) = lv xs) (h0 : xs[k] = 0) : lv (xs.take k) = lv xs := by
  rw [← he, lv_take_succ _ _ hk, h0, Nat.mul_zero, Nat.add_zero]
theorem len_cut {xs : List Nat} {k : Nat} (hk : k ≤ xs.length) (h : xs.take k = lim (lv xs)) : (lim (lv xs)).length = k := by rw [← h, List.length_take, Nat.min_eq_left hk]
set_option maxHeartbeats 400000 in
theorem n_trim (A : Option Addr) (n c : Nat) (xs : List Nat) (w : World) (ha : Ls w A n xs) (hL : isL xs) (hc : n ≤ c) (hc2 : c ≤ 9223372036854775807) :
    Calls Tryz.prog 161 #[.slice A n c] w fun e w' => e = .returned (.slice A (lim (lv xs)).length c) ∧ w = w' := by
  have hbig := ha.big
  have hl := ha.len
  go_enter Tryz.func161, Tryz.ntmps161
  go_wp2
  go_loop [0] (fun v => ∃ k : Nat, k ≤ n ∧ v = .slice A k c ∧ Hid (lv (xs.take k) = lv xs)) (fun v => match v with | .slice _ k _ => k | _ => 0)
  case atStart => exact ⟨n, Nat.le_refl _, rfl, by rw [← hl, List.take_length]; rfl⟩
  case round =>
    obtain ⟨k, hk, rfl, H⟩ := hrel
    by_cases hlt : 0 < k
    · have hp : k - 1 < n := by omega
      obtain ⟨b, off, rfl, hb, hcell⟩ := ha.at_ hp
      obtain ⟨p, hp1⟩ : ∃ p, k = p + 1 := ⟨k - 1, by omega⟩
      subst hp1
      simp only [Nat.add_sub_cancel] at hcell hp
      have hx : xs[p]'(by omega) < 10000 := isL_get hL (by omega)
      by_cases he : xs[p]'(by omega) = 0
      · rw [he] at hcell
        go_wp2
        go_round
        case rel => exact ⟨p, by omega, by simp, lv_cut (by omega) H.out he⟩
        case measure => simp
      · go_wp2
        go_ret
        have h1 := len_cut (by omega) (lim_cut hL (by omega) H.out fun _ => by simpa using he)
        exact ⟨by rw [h1]; rfl, rfl⟩
    · go_wp2
      go_ret
      have h1 := len_cut (by omega) (lim_cut hL (by omega) H.out fun h => absurd h hlt)
      exact ⟨by rw [h1]; rfl, rfl⟩
end Go.Proofs.YtpoejheienohjaaGreatDoor

/- Walks of nat: read, both. -/
namespace Go.Proofs.YtpoejheienohjaaGreatDoor
open Go.RowKit
set_option linter.unusedVariables false
set_option linter.unusedSimpArgs false

/-- What is handed back is a slice of the call's own that holds the limbs of n. -/
def RetL (w : World) (n : Nat) (e : Ending) (w' : World) : Prop := ∃ A c, e = .returned (.slice A (lim n).length c) ∧ Mu w' w.heap.size (.slice A (lim n).length c) (lim n) ∧ Below w.heap.size w w'
def rdTo (l : List UInt8) (k : Nat) (xs : List Nat) : Prop := isL xs ∧ xs.length + k ≤ l.length ∧ lv xs + 10000 ^ xs.length * nval (l.take k) = nval l
def chunk (l : List UInt8) (k : Nat) : List UInt8 := (l.take k).drop (k - 4)
theorem chunk_dg {l : List UInt8} (h : l.all isDg = true) (k : Nat) : (chunk l k).all isDg = true := by
  rw [List.all_eq_true] at h ⊢
  exact fun c hc => h c (List.mem_of_mem_take (List.mem_of_mem_drop hc))
theorem chunk_len {l : List UInt8} {k : Nat} (hk : k ≤ l.length) : (chunk l k).length = k - (k - 4) := by simp [chunk]; omega
theorem chunk_val {l : List UInt8} (h : l.all isDg = true) {k : Nat} (hk : k ≤ l.length) : nval (chunk l k) < 10000 := by
  have h1 := nval_lt (chunk l k) (fun c hc => List.all_eq_true.1 (chunk_dg h k) c hc)
  have h2 := chunk_len hk
  exact Nat.lt_of_lt_of_le h1 (by
    calc 10 ^ (chunk l k).length ≤ 10 ^ 4 := Nat.pow_le_pow_right (by omega) (by omega)
      _ = 10000 := rfl)
theorem rdTo_step {l : List UInt8} (h : l.all isDg = true) {k : Nat} {xs : List Nat} (H : rdTo l k xs) (hk : 0 < k) : rdTo l (k - 4) (xs ++ [nval (chunk l k)]) := by
  obtain ⟨h1, h2, h3⟩ := H
  refine ⟨isL_append h1 fun x hx => by rw [List.mem_singleton.1 hx]; exact chunk_val h (by omega), by simp; omega, ?_⟩
  rw [lv_snoc, ← h3, List.length_append, List.length_singleton, Nat.pow_succ, Nat.add_assoc, Nat.mul_assoc, ← Nat.mul_add]
  congr 2
  have e1 : l.take k = l.take (k - 4) ++ chunk l k := by
    unfold chunk
    have : l.take (k - 4) = (l.take k).take (k - 4) := by rw [List.take_take, Nat.min_eq_left (by omega)]
    rw [this, List.take_append_drop]
  rw [e1, nval_append, chunk_len (by omega)]
  by_cases h4 : 4 ≤ k
  · rw [show k - (k - 4) = 4 by omega]; omega
  · rw [show k - 4 = 0 by omega, List.take_zero]
    simp [nval]
theorem rdTo_done {l : List UInt8} {xs : List Nat} {n : Nat} (H : rdTo l 0 xs) (hl : l = ntx n) : isL xs ∧ lv xs = n := by
  obtain ⟨h1, _, h3⟩ := H
  refine ⟨h1, ?_⟩
  subst hl
  rw [nval_ntx] at h3
  simpa [nval] using h3
theorem cut_rest (l : List UInt8) (k : Nat) (hk : k ≤ l.length) (j : Nat) (hj : j ≤ k) : (mkS (l.take k)).extract 0 j = mkS (l.take j) := by
  apply s_ext
  rw [s_extract, mkS_l, mkS_l, List.drop_zero, List.take_take, Nat.min_eq_left hj]
theorem cut_chunk (l : List UInt8) (k : Nat) (hk : k ≤ l.length) : (mkS (l.take k)).extract (k - 4) k = mkS (chunk l k) := by
  apply s_ext
  rw [s_extract, mkS_l, mkS_l]
  unfold chunk
  rw [List.take_take, Nat.min_self]
theorem mkS_size (l : List UInt8) : (mkS l).size = l.length := by rw [sz, mkS_l]
set_option maxHeartbeats 1000000 in
theorem n_read (n : Nat) (w : World) (hn : ndg n ≤ 900000000) :
    Calls Tryz.prog 159 #[.string (nS n)] w fun e w' => RetL w n e w' := by
  have hdg : (ntx n).all isDg = true := by
    have := isN_ntx n
    simp only [isN, Bool.and_eq_true] at this
    exact this.1.2
  obtain ⟨l, hl⟩ : ∃ l, l = ntx n := ⟨_, rfl⟩
  have hlen : l.length ≤ 900000000 := by rw [hl, ntx_length]; exact hn
  have hS : nS n = mkS (l.take l.length) := by rw [List.take_length, hl]; rfl
  rw [← hl] at hdg
  rw [hS]
  have HL := Lib.hid hl
  clear hl hS
  have H0 : Hid (rdTo l l.length []) := ⟨isL_nil, by simp, by rw [List.take_length]; simp [lv]⟩
  go_enter Tryz.func159, Tryz.ntmps159
  go_wp2
  go_loopw [0, 3] (fun s out wr => ∃ (k : Nat) (xs : List Nat), k ≤ l.length ∧ s = .string (mkS (l.take k)) ∧ Hid (rdTo l k xs) ∧ Mu wr w.heap.size out xs ∧ Below w.heap.size w wr) (fun s _ _ => match s with | .string b => b.size | _ => 0)
  case atStart => exact ⟨l.length, [], Nat.le_refl _, rfl, H0, Own.nil, (by repeat (first | exact Below.refl _ _ | assumption | refine b_then ?_ (by assumption) | refine b_alloc ?_ _ | refine b_drewN ?_ _ | refine Below.drew ?_ | refine b_set ?_ (by first | exact Nat.le_refl _ | (simp; done) | (simp; omega) | omega) _))⟩
  case round =>
    obtain ⟨k, xs, hk, rfl, H, hown, hB⟩ := hrel
    have hsz : (mkS (l.take k)).size = k := by rw [mkS_size, List.length_take, Nat.min_eq_left hk]
    have hxl := H.out.2.1
    have hch := Lib.hid (chunk_dg hdg k)
    have hcl := chunk_len hk
    have hcv := Lib.hid (chunk_val hdg hk)
    have hR := Lib.hid (cut_rest l k hk (k - 4) (by omega))
    have hC := Lib.hid (cut_chunk l k hk)
    obtain ⟨S, HS⟩ : ∃ S, Hid (mkS (l.take k) = S) := ⟨_, rfl⟩
    rw [HS.out] at hR hC hsz ⊢
    by_cases hlt : 0 < k
    · have hne : Hid (chunk l k ≠ []) := fun e => by rw [e] at hcl; simp at hcl; omega
      have hcs : (chunk l k).length ≤ 18 := by omega
      have hxs : xs.length ≤ 900000000 := by omega
      have hs0 := hB.size
      by_cases h4 : 4 ≤ k
      · obtain ⟨j, rfl⟩ : ∃ j, k = j + 4 := ⟨k - 4, by omega⟩
        simp only [Nat.add_sub_cancel] at hR hC
        have hR' := hR.out
        have hC' := hC.out
        go_wp2_with (first | (go_at_call 177; (with_reducible refine (c_atoiL _ _ hcs hch.out hne.out).mono ?_); rintro e w1 ⟨rfl, hb1⟩; obtain ⟨hc1, hf1⟩ := bcell hb1; have hs1 := hb1.size; (try simp at hs1)) | (at_builtin; refine wpList_app (v := u3) E_limbs (by omega) ie_length ie_one rfl (.tmp 21) (.tmp 23) rfl rfl ((hown.below hb1).alloc _) ⟨w1.heap.size, 0, none⟩ 1 (dval (chunk l (j + 4))) rfl (new_cells _ _ _ _ rfl) (by first | omega | (simp; omega)) (by first | omega | (simp; omega)) (by first | omega | (simp; omega)) ?_; intro v2 w2 hown2 hg2 hat2))
        go_roundw
        case rel => exact ⟨j, xs ++ [dval (chunk l (j + 4))], by omega, rfl, by rw [dval_nval]; exact rdTo_step hdg H.out hlt, hown2, (((hown.below hb1).alloc _).frame (b_alloc (b_then hB hb1) _) (Nat.le_refl _) hg2)⟩
        case measure => simp [hsz, mkS_size]; omega
      · have hR' := hR.out
        have hC' := hC.out
        have hm : max ((k : Int) - 4) 0 = 0 := by omega
        have hk4 : k - 4 = 0 := by omega
        rw [hk4] at hR' hC'
        go_wp2_with (first | (go_at_call 177; (with_reducible refine (c_atoiL _ _ hcs hch.out hne.out).mono ?_); rintro e w1 ⟨rfl, hb1⟩; obtain ⟨hc1, hf1⟩ := bcell hb1; have hs1 := hb1.size; (try simp at hs1)) | (at_builtin; refine wpList_app (v := u3) E_limbs (by omega) ie_length ie_one rfl (.tmp 21) (.tmp 23) rfl rfl ((hown.below hb1).alloc _) ⟨w1.heap.size, 0, none⟩ 1 (dval (chunk l k)) rfl (new_cells _ _ _ _ rfl) (by first | omega | (simp; omega)) (by first | omega | (simp; omega)) (by first | omega | (simp; omega)) ?_; intro v2 w2 hown2 hg2 hat2))
        go_roundw
        case rel => exact ⟨0, xs ++ [dval (chunk l k)], by omega, rfl, by have := rdTo_step hdg H.out hlt; rw [hk4] at this; rw [dval_nval]; exact this, hown2, (((hown.below hb1).alloc _).frame (b_alloc (b_then hB hb1) _) (Nat.le_refl _) hg2)⟩
        case measure => simp [hsz, mkS_size]; omega
    · obtain rfl : k = 0 := by omega
      obtain ⟨hxl1, hval⟩ := rdTo_done H.out HL.out
      obtain ⟨A, c, rfl, hls, hc1, hc2⟩ := hown.ls (by omega)
      have hlen2 : (lim (lv xs)).length ≤ xs.length := lim_len_le (lv_lt hxl1)
      have htk := take_lim hxl1
      go_wp2_with (go_at_call 161; (with_reducible refine (n_trim _ _ _ _ _ hls hxl1 hc1 hc2).mono ?_); rintro e w' ⟨rfl, rfl⟩)
      go_ret
      have hm := hown.take hlen2
      rw [htk, hval] at hm
      exact ⟨A, c, rfl, hm, hB⟩

theorem n_may_yes (n : Nat) (w : World) (hn : ndg n ≤ 900000000) : Calls Tryz.prog 128 #[.string (nS n)] w fun e w' => e = .returned (.bool true) ∧ w = w' := by
  have := n_may (nS n) w (by rw [nS_size]; omega)
  rwa [isNB_nS] at this
def RetBoth (w : World) (a b : Nat) (e : Ending) (w' : World) : Prop :=
  ∃ A c B d, e = .returned (.tuple #[.slice A (lim a).length c, .slice B (lim b).length d, .bool true]) ∧ Mu w' w.heap.size (.slice A (lim a).length c) (lim a) ∧ Mu w' w.heap.size (.slice B (lim b).length d) (lim b) ∧ Below w.heap.size w w'
set_option maxHeartbeats 400000 in
theorem n_both (a b : Nat) (w : World) (ha : ndg a ≤ 900000000) (hb : ndg b ≤ 900000000) :
    Calls Tryz.prog 142 #[.string (nS a), .string (nS b)] w fun e w' => RetBoth w a b e w' := by
  go_enter Tryz.func142, Tryz.ntmps142
  go_wp2_with (first | (go_at_call 128; (with_reducible refine (n_may_yes _ _ (by assumption)).mono ?_); rintro e w' ⟨rfl, rfl⟩) |
    (go_at_call 159; (with_reducible refine (n_read a w ha).mono ?_); rintro e w1 ⟨A, c, rfl, hm1, hb1⟩) |
    (go_at_call 159; (with_reducible refine (n_read b w1 hb).mono ?_); rintro e w2 ⟨B, d, rfl, hm2, hb2⟩))
  go_ret3
  exact ⟨A, c, B, d, rfl, hm1.below hb2, hm2.lower hb1.size, b_then hb1 hb2⟩
end Go.Proofs.YtpoejheienohjaaGreatDoor
