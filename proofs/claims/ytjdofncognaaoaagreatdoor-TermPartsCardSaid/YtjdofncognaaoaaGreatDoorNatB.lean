/- Walks of nat: May, at, trim. -/
import Derived.Test.YtjdofncognaaoaaGreatDoorLib
import Derived.BigQuiet
import Derived.Deep.RegionWith
namespace Go.Proofs.YtjdofncognaaoaaGreatDoor
open Go.RowKit
set_option linter.unusedVariables false
set_option linter.unusedSimpArgs false

theorem isNB_lead {s : ByteArray} (h0 : 0 < s.size) (h1 : (s[0].toNat : Int) = 48) (h2 : (s.toList == [48]) = false) : isNB s = false := by
  rw [← Bool.not_eq_true]
  intro e
  have h3 : s.data.toList.head? = some 48 := by
    rw [head_at h0]
    exact congrArg some (UInt8.toNat_inj.1 (by rw [show (48 : UInt8).toNat = 48 from rfl]; omega))
  simp only [isNB, isN, Bool.and_eq_true, h3] at e
  rw [tl] at h2
  simp [h2] at e
theorem isNB_go {s : ByteArray} (h : dgUpto s s.size) (h0 : 0 < s.size) (h1 : (s[0].toNat : Int) = 48 → (s.toList == [48]) = true) : isNB s = true := by
  rw [isNB_hd h h0]
  by_cases h2 : (s[0].toNat : Int) = 48
  · rw [h1 h2]; rfl
  · simp [h2]
set_option maxHeartbeats 800000 in
theorem n_may (s : ByteArray) (w : World) (hs : s.size ≤ 9223372036854775807) :
    Calls Tryz.prog 152 #[.string s] w fun e w' => e = .returned (.bool (isNB s)) ∧ w = w' := by
  by_cases h0 : 0 < s.size
  · have hE : (s.toList == []) = false := by
      rw [tl]
      have := sz s
      cases hl : s.data.toList with
      | nil => rw [hl, List.length_nil] at this; omega
      | cons => rfl
    by_cases hq : (s[0].toNat : Int) = 48 ∧ (s.toList == [48]) = false
    · obtain ⟨hq1, hq2⟩ := hq
      have hr := isNB_lead h0 hq1 hq2
      go_enter Tryz.func152, Tryz.ntmps152
      go_wp2
      go_ret
      exact ⟨ret_bool hr.symm, rfl⟩
    · have HQ : Hid ((s[0].toNat : Int) = 48 → (s.toList == [48]) = true) := fun h => by
        cases h2 : (s.toList == [48]) with
        | true => rfl
        | false => exact absurd ⟨h, h2⟩ hq
      go_enter Tryz.func152, Tryz.ntmps152
      by_cases hq1 : (s[0].toNat : Int) = 48
      · have hq2 := HQ.out hq1
        go_wp2
        go_loop [17] (fun i => ∃ k : Nat, k ≤ s.size ∧ i = .int .i64 k ∧ Hid (dgUpto s k)) (fun i => s.size - (intOf i).toNat)
        case atStart => exact ⟨0, Nat.zero_le _, rfl, fun _ _ h => by omega⟩
        case round =>
          obtain ⟨k, hk, rfl, H⟩ := hrel
          by_cases hlt : k < s.size
          · have hr := s[k].toNat_lt
            go_wp2
            · go_ret
              exact ⟨ret_bool (isNB_no hlt (by omega)).symm, rfl⟩
            · go_round
              case rel => exact ⟨k + 1, by omega, by go_num, dgUpto_succ H.out hlt (by omega) (by omega)⟩
              case measure => simp [intOf]; omega
            · go_ret
              exact ⟨ret_bool (isNB_no hlt (by omega)).symm, rfl⟩
          · obtain rfl : k = s.size := by omega
            go_wp2
            go_ret
            exact ⟨ret_bool (isNB_go H.out h0 HQ.out).symm, rfl⟩
      · go_wp2
        go_loop [17] (fun i => ∃ k : Nat, k ≤ s.size ∧ i = .int .i64 k ∧ Hid (dgUpto s k)) (fun i => s.size - (intOf i).toNat)
        case atStart => exact ⟨0, Nat.zero_le _, rfl, fun _ _ h => by omega⟩
        case round =>
          obtain ⟨k, hk, rfl, H⟩ := hrel
          by_cases hlt : k < s.size
          · have hr := s[k].toNat_lt
            go_wp2
            · go_ret
              exact ⟨ret_bool (isNB_no hlt (by omega)).symm, rfl⟩
            · go_round
              case rel => exact ⟨k + 1, by omega, by go_num, dgUpto_succ H.out hlt (by omega) (by omega)⟩
              case measure => simp [intOf]; omega
            · go_ret
              exact ⟨ret_bool (isNB_no hlt (by omega)).symm, rfl⟩
          · obtain rfl : k = s.size := by omega
            go_wp2
            go_ret
            exact ⟨ret_bool (isNB_go H.out h0 HQ.out).symm, rfl⟩
  · have hE : (s.toList == []) = true := by
      rw [tl]
      have := sz s
      cases hl : s.data.toList with
      | nil => rfl
      | cons => rw [hl, List.length_cons] at this; omega
    have hr : isNB s = false := by
      have h1 : s.data.toList = [] := by rw [tl] at hE; simpa using hE
      simp [isNB, isN, h1]
    go_enter Tryz.func152, Tryz.ntmps152
    go_wp2
    go_ret
    exact ⟨ret_bool hr.symm, rfl⟩

/-! ### at -/
set_option maxHeartbeats 400000 in
theorem n_at (A : Option Addr) (n c : Nat) (xs : List Nat) (i : Nat) (w : World) (ha : Ls w A n xs) (hi : i ≤ 4000000000) :
    Calls Tryz.prog 202 #[.slice A n c, .int .i64 (i : Nat)] w fun e w' => e = .returned (.int .i64 (xs.getD i 0 : Nat)) ∧ w = w' := by
  have hbig := ha.big
  have hl := ha.len
  by_cases h : i < n
  · obtain ⟨b, off, rfl, hb, hc⟩ := ha.at_ h
    have hg : xs.getD i 0 = xs[i] := by rw [List.getD, List.getElem?_eq_getElem (by omega)]; rfl
    go_enter Tryz.func202, Tryz.ntmps202
    go_wp2
    go_ret
    exact ⟨ret_int (by rw [hg]), rfl⟩
  · have hg : xs.getD i 0 = 0 := by rw [List.getD, List.getElem?_eq_none (by omega)]; rfl
    go_enter Tryz.func202, Tryz.ntmps202
    go_wp2
    go_ret
    exact ⟨ret_int (by rw [hg]; rfl), rfl⟩

/-! ### trim -/
theorem lim_cut {xs : List Nat} (h : isL xs) {k : Nat} (hk : k ≤ xs.length) (he : lv (xs.take k) = lv xs) (h0 : ∀ h : 0 < k, xs[k - 1]'(by omega) ≠ 0) : xs.take k = lim (lv xs) := by
  rw [← he]
  apply lim_of (isL_take h k)
  intro x hx
  rw [List.getLast?_eq_getElem?, List.length_take, Nat.min_eq_left hk, List.getElem?_take] at hx
  split at hx
  · rename_i hlt
    rw [List.getElem?_eq_getElem (by omega)] at hx
    injection hx with hx
    rw [← hx]
    exact h0 (by omega)
  · cases hx
theorem lv_cut {xs : List Nat} {k : Nat} (hk : k < xs.length) (he : lv (xs.take (k + 1)) = lv xs) (h0 : xs[k] = 0) : lv (xs.take k) = lv xs := by
  rw [← he, lv_take_succ _ _ hk, h0, Nat.mul_zero, Nat.add_zero]
theorem len_cut {xs : List Nat} {k : Nat} (hk : k ≤ xs.length) (h : xs.take k = lim (lv xs)) : (lim (lv xs)).length = k := by rw [← h, List.length_take, Nat.min_eq_left hk]
set_option maxHeartbeats 400000 in
theorem n_trim (A : Option Addr) (n c : Nat) (xs : List Nat) (w : World) (ha : Ls w A n xs) (hL : isL xs) (hc : n ≤ c) (hc2 : c ≤ 9223372036854775807) :
    Calls Tryz.prog 203 #[.slice A n c] w fun e w' => e = .returned (.slice A (lim (lv xs)).length c) ∧ w = w' := by
  have hbig := ha.big
  have hl := ha.len
  go_enter Tryz.func203, Tryz.ntmps203
  go_wp2
  go_loop [0] (fun v => ∃ k : Nat, k ≤ n ∧ v = .slice A k c ∧ Hid (lv (xs.take k) = lv xs)) (fun v => match v with | .slice _ k _ => k | _ => 0)
  case atStart => exact ⟨n, Nat.le_refl _, rfl, by rw [← hl, List.take_length]; rfl⟩
  case round =>
    obtain ⟨k, hk, rfl, H⟩ := hrel
    by_cases hlt : 0 < k
    · have hp : k - 1 < n := by omega
      obtain ⟨b, off, rfl, hb, hcell⟩ := ha.at_ hp
      obtain ⟨p, hp1⟩ : ∃ p, k = p + 1 := ⟨k - 1, by omega⟩
      subst hp1
      simp only [Nat.add_sub_cancel] at hcell hp
      have hx : xs[p]'(by omega) < 10000 := isL_get hL (by omega)
      by_cases he : xs[p]'(by omega) = 0
      · rw [he] at hcell
        go_wp2
        go_round
        case rel => exact ⟨p, by omega, by simp, lv_cut (by omega) H.out he⟩
        case measure => simp
      · go_wp2
        go_ret
        have h1 := len_cut (by omega) (lim_cut hL (by omega) H.out fun _ => by simpa using he)
        exact ⟨by rw [h1]; rfl, rfl⟩
    · go_wp2
      go_ret
      have h1 := len_cut (by omega) (lim_cut hL (by omega) H.out fun h => absurd h hlt)
      exact ⟨by rw [h1]; rfl, rfl⟩
end Go.Proofs.YtjdofncognaaoaaGreatDoor

/- Walks of nat: read, both. -/
namespace Go.Proofs.YtjdofncognaaoaaGreatDoor
open Go.RowKit
set_option linter.unusedVariables false
set_option linter.unusedSimpArgs false

/-- What is handed back is a slice of the call's own that holds the limbs of n. -/
def RetL (w : World) (n : Nat) (e : Ending) (w' : World) : Prop := ∃ A c, e = .returned (.slice A (lim n).length c) ∧ Mu w' w.heap.size (.slice A (lim n).length c) (lim n) ∧ Below w.heap.size w w'
def rdTo (l : List UInt8) (k : Nat) (xs : List Nat) : Prop := isL xs ∧ xs.length + k ≤ l.length ∧ lv xs + 10000 ^ xs.length * nval (l.take k) = nval l
def chunk (l : List UInt8) (k : Nat) : List UInt8 := (l.take k).drop (k - 4)
theorem chunk_dg {l : List UInt8} (h : l.all isDg = true) (k : Nat) : (chunk l k).all isDg = true := by
  rw [List.all_eq_true] at h ⊢
  exact fun c hc => h c (List.mem_of_mem_take (List.mem_of_mem_drop hc))
theorem chunk_len {l : List UInt8} {k : Nat} (hk : k ≤ l.length) : (chunk l k).length = k - (k - 4) := by simp [chunk]; omega
theorem chunk_val {l : List UInt8} (h : l.all isDg = true) {k : Nat} (hk : k ≤ l.length) : nval (chunk l k) < 10000 := by
  have h1 := nval_lt (chunk l k) (fun c hc => List.all_eq_true.1 (chunk_dg h k) c hc)
  have h2 := chunk_len hk
  exact Nat.lt_of_lt_of_le h1 (by
    calc 10 ^ (chunk l k).length ≤ 10 ^ 4 := Nat.pow_le_pow_right (by omega) (by omega)
      _ = 10000 := rfl)
theorem rdTo_step {l : List UInt8} (h : l.all isDg = true) {k : Nat} {xs : List Nat} (H : rdTo l k xs) (hk : 0 < k) : rdTo l (k - 4) (xs ++ [nval (chunk l k)]) := by
  obtain ⟨h1, h2, h3⟩ := H
  refine ⟨isL_append h1 fun x hx => by rw [List.mem_singleton.1 hx]; exact chunk_val h (by omega), by simp; omega, ?_⟩
  rw [lv_snoc, ← h3, List.length_append, List.length_singleton, Nat.pow_succ, Nat.add_assoc, Nat.mul_assoc, ← Nat.mul_add]
  congr 2
  have e1 : l.take k = l.take (k - 4) ++ chunk l k := by
    unfold chunk
    have : l.take (k - 4) = (l.take k).take (k - 4) := by rw [List.take_take, Nat.min_eq_left (by omega)]
    rw [this, List.take_append_drop]
  rw [e1, nval_append, chunk_len (by omega)]
  by_cases h4 : 4 ≤ k
  · rw [show k - (k - 4) = 4 by omega]; omega
  · rw [show k - 4 = 0 by omega, List.take_zero]
    simp [nval]
theorem rdTo_done {l : List UInt8} {xs : List Nat} {n : Nat} (H : rdTo l 0 xs) (hl : l = ntx n) : isL xs ∧ lv xs = n := by
  obtain ⟨h1, _, h3⟩ := H
  refine ⟨h1, ?_⟩
  subst hl
  rw [nval_ntx] at h3
  simpa [nval] using h3
theorem cut_rest (l : List UInt8) (k : Nat) (hk : k ≤ l.length) (j : Nat) (hj : j ≤ k) : (mkS (l.take k)).extract 0 j = mkS (l.take j) := by
  apply s_ext
  rw [s_extract, mkS_l, mkS_l, List.drop_zero, List.take_take, Nat.min_eq_left hj]
theorem cut_chunk (l : List UInt8) (k : Nat) (hk : k ≤ l.length) : (mkS (l.take k)).extract (k - 4) k = mkS (chunk l k) := by
  apply s_ext
  rw [s_extract, mkS_l, mkS_l]
  unfold chunk
  rw [List.take_take, Nat.min_self]
theorem mkS_size (l : List UInt8) : (mkS l).size = l.length := by rw [sz, mkS_l]
set_option maxHeartbeats 1000000 in
theorem n_read (n : Nat) (w : World) (hn : ndg n ≤ 900000000) :
    Calls Tryz.prog 201 #[.string (nS n)] w fun e w' => RetL w n e w' := by
  have hdg : (ntx n).all isDg = true := by
    have := isN_ntx n
    simp only [isN, Bool.and_eq_true] at this
    exact this.1.2
  obtain ⟨l, hl⟩ : ∃ l, l = ntx n := ⟨_, rfl⟩
  have hlen : l.length ≤ 900000000 := by rw [hl, ntx_length]; exact hn
  have hS : nS n = mkS (l.take l.length) := by rw [List.take_length, hl]; rfl
  rw [← hl] at hdg
  rw [hS]
  have HL := Lib.hid hl
  clear hl hS
  have H0 : Hid (rdTo l l.length []) := ⟨isL_nil, by simp, by rw [List.take_length]; simp [lv]⟩
  go_enter Tryz.func201, Tryz.ntmps201
  go_wp2
  go_loopw [0, 3] (fun s out wr => ∃ (k : Nat) (xs : List Nat), k ≤ l.length ∧ s = .string (mkS (l.take k)) ∧ Hid (rdTo l k xs) ∧ Mu wr w.heap.size out xs ∧ Below w.heap.size w wr) (fun s _ _ => match s with | .string b => b.size | _ => 0)
  case atStart => exact ⟨l.length, [], Nat.le_refl _, rfl, H0, Own.nil, (by repeat (first | exact Below.refl _ _ | assumption | refine b_then ?_ (by assumption) | refine b_alloc ?_ _ | refine b_drewN ?_ _ | refine Below.drew ?_ | refine b_set ?_ (by first | exact Nat.le_refl _ | (simp; done) | (simp; omega) | omega) _))⟩
  case round =>
    obtain ⟨k, xs, hk, rfl, H, hown, hB⟩ := hrel
    have hsz : (mkS (l.take k)).size = k := by rw [mkS_size, List.length_take, Nat.min_eq_left hk]
    have hxl := H.out.2.1
    have hch := Lib.hid (chunk_dg hdg k)
    have hcl := chunk_len hk
    have hcv := Lib.hid (chunk_val hdg hk)
    have hR := Lib.hid (cut_rest l k hk (k - 4) (by omega))
    have hC := Lib.hid (cut_chunk l k hk)
    obtain ⟨S, HS⟩ : ∃ S, Hid (mkS (l.take k) = S) := ⟨_, rfl⟩
    rw [HS.out] at hR hC hsz ⊢
    by_cases hlt : 0 < k
    · have hne : Hid (chunk l k ≠ []) := fun e => by rw [e] at hcl; simp at hcl; omega
      have hcs : (chunk l k).length ≤ 18 := by omega
      have hxs : xs.length ≤ 900000000 := by omega
      have hs0 := hB.size
      by_cases h4 : 4 ≤ k
      · obtain ⟨j, rfl⟩ : ∃ j, k = j + 4 := ⟨k - 4, by omega⟩
        simp only [Nat.add_sub_cancel] at hR hC
        have hR' := hR.out
        have hC' := hC.out
        go_wp2_with (first | (go_at_call 223; (with_reducible refine (c_atoiL _ _ hcs hch.out hne.out).mono ?_); rintro e w1 ⟨rfl, hb1⟩; obtain ⟨hc1, hf1⟩ := bcell hb1; have hs1 := hb1.size; (try simp at hs1)) | (at_builtin; refine wpList_app (v := u3) E_limbs (by omega) ie_length ie_one rfl (.tmp 21) (.tmp 23) rfl rfl ((hown.below hb1).alloc _) ⟨w1.heap.size, 0, none⟩ 1 (dval (chunk l (j + 4))) rfl (new_cells _ _ _ _ rfl) (by first | omega | (simp; omega)) (by first | omega | (simp; omega)) (by first | omega | (simp; omega)) ?_; intro v2 w2 hown2 hg2 hat2))
        go_roundw
        case rel => exact ⟨j, xs ++ [dval (chunk l (j + 4))], by omega, rfl, by rw [dval_nval]; exact rdTo_step hdg H.out hlt, hown2, (((hown.below hb1).alloc _).frame (b_alloc (b_then hB hb1) _) (Nat.le_refl _) hg2)⟩
        case measure => simp [hsz, mkS_size]; omega
      · have hR' := hR.out
        have hC' := hC.out
        have hm : max ((k : Int) - 4) 0 = 0 := by omega
        have hk4 : k - 4 = 0 := by omega
        rw [hk4] at hR' hC'
        go_wp2_with (first | (go_at_call 223; (with_reducible refine (c_atoiL _ _ hcs hch.out hne.out).mono ?_); rintro e w1 ⟨rfl, hb1⟩; obtain ⟨hc1, hf1⟩ := bcell hb1; have hs1 := hb1.size; (try simp at hs1)) | (at_builtin; refine wpList_app (v := u3) E_limbs (by omega) ie_length ie_one rfl (.tmp 21) (.tmp 23) rfl rfl ((hown.below hb1).alloc _) ⟨w1.heap.size, 0, none⟩ 1 (dval (chunk l k)) rfl (new_cells _ _ _ _ rfl) (by first | omega | (simp; omega)) (by first | omega | (simp; omega)) (by first | omega | (simp; omega)) ?_; intro v2 w2 hown2 hg2 hat2))
        go_roundw
        case rel => exact ⟨0, xs ++ [dval (chunk l k)], by omega, rfl, by have := rdTo_step hdg H.out hlt; rw [hk4] at this; rw [dval_nval]; exact this, hown2, (((hown.below hb1).alloc _).frame (b_alloc (b_then hB hb1) _) (Nat.le_refl _) hg2)⟩
        case measure => simp [hsz, mkS_size]; omega
    · obtain rfl : k = 0 := by omega
      obtain ⟨hxl1, hval⟩ := rdTo_done H.out HL.out
      obtain ⟨A, c, rfl, hls, hc1, hc2⟩ := hown.ls (by omega)
      have hlen2 : (lim (lv xs)).length ≤ xs.length := lim_len_le (lv_lt hxl1)
      have htk := take_lim hxl1
      go_wp2_with (go_at_call 203; (with_reducible refine (n_trim _ _ _ _ _ hls hxl1 hc1 hc2).mono ?_); rintro e w' ⟨rfl, rfl⟩)
      go_ret
      have hm := hown.take hlen2
      rw [htk, hval] at hm
      exact ⟨A, c, rfl, hm, hB⟩

theorem n_may_yes (n : Nat) (w : World) (hn : ndg n ≤ 900000000) : Calls Tryz.prog 152 #[.string (nS n)] w fun e w' => e = .returned (.bool true) ∧ w = w' := by
  have := n_may (nS n) w (by rw [nS_size]; omega)
  rwa [isNB_nS] at this
def RetBoth (w : World) (a b : Nat) (e : Ending) (w' : World) : Prop :=
  ∃ A c B d, e = .returned (.tuple #[.slice A (lim a).length c, .slice B (lim b).length d, .bool true]) ∧ Mu w' w.heap.size (.slice A (lim a).length c) (lim a) ∧ Mu w' w.heap.size (.slice B (lim b).length d) (lim b) ∧ Below w.heap.size w w'
set_option maxHeartbeats 400000 in
theorem n_both (a b : Nat) (w : World) (ha : ndg a ≤ 900000000) (hb : ndg b ≤ 900000000) :
    Calls Tryz.prog 173 #[.string (nS a), .string (nS b)] w fun e w' => RetBoth w a b e w' := by
  go_enter Tryz.func173, Tryz.ntmps173
  go_wp2_with (first | (go_at_call 152; (with_reducible refine (n_may_yes _ _ (by assumption)).mono ?_); rintro e w' ⟨rfl, rfl⟩) |
    (go_at_call 201; (with_reducible refine (n_read a w ha).mono ?_); rintro e w1 ⟨A, c, rfl, hm1, hb1⟩) |
    (go_at_call 201; (with_reducible refine (n_read b w1 hb).mono ?_); rintro e w2 ⟨B, d, rfl, hm2, hb2⟩))
  go_ret3
  exact ⟨A, c, B, d, rfl, hm1.below hb2, hm2.lower hb1.size, b_then hb1 hb2⟩
end Go.Proofs.YtjdofncognaaoaaGreatDoor

/- Walks of nat: text. -/
namespace Go.Proofs.YtjdofncognaaoaaGreatDoor
open Go.RowKit Go.Shelf
set_option linter.unusedVariables false
set_option linter.unusedSimpArgs false
attribute [local go_sem] Oper.semAt_some

/-- The text of the limbs at these places. -/
def tbuf (xs : List Nat) (l : List (Fin xs.length)) : List UInt8 := l.flatMap fun i => if i.1 + 1 < xs.length then fdg 4 xs[i.1] else ntx xs[i.1]
theorem tbuf_snoc (xs : List Nat) (l : List (Fin xs.length)) (i : Fin xs.length) : tbuf xs (l ++ [i]) = tbuf xs l ++ (if i.1 + 1 < xs.length then fdg 4 xs[i.1] else ntx xs[i.1]) := by simp [tbuf]
theorem ndg4 {x : Nat} (h : x < 10000) : ndg x ≤ 4 := ndg_le_of (by omega) (by omega)
theorem tbuf_len {xs : List Nat} (h : isL xs) (l : List (Fin xs.length)) : (tbuf xs l).length ≤ 4 * l.length := by
  induction l with
  | nil => simp [tbuf]
  | cons i l ih =>
    have h1 := ndg4 (isL_get h i.2)
    have : tbuf xs (i :: l) = (if i.1 + 1 < xs.length then fdg 4 xs[i.1] else ntx xs[i.1]) ++ tbuf xs l := by simp [tbuf]
    rw [this, List.length_append, List.length_cons]
    split
    · rw [fdg_length]; omega
    · rw [ntx_length]; omega
theorem tbuf_all {xs : List Nat} (h : isL xs) (hn : xs ≠ []) (ht : ∀ x, xs.getLast? = some x → x ≠ 0) : tbuf xs (List.finRange xs.length).reverse = ntx (lv xs) := by
  have key : ∀ k, 0 < k → k ≤ xs.length → tbuf xs (backs xs.length k) = ntx (lv (xs.drop (xs.length - k))) ∧ 0 < lv (xs.drop (xs.length - k)) := by
    intro k
    induction k with
    | zero => intro h; omega
    | succ k ih =>
      intro _ hk
      rw [backs_succ _ _ (by omega), tbuf_snoc]
      have hd : xs.drop (xs.length - (k + 1)) = xs[xs.length - 1 - k] :: xs.drop (xs.length - k) := by
        rw [show xs.length - (k + 1) = xs.length - 1 - k by omega, List.drop_eq_getElem_cons (by omega), show xs.length - 1 - k + 1 = xs.length - k by omega]
      have hx := isL_get h (k := xs.length - 1 - k) (by omega)
      rw [hd, lv]
      by_cases h0 : k = 0
      · subst h0
        have h1 : xs[xs.length - 1 - 0] ≠ 0 := by
          apply ht
          rw [List.getLast?_eq_getElem?, List.getElem?_eq_getElem (by omega)]; rfl
        simp only [Nat.sub_zero, backs_zero, List.drop_length, lv, Nat.mul_zero, Nat.add_zero] at h1 ⊢
        rw [if_neg (by omega)]
        exact ⟨by simp [tbuf], by omega⟩
      · obtain ⟨e, hp⟩ := ih (by omega) (by omega)
        rw [e, if_pos (by show xs.length - 1 - k + 1 < xs.length; omega)]
        exact ⟨(ntx_limb hp hx).symm, by omega⟩
  have hl : 0 < xs.length := by
    cases xs with
    | nil => exact absurd rfl hn
    | cons => simp
  have := (key xs.length hl (Nat.le_refl _)).1
  rw [backs_all, Nat.sub_self, List.drop_zero] at this
  exact this
theorem builder_own {β : Type} (T e : TypeId) (B b : Nat) (f : β → List Value) : Go.Own (fun s W => Lib.IsBuilder T e B b (f s) W) := by
  have key : ∀ (p : Value) (s : β) (X Y : World) (row : Option Nat), Lib.BuilderAt T e B b p (f s) X → X.grownBy Y row → (∀ r, row = some r → ∃ o : Obj, X.heap[r]? = some o ∧ o.isCells = false) → Lib.BuilderAt T e B b p (f s) Y := by
    rintro p s X Y row ⟨hB, v, hb, hown, hne⟩ hg hrow
    refine ⟨hB, v, ?_, hown.kept hg ?_, hne⟩
    · rw [hg.block b (Array.getElem?_eq_some_iff.1 hb).1 ?_]
      · exact hb
      · intro e'
        obtain ⟨o, ho, hc⟩ := hrow b e'.symm
        rw [hb] at ho; cases ho; cases hc
    · rcases hown.2 with ⟨rfl, _⟩ | ⟨g, cap, cur, rfl, _, hgb, _⟩
      · exact .inl rfl
      · refine .inr fun e' => ?_
        obtain ⟨o, ho, hc⟩ := hrow g (by simpa [Value.ownBlock] using e'.symm)
        rw [hgb] at ho; cases ho; cases hc
  rintro s X Y row (h | h) hg hrow
  · exact .inl (key _ s X Y row h hg hrow)
  · exact .inr (key _ s X Y row h hg hrow)
theorem others_keep {e : TypeId} {b : Nat} {w w' : World} (h : Lib.OthersKept e (some b) w w') (hs : w.heap.size ≤ w'.heap.size) {T : TypeId} {cs : Array Value} (hb : w.heap[b]? = some (.cells cs T (0, 0))) : KeepsOthers w w' :=
  ⟨hs, fun k o hk ho => h k o hk (fun e => by cases e; rw [hb] at hk; cases hk; cases ho) (fun c fz e => by subst e; cases ho)⟩
theorem others_below {w w' : World} (h : Below w.heap.size w w') : KeepsOthers w w' := ⟨h.size, fun k o hk _ => (h.block k (Array.getElem?_eq_some_iff.1 hk).1).trans hk⟩
theorem others_box {e : TypeId} {b B : Nat} {t : TypeId} {v : Value} {w w' : World} (h : Lib.OthersKept e (some b) w w') (hb : Boxed w B t v) (hne : B ≠ b) (ht : t ≠ e) : Boxed w' B t v :=
  h B _ hb (fun e => hne (Option.some.inj e)) (fun c fz e => by injection e with _ e2; exact ht e2)
theorem below_box {B : Nat} {t : TypeId} {v : Value} {w w' : World} (h : Below w.heap.size w w') (hb : Boxed w B t v) : Boxed w' B t v := (h.block B hb.lt).trans hb

theorem c_itoaN (n : Nat) (w : World) (h1 : n ≤ 9223372036854775807) (hg : Glob w) :
    Calls Tryz.prog 88 #[.int .i64 (n : Nat)] w fun e w' => e = .returned (.string (nS n)) ∧ Below w.heap.size w w' := by
  have := c_itoa (n : Int) w (by omega) (by omega) hg
  rwa [iS_nat] at this
theorem c_zeros (q : Nat) (w : World) (hq : q ≤ 4) : Calls Tryz.prog 158 #[.string { data := #[48] }, .int .i64 (q : Nat)] w fun e w' => e = .returned (.string (mkS (List.replicate q 48))) ∧ Below w.heap.size w w' := by
  have h1 : (ByteArray.mk #[48]).size = 1 := rfl
  have := c_repeat (ByteArray.mk #[48]) q w (by omega) (by rw [h1]; omega)
  have e : Lib.repeatL (ByteArray.mk #[48]).data.toList q = List.replicate q 48 := by
    have := Lib.repeatL_replicate 48 1 q
    rwa [Nat.mul_one] at this
  rwa [e] at this
theorem builder_below {T e : TypeId} {B b : Nat} {bs : List Value} {w w' : World} (h : Lib.IsBuilder T e B b bs w) (hb : Below w.heap.size w w') : Lib.IsBuilder T e B b bs w' :=
  builder_own T e B b (fun _ : Unit => bs) () w w' none h (grown_of_below hb none) (fun r e => by cases e)
theorem builder_others {T e : TypeId} {B b : Nat} {bs : List Value} {w w' : World} (h : Lib.IsBuilder T e B b bs w) (hk : Lib.OthersKept e (some b) w w') (hs : w.heap.size ≤ w'.heap.size) : KeepsOthers w w' := by
  rcases h with ⟨_, v, hb, _⟩ | ⟨_, v, hb, _⟩ <;> exact others_keep hk hs hb
theorem bl (l : List UInt8) : (Lib.byteCells l).length = l.length := Lib.byteCells_length l
theorem sl (s : ByteArray) : (Lib.strCells s).length = s.size := Lib.strCells_length s
theorem tb_more {xs : List Nat} {pre : List (Fin xs.length)} {x : Fin xs.length} {q : Nat} (hi : x.1 + 1 < xs.length) (hx : xs[x.1] < 10000) (hq : 4 - ndg xs[x.1] = q) :
    Lib.byteCells (tbuf xs pre) ++ Lib.strCells (mkS (List.replicate q 48)) ++ Lib.strCells (nS xs[x.1]) = Lib.byteCells (tbuf xs (pre ++ [x])) := by
  rw [tbuf_snoc, if_pos hi, fdg4 hx, hq, Lib.byteCells_append, Lib.byteCells_append, List.append_assoc]; rfl
theorem tb_last {xs : List Nat} {pre : List (Fin xs.length)} {x : Fin xs.length} (hi : ¬ x.1 + 1 < xs.length) :
    Lib.byteCells (tbuf xs pre) ++ Lib.strCells (nS xs[x.1]) = Lib.byteCells (tbuf xs (pre ++ [x])) := by
  rw [tbuf_snoc, if_neg hi, Lib.byteCells_append]; rfl

set_option maxRecDepth 100000 in
set_option maxHeartbeats 4000000 in
theorem n_text (A : Option Addr) (n m c : Nat) (w : World) (hg : Glob w) (hm : (lim n).length = m) (ha : Ls w A m (lim n)) (hn : ndg n ≤ 900000000) :
    Calls Tryz.prog 175 #[.slice A m c] w fun e w' => e = .returned (.string (nS n)) ∧ Below w.heap.size w w' := by
  refine (callsIn_wide (n := 5)).1 ?_
  refine callsIn_of_wp_marks Tryz.func175 rfl trivial ?_ rfl
  simp only [Tryz.ntmps175, List.size_toArray, List.length_cons, List.length_nil, Nat.reduceAdd, Nat.reduceSub, Array.replicate_succ, Array.replicate_zero, List.push_toArray, List.append_toArray, List.nil_append, List.cons_append]
  have hab := ha.big
  by_cases h0 : n = 0
  · subst h0
    have hm0 : m = 0 := by rw [← hm, lim_zero]; rfl
    subst hm0
    gi_wp2
    exact bodyM_ret (v := .string (nS 0)) (by simp [results, Tryz.f175, go_sem]; rfl) ⟨rfl, (by repeat (first | exact Below.refl _ _ | assumption | refine b_then ?_ (by assumption) | refine b_alloc ?_ _ | refine b_drewN ?_ _ | refine Below.drew ?_ | refine b_set ?_ (by first | exact Nat.le_refl _ | (simp; done) | (simp; omega) | omega) _))⟩
  · have hm0 : 0 < m := by rw [← hm]; have := lim_len_zero (n := n); omega
    gi_wp2_with (refine ⟨trivial, ?_⟩; gi_at_call 204; refine (back_in Fence.wide _ trivial rfl _ _ _ _).mono ?_; rintro e w' ⟨rfl, rfl⟩)
    obtain ⟨xs, hxs⟩ : ∃ xs, lim n = xs := ⟨_, rfl⟩
    have hL : isL xs := by rw [← hxs]; exact isL_lim n
    have hlast : ∀ x, xs.getLast? = some x → x ≠ 0 := by rw [← hxs]; exact lim_last n
    have hval : lv xs = n := by rw [← hxs]; exact lv_lim n
    rw [hxs] at hm ha
    subst hm
    have bX := Boxed.new w 160 (.slice A xs.length c)
    have bB := World.alloc_heap_new (w.alloc (.cells #[.slice A xs.length c] 160)) (.cells #[.pointer none, .slice none 0 0] 137)
    have bN := Boxed.new ((w.alloc (.cells #[.slice A xs.length c] 160)).alloc (.cells #[.pointer none, .slice none 0 0] 137)) 160 (.slice A xs.length c)
    simp only [World.size_alloc] at bB bN
    have hB0 : Below w.heap.size w (((w.alloc (.cells #[.slice A xs.length c] 160)).alloc (.cells #[.pointer none, .slice none 0 0] 137)).alloc (.cells #[.slice A xs.length c] 160)) := (by repeat (first | exact Below.refl _ _ | assumption | refine b_then ?_ (by assumption) | refine b_alloc ?_ _ | refine b_drewN ?_ _ | refine Below.drew ?_ | refine b_set ?_ (by first | exact Nat.le_refl _ | (simp; done) | (simp; omega) | omega) _))
    have hbd : Lib.IsBuilder 137 5 w.heap.size (w.heap.size + 1) (Lib.byteCells (tbuf xs [])) (((w.alloc (.cells #[.slice A xs.length c] 160)).alloc (.cells #[.pointer none, .slice none 0 0] 137)).alloc (.cells #[.slice A xs.length c] 160)) :=
      .inl ⟨by omega, _, (Below.heap_alloc _ _ _ (by simp)).trans bB, World.ownsRow_nil _ _ _ _, by simp [Value.ownBlock]⟩
    refine wpIn_rangeFunc_ownF rfl (by omega) (gf := 224) (lb := #[.pointer (some ⟨w.heap.size + 1 + 1, 0, none⟩)]) rfl trivial (enters_of Tryz.func224 (by kernel_rfl) rfl)
      (back_stops Fence.wide _ trivial rfl (by omega) (w.heap.size + 1 + 1) w.heap.size _ _ _ xs _ (by simp) (by simp; omega) bN.cell (w0 := w) rfl ha hB0) (fun h k => h.trans k) (KpI.turn (by simp; omega) (by simp)) (Below.refl _ _) (fun _ => rfl)
      (fun pre W => (Lib.IsBuilder 137 5 w.heap.size (w.heap.size + 1) (Lib.byteCells (tbuf xs pre)) W ∧ Boxed W w.heap.size 160 (.slice A xs.length c) ∧ Boxed W (w.heap.size + 1 + 1) 160 (.slice A xs.length c)) ∧ Below w.heap.size w W)
      (fun _ _ _ => False)
      (OwnFrom.and (OwnFrom.and (Go.Own.from (builder_own _ _ _ _ _) _) (OwnFrom.and (Go.Own.from (boxed_own _ _ _) _) (Go.Own.from (boxed_own _ _ _) _))) (ownFrom_below (Nat.le_refl _) (by simp; omega)))
      (fun _ _ _ _ _ hs _ _ => hs)
      ⟨⟨hbd, (bX.alloc _).alloc _, bN⟩, hB0⟩
      (fun x => { tmps := #[.slice A xs.length c, .pointer (some ⟨w.heap.size, 0, none⟩), .string { data := #[] }, .pointer (some ⟨w.heap.size + 1, 0, none⟩), .int .i64 (x.1 : Nat), .int .i64 (xs[x.1] : Nat), undef, .slice A xs.length c,
          .int .i64 xs.length, .bool false, .slice A xs.length c, .func (.func 224) #[] #[.pointer (some ⟨w.heap.size + 1 + 1, 0, none⟩)], .int .i64 (x.1 : Nat), .int .i64 (xs[x.1] : Nat),
          undef, undef, undef, undef, undef, undef, undef, undef, undef, undef, undef, undef, undef, undef, undef], defers := [] }) ?assign ?body ?done ?stop
    case assign =>
      intro l x W K hK
      simp only [benc]
      gi_wp2
      exact hK
    case body =>
      rintro l pre x W ⟨⟨hbd, hbx, hbs⟩, hBl⟩ hpl
      have hx : xs[x.1] < 10000 := isL_get hL x.2
      have hx4 := ndg4 hx
      have hxp := ndg_pos xs[x.1]
      have hGW := hg.below hBl
      have htb := tbuf_len hL pre
      have hxl : x.1 < xs.length := x.2
      have hB := hBl.size
      obtain ⟨q, hq⟩ : ∃ q, 4 - ndg xs[x.1] = q := ⟨_, rfl⟩
      have hq1 : (4 : Int) - (ndg xs[x.1] : Nat) = (q : Nat) := by omega
      have hnS : (nS xs[x.1]).size = ndg xs[x.1] := nS_size _
      have hbn : W.heap.size ≤ W.heap.size := Nat.le_refl _
      have hms : (mkS (List.replicate q 48)).size ≤ 4 := by rw [mkS_size, List.length_replicate]; omega
      by_cases hi : x.1 + 1 < xs.length
      · gi_wp2_with (first
          | (refine ⟨trivial, ?_⟩; gi_at_call 88; (with_reducible refine (CallsIn.inRound l (callsIn_wide.2 (c_itoaN xs[x.1] W (by omega) hGW))).mono ?_); rintro e w1 ⟨rfl, hb1⟩; have hx1 := (below_box hb1 hbx).cell; have hs1 := hb1.size; have hbd1 := builder_below hbd hb1)
          | (refine ⟨trivial, ?_⟩; gi_at_call 158; (with_reducible refine (CallsIn.inRound l (callsIn_wide.2 (c_zeros q w1 (by omega)))).mono ?_); rintro e w2 ⟨rfl, hb2⟩; have hs2 := hb2.size; have hbd2 := builder_below hbd1 hb2)
          | (refine ⟨trivial, ?_⟩; gi_at_call 132; (with_reducible refine (CallsIn.inRound l (callsIn_wide.2 (c_writeString w.heap.size (w.heap.size + 1) (Lib.byteCells (tbuf xs pre)) (mkS (List.replicate q 48)) w2 hbd2 (by rw [bl]; omega) (by omega)))).mono ?_); rintro e w3 ⟨rfl, hbd3, hb3, hk3⟩; have hs3 := hb3.size))
        refine ⟨trivial, ?_⟩
        refine (CallsIn.inRound l (callsIn_wide.2 (c_writeString w.heap.size (w.heap.size + 1) (Lib.byteCells (tbuf xs pre) ++ Lib.strCells (mkS (List.replicate q 48))) (nS xs[x.1]) w3 (.inr hbd3) (by rw [List.length_append, bl, sl]; omega) (by omega)))).mono ?_
        rintro e w4 ⟨rfl, hbd4, hb4, hk4⟩
        have hs4 := hb4.size
        gi_wp2
        have hb12 := b_then hb1 hb2
        have hbs4 := others_box hk4 (others_box hk3 (below_box hb12 hbs) (by omega) (by decide)) (by omega) (by decide)
        have hbx4 := others_box hk4 (others_box hk3 (below_box hb12 hbx) (by omega) (by decide)) (by omega) (by decide)
        have hB4 : Below w.heap.size W w4 := ((hb12.mono hB).trans hb3).trans hb4
        rw [tb_more hi hx hq] at hbd4
        exact ⟨((others_below hb12).trans (builder_others hbd2 hk3 hs3)).trans (builder_others (.inr hbd3) hk4 hs4), ⟨hB4, hbs4.cell.trans hbs.cell.symm⟩, ⟨.inr hbd4, hbx4, hbs4⟩, hBl.trans hB4⟩
      · gi_wp2_with (first
          | (refine ⟨trivial, ?_⟩; gi_at_call 88; (with_reducible refine (CallsIn.inRound l (callsIn_wide.2 (c_itoaN xs[x.1] W (by omega) hGW))).mono ?_); rintro e w1 ⟨rfl, hb1⟩; have hx1 := (below_box hb1 hbx).cell; have hs1 := hb1.size; have hbd1 := builder_below hbd hb1)
          | (refine ⟨trivial, ?_⟩; gi_at_call 132; (with_reducible refine (CallsIn.inRound l (callsIn_wide.2 (c_writeString w.heap.size (w.heap.size + 1) (Lib.byteCells (tbuf xs pre)) (nS xs[x.1]) w1 hbd1 (by rw [bl]; omega) (by omega)))).mono ?_); rintro e w3 ⟨rfl, hbd3, hb3, hk3⟩; have hs3 := hb3.size))
        have hbs4 := others_box hk3 (below_box hb1 hbs) (by omega) (by decide)
        have hbx4 := others_box hk3 (below_box hb1 hbx) (by omega) (by decide)
        have hB4 : Below w.heap.size W w3 := (hb1.mono hB).trans hb3
        rw [tb_last hi] at hbd3
        exact ⟨(others_below hb1).trans (builder_others hbd1 hk3 hs3), ⟨hB4, hbs4.cell.trans hbs.cell.symm⟩, ⟨.inr hbd3, hbx4, hbs4⟩, hBl.trans hB4⟩
    case done =>
      rintro D zs W hD rfl ⟨⟨hbd, hbx, hbs⟩, hBl⟩ hK
      have hne : tbuf xs (List.finRange xs.length).reverse ≠ [] := by
        rw [tbuf_all hL (by intro e; rw [e] at hm0; exact absurd hm0 (by simp)) hlast]; exact ntx_ne_nil _
      gi_wp2_with (refine ⟨trivial, ?_⟩; gi_at_call 133; (with_reducible refine (callsIn_wide.2 (c_builderString w.heap.size (w.heap.size + 1) (tbuf xs (List.finRange xs.length).reverse) W hbd hne)).mono ?_); rintro e w5 ⟨rfl, hb5, hk5⟩)
      have hDs : w.heap.size + 3 ≤ D := by simp at hD; omega
      have hK' := hk5 D _ hK (fun e => by have := Option.some.inj e; omega) (fun c fz e => by cases e)
      refine ⟨by simp, .inl ⟨_, _, rfl, run_takeDeferred hK', ?_⟩⟩
      refine ⟨_, results_tmp rfl _ _ _, ?_, (hBl.trans hb5).trans (belowK_b (w := w) (Nat.le_refl _) _ D _ _ (by omega) hK' rfl rfl)⟩
      exact ret_str (by rw [tbuf_all hL (by intro e; rw [e] at hm0; exact absurd hm0 (by simp)) hlast, hval]; rfl)
    case stop =>
      rintro D cd pre W _ _ h _
      exact h.elim
end Go.Proofs.YtjdofncognaaoaaGreatDoor

/- Walks of nat: mul, take, give. -/
namespace Go.Proofs.YtjdofncognaaoaaGreatDoor
open Go.RowKit
set_option linter.unusedVariables false
set_option linter.unusedSimpArgs false

theorem lv_set {l : List Nat} {i : Nat} (h : i < l.length) (v : Nat) : lv (l.set i v) + 10000 ^ i * l[i] = lv l + 10000 ^ i * v := by
  induction l generalizing i with
  | nil => simp at h
  | cons x l ih =>
    cases i with
    | zero => simp [lv]; omega
    | succ i =>
      have := ih (i := i) (by simpa using h)
      simp only [List.set_cons_succ, lv, List.getElem_cons_succ, Nat.pow_succ]
      generalize l[i]'(by simpa using h) = y at *
      have e1 : 10000 ^ i * 10000 * y = 10000 * (10000 ^ i * y) := by rw [Nat.mul_comm (10000 ^ i) 10000, Nat.mul_assoc]
      have e2 : 10000 ^ i * 10000 * v = 10000 * (10000 ^ i * v) := by rw [Nat.mul_comm (10000 ^ i) 10000, Nat.mul_assoc]
      rw [e1, e2]; omega
theorem lv_take_more (b : List Nat) (k : Nat) : lv (b.take (k + 1)) = lv (b.take k) + 10000 ^ k * b.getD k 0 := by
  by_cases h : k < b.length
  · rw [lv_take_succ b k h, List.getD, List.getElem?_eq_getElem h]; rfl
  · rw [List.take_of_length_le (by omega), List.take_of_length_le (by omega), List.getD, List.getElem?_eq_none (by omega)]; simp
theorem isL_getD {b : List Nat} (h : isL b) (k : Nat) : b.getD k 0 < 10000 := by
  by_cases hk : k < b.length
  · rw [List.getD, List.getElem?_eq_getElem hk]; exact isL_get h hk
  · rw [List.getD, List.getElem?_eq_none (by omega)]; decide

/-! ### The rounds of mul, take, give -/
def mulI (O b : List Nat) (x i k : Nat) (o : List Nat) (c : Nat) : Prop := isL o ∧ o.length = O.length ∧ c < 10000 ∧ lv o + c * 10000 ^ (i + k) = lv O + x * 10000 ^ i * lv (b.take k)
theorem mulI_zero {O b : List Nat} {x i : Nat} (h : isL O) : mulI O b x i 0 O 0 := ⟨h, rfl, by decide, by simp [lv]⟩
theorem mul_small {x y o c : Nat} (hx : x < 10000) (hy : y < 10000) (ho : o < 10000) (hc : c < 10000) : (c + (o + x * y)) / 10000 < 10000 := by
  rw [Nat.div_lt_iff_lt_mul (by decide)]
  have : x * y ≤ 9999 * 9999 := Nat.mul_le_mul (by omega) (by omega)
  omega
theorem mulI_step {O b : List Nat} {x i k : Nat} {o : List Nat} {c t : Nat} (H : mulI O b x i k o c) (hi : i + k < o.length) (hx : x < 10000) (hb : isL b) (ht : t = c + (o[i + k] + x * b.getD k 0)) :
    mulI O b x i (k + 1) (o.set (i + k) (t % 10000)) (t / 10000) := by
  obtain ⟨h1, h2, h3, h4⟩ := H
  refine ⟨isL_set h1 _ (Nat.mod_lt _ (by decide)), by rw [List.length_set, h2], by rw [ht]; exact mul_small hx (isL_getD hb k) (isL_get h1 hi) h3, ?_⟩
  have h5 := lv_set hi (t % 10000)
  rw [lv_take_more]
  generalize o[i + k] = y at *
  have hd := Nat.div_add_mod t 10000
  generalize t % 10000 = v at *
  generalize t / 10000 = d at *
  have e0 : 10000 ^ (i + (k + 1)) = 10000 ^ (i + k) * 10000 := by rw [← Nat.add_assoc, Nat.pow_succ]
  have e1 : x * 10000 ^ i * (lv (b.take k) + 10000 ^ k * b.getD k 0) = x * 10000 ^ i * lv (b.take k) + 10000 ^ (i + k) * (x * b.getD k 0) := by
    rw [Nat.mul_add, Nat.pow_add]
    congr 1
    simp only [Nat.mul_comm, Nat.mul_left_comm, Nat.mul_assoc]
  rw [e0, e1]
  generalize 10000 ^ (i + k) = P at *
  generalize x * b.getD k 0 = z at *
  generalize x * 10000 ^ i * lv (b.take k) = L at *
  have e2 : P * v + P * (10000 * d) = P * c + (P * y + P * z) := by rw [← Nat.mul_add, ← Nat.mul_add, ← Nat.mul_add]; congr 1; omega
  have e3 : d * (P * 10000) = P * (10000 * d) := by rw [Nat.mul_comm d, Nat.mul_assoc]
  rw [Nat.mul_comm c P] at h4
  rw [e3]; omega
def mulO (a b : List Nat) (i : Nat) (o : List Nat) : Prop := isL o ∧ o.length = a.length + b.length + 1 ∧ lv o = lv (a.take i) * lv b
theorem mulO_zero (a b : List Nat) : mulO a b 0 (List.replicate (a.length + b.length + 1) 0) := ⟨isL_rep _, by simp, by rw [lv_rep]; simp [lv]⟩
theorem mulO_step {a b : List Nat} {i : Nat} {O o : List Nat} {c : Nat} (H : mulO a b i O) (hi : i < a.length) (ha : isL a) (hb : isL b) (h : mulI O b a[i] i (b.length + 1) o c) : mulO a b (i + 1) o := by
  obtain ⟨_, g2, g3⟩ := H
  obtain ⟨h1, h2, h3, h4⟩ := h
  refine ⟨h1, by rw [h2, g2], ?_⟩
  rw [List.take_of_length_le (by omega)] at h4
  have e : lv (a.take (i + 1)) * lv b = lv O + a[i] * 10000 ^ i * lv b := by rw [g3, lv_take_succ a i hi, Nat.add_mul, Nat.mul_comm (10000 ^ i)]
  rw [e, ← h4]
  have l1 : lv (a.take (i + 1)) < 10000 ^ (i + 1) := by
    have := lv_lt (isL_take ha (i + 1))
    rwa [List.length_take, Nat.min_eq_left (by omega)] at this
  have l2 := lv_lt hb
  have l3 : lv (a.take (i + 1)) * lv b < 10000 ^ (i + (b.length + 1)) := by
    rw [show i + (b.length + 1) = (i + 1) + b.length by omega, Nat.pow_add]
    calc lv (a.take (i + 1)) * lv b ≤ lv (a.take (i + 1)) * 10000 ^ b.length := Nat.mul_le_mul_left _ (Nat.le_of_lt l2)
      _ < 10000 ^ (i + 1) * 10000 ^ b.length := Nat.mul_lt_mul_of_pos_right l1 (Nat.pow_pos (by decide))
  rw [e, ← h4] at l3
  rcases Nat.eq_zero_or_pos c with rfl | hc
  · simp
  · have : 10000 ^ (i + (b.length + 1)) ≤ c * 10000 ^ (i + (b.length + 1)) := Nat.le_mul_of_pos_left _ hc
    omega
theorem mulO_done {a b o : List Nat} (H : mulO a b a.length o) : isL o ∧ lv o = lv a * lv b := ⟨H.1, by rw [H.2.2, List.take_length]⟩

def takI (O b : List Nat) (q i k : Nat) (o : List Nat) (c : Nat) : Prop := isL o ∧ o.length = O.length ∧ o.drop (i + k) = O.drop (i + k) ∧ c ≤ 10000 ∧ lv o + q * 10000 ^ i * lv (b.take k) = lv O + c * 10000 ^ (i + k)
theorem takI_zero {O b : List Nat} {q i : Nat} (h : isL O) : takI O b q i 0 O 0 := ⟨h, rfl, rfl, by decide, by simp [lv]⟩
/-- One round: the limb y, less q times z, less what was missing, is v, less what is missing. -/
theorem takI_step {O b : List Nat} {q i k : Nat} {o : List Nat} {c d v : Nat} (H : takI O b q i k o c) (hi : i + k < o.length) (hv : v < 10000) (hd : d ≤ 10000) (ht : o[i + k] + 10000 * d = v + (q * b.getD k 0 + c)) :
    takI O b q i (k + 1) (o.set (i + k) v) d := by
  obtain ⟨h1, h2, h6, h3, h4⟩ := H
  refine ⟨isL_set h1 _ hv, by rw [List.length_set, h2], ?_, hd, ?_⟩
  · rw [List.drop_set_of_lt (by omega), ← Nat.add_assoc, ← List.drop_drop, h6, List.drop_drop]
  have h5 := lv_set hi v
  rw [lv_take_more]
  generalize o[i + k] = y at *
  have e0 : 10000 ^ (i + (k + 1)) = 10000 ^ (i + k) * 10000 := by rw [← Nat.add_assoc, Nat.pow_succ]
  have e1 : q * 10000 ^ i * (lv (b.take k) + 10000 ^ k * b.getD k 0) = q * 10000 ^ i * lv (b.take k) + 10000 ^ (i + k) * (q * b.getD k 0) := by
    rw [Nat.mul_add, Nat.pow_add]
    congr 1
    simp only [Nat.mul_comm, Nat.mul_left_comm, Nat.mul_assoc]
  rw [e0, e1]
  generalize 10000 ^ (i + k) = P at *
  generalize q * b.getD k 0 = z at *
  generalize q * 10000 ^ i * lv (b.take k) = L at *
  have e2 : P * y + P * (10000 * d) = P * v + (P * z + P * c) := by rw [← Nat.mul_add, ← Nat.mul_add, ← Nat.mul_add]; congr 1
  have e3 : d * (P * 10000) = P * (10000 * d) := by rw [Nat.mul_comm d, Nat.mul_assoc]
  rw [Nat.mul_comm c P] at h4
  rw [e3]; omega
def givI (O b : List Nat) (i k : Nat) (o : List Nat) (c : Nat) : Prop := isL o ∧ o.length = O.length ∧ o.drop (i + k) = O.drop (i + k) ∧ c ≤ 1 ∧ lv o + c * 10000 ^ (i + k) = lv O + 10000 ^ i * lv (b.take k)
theorem givI_zero {O b : List Nat} {i : Nat} (h : isL O) : givI O b i 0 O 0 := ⟨h, rfl, rfl, by decide, by simp [lv]⟩
theorem givI_step {O b : List Nat} {i k : Nat} {o : List Nat} {c t : Nat} (H : givI O b i k o c) (hi : i + k < o.length) (hb : isL b) (ht : t = o[i + k] + b.getD k 0 + c) :
    givI O b i (k + 1) (o.set (i + k) (t % 10000)) (t / 10000) := by
  obtain ⟨h1, h2, h6, h3, h4⟩ := H
  have hy := isL_get h1 hi
  have hz := isL_getD hb k
  refine ⟨isL_set h1 _ (Nat.mod_lt _ (by decide)), by rw [List.length_set, h2], ?_, by omega, ?_⟩
  · rw [List.drop_set_of_lt (by omega), ← Nat.add_assoc, ← List.drop_drop, h6, List.drop_drop]
  have h5 := lv_set hi (t % 10000)
  rw [lv_take_more]
  generalize o[i + k] = y at *
  have hd := Nat.div_add_mod t 10000
  generalize t % 10000 = v at *
  generalize t / 10000 = d at *
  have e0 : 10000 ^ (i + (k + 1)) = 10000 ^ (i + k) * 10000 := by rw [← Nat.add_assoc, Nat.pow_succ]
  have e1 : 10000 ^ i * (lv (b.take k) + 10000 ^ k * b.getD k 0) = 10000 ^ i * lv (b.take k) + 10000 ^ (i + k) * b.getD k 0 := by
    rw [Nat.mul_add, Nat.pow_add, Nat.mul_assoc]
  rw [e0, e1]
  generalize 10000 ^ (i + k) = P at *
  generalize b.getD k 0 = z at *
  generalize 10000 ^ i * lv (b.take k) = L at *
  have e2 : P * v + P * (10000 * d) = P * c + (P * y + P * z) := by rw [← Nat.mul_add, ← Nat.mul_add, ← Nat.mul_add]; congr 1; omega
  have e3 : d * (P * 10000) = P * (10000 * d) := by rw [Nat.mul_comm d, Nat.mul_assoc]
  rw [Nat.mul_comm c P] at h4
  rw [e3]; omega

/-! ### The step of the long division (Knuth D): u from the limb j on, by V = lv v of n limbs -/
/-- The quotient that is tried is at most one above the true one, where the test ends. -/
theorem knuth_le {U H V v1 v2 u2 q r T : Nat} {B : Nat} (hH : H = q * v1 + r) (hU1 : (H * B + u2) * T ≤ U) (hV2 : V < (v1 * B + v2 + 1) * T) (hVT : B * T ≤ V) (hq : q ≤ B) (hte : q * v2 ≤ r * B + u2) : (q - 1) * V ≤ U := by
  rcases Nat.eq_zero_or_pos q with rfl | hq0
  · simp
  have h1 : q * V ≤ q * ((v1 * B + v2 + 1) * T) := Nat.mul_le_mul_left _ (Nat.le_of_lt hV2)
  have h2 : q * ((v1 * B + v2 + 1) * T) = (q * v1 * B + q * v2 + q) * T := by
    rw [← Nat.mul_assoc]; congr 1; rw [Nat.mul_add, Nat.mul_add, Nat.mul_one, Nat.mul_assoc]
  have h3 : (q * v1 * B + q * v2 + q) * T ≤ (H * B + u2 + B) * T := by
    apply Nat.mul_le_mul_right
    rw [hH, Nat.add_mul]; omega
  have h4 : (H * B + u2 + B) * T = (H * B + u2) * T + B * T := Nat.add_mul _ _ _
  have h5 : (q - 1) * V = q * V - V := by rw [Nat.sub_mul, Nat.one_mul]
  rw [h5]
  generalize q * V = X at *
  omega
/-- .. and it is not below it: where the test holds, it was above. -/
theorem knuth_gt {U H V v1 v2 u2 q r T : Nat} {B : Nat} (hH : H = q * v1 + r) (hU2 : U < (H * B + u2 + 1) * T) (hV1 : (v1 * B + v2) * T ≤ V) (hte : r * B + u2 < q * v2) : U < q * V := by
  have h1 : q * ((v1 * B + v2) * T) ≤ q * V := Nat.mul_le_mul_left _ hV1
  have h2 : q * ((v1 * B + v2) * T) = (q * v1 * B + q * v2) * T := by
    rw [← Nat.mul_assoc]; congr 1; rw [Nat.mul_add, Nat.mul_assoc]
  have h3 : (H * B + u2 + 1) * T ≤ (q * v1 * B + q * v2) * T := by
    apply Nat.mul_le_mul_right
    rw [hH, Nat.add_mul]; omega
  omega

/-! ### Worlds in which one block of the call's own is written -/
theorem grown_refl (w : World) (row : Option Nat) : w.grownBy w row := ⟨rfl, rfl, rfl, Nat.le_refl _, fun _ _ _ => rfl⟩
theorem grown_set {w W : World} {g : Nat} (h : w.grownBy W (some g)) (i : Nat) (u : Value) : w.grownBy (W.setCell ⟨g, i, none⟩ u) (some g) :=
  ⟨h.os, h.tape, h.output, by simpa [World.setCell] using h.size, fun k hk hne => (Below.heap_setCell W ⟨g, i, none⟩ u k (fun e => hne (by rw [e]))).trans (h.block k hk hne)⟩
theorem grown_drewN {w W : World} {row : Option Nat} (h : w.grownBy W row) (n : Nat) : w.grownBy (W.drewN n) row := ⟨h.os, h.tape, h.output, h.size, h.block⟩
theorem Ls.grown {w W : World} {A : Option Addr} {n g : Nat} {xs : List Nat} (h : Ls w A n xs) (hg : w.grownBy W (some g)) (hne : ∀ ad, A = some ad → ad.block ≠ g) : Ls W A n xs := by
  obtain ⟨h1, h2, h3⟩ := h
  refine ⟨h1, h2, fun hn => ?_⟩
  obtain ⟨b, off, rfl, hb, hc⟩ := h3 hn
  refine ⟨b, off, rfl, Nat.lt_of_lt_of_le hb hg.size, fun j x hj => ?_⟩
  rw [← hc j x hj]
  have := hg.block b hb (fun e => hne _ rfl (by injection e))
  unfold World.cell?
  rw [this]
theorem Mu.draw {w : World} {base : Nat} {v : Value} {xs : List Nat} (h : Mu w base v xs) (n : Nat) : Mu (w.drewN n) base v xs := h.below (b_drewN (Below.refl _ _) n)
theorem Ls.draw {w : World} {A : Option Addr} {n : Nat} {xs : List Nat} (h : Ls w A n xs) (k : Nat) : Ls (w.drewN k) A n xs := h.below (b_drewN (Below.refl _ _) k)

theorem at_quiet {B : Option Addr} {m d k z : Nat} {b : List Nat} {w : World} (h : Ls w B m b) (hk : k ≤ 4000000000) (hz : Hid (b.getD k 0 = z)) (n : Nat) :
    Calls Tryz.prog 202 #[.slice B m d, .int .i64 (k : Nat)] (w.drewN n) fun e w'' => e = .returned (.int .i64 (z : Nat)) ∧ ∃ m, w'' = w.drewN m := by
  rw [← hz.out]
  exact (n_at _ _ _ _ _ _ (h.draw n) hk).mono fun _ _ ⟨he, hw⟩ => ⟨he, n, hw.symm⟩
theorem Mu.put {w : World} {base g n cap : Nat} {xs : List Nat} (h : Mu w base (.slice (some ⟨g, 0, none⟩) n cap) xs) {i : Nat} (hi : i < xs.length) {a : Int} (x : Nat) (e : a = (x : Nat)) : Mu (w.setCell ⟨g, i, none⟩ (.int .i64 a)) base (.slice (some ⟨g, 0, none⟩) n cap) (xs.set i x) := by
  subst e; exact h.set_ hi x
theorem int_eq {k : IntKind} {a b : Int} (h : a = b) : Value.int k a = Value.int k b := by rw [h]
set_option maxHeartbeats 1000000 in
theorem n_give (g n cap base : Nat) (B : Option Addr) (m d j : Nat) (xs b : List Nat) (w : World) (hu : Mu w base (.slice (some ⟨g, 0, none⟩) n cap) xs) (hn : xs.length = n) (hn2 : n ≤ 1000000000) (hX : isL xs) (hb : Ls w B m b) (hB : isL b) (hj : j + (m + 1) ≤ n) (hne : ∀ ad, B = some ad → ad.block ≠ g) :
    Calls Tryz.prog 208 #[.slice (some ⟨g, 0, none⟩) n cap, .slice B m d, .int .i64 (j : Nat)] w fun e w' => (∃ v, e = .returned v) ∧ ∃ xs' c, givI xs b j (m + 1) xs' c ∧ Mu w' base (.slice (some ⟨g, 0, none⟩) n cap) xs' ∧ w.grownBy w' (some g) := by
  have H0 : Hid (givI xs b j 0 xs 0) := givI_zero hX
  go_enter Tryz.func208, Tryz.ntmps208
  go_wp2
  go_loopw [6, 12] (fun cv i wr => ∃ k c o, k ≤ m + 1 ∧ cv = .int .i64 (c : Nat) ∧ i = .int .i64 (k : Nat) ∧ Hid (givI xs b j k o c) ∧ Mu wr base (.slice (some ⟨g, 0, none⟩) n cap) o ∧ w.grownBy wr (some g)) (fun _ i _ => m + 1 - (intOf i).toNat)
  case atStart => exact ⟨0, 0, xs, Nat.zero_le _, rfl, rfl, H0, hu, grown_refl _ _⟩
  case round =>
    obtain ⟨k, c, o, hk, rfl, rfl, H, hown, hgr⟩ := hrel
    have hol : o.length = n := H.out.2.1.trans hn
    have hc1 := H.out.2.2.2.1
    by_cases hlt : k < m + 1
    · obtain ⟨q, hq⟩ : ∃ q, j + k = q := ⟨_, rfl⟩
      have hqn : q < n := by omega
      obtain ⟨hc, hf, _, hgl⟩ := hown.cell (i := q) (by omega)
      have hls := hb.grown hgr hne
      have hy : o[q]'(by omega) < 10000 := isL_get H.out.1 _
      obtain ⟨y, hye⟩ : ∃ y, o[q]'(by omega) = y := ⟨_, rfl⟩
      rw [hye] at hc hy
      obtain ⟨z, hze⟩ : ∃ z, b.getD k 0 = z := ⟨_, rfl⟩
      have hz := isL_getD hB k
      rw [hze] at hz
      have HY := Lib.hid hye
      have HZ := Lib.hid hze
      clear hye hze
      go_wp2
      go_big_quiet ((go_at_call 202; exact at_quiet hls (by omega) HZ _))
      go_wp2
      go_roundw
      case rel =>
        refine ⟨k + 1, (y + z + c) / 10000, o.set q ((y + z + c) % 10000), by omega, int_eq (by omega), int_eq (by omega), ?_, (hown.draw nq).put (by omega) _ (by omega), grown_set (grown_drewN hgr nq) _ _⟩
        have := givI_step H.out (k := k) (by omega) hB (t := y + z + c) (by have h1 := HY.out; have h2 := HZ.out; subst hq; rw [h1, h2])
        rw [hq] at this
        exact this
      case measure => (simp [intOf]; try omega)
    · obtain rfl : k = m + 1 := by omega
      go_wp2
      go_end0
      exact ⟨⟨_, rfl⟩, o, c, H.out, hown, hgr⟩
set_option maxHeartbeats 1000000 in
theorem n_take (g n cap base : Nat) (B : Option Addr) (m d j qq : Nat) (xs b : List Nat) (w : World) (hu : Mu w base (.slice (some ⟨g, 0, none⟩) n cap) xs) (hn : xs.length = n) (hn2 : n ≤ 1000000000) (hX : isL xs) (hb : Ls w B m b) (hB : isL b) (hj : j + (m + 1) ≤ n) (hne : ∀ ad, B = some ad → ad.block ≠ g) (hqq : qq < 10000) :
    Calls Tryz.prog 207 #[.slice (some ⟨g, 0, none⟩) n cap, .slice B m d, .int .i64 (j : Nat), .int .i64 (qq : Nat)] w fun e w' => ∃ xs' c, e = .returned (.int .i64 (-(c : Nat))) ∧ takI xs b qq j (m + 1) xs' c ∧ Mu w' base (.slice (some ⟨g, 0, none⟩) n cap) xs' ∧ w.grownBy w' (some g) := by
  have H0 : Hid (takI xs b qq j 0 xs 0) := takI_zero hX
  go_enter Tryz.func207, Tryz.ntmps207
  go_wp2
  go_loopw [9, 15] (fun cv i wr => ∃ (k c : Nat) (o : List Nat), k ≤ m + 1 ∧ cv = .int .i64 (-(c : Nat)) ∧ i = .int .i64 (k : Nat) ∧ Hid (takI xs b qq j k o c) ∧ Mu wr base (.slice (some ⟨g, 0, none⟩) n cap) o ∧ w.grownBy wr (some g)) (fun _ i _ => m + 1 - (intOf i).toNat)
  case atStart => exact ⟨0, 0, xs, Nat.zero_le _, rfl, rfl, H0, hu, grown_refl _ _⟩
  case round =>
    obtain ⟨k, c, o, hk, rfl, rfl, H, hown, hgr⟩ := hrel
    have hol : o.length = n := H.out.2.1.trans hn
    have hc1 := H.out.2.2.2.1
    by_cases hlt : k < m + 1
    · obtain ⟨q, hq⟩ : ∃ q, j + k = q := ⟨_, rfl⟩
      have hqn : q < n := by omega
      obtain ⟨hc, hf, _, hgl⟩ := hown.cell (i := q) (by omega)
      have hls := hb.grown hgr hne
      have hy : o[q]'(by omega) < 10000 := isL_get H.out.1 _
      obtain ⟨y, hye⟩ : ∃ y, o[q]'(by omega) = y := ⟨_, rfl⟩
      rw [hye] at hc hy
      obtain ⟨z, hze⟩ : ∃ z, b.getD k 0 = z := ⟨_, rfl⟩
      have hz := isL_getD hB k
      rw [hze] at hz
      have HY := Lib.hid hye
      have HZ := Lib.hid hze
      clear hye hze
      have hqz : qq * z ≤ 9999 * 9999 := Nat.mul_le_mul (by omega) (by omega)
      obtain ⟨t, ht⟩ : ∃ t, qq * z = t := ⟨_, rfl⟩
      rw [ht] at hqz
      have hti : (qq : Int) * (z : Int) = (t : Int) := by rw [← ht]; push_cast; rfl
      go_wp2
      go_big_quiet ((go_at_call 202; exact at_quiet hls (by omega) HZ _))
      by_cases hs : (y : Int) - (t : Int) + -(c : Int) < 0
      · obtain ⟨d', hd'⟩ : ∃ d', (t + c - y + 9999) / 10000 = d' := ⟨_, rfl⟩
        obtain ⟨v, hv⟩ : ∃ v, y + 10000 * d' - (t + c) = v := ⟨_, rfl⟩
        have hi2 : (-((y : Int) - t + -c) + 10000 - 1) / 10000 = (d' : Int) := by omega
        go_wp2
        go_roundw
        case rel =>
          refine ⟨k + 1, d', o.set q v, by omega, int_eq (by omega), int_eq (by omega), ?_, (hown.draw nq).put (by omega) v (by omega), grown_set (grown_drewN hgr nq) _ _⟩
          have := takI_step H.out (k := k) (by omega) (v := v) (d := d') (by omega) (by omega) (by have h1 := HY.out; have h2 := HZ.out; subst hq; rw [h1, h2, ht]; omega)
          rw [hq] at this
          exact this
        case measure => (simp [intOf]; try omega)
      · obtain ⟨v, hv⟩ : ∃ v, y - (t + c) = v := ⟨_, rfl⟩
        go_wp2
        go_roundw
        case rel =>
          refine ⟨k + 1, 0, o.set q v, by omega, int_eq (by omega), int_eq (by omega), ?_, (hown.draw nq).put (by omega) v (by omega), grown_set (grown_drewN hgr nq) _ _⟩
          have := takI_step H.out (k := k) (by omega) (v := v) (d := 0) (by omega) (by omega) (by have h1 := HY.out; have h2 := HZ.out; subst hq; rw [h1, h2, ht]; omega)
          rw [hq] at this
          exact this
        case measure => (simp [intOf]; try omega)
    · obtain rfl : k = m + 1 := by omega
      go_wp2
      go_ret
      exact ⟨o, c, rfl, H.out, hown, hgr⟩
set_option maxHeartbeats 1000000 in
theorem n_mul (A B : Option Addr) (n m c d : Nat) (a b : List Nat) (w : World) (ha : Ls w A n a) (hb : Ls w B m b) (hA : isL a) (hB : isL b) (hs : n + m ≤ 990000000) :
    Calls Tryz.prog 174 #[.slice A n c, .slice B m d] w fun e w' => RetL w (lv a * lv b) e w' := by
  have hna := ha.len
  have hnb := hb.len
  have hmk : ∀ w : World, (Instr.makeSlice 160 (.int .i64 ((n : Int) + (m : Int) + 1)) (.int .i64 ((n : Int) + (m : Int) + 1))).run Tryz.prog w = .ok (.slice (some ⟨w.heap.size, 0, none⟩) (n + m + 1) (n + m + 1)) (w.alloc (.cells (madeCells #[.int .i64 0] (n + m + 1)) 3)) := fun w => by
    have := make_limbs (n + m + 1) (by omega) w
    push_cast at this
    exact this
  have H0 : Hid (mulO a b 0 (List.replicate (n + m + 1) 0)) := by
    have := mulO_zero a b
    rw [hna, hnb] at this
    exact this
  have M0 : Mu (w.alloc (.cells (madeCells #[.int .i64 0] (n + m + 1)) 3)) w.heap.size (.slice (some ⟨w.heap.size, 0, none⟩) (n + m + 1) (n + m + 1)) (List.replicate (n + m + 1) 0) := Mu.made (Nat.le_refl _) _ (by omega)
  go_enter Tryz.func174, Tryz.ntmps174
  go_wp2
  go_loopw [19] (fun i wr => ∃ (k : Nat) (o : List Nat), k ≤ n ∧ i = .int .i64 (k : Nat) ∧ Hid (mulO a b k o) ∧ Mu wr w.heap.size (.slice (some ⟨w.heap.size, 0, none⟩) (n + m + 1) (n + m + 1)) o ∧ Below w.heap.size w wr) (fun i _ => n - (intOf i).toNat)
  case atStart => exact ⟨0, _, Nat.zero_le _, rfl, H0, M0, (by repeat (first | exact Below.refl _ _ | assumption | refine b_then ?_ (by assumption) | refine b_alloc ?_ _ | refine b_drewN ?_ _ | refine Below.drew ?_ | refine b_set ?_ (by first | exact Nat.le_refl _ | (simp; done) | (simp; omega) | omega) _))⟩
  case round =>
    obtain ⟨k, O, hk, rfl, HO, hown, hB1⟩ := hrel
    by_cases hlt : k < n
    · obtain ⟨x, hxe⟩ : ∃ x, a[k]'(by omega) = x := ⟨_, rfl⟩
      have hx : x < 10000 := by rw [← hxe]; exact isL_get hA _
      have HXe := Lib.hid hxe
      obtain ⟨ba, offa, rfl, hba, hca⟩ := (ha.below hB1).at_ hlt
      rw [hxe] at hca
      clear hxe
      go_wp2
      go_loopw [8, 27] (fun cv i wr2 => ∃ (j c : Nat) (o : List Nat), j ≤ m + 1 ∧ cv = .int .i64 (c : Nat) ∧ i = .int .i64 (j : Nat) ∧ Hid (mulI O b x k j o c) ∧ Mu wr2 w.heap.size (.slice (some ⟨w.heap.size, 0, none⟩) (n + m + 1) (n + m + 1)) o ∧ Below w.heap.size w wr2) (fun _ i _ => m + 1 - (intOf i).toNat)
      case atStart => exact ⟨0, 0, O, Nat.zero_le _, rfl, rfl, mulI_zero HO.out.1, hown, hB1⟩
      case round =>
        clear hown hB1 hca hba
        obtain ⟨j, c, o, hj, rfl, rfl, H, hown, hB1⟩ := hrel
        have hol : o.length = n + m + 1 := by rw [H.out.2.1, HO.out.2.1, hna, hnb]
        have hc1 := H.out.2.2.1
        by_cases hlt2 : j < m + 1
        · obtain ⟨q, hq⟩ : ∃ q, k + j = q := ⟨_, rfl⟩
          have hqn : q < n + m + 1 := by omega
          obtain ⟨hc, hf, _, hgl⟩ := hown.cell (i := q) (by omega)
          have hls := hb.below hB1
          have hy : o[q]'(by omega) < 10000 := isL_get H.out.1 _
          obtain ⟨y, hye⟩ : ∃ y, o[q]'(by omega) = y := ⟨_, rfl⟩
          rw [hye] at hc hy
          obtain ⟨z, hze⟩ : ∃ z, b.getD j 0 = z := ⟨_, rfl⟩
          have hz := isL_getD hB j
          rw [hze] at hz
          have HY := Lib.hid hye
          have HZ := Lib.hid hze
          clear hye hze
          have hqz : x * z ≤ 9999 * 9999 := Nat.mul_le_mul (by omega) (by omega)
          obtain ⟨t, ht⟩ : ∃ t, x * z = t := ⟨_, rfl⟩
          rw [ht] at hqz
          have hti : (x : Int) * (z : Int) = (t : Int) := by rw [← ht]; push_cast; rfl
          go_wp2
          go_big_quiet ((go_at_call 202; exact at_quiet hls (by omega) HZ _))
          go_wp2
          go_roundw
          case rel =>
            refine ⟨j + 1, (c + (y + t)) / 10000, o.set q ((c + (y + t)) % 10000), by omega, int_eq (by omega), int_eq (by omega), ?_, (hown.draw nq).put (by omega) _ (by omega), b_set (b_drewN hB1 nq) (Nat.le_refl _) _⟩
            have := mulI_step H.out (k := j) (by omega) hx hB (t := c + (y + t)) (by have h1 := HY.out; have h2 := HZ.out; subst hq; rw [h1, h2, ht])
            rw [hq] at this
            exact this
          case measure => (simp [intOf]; try omega)
        · obtain rfl : j = m + 1 := by omega
          go_wp2
          go_roundw
          case rel =>
            refine ⟨k + 1, o, by omega, int_eq (by omega), ?_, hown, hB1⟩
            have h1 := HXe.out
            exact mulO_step HO.out (by omega) hA hB (by rw [h1, hnb]; exact H.out)
          case measure => (simp [intOf]; try omega)
    · obtain rfl : k = n := by omega
      have HO' : mulO a b a.length O := by rw [hna]; exact HO.out
      obtain ⟨hoL, hoV⟩ := mulO_done HO'
      have hol : O.length = k + m + 1 := by rw [HO'.2.1, hna, hnb]
      obtain ⟨A', c', e, hls, hc1, hc2⟩ := hown.ls (by omega)
      rw [hol] at e hls hc1
      injection e with e1 _ e2
      subst e1; subst e2
      have htk := take_lim hoL
      have hlen2 : (lim (lv O)).length ≤ O.length := lim_len_l hoL
      go_wp2_with (go_at_call 203; (with_reducible refine (n_trim _ _ _ _ _ hls hoL hc1 hc2).mono ?_); rintro e w' ⟨rfl, rfl⟩)
      go_ret
      have hm := hown.take hlen2
      rw [htk, hoV] at hm
      exact ⟨_, _, rfl, hm, hB1⟩
end Go.Proofs.YtjdofncognaaoaaGreatDoor

/- Walks of nat: short. -/
namespace Go.Proofs.YtjdofncognaaoaaGreatDoor
open Go.RowKit Go.Shelf
set_option linter.unusedVariables false
set_option linter.unusedSimpArgs false
attribute [local go_sem] Oper.semAt_some

/-! ### The division by a limb, from the top -/
def shStep (xs : List Nat) (d : Nat) (s : Nat × List Nat) (i : Fin xs.length) : Nat × List Nat := ((s.1 * 10000 + xs[i.1]) % d, s.2.set i.1 ((s.1 * 10000 + xs[i.1]) / d))
def sh (xs : List Nat) (d : Nat) (l : List (Fin xs.length)) : Nat × List Nat := l.foldl (shStep xs d) (0, List.replicate xs.length 0)
theorem sh_snoc (xs : List Nat) (d : Nat) (l : List (Fin xs.length)) (i : Fin xs.length) : sh xs d (l ++ [i]) = shStep xs d (sh xs d l) i := by simp [sh]
theorem sh_len (xs : List Nat) (d : Nat) (l : List (Fin xs.length)) : (sh xs d l).2.length = xs.length := by
  induction l using snoc_ind with
  | h0 => simp [sh]
  | h1 l i ih => rw [sh_snoc, shStep, List.length_set, ih]
theorem sh_rest (xs : List Nat) {d : Nat} (hd : 0 < d) (l : List (Fin xs.length)) : (sh xs d l).1 < d := by
  induction l using snoc_ind with
  | h0 => exact hd
  | h1 l i ih => rw [sh_snoc]; exact Nat.mod_lt _ hd
theorem sh_quot {xs : List Nat} (hx : isL xs) {d : Nat} (hd : 0 < d) (l : List (Fin xs.length)) (i : Fin xs.length) : ((sh xs d l).1 * 10000 + xs[i.1]) / d < 10000 := by
  have h1 := sh_rest xs hd l
  have h2 := isL_get hx i.2
  rw [Nat.div_lt_iff_lt_mul hd]
  have : ((sh xs d l).1 + 1) * 10000 ≤ d * 10000 := Nat.mul_le_mul_right _ h1
  omega
theorem sh_isL {xs : List Nat} (hx : isL xs) {d : Nat} (hd : 0 < d) (l : List (Fin xs.length)) : isL (sh xs d l).2 := by
  induction l using snoc_ind with
  | h0 => exact isL_rep _
  | h1 l i ih => rw [sh_snoc]; exact isL_set ih _ (sh_quot hx hd l i)
theorem sh_backs {xs : List Nat} {d : Nat} (hd : 0 < d) : ∀ k, k ≤ xs.length → (sh xs d (backs xs.length k)).1 = lv (xs.drop (xs.length - k)) % d ∧ lv ((sh xs d (backs xs.length k)).2.drop (xs.length - k)) = lv (xs.drop (xs.length - k)) / d
  | 0, _ => by simp [backs_zero, sh, lv]
  | k + 1, hk => by
    obtain ⟨e1, e2⟩ := sh_backs (xs := xs) hd k (by omega)
    have hl := sh_len xs d (backs xs.length k)
    rw [backs_succ xs.length k (by omega), sh_snoc]
    have hd1 : xs.drop (xs.length - (k + 1)) = xs[xs.length - 1 - k] :: xs.drop (xs.length - k) := by
      rw [show xs.length - (k + 1) = xs.length - 1 - k by omega, List.drop_eq_getElem_cons (by omega), show xs.length - 1 - k + 1 = xs.length - k by omega]
    unfold shStep
    obtain ⟨r, hr⟩ : ∃ r, (sh xs d (backs xs.length k)).1 = r := ⟨_, rfl⟩
    obtain ⟨o, ho⟩ : ∃ o, (sh xs d (backs xs.length k)).2 = o := ⟨_, rfl⟩
    rw [hr] at e1 ⊢
    rw [ho] at e2 hl ⊢
    obtain ⟨V, hV⟩ : ∃ V, lv (xs.drop (xs.length - k)) = V := ⟨_, rfl⟩
    obtain ⟨x, hx⟩ : ∃ x, xs[xs.length - 1 - k]'(by omega) = x := ⟨_, rfl⟩
    rw [hV] at e1 e2
    rw [hd1, lv, hV, hx]
    dsimp only
    have hVd := Nat.div_add_mod V d
    have key : x + 10000 * V = d * (10000 * (V / d)) + (r * 10000 + x) := by
      rw [e1]
      have h3 : d * (10000 * (V / d)) = 10000 * (d * (V / d)) := by rw [Nat.mul_left_comm]
      rw [h3]; omega
    constructor
    · rw [key, Nat.mul_add_mod]
    · have hdo : (o.set (xs.length - 1 - k) ((r * 10000 + x) / d)).drop (xs.length - (k + 1)) = ((r * 10000 + x) / d) :: o.drop (xs.length - k) := by
        rw [show xs.length - (k + 1) = xs.length - 1 - k by omega, List.drop_eq_getElem_cons (by rw [List.length_set]; omega), List.getElem_set_self, List.drop_set_of_lt (by omega), show xs.length - 1 - k + 1 = xs.length - k by omega]
      rw [hdo, lv, e2, key, Nat.mul_add_div hd, Nat.add_comm]
theorem sh_all {xs : List Nat} {d : Nat} (hd : 0 < d) : (sh xs d (List.finRange xs.length).reverse).1 = lv xs % d ∧ lv (sh xs d (List.finRange xs.length).reverse).2 = lv xs / d := by
  have := sh_backs (xs := xs) hd xs.length (Nat.le_refl _)
  rwa [backs_all, Nat.sub_self, List.drop_zero, List.drop_zero] at this

theorem mu_own {β : Type} (base : Nat) (v : Value) (f : β → List Nat) : Go.Own (fun s W => Mu W base v (f s)) := fun s X Y row h hg hrow => h.grown hg (by
  rcases h.row.2 with ⟨rfl, _⟩ | ⟨g, cap, cur, rfl, _, hgb, _⟩
  · exact .inl rfl
  · refine .inr fun e' => ?_
    obtain ⟨o, ho, hc⟩ := hrow g (by simpa [Value.ownBlock] using e'.symm)
    rw [hgb] at ho; cases ho; cases hc)
/-- What is handed back is two slices of the call's own: the limbs of q and of r. -/
def RetQR (w : World) (q r : Nat) (e : Ending) (w' : World) : Prop :=
  ∃ A c B d, e = .returned (.tuple #[.slice A (lim q).length c, .slice B (lim r).length d]) ∧ Ls w' A (lim q).length (lim q) ∧ Ls w' B (lim r).length (lim r) ∧ Below w.heap.size w w'
theorem Ls.cut {w : World} {A : Option Addr} {n : Nat} {xs : List Nat} (h : Ls w A n xs) (hL : isL xs) : Ls w A (lim (lv xs)).length (lim (lv xs)) := by
  obtain ⟨h1, h2, h3⟩ := h
  have hle := lim_len_l hL
  have ht := take_lim hL
  refine ⟨rfl, by omega, fun hn => ?_⟩
  obtain ⟨b, off, rfl, hb, hc⟩ := h3 (by omega)
  refine ⟨b, off, rfl, hb, fun j x hj => hc j x ?_⟩
  rw [← ht, List.getElem?_take] at hj
  split at hj
  · exact hj
  · cases hj
def OneN (a0 : Act) (w0 : World) : Exit → Act → World → Prop
  | .normal, a, w => a = a0 ∧ w = w0
  | _, _, _ => False
theorem OneN.to {Q : Exit → Act → World → Prop} {a0 : Act} {w0 : World} (hq : Q .normal a0 w0) : ∀ e a w, OneN a0 w0 e a w → Q e a w
  | .normal, _, _, ⟨h1, h2⟩ => by subst h1; subst h2; exact hq
  | .ret, _, _, h => h.elim
  | .exit _, _, _, h => h.elim
  | .goto _, _, _, h => h.elim
  | .panic _, _, _, h => h.elim
  | .outgrown, _, _, h => h.elim
theorem wpIn_one {F : Fence} {n : Nat} {P : Program} {c : Code} {Q : Exit → Act → World → Prop} {a : Act} {w : World} {a0 : Act} {w0 : World} (h : c.wpIn F n P (OneN a0 w0) a w) (hq : Q .normal a0 w0) : c.wpIn F n P Q a w := wpIn_mono h (OneN.to hq)
theorem ls_one (w : World) (x : Nat) : Ls (w.alloc (.cells #[.int .i64 (x : Nat)] 3)) (some ⟨w.heap.size, 0, none⟩) 1 [x] :=
  ⟨rfl, by omega, fun _ => ⟨_, 0, rfl, by simp, fun j y hj => by
    match j, hj with
    | 0, hj =>
      have : x = y := by simpa using hj
      subst this
      exact (Boxed.new w 3 (.int .i64 x)).cell⟩⟩
theorem boxed_far {W : World} {B : Nat} {t : TypeId} {v : Value} (h : Boxed W B t v) {p : Addr} (hp : B ≠ p.block) (u : Value) : Boxed (W.setCell p u) B t v := (Below.heap_setCell W p u B hp).trans h
theorem short_round {xs : List Nat} {d s c m : Nat} {A : Option Addr} {w W : World} {pre : List (Fin xs.length)} {x : Fin xs.length} {a b : Int} (hs : w.heap.size = s)
    (h0 : Boxed W s 3 (.int .i64 d)) (h1 : Mu W s (.slice (some ⟨s + 1, 0, none⟩) m m) (sh xs d pre).2) (h2 : Boxed W (s + 1 + 1) 160 (.slice (some ⟨s + 1, 0, none⟩) m m)) (h3 : Boxed W (s + 1 + 1 + 1) 3 (.int .i64 ((sh xs d pre).1 : Nat))) (h4 : Boxed W (s + 1 + 1 + 1 + 1) 160 (.slice A m c)) (hBl : Below s w W)
    {u : Value} (ea : a = (((sh xs d pre).1 * 10000 + xs[x.1]) / d : Nat)) (eb : b = (((sh xs d pre).1 * 10000 + xs[x.1]) % d : Nat)) :
    let W' := (((W.setCell ⟨s + 1 + 1 + 1, 0, none⟩ u).setCell ⟨s + 1, x.1, none⟩ (.int .i64 a)).setCell ⟨s + 1 + 1 + 1, 0, none⟩ (.int .i64 b)).drew
    KeepsOthers W W' ∧ KpI s (s + 1 + 1 + 1 + 1) W W' ∧ ((Boxed W' s 3 (.int .i64 d) ∧ Mu W' s (.slice (some ⟨s + 1, 0, none⟩) m m) (sh xs d (pre ++ [x])).2 ∧ Boxed W' (s + 1 + 1) 160 (.slice (some ⟨s + 1, 0, none⟩) m m) ∧ Boxed W' (s + 1 + 1 + 1) 3 (.int .i64 ((sh xs d (pre ++ [x])).1 : Nat)) ∧ Boxed W' (s + 1 + 1 + 1 + 1) 160 (.slice A m c)) ∧ Below s w W') := by
  have hlen := sh_len xs d pre
  have hB1 : Below s W ((((W.setCell ⟨s + 1 + 1 + 1, 0, none⟩ u).setCell ⟨s + 1, x.1, none⟩ (.int .i64 a)).setCell ⟨s + 1 + 1 + 1, 0, none⟩ (.int .i64 b)).drew) :=
    ((((Below.refl s W).setCell (p := ⟨s + 1 + 1 + 1, 0, none⟩) (by simp; omega) u).setCell (p := ⟨s + 1, x.1, none⟩) (by simp) _).setCell (p := ⟨s + 1 + 1 + 1, 0, none⟩) (by simp; omega) _).drew
  have f : ∀ (B : Nat) (t : TypeId) (v : Value), Boxed W B t v → B ≠ s + 1 + 1 + 1 → B ≠ s + 1 → Boxed ((((W.setCell ⟨s + 1 + 1 + 1, 0, none⟩ u).setCell ⟨s + 1, x.1, none⟩ (.int .i64 a)).setCell ⟨s + 1 + 1 + 1, 0, none⟩ (.int .i64 b)).drew) B t v := fun B t v h n1 n2 =>
    boxed_far (boxed_far (boxed_far h (p := ⟨s + 1 + 1 + 1, 0, none⟩) n1 u) (p := ⟨s + 1, x.1, none⟩) n2 _) (p := ⟨s + 1 + 1 + 1, 0, none⟩) n1 _
  refine ⟨(((KeepsOthers.setCell _ _ _).trans (KeepsOthers.setCell _ _ _)).trans (KeepsOthers.setCell _ _ _)).trans (KeepsOthers.drew _), ⟨hB1, ?_⟩, ⟨f _ _ _ h0 (by omega) (by omega), ?_, f _ _ _ h2 (by omega) (by omega), ?_, f _ _ _ h4 (by omega) (by omega)⟩, hBl.trans hB1⟩
  · exact (f _ _ _ h4 (by omega) (by omega)).cell.trans h4.cell.symm
  · rw [sh_snoc]
    have k1 := h1.far (p := ⟨s + 1 + 1 + 1, 0, none⟩) (by simp [Value.ownBlock]) u
    have k2 := k1.set_ (i := x.1) (by rw [hlen]; exact x.2) (((sh xs d pre).1 * 10000 + xs[x.1]) / d)
    rw [← ea] at k2
    exact (k2.far (p := ⟨s + 1 + 1 + 1, 0, none⟩) (by simp [Value.ownBlock]) _).below (Below.refl _ _).drew
  · have k1 := Boxed.set u h3
    have k2 := boxed_far k1 (p := ⟨s + 1, x.1, none⟩) (by show s + 1 + 1 + 1 ≠ s + 1; omega) (.int .i64 a)
    have k3 := Boxed.set (.int .i64 b) k2
    rw [eb] at k3 ⊢
    rw [sh_snoc]
    exact k3
set_option maxRecDepth 100000 in
set_option maxHeartbeats 4000000 in
theorem n_short (A : Option Addr) (m c : Nat) (xs : List Nat) (d : Nat) (w : World) (ha : Ls w A m xs) (hL : isL xs) (hd : 0 < d) (hd2 : d ≤ 10000) :
    Calls Tryz.prog 206 #[.slice A m c, .int .i64 (d : Nat)] w fun e w' => RetQR w (lv xs / d) (lv xs % d) e w' := by
  refine (callsIn_wide (n := 5)).1 ?_
  refine callsIn_of_wp_marks Tryz.func206 rfl trivial ?_ rfl
  simp only [Tryz.ntmps206, List.size_toArray, List.length_cons, List.length_nil, Nat.reduceAdd, Nat.reduceSub, Array.replicate_succ, Array.replicate_zero, List.push_toArray, List.append_toArray, List.nil_append, List.cons_append]
  have hab := ha.big
  have hml := ha.len
  subst hml
  have hmk := make_limbs xs.length (by omega)
  gi_wp2_with (refine ⟨trivial, ?_⟩; gi_at_call 204; refine (back_in Fence.wide _ trivial rfl _ _ _ _).mono ?_; rintro e w' ⟨rfl, rfl⟩)
  have b0 := Boxed.new w 3 (.int .i64 d)
  have b1 := Mu.made (w := w.alloc (.cells #[.int .i64 d] 3)) (base := w.heap.size) (by simp) xs.length (by omega)
  have b2 := Boxed.new ((w.alloc (.cells #[.int .i64 d] 3)).alloc (.cells (madeCells #[.int .i64 0] xs.length) 3)) 160 (.slice (some ⟨w.heap.size + 1, 0, none⟩) xs.length xs.length)
  have b3 := Boxed.new (((w.alloc (.cells #[.int .i64 d] 3)).alloc (.cells (madeCells #[.int .i64 0] xs.length) 3)).alloc (.cells #[.slice (some ⟨w.heap.size + 1, 0, none⟩) xs.length xs.length] 160)) 3 (.int .i64 0)
  have b4 := Boxed.new ((((w.alloc (.cells #[.int .i64 d] 3)).alloc (.cells (madeCells #[.int .i64 0] xs.length) 3)).alloc (.cells #[.slice (some ⟨w.heap.size + 1, 0, none⟩) xs.length xs.length] 160)).alloc (.cells #[.int .i64 0] 3)) 160 (.slice A xs.length c)
  simp only [World.size_alloc] at b1 b2 b3 b4
  have hB0 : Below w.heap.size w (((((w.alloc (.cells #[.int .i64 d] 3)).alloc (.cells (madeCells #[.int .i64 0] xs.length) 3)).alloc (.cells #[.slice (some ⟨w.heap.size + 1, 0, none⟩) xs.length xs.length] 160)).alloc (.cells #[.int .i64 0] 3)).alloc (.cells #[.slice A xs.length c] 160)) := (by repeat (first | exact Below.refl _ _ | assumption | refine b_then ?_ (by assumption) | refine b_alloc ?_ _ | refine b_drewN ?_ _ | refine Below.drew ?_ | refine b_set ?_ (by first | exact Nat.le_refl _ | (simp; done) | (simp; omega) | omega) _))
  refine wpIn_rangeFunc_ownF rfl (by omega) (gf := 224) (lb := #[.pointer (some ⟨w.heap.size + 1 + 1 + 1 + 1, 0, none⟩)]) rfl trivial (enters_of Tryz.func224 (by kernel_rfl) rfl)
    (back_stops Fence.wide _ trivial rfl (by omega) (w.heap.size + 1 + 1 + 1 + 1) w.heap.size _ _ _ xs _ (by simp) (by simp; omega) b4.cell (w0 := w) rfl ha hB0) (fun h k => h.trans k) (KpI.turn (by simp; omega) (by simp)) (Below.refl _ _) (fun _ => rfl)
    (fun pre W => (Boxed W w.heap.size 3 (.int .i64 d) ∧ Mu W w.heap.size (.slice (some ⟨w.heap.size + 1, 0, none⟩) xs.length xs.length) (sh xs d pre).2 ∧ Boxed W (w.heap.size + 1 + 1) 160 (.slice (some ⟨w.heap.size + 1, 0, none⟩) xs.length xs.length) ∧ Boxed W (w.heap.size + 1 + 1 + 1) 3 (.int .i64 ((sh xs d pre).1 : Nat)) ∧ Boxed W (w.heap.size + 1 + 1 + 1 + 1) 160 (.slice A xs.length c)) ∧ Below w.heap.size w W)
    (fun _ _ _ => False)
    (OwnFrom.and (OwnFrom.and (Go.Own.from (boxed_own _ _ _) _) (OwnFrom.and (Go.Own.from (mu_own _ _ _) _) (OwnFrom.and (Go.Own.from (boxed_own _ _ _) _) (OwnFrom.and (Go.Own.from (boxed_own _ _ _) _) (Go.Own.from (boxed_own _ _ _) _))))) (ownFrom_below (Nat.le_refl _) (by simp; omega)))
    (fun _ _ _ _ _ hs _ _ => hs)
    ⟨⟨(((b0.alloc _).alloc _).alloc _).alloc _, (((b1.alloc _).alloc _).alloc _), (b2.alloc _).alloc _, b3.alloc _, b4⟩, hB0⟩
    (fun x => { tmps := #[.slice A xs.length c, .int .i64 d, undef, .pointer (some ⟨w.heap.size, 0, none⟩), .slice none 0 0, .slice none 0 0, .pointer (some ⟨w.heap.size + 1 + 1, 0, none⟩), .pointer (some ⟨w.heap.size + 1 + 1 + 1, 0, none⟩), .int .i64 (x.1 : Nat), .int .i64 (xs[x.1] : Nat),
        .slice A xs.length c, .int .i64 xs.length, .slice (some ⟨w.heap.size + 1, 0, none⟩) xs.length xs.length, .slice A xs.length c, .func (.func 224) #[] #[.pointer (some ⟨w.heap.size + 1 + 1 + 1 + 1, 0, none⟩)], .int .i64 (x.1 : Nat), .int .i64 (xs[x.1] : Nat),
        undef, undef, undef, undef, undef, undef, undef, undef, undef, undef, undef, undef, undef, undef, undef, undef, undef, undef], defers := [] }) ?assign ?body ?done ?stop
  case assign =>
    intro l x W K hK
    simp only [benc]
    gi_wp2
    exact hK
  case body =>
    rintro l pre x W ⟨⟨h0, h1, h2, h3, h4⟩, hBl⟩ hpl
    have hx : xs[x.1] < 10000 := isL_get hL x.2
    have hr := sh_rest xs hd pre
    have hlen := sh_len xs d pre
    have hB := hBl.size
    have c0 := h0.cell
    have c2 := h2.cell
    have c3 := h3.cell
    have f3 := h3.frozen
    have hxl : x.1 < xs.length := x.2
    obtain ⟨c1, f1, _, _⟩ := h1.cell (i := x.1) (by omega)
    have hmx : Tryz.prog.follows .mixedOrders = true := by kernel_rfl
    gi_wp2
    apply wpIn_one
    case h =>
      gi_region_with_o fail
      all_goals exact ⟨rfl, rfl⟩
    gi_wp2
    exact short_round rfl h0 h1 h2 h3 h4 hBl (by push_cast; rfl) (by push_cast; rfl)
  case done =>
    rintro D zs W hD rfl ⟨⟨h0, h1, h2, h3, h4⟩, hBl⟩ hK
    obtain ⟨e1, e2⟩ := sh_all (xs := xs) hd
    have hlen := sh_len xs d (List.finRange xs.length).reverse
    have hLo := sh_isL hL hd (List.finRange xs.length).reverse
    have hrd := sh_rest xs hd (List.finRange xs.length).reverse
    obtain ⟨o, ho⟩ : ∃ o, (sh xs d (List.finRange xs.length).reverse).2 = o := ⟨_, rfl⟩
    obtain ⟨r, hr⟩ : ∃ r, (sh xs d (List.finRange xs.length).reverse).1 = r := ⟨_, rfl⟩
    rw [ho] at h1 e2 hlen hLo
    rw [hr] at h3 e1 hrd
    have c2 := h2.cell
    have c3 := h3.cell
    obtain ⟨A1, c1, hv1, hls1, hc11, hc12⟩ := h1.ls (by omega)
    rw [hlen] at hv1 hls1 hc11
    injection hv1 with hv1 _ hv2
    subst hv1; subst hv2
    have HLa : Ls W.drew (some ⟨w.heap.size + 1, 0, none⟩) xs.length o := hls1.below (Below.refl _ _).drew
    have HLb : Ls (W.alloc (.cells #[.int .i64 (r : Nat)] 3)).drew (some ⟨w.heap.size + 1, 0, none⟩) xs.length o := hls1.below (b_alloc (Below.refl _ _) _).drew
    have HLc : Ls (W.alloc (.cells #[.int .i64 (r : Nat)] 3)).drew (some ⟨W.heap.size, 0, none⟩) 1 [r] := (ls_one W r).below (Below.refl _ _).drew
    have E1 := Lib.hid e1
    have E2 := Lib.hid e2
    clear e1 e2 b0 b1 b2 b3 b4 hB0 hmk ha
    have hLr : isL [r] := fun y hy => by rw [List.mem_singleton.1 hy]; omega
    have hmx : Tryz.prog.follows .mixedOrders = true := by kernel_rfl
    have hsA : w.heap.size + 1 + 1 < W.heap.size := h2.lt
    have hsB : w.heap.size + 1 + 1 + 1 < W.heap.size := h3.lt
    gi_wp2
    apply wpIn_one
    case h =>
      gi_region_with_o (refine ⟨trivial, ?_⟩; gi_at_call 203; (with_reducible refine (callsIn_wide.2 (n_trim _ _ _ _ _ (by assumption) (by assumption) (by first | assumption | exact Nat.le_refl _) (by omega))).mono ?_); rintro e w' ⟨rfl, rfl⟩)
      all_goals exact ⟨rfl, rfl⟩
    gi_wp2
    have hDs : w.heap.size + 5 ≤ D := by simp at hD; omega
    have hDl : D < W.heap.size := (Array.getElem?_eq_some_iff.1 hK).1
    have hK' : (W.alloc (.cells #[.int .i64 (r : Nat)] 3)).drew.heap[D]? = some (.deferred (some [])) := (Below.heap_alloc W _ D hDl).trans hK
    refine ⟨by simp, .inl ⟨_, _, rfl, run_takeDeferred hK', ?_⟩⟩
    have hg := grownBy_putObj' (W.alloc (.cells #[.int .i64 (r : Nat)] 3)).drew D (.deferred none)
    have h5 := (HLb.cut hLo).grown hg (fun ad e => by injection e with e; subst e; show w.heap.size + 1 ≠ D; omega)
    have h6 := (HLc.cut hLr).grown hg (fun ad e => by injection e with e; subst e; show W.heap.size ≠ D; omega)
    have hv : lv [r] = r := by simp [lv]
    rw [hv] at h6
    refine ⟨_, results_tmp2 rfl _ _ _, ?_⟩
    rw [← E2.out, ← E1.out]
    refine ⟨some ⟨w.heap.size + 1, 0, none⟩, xs.length, some ⟨W.heap.size, 0, none⟩, 1, ?_, h5, h6, (b_alloc hBl _).drew.trans (belowK_b (w := w) (Nat.le_refl _) _ D _ _ (by omega) hK' rfl rfl)⟩
    conv => rhs; rw [← hv]
    rfl
  case stop =>
    rintro D cd pre W _ _ h _
    exact h.elim
end Go.Proofs.YtjdofncognaaoaaGreatDoor

/- Walks of nat: div (Knuth's algorithm D). -/
namespace Go.Proofs.YtjdofncognaaoaaGreatDoor
open Go.RowKit
set_option linter.unusedVariables false
set_option linter.unusedSimpArgs false

/-! ### The step of the long division: u from the limb j on, by V = lv v of n limbs -/
/-- What the test of a quotient sees: U is what is divided, V what it is divided by. -/
structure Win (U V v1 v2 H u2 T : Nat) : Prop where
  hU1 : (H * 10000 + u2) * T ≤ U
  hU2 : U < (H * 10000 + u2 + 1) * T
  hV1 : (v1 * 10000 + v2) * T ≤ V
  hV2 : V < (v1 * 10000 + v2 + 1) * T
  hv : 0 < v1
  hv2 : v2 < 10000
  hu2 : u2 < 10000
  hlt : U < V * 10000
def Trq (U V H v1 q r : Nat) : Prop := H = q * v1 + r ∧ U < (q + 1) * V
variable {U V v1 v2 H u2 T : Nat}
theorem Win.vT (h : Win U V v1 v2 H u2 T) : 10000 * T ≤ V := Nat.le_trans (Nat.mul_le_mul_right _ (by have := h.hv; omega)) h.hV1
theorem head_le {H Y u2 Z : Nat} (h1 : H < Y) (h2 : u2 < 10000) (h3 : Y * 10000 ≤ Z) : H * 10000 + u2 + 1 ≤ Z := by
  have h4 : (H + 1) * 10000 ≤ Y * 10000 := Nat.mul_le_mul_right _ h1
  rw [Nat.add_mul] at h4
  rw [Nat.add_assoc]
  exact Nat.le_trans (Nat.le_trans (Nat.add_le_add_left (Nat.succ_le_of_lt h2) _) (by rw [Nat.one_mul] at h4; exact h4)) h3
theorem Win.init (h : Win U V v1 v2 H u2 T) : Trq U V H v1 (H / v1) (H % v1) := by
  refine ⟨by rw [Nat.mul_comm]; exact (Nat.div_add_mod H v1).symm, ?_⟩
  have h1 : H < (H / v1 + 1) * v1 := by rw [Nat.mul_comm]; exact Nat.lt_mul_div_succ H h.hv
  refine Nat.lt_of_lt_of_le h.hU2 ?_
  have h2 : H * 10000 + u2 + 1 ≤ (H / v1 + 1) * (v1 * 10000 + v2) := by
    have h3 : (H / v1 + 1) * v1 * 10000 ≤ (H / v1 + 1) * (v1 * 10000 + v2) := by
      rw [Nat.mul_assoc]; exact Nat.mul_le_mul_left _ (Nat.le_add_right _ _)
    exact head_le h1 h.hu2 h3
  calc (H * 10000 + u2 + 1) * T ≤ (H / v1 + 1) * (v1 * 10000 + v2) * T := Nat.mul_le_mul_right _ h2
    _ = (H / v1 + 1) * ((v1 * 10000 + v2) * T) := Nat.mul_assoc _ _ _
    _ ≤ _ := Nat.mul_le_mul_left _ h.hV1
theorem Win.down (h : Win U V v1 v2 H u2 T) {q r : Nat} (t : Trq U V H v1 q r) (c : 10000 ≤ q ∨ r * 10000 + u2 < q * v2) : 0 < q ∧ Trq U V H v1 (q - 1) (r + v1) := by
  have hq : 0 < q := by
    rcases c with c | c
    · omega
    · rcases Nat.eq_zero_or_pos q with rfl | hq
      · rw [Nat.zero_mul] at c; omega
      · exact hq
  obtain ⟨p, rfl⟩ : ∃ p, q = p + 1 := ⟨q - 1, by omega⟩
  refine ⟨hq, ?_, ?_⟩
  · rw [t.1, Nat.add_sub_cancel, Nat.add_mul]; omega
  · rw [Nat.add_sub_cancel]
    rcases c with c | c
    · exact Nat.lt_of_lt_of_le h.hlt (by rw [Nat.mul_comm]; exact Nat.mul_le_mul_right _ c)
    · exact knuth_gt t.1 h.hU2 h.hV1 c
theorem Win.stop (h : Win U V v1 v2 H u2 T) {q r : Nat} (t : Trq U V H v1 q r) (hq : q < 10000) (c : q * v2 ≤ r * 10000 + u2) : (q - 1) * V ≤ U :=
  knuth_le t.1 h.hU1 h.hV2 h.vT (Nat.le_of_lt hq) c
theorem Win.H_lt (h : Win U V v1 v2 H u2 T) : H < (v1 + 1) * 10000 := by
  have h1 : (H * 10000) * T < ((v1 + 1) * 10000 * 10000) * T := by
    calc (H * 10000) * T ≤ (H * 10000 + u2) * T := Nat.mul_le_mul_right _ (Nat.le_add_right _ _)
      _ ≤ U := h.hU1
      _ < V * 10000 := h.hlt
      _ ≤ ((v1 * 10000 + v2 + 1) * T) * 10000 := Nat.mul_le_mul_right _ (Nat.le_of_lt h.hV2)
      _ = ((v1 * 10000 + v2 + 1) * 10000) * T := by rw [Nat.mul_right_comm]
      _ ≤ ((v1 + 1) * 10000 * 10000) * T := Nat.mul_le_mul_right _ (Nat.mul_le_mul_right _ (by have := h.hv2; omega))
  have := Nat.lt_of_mul_lt_mul_right h1
  omega
theorem Win.far (h : Win U V v1 v2 H u2 T) {q r : Nat} (t : Trq U V H v1 q r) (hr : 10000 ≤ r) : q < 10000 ∧ (q - 1) * V ≤ U := by
  have h1 := h.H_lt
  rw [t.1] at h1
  have hq : q < 10000 := by
    rcases Nat.lt_or_ge q 10000 with hq | hq
    · exact hq
    · have : 10000 * v1 ≤ q * v1 := Nat.mul_le_mul_right _ hq
      omega
  refine ⟨hq, h.stop t hq ?_⟩
  have h2 : q * v2 ≤ 10000 * 10000 := Nat.mul_le_mul (Nat.le_of_lt hq) (Nat.le_of_lt h.hv2)
  omega

theorem lv_low {l : List Nat} (h : isL l) (k : Nat) : lv (l.take k) < 10000 ^ k := by
  have h1 := lv_lt (isL_take h k)
  refine Nat.lt_of_lt_of_le h1 (Nat.pow_le_pow_right (by decide) ?_)
  rw [List.length_take]; exact Nat.min_le_left _ _
theorem lv_top2 {v : List Nat} {n : Nat} (hn : v.length = n + 2) : lv v = (v[n + 1] * 10000 + v[n]) * 10000 ^ n + lv (v.take n) := by
  have h1 := lv_take_succ v (n + 1) (by omega)
  have h2 := lv_take_succ v n (by omega)
  rw [List.take_of_length_le (by omega)] at h1
  rw [h1, h2, Nat.pow_succ, Nat.add_mul]
  rw [Nat.mul_comm (10000 ^ n) v[n], Nat.mul_comm (10000 ^ n * 10000), Nat.mul_assoc, Nat.mul_comm 10000 (10000 ^ n)]
  omega
theorem lv_zero_drop {l : List Nat} {k : Nat} (hk : k ≤ l.length) (h : lv l < 10000 ^ k) : lv (l.drop k) = 0 ∧ lv (l.take k) = lv l := by
  have h1 := lv_split l k hk
  rcases Nat.eq_zero_or_pos (lv (l.drop k)) with h0 | h0
  · exact ⟨h0, by rw [h1, h0]; simp⟩
  · have : 10000 ^ k ≤ 10000 ^ k * lv (l.drop k) := Nat.le_mul_of_pos_right _ h0
    omega
theorem lv_top3 {l : List Nat} {n : Nat} (hn : n + 3 ≤ l.length) (h : lv l < 10000 ^ (n + 3)) : lv l = ((l[n + 2] * 10000 + l[n + 1]) * 10000 + l[n]) * 10000 ^ n + lv (l.take n) := by
  rw [← (lv_zero_drop hn h).2, lv_take_succ l (n + 2) (by omega), lv_take_succ l (n + 1) (by omega), lv_take_succ l n (by omega)]
  simp only [Nat.pow_succ]
  generalize l[n + 2] = a
  generalize l[n + 1] = b
  generalize l[n] = c
  generalize lv (l.take n) = d
  generalize 10000 ^ n = P
  simp only [Nat.add_mul]
  rw [Nat.mul_comm P c, show P * 10000 * b = b * 10000 * P by rw [Nat.mul_comm, Nat.mul_comm P, Nat.mul_assoc], show P * 10000 * 10000 * a = a * 10000 * 10000 * P by simp only [Nat.mul_comm, Nat.mul_left_comm, Nat.mul_assoc]]
  omega

/-- The state ahead of the limb j: u is what is left, o what is found. -/
def dvI (u0 v : List Nat) (L n j : Nat) (u o : List Nat) : Prop := isL u ∧ isL o ∧ u.length = L ∧ o.length = L - n ∧ (∀ i, i < j → o.getD i 0 = 0) ∧ lv u0 = lv u + lv v * lv o ∧ lv u < lv v * 10000 ^ j
theorem dvI.win {u0 v u o : List Nat} {L n j : Nat} (h : dvI u0 v L (n + 2) (j + 1) u o) (hv : isL v) (hn : v.length = n + 2) (hL : j + n + 3 ≤ L) (hv0 : 0 < v[n + 1]) :
    Win (lv (u.drop j)) (lv v) v[n + 1] v[n] ((u[j + (n + 2)]'(by rw [h.2.2.1]; omega)) * 10000 + (u[j + (n + 1)]'(by rw [h.2.2.1]; omega))) (u[j + n]'(by rw [h.2.2.1]; omega)) (10000 ^ n) := by
  obtain ⟨h1, h2, h3, h4, h5, h6, h7⟩ := h
  have hs := lv_split u j (by omega)
  have hU : lv (u.drop j) < lv v * 10000 := by
    have : 10000 ^ j * lv (u.drop j) < 10000 ^ j * (lv v * 10000) := by
      have e : lv v * 10000 ^ (j + 1) = 10000 ^ j * (lv v * 10000) := by rw [Nat.pow_succ, Nat.mul_left_comm]
      rw [← e]; omega
    exact Nat.lt_of_mul_lt_mul_left this
  have hV := lv_lt hv
  rw [hn] at hV
  have hU' : lv (u.drop j) < 10000 ^ (n + 3) := by
    have : lv v * 10000 ≤ 10000 ^ (n + 2) * 10000 := Nat.mul_le_mul_right _ (Nat.le_of_lt hV)
    rw [← Nat.pow_succ] at this
    exact Nat.lt_of_lt_of_le hU this
  have e1 := lv_top3 (l := u.drop j) (n := n) (by rw [List.length_drop]; omega) hU'
  simp only [List.getElem_drop] at e1
  have e2 := lv_top2 hn
  have l1 := lv_low (isL_drop h1 j) n
  have l2 := lv_low hv n
  exact ⟨by rw [e1]; exact Nat.le_add_right _ _, by rw [e1, Nat.add_mul _ 1, Nat.one_mul]; omega, by rw [e2]; exact Nat.le_add_right _ _, by rw [e2, Nat.add_mul _ 1, Nat.one_mul]; omega, hv0, isL_get hv _, isL_get h1 _, hU⟩
theorem getD_set {l : List Nat} {i j x : Nat} : (l.set i x).getD j 0 = if i = j ∧ j < l.length then x else l.getD j 0 := by
  simp only [List.getD, List.getElem?_set]
  by_cases h : i = j
  · subst h
    by_cases hl : i < l.length
    · simp [hl]
    · simp [hl]
  · simp [h]
/-- The quotient is right: the next state. -/
theorem dvI.next {u0 v u o u' : List Nat} {L n j q : Nat} (h : dvI u0 v L n (j + 1) u o) (hj : j < L - n) (hjl : j ≤ L) (hq : q < 10000) (hu : isL u') (hl : u'.length = u.length) (he : lv u' + q * 10000 ^ j * lv v = lv u) (hlt : lv (u.drop j) < (q + 1) * lv v) :
    dvI u0 v L n j u' (o.set j q) := by
  obtain ⟨h1, h2, h3, h4, h5, h6, h7⟩ := h
  refine ⟨hu, isL_set h2 _ hq, by rw [hl, h3], by rw [List.length_set, h4], ?_, ?_, ?_⟩
  · intro i hi
    rw [getD_set, if_neg (by omega)]
    exact h5 i (by omega)
  · have h8 := lv_set (l := o) (i := j) (by omega) q
    have h9 : o[j]'(by omega) = 0 := by
      have := h5 j (by omega)
      rw [List.getD, List.getElem?_eq_getElem (by omega)] at this
      exact this
    rw [h9, Nat.mul_zero, Nat.add_zero] at h8
    rw [h6, h8, ← he, Nat.mul_add, Nat.mul_comm (lv v) (10000 ^ j * q), Nat.mul_comm (10000 ^ j) q]
    omega
  · have hs := lv_split u j (by omega)
    have hlo := lv_low h1 j
    rw [Nat.mul_comm (lv v)]
    have e1 : q * 10000 ^ j * lv v = 10000 ^ j * (q * lv v) := by rw [Nat.mul_comm q, Nat.mul_assoc]
    rw [e1] at he
    rw [Nat.add_mul, Nat.one_mul] at hlt
    have e2 : 10000 ^ j * (lv (u.drop j) + 1) ≤ 10000 ^ j * (q * lv v + lv v) := Nat.mul_le_mul_left _ hlt
    rw [Nat.mul_add, Nat.mul_add, Nat.mul_one] at e2
    omega
theorem dvI.low {u0 v u o : List Nat} {L n j : Nat} (h : dvI u0 v L n (j + 1) u o) (hv : isL v) (hn : v.length = n) (hL : j + n + 1 ≤ L) : lv (u.drop (j + (n + 1))) = 0 ∧ lv v < 10000 ^ n := by
  obtain ⟨h1, h2, h3, h4, h5, h6, h7⟩ := h
  have hV := lv_lt hv
  rw [hn] at hV
  have : lv v * 10000 ^ (j + 1) ≤ 10000 ^ n * 10000 ^ (j + 1) := Nat.mul_le_mul_right _ (Nat.le_of_lt hV)
  rw [← Nat.pow_add] at this
  exact ⟨(lv_zero_drop (k := j + (n + 1)) (by omega) (by rw [show j + (n + 1) = n + (j + 1) by omega]; omega)).1, hV⟩
theorem lv_lt_of {u' : List Nat} {k : Nat} (hu : isL u') (hk : k ≤ u'.length) (h : lv (u'.drop k) = 0) : lv u' < 10000 ^ k := by
  rw [lv_split u' k hk, h, Nat.mul_zero, Nat.add_zero]
  exact lv_low hu k
/-- Nothing is missing: the quotient that was tried is right. -/
theorem dvI.hit {u0 v u o u' : List Nat} {L n j q : Nat} (h : dvI u0 v L n (j + 1) u o) (hn : v.length = n) (hL : j + n + 1 ≤ L) (hq : q < 10000) (hlt : lv (u.drop j) < (q + 1) * lv v) (ht : takI u v q j (n + 1) u' 0) : dvI u0 v L n j u' (o.set j q) := by
  obtain ⟨t1, t2, t3, t4, t5⟩ := ht
  rw [List.take_of_length_le (by omega)] at t5
  exact h.next (by omega) (by omega) hq t1 t2 (by rw [t5]; simp) hlt
/-- Something is missing: it was one above, and what is given back makes it right. -/
theorem dvI.miss {u0 v u o u' u'' : List Nat} {L n j q c c2 : Nat} (h : dvI u0 v L n (j + 1) u o) (hv : isL v) (hn : v.length = n) (hL : j + n + 1 ≤ L) (hq : q < 10000) (hge : (q - 1) * lv v ≤ lv (u.drop j)) (hc : 0 < c) (ht : takI u v q j (n + 1) u' c) (hg : givI u' v j (n + 1) u'' c2) :
    0 < q ∧ dvI u0 v L n j u'' (o.set j (q - 1)) := by
  obtain ⟨t1, t2, t3, t4, t5⟩ := ht
  obtain ⟨g1, g2, g3, g4, g5⟩ := hg
  obtain ⟨hz, hV⟩ := h.low hv hn hL
  have hul := h.2.2.1
  have hu1 : isL u := h.1
  rw [List.take_of_length_le (by omega)] at t5 g5
  have l1 : lv u' < 10000 ^ (j + (n + 1)) := lv_lt_of t1 (by omega) (by rw [t3]; exact hz)
  have l2 : lv u'' < 10000 ^ (j + (n + 1)) := lv_lt_of g1 (by omega) (by rw [g3, t3]; exact hz)
  have hs := lv_split u j (by omega)
  have hlo := lv_low hu1 j
  have e1 : q * 10000 ^ j * lv v = 10000 ^ j * (q * lv v) := by rw [Nat.mul_comm q, Nat.mul_assoc]
  rw [e1] at t5
  have hcP : 10000 ^ (j + (n + 1)) ≤ c * 10000 ^ (j + (n + 1)) := Nat.le_mul_of_pos_left _ hc
  have hlt : lv (u.drop j) < q * lv v := by
    have : 10000 ^ j * lv (u.drop j) < 10000 ^ j * (q * lv v) := by omega
    exact Nat.lt_of_mul_lt_mul_left this
  have hq0 : 0 < q := by
    rcases Nat.eq_zero_or_pos q with rfl | hq0
    · rw [Nat.zero_mul] at hlt; omega
    · exact hq0
  obtain ⟨p, rfl⟩ : ∃ p, q = p + 1 := ⟨q - 1, by omega⟩
  rw [Nat.add_sub_cancel] at hge ⊢
  rw [Nat.add_mul, Nat.one_mul] at t5
  have e2 : 10000 ^ j * (p * lv v) ≤ 10000 ^ j * lv (u.drop j) := Nat.mul_le_mul_left _ hge
  have e3 : 10000 ^ j * lv v ≤ 10000 ^ (j + (n + 1)) := by
    rw [Nat.pow_add]
    refine Nat.mul_le_mul_left _ (Nat.le_trans (Nat.le_of_lt hV) (Nat.pow_le_pow_right (by decide) (by omega)))
  have hVp : 10000 ^ j * lv v < 10000 ^ (j + (n + 1)) := by
    rw [Nat.pow_add]
    refine Nat.mul_lt_mul_of_pos_left (Nat.lt_of_lt_of_le hV (Nat.pow_le_pow_right (by decide) (by omega))) (Nat.pow_pos (by decide))
  rw [Nat.mul_add] at t5
  have hc1 : c = 1 := by
    rcases Nat.lt_or_ge c 2 with h2 | h2
    · omega
    · have : 2 * 10000 ^ (j + (n + 1)) ≤ c * 10000 ^ (j + (n + 1)) := Nat.mul_le_mul_right _ h2
      omega
  subst hc1
  rw [Nat.one_mul] at t5
  have hc2 : c2 = 1 := by
    rcases Nat.lt_or_ge c2 1 with h2 | h2
    · obtain rfl : c2 = 0 := by omega
      rw [Nat.zero_mul] at g5
      omega
    · omega
  subst hc2
  rw [Nat.one_mul] at g5
  refine ⟨hq0, h.next (by omega) (by omega) (by omega) g1 (by rw [g2, t2]) ?_ hlt⟩
  rw [show p * 10000 ^ j * lv v = 10000 ^ j * (p * lv v) by rw [Nat.mul_comm p, Nat.mul_assoc]]
  omega
theorem dvI.start {a v : List Nat} {n : Nat} (ha : isL a) (hv : isL v) (hn : v.length = n + 1) (hv0 : 0 < v[n]) (hl : n + 1 ≤ a.length + 2) :
    dvI (a ++ [0, 0]) v (a.length + 2) (n + 1) (a.length + 2 - (n + 1)) (a ++ [0, 0]) (List.replicate (a.length + 2 - (n + 1)) 0) := by
  refine ⟨isL_append ha (by intro x hx; simp at hx; omega), isL_rep _, by simp, by simp, ?_, ?_, ?_⟩
  · intro i hi
    rw [List.getD, List.getElem?_replicate, if_pos hi]; rfl
  · rw [lv_rep, Nat.mul_zero, Nat.add_zero]
  · have e : lv (a ++ [0, 0]) = lv a := by rw [lv_append]; simp [lv]
    rw [e]
    have h1 := lv_lt ha
    have h2 : 10000 ^ n ≤ lv v := by
      rw [← List.take_of_length_le (l := v) (i := n + 1) (by omega), lv_take_succ v n (by omega)]
      have : 10000 ^ n * 1 ≤ 10000 ^ n * v[n] := Nat.mul_le_mul_left _ hv0
      omega
    have h3 : 10000 ^ n * 10000 ^ (a.length + 2 - (n + 1)) ≤ lv v * 10000 ^ (a.length + 2 - (n + 1)) := Nat.mul_le_mul_right _ h2
    rw [← Nat.pow_add] at h3
    have h4 : 10000 ^ a.length ≤ 10000 ^ (n + (a.length + 2 - (n + 1))) := Nat.pow_le_pow_right (by decide) (by omega)
    omega
/-- What is found at the end. -/
theorem dvI.done {a b s : Nat} {u0 v u o : List Nat} {L n : Nat} (h : dvI u0 v L n 0 u o) (hs : 0 < s) (hu : lv u0 = a * s) (hv : lv v = b * s) (hb : 0 < b) : lv o = a / b ∧ lv u / s = a % b := by
  obtain ⟨_, _, _, _, _, h6, h7⟩ := h
  rw [hu, hv] at h6
  rw [hv, Nat.pow_zero, Nat.mul_one] at h7
  have e1 : a * s / (b * s) = a / b := Nat.mul_div_mul_right a b hs
  have e2 : a * s % (b * s) = (a % b) * s := Nat.mul_mod_mul_right s a b
  have hbs : 0 < b * s := Nat.mul_pos hb hs
  constructor
  · rw [← e1, h6, Nat.add_mul_div_left _ _ hbs, Nat.div_eq_of_lt h7, Nat.zero_add]
  · have : lv u = (a % b) * s := by rw [← e2, h6, Nat.add_mul_mod_self_left, Nat.mod_eq_of_lt h7]
    rw [this, Nat.mul_div_cancel _ hs]
end Go.Proofs.YtjdofncognaaoaaGreatDoor
