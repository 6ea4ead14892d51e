/- Walks of nat: read, both. -/
import Derived.Test.YtpoejheienohjaaGreatDoorNatB
namespace Go.Proofs.YtpoejheienohjaaGreatDoor
open Go.RowKit
set_option linter.unusedVariables false
set_option linter.unusedSimpArgs false

/-- What is handed back is a slice of the call's own that holds the limbs of n. -/
def RetL (w : World) (n : Nat) (e : Ending) (w' : World) : Prop := ∃ A c, e = .returned (.slice A (lim n).length c) ∧ Mu w' w.heap.size (.slice A (lim n).length c) (lim n) ∧ Below w.heap.size w w'
def rdTo (l : List UInt8) (k : Nat) (xs : List Nat) : Prop := isL xs ∧ xs.length + k ≤ l.length ∧ lv xs + 10000 ^ xs.length * nval (l.take k) = nval l
def chunk (l : List UInt8) (k : Nat) : List UInt8 := (l.take k).drop (k - 4)
theorem chunk_dg {l : List UInt8} (h : l.all isDg = true) (k : Nat) : (chunk l k).all isDg = true := by
  rw [List.all_eq_true] at h ⊢
  exact fun c hc => h c (List.mem_of_mem_take (List.mem_of_mem_drop hc))
theorem chunk_len {l : List UInt8} {k : Nat} (hk : k ≤ l.length) : (chunk l k).length = k - (k - 4) := by simp [chunk]; omega
theorem chunk_val {l : List UInt8} (h : l.all isDg = true) {k : Nat} (hk : k ≤ l.length) : nval (chunk l k) < 10000 := by
  have h1 := nval_lt (chunk l k) (fun c hc => List.all_eq_true.1 (chunk_dg h k) c hc)
  have h2 := chunk_len hk
  exact Nat.lt_of_lt_of_le h1 (by
    calc 10 ^ (chunk l k).length ≤ 10 ^ 4 := Nat.pow_le_pow_right (by omega) (by omega)
      _ = 10000 := rfl)
theorem rdTo_step {l : List UInt8} (h : l.all isDg = true) {k : Nat} {xs : List Nat} (H : rdTo l k xs) (hk : 0 < k) : rdTo l (k - 4) (xs ++ [nval (chunk l k)]) := by
  obtain ⟨h1, h2, h3⟩ := H
  refine ⟨isL_append h1 fun x hx => by rw [List.mem_singleton.1 hx]; exact chunk_val h (by omega), by simp; omega, ?_⟩
  rw [lv_snoc, ← h3, List.length_append, List.length_singleton, Nat.pow_succ, Nat.add_assoc, Nat.mul_assoc, ← Nat.mul_add]
  congr 2
  have e1 : l.take k = l.take (k - 4) ++ chunk l k := by
    unfold chunk
    have : l.take (k - 4) = (l.take k).take (k - 4) := by rw [List.take_take, Nat.min_eq_left (by omega)]
    rw [this, List.take_append_drop]
  rw [e1, nval_append, chunk_len (by omega)]
  by_cases h4 : 4 ≤ k
  · rw [show k - (k - 4) = 4 by omega]; omega
  · rw [show k - 4 = 0 by omega, List.take_zero]
    simp [nval]
theorem rdTo_done {l : List UInt8} {xs : List Nat} {n : Nat} (H : rdTo l 0 xs) (hl : l = ntx n) : isL xs ∧ lv xs = n := by
  obtain ⟨h1, _, h3⟩ := H
  refine ⟨h1, ?_⟩
  subst hl
  rw [nval_ntx] at h3
  simpa [nval] using h3
theorem cut_rest (l : List UInt8) (k : Nat) (hk : k ≤ l.length) (j : Nat) (hj : j ≤ k) : (mkS (l.take k)).extract 0 j = mkS (l.take j) := by
  apply s_ext
  rw [s_extract, mkS_l, mkS_l, List.drop_zero, List.take_take, Nat.min_eq_left hj]
theorem cut_chunk (l : List UInt8) (k : Nat) (hk : k ≤ l.length) : (mkS (l.take k)).extract (k - 4) k = mkS (chunk l k) := by
  apply s_ext
  rw [s_extract, mkS_l, mkS_l]
  unfold chunk
  rw [List.take_take, Nat.min_self]
theorem mkS_size (l : List UInt8) : (mkS l).size = l.length := by rw [sz, mkS_l]
set_option maxHeartbeats 1000000 in
theorem n_read (n : Nat) (w : World) (hn : ndg n ≤ 900000000) :
    Calls Tryz.prog 159 #[.string (nS n)] w fun e w' => RetL w n e w' := by
  have hdg : (ntx n).all isDg = true := by
    have := isN_ntx n
    simp only [isN, Bool.and_eq_true] at this
    exact this.1.2
  obtain ⟨l, hl⟩ : ∃ l, l = ntx n := ⟨_, rfl⟩
  have hlen : l.length ≤ 900000000 := by rw [hl, ntx_length]; exact hn
  have hS : nS n = mkS (l.take l.length) := by rw [List.take_length, hl]; rfl
  rw [← hl] at hdg
  rw [hS]
  have HL := Lib.hid hl
  clear hl hS
  have H0 : Hid (rdTo l l.length []) := ⟨isL_nil, by simp, by rw [List.take_length]; simp [lv]⟩
  go_enter Tryz.func159, Tryz.ntmps159
  go_wp2
  go_loopw [0, 3] (fun s out wr => ∃ (k : Nat) (xs : List Nat), k ≤ l.length ∧ s = .string (mkS (l.take k)) ∧ Hid (rdTo l k xs) ∧ Mu wr w.heap.size out xs ∧ Below w.heap.size w wr) (fun s _ _ => match s with | .string b => b.size | _ => 0)
  case atStart => exact ⟨l.length, [], Nat.le_refl _, rfl, H0, Own.nil, (by repeat (first | exact Below.refl _ _ | assumption | refine b_then ?_ (by assumption) | refine b_alloc ?_ _ | refine b_drewN ?_ _ | refine b_set ?_ (by first | exact Nat.le_refl _ | (simp; done) | omega) _))⟩
  case round =>
    obtain ⟨k, xs, hk, rfl, H, hown, hB⟩ := hrel
    have hsz : (mkS (l.take k)).size = k := by rw [mkS_size, List.length_take, Nat.min_eq_left hk]
    have hxl := H.out.2.1
    have hch := Lib.hid (chunk_dg hdg k)
    have hcl := chunk_len hk
    have hcv := Lib.hid (chunk_val hdg hk)
    have hR := Lib.hid (cut_rest l k hk (k - 4) (by omega))
    have hC := Lib.hid (cut_chunk l k hk)
    obtain ⟨S, HS⟩ : ∃ S, Hid (mkS (l.take k) = S) := ⟨_, rfl⟩
    rw [HS.out] at hR hC hsz ⊢
    by_cases hlt : 0 < k
    · have hne : Hid (chunk l k ≠ []) := fun e => by rw [e] at hcl; simp at hcl; omega
      have hcs : (chunk l k).length ≤ 18 := by omega
      have hxs : xs.length ≤ 900000000 := by omega
      have hs0 := hB.size
      by_cases h4 : 4 ≤ k
      · obtain ⟨j, rfl⟩ : ∃ j, k = j + 4 := ⟨k - 4, by omega⟩
        simp only [Nat.add_sub_cancel] at hR hC
        have hR' := hR.out
        have hC' := hC.out
        go_wp2_with (first | (go_at_call 177; (with_reducible refine (c_atoiL _ _ hcs hch.out hne.out).mono ?_); rintro e w1 ⟨rfl, hb1⟩; obtain ⟨hc1, hf1⟩ := bcell hb1; have hs1 := hb1.size; (try simp at hs1)) | (at_builtin; refine wpList_app (v := u3) E_limbs (by omega) ie_length ie_one rfl (.tmp 21) (.tmp 23) rfl rfl ((hown.below hb1).alloc _) ⟨w1.heap.size, 0, none⟩ 1 (dval (chunk l (j + 4))) rfl (new_cells _ _ _ _ rfl) (by first | omega | (simp; omega)) (by first | omega | (simp; omega)) (by first | omega | (simp; omega)) ?_; intro v2 w2 hown2 hg2 hat2))
        go_roundw
        case rel => exact ⟨j, xs ++ [dval (chunk l (j + 4))], by omega, rfl, by rw [dval_nval]; exact rdTo_step hdg H.out hlt, hown2, (((hown.below hb1).alloc _).frame (b_alloc (b_then hB hb1) _) (Nat.le_refl _) hg2)⟩
        case measure => simp [hsz, mkS_size]; omega
      · have hR' := hR.out
        have hC' := hC.out
        have hm : max ((k : Int) - 4) 0 = 0 := by omega
        have hk4 : k - 4 = 0 := by omega
        rw [hk4] at hR' hC'
        go_wp2_with (first | (go_at_call 177; (with_reducible refine (c_atoiL _ _ hcs hch.out hne.out).mono ?_); rintro e w1 ⟨rfl, hb1⟩; obtain ⟨hc1, hf1⟩ := bcell hb1; have hs1 := hb1.size; (try simp at hs1)) | (at_builtin; refine wpList_app (v := u3) E_limbs (by omega) ie_length ie_one rfl (.tmp 21) (.tmp 23) rfl rfl ((hown.below hb1).alloc _) ⟨w1.heap.size, 0, none⟩ 1 (dval (chunk l k)) rfl (new_cells _ _ _ _ rfl) (by first | omega | (simp; omega)) (by first | omega | (simp; omega)) (by first | omega | (simp; omega)) ?_; intro v2 w2 hown2 hg2 hat2))
        go_roundw
        case rel => exact ⟨0, xs ++ [dval (chunk l k)], by omega, rfl, by have := rdTo_step hdg H.out hlt; rw [hk4] at this; rw [dval_nval]; exact this, hown2, (((hown.below hb1).alloc _).frame (b_alloc (b_then hB hb1) _) (Nat.le_refl _) hg2)⟩
        case measure => simp [hsz, mkS_size]; omega
    · obtain rfl : k = 0 := by omega
      obtain ⟨hxl1, hval⟩ := rdTo_done H.out HL.out
      obtain ⟨A, c, rfl, hls, hc1, hc2⟩ := hown.ls (by omega)
      have hlen2 : (lim (lv xs)).length ≤ xs.length := lim_len_le (lv_lt hxl1)
      have htk := take_lim hxl1
      go_wp2_with (go_at_call 161; (with_reducible refine (n_trim _ _ _ _ _ hls hxl1 hc1 hc2).mono ?_); rintro e w' ⟨rfl, rfl⟩)
      go_ret
      have hm := hown.take hlen2
      rw [htk, hval] at hm
      exact ⟨A, c, rfl, hm, hB⟩

theorem n_may_yes (n : Nat) (w : World) (hn : ndg n ≤ 900000000) : Calls Tryz.prog 128 #[.string (nS n)] w fun e w' => e = .returned (.bool true) ∧ w = w' := by
  have := n_may (nS n) w (by rw [nS_size]; omega)
  rwa [isNB_nS] at this
def RetBoth (w : World) (a b : Nat) (e : Ending) (w' : World) : Prop :=
  ∃ A c B d, e = .returned (.tuple #[.slice A (lim a).length c, .slice B (lim b).length d, .bool true]) ∧ Mu w' w.heap.size (.slice A (lim a).length c) (lim a) ∧ Mu w' w.heap.size (.slice B (lim b).length d) (lim b) ∧ Below w.heap.size w w'
set_option maxHeartbeats 400000 in
theorem n_both (a b : Nat) (w : World) (ha : ndg a ≤ 900000000) (hb : ndg b ≤ 900000000) :
    Calls Tryz.prog 142 #[.string (nS a), .string (nS b)] w fun e w' => RetBoth w a b e w' := by
  go_enter Tryz.func142, Tryz.ntmps142
  go_wp2_with (first | (go_at_call 128; (with_reducible refine (n_may_yes _ _ (by assumption)).mono ?_); rintro e w' ⟨rfl, rfl⟩) |
    (go_at_call 159; (with_reducible refine (n_read a w ha).mono ?_); rintro e w1 ⟨A, c, rfl, hm1, hb1⟩) |
    (go_at_call 159; (with_reducible refine (n_read b w1 hb).mono ?_); rintro e w2 ⟨B, d, rfl, hm2, hb2⟩))
  go_ret3
  exact ⟨A, c, B, d, rfl, hm1.below hb2, hm2.lower hb1.size, b_then hb1 hb2⟩
end Go.Proofs.YtpoejheienohjaaGreatDoor
