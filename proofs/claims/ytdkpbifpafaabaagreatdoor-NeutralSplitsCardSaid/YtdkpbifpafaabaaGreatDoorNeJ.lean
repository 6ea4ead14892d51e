/- The reference's All; the contracts joined. -/
import Derived.Test.YtdkpbifpafaabaaGreatDoorNeI
namespace Go.Proofs.YtdkpbifpafaabaaGreatDoor
open Go.RowKit
set_option linter.unusedVariables false
set_option linter.unusedSimpArgs false

theorem p_nall {A B : Option Addr} {n c m d : Nat} {xs : List Fx} {l : List Ac} (w : World) (hg : Glob w) (hx : Rd Fx.cs 4 w A n xs) (hn : n ≤ 60) (hz : ∀ f ∈ xs, fxr 40 f) (hl : Rd Ac.cs 11 w B m l) (hm4 : m ≤ 4) (hq : ∀ x ∈ l, acq x) :
    Calls Tryz.prog 37 #[.slice A n c, .slice B m d] w (FixIs (nall xs l) (nall xs l).length w) := by
  cases h : fmay xs && l.all amay with
  | false =>
    have e : nall xs l = [] := by unfold nall; rw [h]; rfl
    rw [e]
    exact p_nall_no w hg hx hz hl hq h
  | true =>
    rw [Bool.and_eq_true] at h
    rw [nall_yes h.1 h.2]
    exact p_nall_yes w hg hx (NSz.of h.1 (by rw [hx.len]; exact hn) hz) hl hm4 hq h.2
theorem r17_one {A : Option Addr} {n c : Nat} {xs : List Fx} (a0 : ByteArray) (a1 : Int) (a2 a3 a4 a5 a6 a7 : ByteArray) (a8 a9 a10 : Int) (w : World) (hx : Rd Fx.cs 4 w A n xs) (hn : n ≤ 400000) (hz : ∀ f ∈ xs, fxr 1000000 f) (h0 : a0.size ≤ 9223372036854775807) (h2 : a2.size ≤ 9223372036854775807) (h3 : a3.size ≤ 9223372036854775807) (h4 : a4.size ≤ 400000000) (h5 : a5.size ≤ 400000000) (h6 : a6.size ≤ 400000000) (h7 : a7.size ≤ 400000000) :
    Calls Tryz.prog 36 #[.slice A n c, .agg #[.string a0, .int .i64 a1, .string a2, .string a3, .string a4, .string a5, .string a6, .string a7, .int .i64 a8, .int .i64 a9, .int .i64 a10]] w (FixIs (nout ⟨a0, a1, a2, a3, ⟨a4, a5⟩, ⟨a6, a7⟩, a8, a9, a10⟩ xs) (nout ⟨a0, a1, a2, a3, ⟨a4, a5⟩, ⟨a6, a7⟩, a8, a9, a10⟩ xs).length w) := by
  cases h : fmay xs && amay ⟨a0, a1, a2, a3, ⟨a4, a5⟩, ⟨a6, a7⟩, a8, a9, a10⟩ with
  | false =>
    have e : nout ⟨a0, a1, a2, a3, ⟨a4, a5⟩, ⟨a6, a7⟩, a8, a9, a10⟩ xs = [] := by unfold nout; rw [h]; rfl
    rw [e]
    exact r17_one_no a0 a1 a2 a3 a4 a5 a6 a7 a8 a9 a10 w hx hz h0 h2 h3 h4 h5 h6 h7 h
  | true =>
    rw [Bool.and_eq_true] at h
    rw [nout_yes h.1 h.2]
    exact r17_one_yes a0 a1 a2 a3 a4 a5 a6 a7 a8 a9 a10 w hx hn hz (fun k f hf => fxq_sz (fxr_q (nmid_fxr h.2 h.1 hz k f hf) (by omega))) h.2 h.1
theorem nfold_drop {xs : List Fx} {l : List Ac} {j : Nat} {a : Ac} (h : l[j]? = some a) : nfold xs (l.drop j) = nfix a (nfold xs (l.drop (j + 1))) := by
  obtain ⟨hj, e⟩ := List.getElem?_eq_some_iff.1 h
  rw [List.drop_eq_getElem_cons hj, e]; rfl
theorem all_drop {l : List Ac} (h : l.all amay = true) (j : Nat) : (l.drop j).all amay = true := by
  rw [List.all_eq_true] at h ⊢
  exact fun x hx => h x (List.mem_of_mem_drop hx)
set_option maxRecDepth 100000 in
set_option maxHeartbeats 4000000 in
theorem r17_all {A B : Option Addr} {n c m d : Nat} {xs : List Fx} {l : List Ac} (w : World) (hx : Rd Fx.cs 4 w A n xs) (hn : n ≤ 60) (hz : ∀ f ∈ xs, fxr 40 f) (hl : Rd Ac.cs 11 w B m l) (hm4 : m ≤ 4) (hq : ∀ x ∈ l, acq x) :
    Calls Tryz.prog 38 #[.slice A n c, .slice B m d] w (FixIs (nall xs l) (nall xs l).length w) := by
  have hM := fun W (h : Below w.heap.size w W) => r12_may (c := c) W (hx.below h) (fun f hf => fxq_sz (fxr_q (hz f hf) (by omega)))
  cases e1 : fmay xs with
  | false =>
    rw [nall_no1 e1]
    rw [e1] at hM
    clear e1
    go_enter Tryz.func38, Tryz.ntmps38
    go_wp2_with (go_at_call 32; (with_reducible refine (hM _ (by repeat (first | exact Below.refl _ _ | assumption | refine b_then ?_ (by assumption) | refine b_alloc ?_ _ | refine b_drewN ?_ _ | refine Below.drew ?_ | refine b_set ?_ (by first | exact Nat.le_refl _ | (simp; done) | (simp; omega) | omega) _))).mono ?_); rintro e w1 ⟨rfl, hb1⟩; obtain ⟨hc1, hf1⟩ := bcell hb1; have hs1 := hb1.size; (try simp at hs1); skip)
    go_ret
    exact ⟨_, _, rfl, Rd.nil, (by repeat (first | exact Below.refl _ _ | assumption | refine b_then ?_ (by assumption) | refine b_alloc ?_ _ | refine b_drewN ?_ _ | refine Below.drew ?_ | refine b_set ?_ (by first | exact Nat.le_refl _ | (simp; done) | (simp; omega) | omega) _))⟩
  | true =>
  rw [e1] at hM
  have E1 := Lib.hid e1
  clear e1
  go_enter Tryz.func38, Tryz.ntmps38
  go_wp2_with (go_at_call 32; (with_reducible refine (hM _ (by repeat (first | exact Below.refl _ _ | assumption | refine b_then ?_ (by assumption) | refine b_alloc ?_ _ | refine b_drewN ?_ _ | refine Below.drew ?_ | refine b_set ?_ (by first | exact Nat.le_refl _ | (simp; done) | (simp; omega) | omega) _))).mono ?_); rintro e w1 ⟨rfl, hb1⟩; obtain ⟨hc1, hf1⟩ := bcell hb1; have hs1 := hb1.size; (try simp at hs1); skip)
  have hB1 : Below w.heap.size w w1 := hb1
  clear hc1 hf1 hs1 hM
  go_loopw [5] (fun i wr => ∃ k : Nat, k ≤ m ∧ i = .int .i64 k ∧ Hid ((l.take k).all amay = true) ∧ Hid (Below w.heap.size w wr)) (fun i _ => m - (intOf i).toNat)
  case atStart => exact ⟨0, Nat.zero_le _, rfl, by simp [Hid], hB1⟩
  case round =>
    obtain ⟨k, hk, rfl, H, HB⟩ := hrel
    have hB := HB.out
    have hbig := hl.big
    by_cases hlt : k < m
    · obtain ⟨ad, a0, a1, a2, a3, a4, a5, a6, a7, a8, a9, a10, rfl, hxk, hll⟩ := ac_in hl hB hlt
      obtain ⟨h0, h2, h3, ⟨h4, h5⟩, h6, h7⟩ := hq _ (List.mem_of_getElem? hxk)
      dsimp only at h0 h2 h3 h4 h5 h6 h7
      have HX := Lib.hid hxk
      obtain ⟨x0, x1, x2, x3, x4, x5, x6, x7, x8, x9, x10, x11, x12⟩ := hll wr (Below.refl _ _)
      have hN := fun W => r15_may a0 a1 a2 a3 a4 a5 a6 a7 a8 a9 a10 W h0 h2 h3 (by omega) (by omega) (by omega) (by omega)
      clear hxk hll
      cases hd : amay ⟨a0, a1, a2, a3, ⟨a4, a5⟩, ⟨a6, a7⟩, a8, a9, a10⟩ with
      | true =>
        rw [hd] at hN
        have H2 : Hid ((l.take (k + 1)).all amay = true) := all_take_succ H.out HX.out hd
        clear hd
        go_wp2_with (go_at_call 29; (with_reducible refine (hN _).mono ?_); rintro e w2 ⟨rfl, hb2⟩)
        go_roundw
        case rel => exact ⟨k + 1, by omega, by go_num, H2, b_then hB hb2⟩
        case measure => simp [intOf]; omega
      | false =>
        rw [hd] at hN
        have H2 := Lib.hid hd
        clear hd
        go_wp2_with (go_at_call 29; (with_reducible refine (hN _).mono ?_); rintro e w2 ⟨rfl, hb2⟩)
        go_ret
        have : l.all amay = false := by
          rw [← Bool.not_eq_true, List.all_eq_true]
          intro h
          have := h _ (List.mem_of_getElem? HX.out)
          rw [H2.out] at this; cases this
        rw [nall_no2 this]
        exact ⟨_, _, rfl, Rd.nil, b_then hB hb2⟩
    · obtain rfl : m = k := by omega
      have H2 := H.out
      rw [← hl.len, List.take_length] at H2
      have HS := Lib.hid (fun j => nfold_sz (NSz.of E1.out (by rw [hx.len]; exact hn) hz) (l.drop j) (all_drop H2 j))
      have HA := Lib.hid H2
      have hll := hl.len
      have h0d : nfold xs (l.drop m) = xs := by rw [← hll, List.drop_length]; rfl
      have HR0 : Hid (Rd Fx.cs 4 wr A n (nfold xs (l.drop m))) := by rw [h0d]; exact hx.below hB
      have Hlen : Hid ((nfold xs (l.drop m)).length = n) := by rw [h0d]; exact hx.len
      clear H2 H h0d
      have hnn := Lib.hid (nall_yes E1.out HA.out)
      go_wp2
      go_loopw [0, 6] (fun out i wr => ∃ (j : Nat) (A : Option Addr) (n c : Nat), j ≤ m ∧ i = .int .i64 ((j : Int) - 1) ∧ out = .slice A n c ∧ Hid ((nfold xs (l.drop j)).length = n) ∧ Hid (Rd Fx.cs 4 wr A n (nfold xs (l.drop j))) ∧ Hid (Below w.heap.size w wr)) (fun _ i _ => (intOf i + 1).toNat)
      case atStart => exact ⟨m, A, n, c, Nat.le_refl _, rfl, rfl, Hlen, HR0, HB⟩
      case round =>
        obtain ⟨j, A', n', c', hj, rfl, rfl, HL, HR, HB⟩ := hrel
        have hB := HB.out
        by_cases hj0 : 0 < j
        · obtain ⟨q, rfl⟩ : ∃ q, j = q + 1 := ⟨j - 1, by omega⟩
          have hqi : ((q + 1 : Nat) : Int) - 1 = (q : Int) := by omega
          rw [hqi]
          obtain ⟨ad, a0, a1, a2, a3, a4, a5, a6, a7, a8, a9, a10, rfl, hxk, hl2⟩ := ac_in hl hB (show q < m by omega)
          obtain ⟨h0, h2, h3, ⟨h4, h5⟩, h6, h7⟩ := hq _ (List.mem_of_getElem? hxk)
          dsimp only at h0 h2 h3 h4 h5 h6 h7
          obtain ⟨x0, x1, x2, x3, x4, x5, x6, x7, x8, x9, x10, x11, x12⟩ := hl2 wr (Below.refl _ _)
          have hsz := HS.out (q + 1)
          have hya : amay ⟨a0, a1, a2, a3, ⟨a4, a5⟩, ⟨a6, a7⟩, a8, a9, a10⟩ = true := List.all_eq_true.1 HA.out _ (List.mem_of_getElem? hxk)
          have hok := hsz.ok (by rw [List.length_drop]; omega)
          have hd := nfold_drop (xs := xs) hxk
          have hN := r17_one (c := c') a0 a1 a2 a3 a4 a5 a6 a7 a8 a9 a10 wr HR.out (by rw [← HL.out]; exact hok.1) hok.2 h0 h2 h3 h4 h5 h6 h7
          rw [nout_yes hsz.may hya, ← hd] at hN
          unfold FixIs at hN
          obtain ⟨m9, hm9⟩ : ∃ m9, (nfold xs (l.drop q)).length = m9 := ⟨_, rfl⟩
          rw [hm9] at hN
          have HM9 := Lib.hid hm9
          clear hsz hya hok hd hxk hl2 hm9
          go_wp2_with (go_at_call 36; (with_reducible refine hN.mono ?_); rintro e w3 ⟨B3, k3, rfl, R3, hb3⟩)
          go_roundw
          case rel => exact ⟨q, B3, m9, k3, by omega, by go_num, rfl, HM9, R3, b_then hB hb3⟩
          case measure => simp [intOf]
        · obtain rfl : j = 0 := by omega
          have hR := HR.out
          have hL := HL.out
          rw [List.drop_zero] at hR hL
          have HR1 := Lib.hid hR
          have HL1 := Lib.hid hL
          clear hR hL
          go_wp2
          go_ret
          rw [hnn.out, HL1.out]
          exact ⟨_, _, rfl, HR1.out, hB⟩
end Go.Proofs.YtdkpbifpafaabaaGreatDoor
