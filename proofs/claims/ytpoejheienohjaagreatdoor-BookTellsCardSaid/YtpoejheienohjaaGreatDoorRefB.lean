/- Walks of the reference's naturals: Add, Sub. -/
import Derived.Test.YtpoejheienohjaaGreatDoorText
import Derived.Test.YtpoejheienohjaaGreatDoorRefA
import Derived.Deep.DeepCutAuto
import Derived.Deep.CutBlock
namespace Go.Proofs.YtpoejheienohjaaGreatDoor
open Go.RowKit
set_option linter.unusedVariables false
set_option linter.unusedSimpArgs false
theorem Tryz.infoU8 : (Tryz.prog.info? 5).map (fun i => (i.zero, i.size, i.bytes)) = some (some (.int .u8 0), 1, 1) := by kernel_rfl
/-- 'make([]byte, n)'. -/
theorem make_bytes (n : Nat) (h : n ≤ 4000000000) (w : World) : (Instr.makeSlice 59 (.int .i64 (n : Int)) (.int .i64 (n : Int))).run Tryz.prog w = .ok (.slice (some ⟨w.heap.size, 0, none⟩) n n) (w.alloc (.cells (bcells (List.replicate n 0)) 5)) := by
  obtain ⟨i0, hi, hz0, hz1, hz2⟩ := info_parts Tryz.infoU8
  have hr := run_make (P := Tryz.prog) w 59 5 i0 _ Tryz.underlying59 hi hz0 .i64 .i64 n n (by omega) (by omega) (by rw [hz2]; omega) (by omega)
  simp only [Int.toNat_natCast, hz1, Nat.mul_one] at hr
  rw [hr, ← bcells_zero]; rfl
theorem trim_laid {N s m : Nat} (hN : 1 ≤ N) (h : s = m) (hm : m < 10 ^ N) : trimB (mkS (laid N N s)) = nS m := by
  subst h; unfold trimB; rw [mkS_l]; rw [laid_full, ntrim_fdg hN hm]; rfl
theorem dg_int {d : Nat} (h : d < 10) {x : Int} (hx : x = 48 + (d : Int)) : x = ((dg d).toNat : Int) := by rw [dg_toNat h]; omega

theorem laid_blk {wr : World} {g t N i s d : Nat} {x : Int} (hb : Blk wr g t (bcells (laid N i s))) (hi : i < N) (hs : s < 10 ^ i) (hd : d < 10) (hx : x = 48 + (d : Int)) : Blk (wr.setCell ⟨g, N - 1 - i, none⟩ (.int .u8 x)) g t (bcells (laid N (i + 1) (s + 10 ^ i * d))) := by
  have h := hb.set_ (N - 1 - i) (.int .u8 x)
  rw [bcells_set _ _ (dg d) (dg_int hd hx), laid_set hi hs hd] at h
  exact h
theorem laid_string {wr : World} {g N s : Nat} (hb : Blk wr g 5 (bcells (laid N N s))) : (convert 59 9 (.slice (some ⟨g, 0, none⟩) N N)).run Tryz.prog wr = .ok (.string (mkS (laid N N s))) wr :=
  run_string hb Tryz.underlying59 Tryz.underlying5 Tryz.underlying9 (laid_length (Nat.le_refl _)) N
theorem laid_size (N s : Nat) : (mkS (laid N N s)).size = N := by rw [sz, mkS_l, laid_length (Nat.le_refl _)]

set_option maxHeartbeats 1000000 in
set_option maxRecDepth 100000 in
theorem r1_add (m n : Nat) (w : World) (hm : ndg m ≤ 1000000000) (hn : ndg n ≤ 1000000000) :
    Calls Tryz.prog 97 #[.string (nS m), .string (nS n)] w fun e w' => e = .returned (.string (nS (m + n))) ∧ Below w.heap.size w w' := by
  have h1 : (nS m).size ≤ 1000000000 := by rw [nS_size]; exact hm
  have h2 : (nS n).size ≤ 1000000000 := by rw [nS_size]; exact hn
  obtain ⟨N, hN⟩ : ∃ N : Nat, N = max (nS m).size (nS n).size + 1 := ⟨_, rfl⟩
  have HN := Lib.hid hN
  have hN1 : 1 ≤ N := by omega
  have hN2 : N ≤ 2000000000 := by omega
  have hsum : m + n < 10 ^ N := by
    apply lt_of_ndg
    have := ndg_add m n
    rw [← nS_size m, ← nS_size n] at this
    omega
  have HS := Lib.hid hsum
  clear hN hsum
  have c1 := isNB_nS m
  have c2 := isNB_nS n
  have hmk := make_bytes N (by omega)
  go_enter Tryz.func97, Tryz.ntmps97
  go_upto_region 3 with (go_at_call 94; refine (r1_may _ _ (by omega)).mono ?_; rintro e w' ⟨rfl, rfl⟩)
  go_cut [5] (fun v5 wc => v5 = .int .i64 (N : Int) ∧ w = wc)
  case first =>
    have hN := HN.out
    go_wp2
    all_goals
      go_meet
      case rel => exact ⟨by rw [hN]; congr 1; omega, rfl⟩
  case rest =>
    obtain ⟨rfl, rfl⟩ := hcut
    go_wp2
    go_loopw [7, 8] (fun c i wr => ∃ i' c' s : Nat, i' ≤ N ∧ c' ≤ 1 ∧ i = .int .i64 i' ∧ c = .int .i64 c' ∧ Hid (s < 10 ^ i') ∧ Hid (m % 10 ^ i' + n % 10 ^ i' = s + c' * 10 ^ i') ∧ Hid (Blk wr w.heap.size 5 (bcells (laid N i' s))) ∧ Below w.heap.size w wr) (fun _ i _ => N - (intOf i).toNat)
    case atStart => exact ⟨0, 0, 0, by omega, by omega, rfl, rfl, by simp [Hid], by simp [Hid, Nat.mod_one], by rw [laid_zero]; exact Blk.new _ _ _, b_alloc (Below.refl _ _) _⟩
    case round =>
      obtain ⟨i, c, s, hi, hc, rfl, rfl, hs, he, hb, hB⟩ := hrel
      by_cases hlt : i < N
      · have hd1 := ndigit_lt m i
        have hd2 := ndigit_lt n i
        have hcl := hb.out.cell (N - 1 - i)
        rw [bcells_get _ _ (by rw [laid_length hi]; omega)] at hcl
        have hfr := hb.out.frozen (N - 1 - i)
        go_wp2_with (go_at_call 122; (with_reducible refine (r1_at _ _ _ (by assumption) (by omega)).mono ?_); rintro e w' ⟨rfl, rfl⟩)
        go_roundw
        case rel => exact ⟨i + 1, (ndigit m i + ndigit n i + c) / 10, s + 10 ^ i * ((ndigit m i + ndigit n i + c) % 10), by omega, by omega, by go_num, by go_num, put_lt hs.out (Nat.mod_lt _ (by omega)), add_step he.out, laid_blk hb.out hlt hs.out (Nat.mod_lt _ (by omega)) (by omega), hB.setCell (Nat.le_refl _) _⟩
        case measure => simp [intOf]; omega
      · obtain rfl : i = N := by omega
        have hstr := laid_string hb.out
        have hsz := Nat.le_of_eq (laid_size i s)
        have hfin : trimB (mkS (laid i i s)) = nS (m + n) := by
          refine trim_laid hN1 ?_ HS.out
          have h3 := he.out
          have h4 := HS.out
          have h5 : m % 10 ^ i = m := Nat.mod_eq_of_lt (by omega)
          have h6 : n % 10 ^ i = n := Nat.mod_eq_of_lt (by omega)
          rw [h5, h6] at h3
          have h7 : c = 0 := by
            rcases Nat.eq_zero_or_pos c with h | h
            · exact h
            · have := Nat.mul_le_mul_right (10 ^ i) h; omega
          subst h7; omega
        have HF := Lib.hid hfin
        clear hfin
        go_wp2_with (go_at_call 123; (with_reducible refine (r1_trim _ _ (by omega)).mono ?_); rintro e w' ⟨rfl, rfl⟩)
        go_ret
        exact ⟨ret_str HF.out, hB⟩

theorem sub_done {m n s c N : Nat} (h : n % 10 ^ N + s = m % 10 ^ N + c * 10 ^ N) (hs : s < 10 ^ N) (hmn : n ≤ m) (hm : m < 10 ^ N) : s = m - n := by
  have h5 : m % 10 ^ N = m := Nat.mod_eq_of_lt hm
  have h6 : n % 10 ^ N = n := Nat.mod_eq_of_lt (by omega)
  rw [h5, h6] at h
  have h7 : c = 0 := by
    rcases Nat.eq_zero_or_pos c with h | hc
    · exact h
    · have := Nat.mul_le_mul_right (10 ^ N) hc; omega
  subst h7; omega
set_option maxHeartbeats 400000 in
theorem r1_sub_no (m n : Nat) (w : World) (hm : ndg m ≤ 1000000000) (hn : ndg n ≤ 1000000000) (h : m < n) :
    Calls Tryz.prog 121 #[.string (nS m), .string (nS n)] w fun e w' => e = .returned (.tuple #[.string ⟨#[]⟩, .bool false]) ∧ Below w.heap.size w w' := by
  have h1 : (nS m).size ≤ 1000000000 := by rw [nS_size]; exact hm
  have h2 : (nS n).size ≤ 1000000000 := by rw [nS_size]; exact hn
  have c1 := isNB_nS m
  have c2 := isNB_nS n
  have c3 : cmpN m n = -1 := by rw [cmpN, if_pos h]
  go_enter Tryz.func121, Tryz.ntmps121
  go_wp2_with (first | (go_at_call 94; (with_reducible refine (r1_may _ _ (by omega)).mono ?_); rintro e w' ⟨rfl, rfl⟩) | (go_at_call 120; (with_reducible refine (r1_cmp _ _ _ hm hn).mono ?_); rintro e w' ⟨rfl, rfl⟩))
  go_ret2
  exact ⟨rfl, Below.refl _ _⟩
set_option maxHeartbeats 1000000 in
set_option maxRecDepth 100000 in
theorem r1_sub (m n : Nat) (w : World) (hm : ndg m ≤ 1000000000) (hn : ndg n ≤ 1000000000) (h : n ≤ m) :
    Calls Tryz.prog 121 #[.string (nS m), .string (nS n)] w fun e w' => e = .returned (.tuple #[.string (nS (m - n)), .bool true]) ∧ Below w.heap.size w w' := by
  have h1 : (nS m).size ≤ 1000000000 := by rw [nS_size]; exact hm
  have h2 : (nS n).size ≤ 1000000000 := by rw [nS_size]; exact hn
  have hN1 : 1 ≤ (nS m).size := by rw [nS_size]; exact ndg_pos m
  have HS := Lib.hid (show m < 10 ^ (nS m).size by rw [nS_size]; exact ndg_lt m)
  have c1 := isNB_nS m
  have c2 := isNB_nS n
  have c3 : decide (cmpN m n < 0) = false := by unfold cmpN; split <;> (try split) <;> simp <;> omega
  have hmk := make_bytes (nS m).size (by omega)
  go_enter Tryz.func121, Tryz.ntmps121
  go_wp2_with (first | (go_at_call 94; (with_reducible refine (r1_may _ _ (by omega)).mono ?_); rintro e w' ⟨rfl, rfl⟩) | (go_at_call 120; (with_reducible refine (r1_cmp _ _ _ hm hn).mono ?_); rintro e w' ⟨rfl, rfl⟩))
  go_loopw [7, 8] (fun c i wr => ∃ i' c' s : Nat, i' ≤ (nS m).size ∧ c' ≤ 1 ∧ i = .int .i64 i' ∧ c = .int .i64 c' ∧ Hid (s < 10 ^ i') ∧ Hid (n % 10 ^ i' + s = m % 10 ^ i' + c' * 10 ^ i') ∧ Hid (Blk wr w.heap.size 5 (bcells (laid (nS m).size i' s))) ∧ Below w.heap.size w wr) (fun _ i _ => (nS m).size - (intOf i).toNat)
  case atStart => exact ⟨0, 0, 0, by omega, by omega, rfl, rfl, by simp [Hid], by simp [Hid, Nat.mod_one], by rw [laid_zero]; exact Blk.new _ _ _, b_alloc (Below.refl _ _) _⟩
  case round =>
    obtain ⟨i, c, s, hi, hc, rfl, rfl, hs, he, hb, hB⟩ := hrel
    by_cases hlt : i < (nS m).size
    · have hd1 := ndigit_lt m i
      have hd2 := ndigit_lt n i
      have hcl := hb.out.cell ((nS m).size - 1 - i)
      rw [bcells_get _ _ (by rw [laid_length hi]; omega)] at hcl
      have hfr := hb.out.frozen ((nS m).size - 1 - i)
      by_cases hx : ndigit m i < ndigit n i + c
      · go_wp2_with (go_at_call 122; (with_reducible refine (r1_at _ _ _ (by assumption) (by omega)).mono ?_); rintro e w' ⟨rfl, rfl⟩)
        go_roundw
        case rel => exact ⟨i + 1, 1, s + 10 ^ i * (ndigit m i + 10 - ndigit n i - c), by omega, by omega, by go_num, rfl, put_lt hs.out (by omega), sub_step1 he.out hx (by omega), laid_blk hb.out hlt hs.out (by omega) (by omega), hB.setCell (Nat.le_refl _) _⟩
        case measure => simp [intOf]; omega
      · go_wp2_with (go_at_call 122; (with_reducible refine (r1_at _ _ _ (by assumption) (by omega)).mono ?_); rintro e w' ⟨rfl, rfl⟩)
        go_roundw
        case rel => exact ⟨i + 1, 0, s + 10 ^ i * (ndigit m i - ndigit n i - c), by omega, by omega, by go_num, rfl, put_lt hs.out (by omega), sub_step0 he.out (by omega), laid_blk hb.out hlt hs.out (by omega) (by omega), hB.setCell (Nat.le_refl _) _⟩
        case measure => simp [intOf]; omega
    · obtain rfl : i = (nS m).size := by omega
      have hstr := laid_string hb.out
      have hsz := Nat.le_of_eq (laid_size (nS m).size s)
      have hfin : trimB (mkS (laid (nS m).size (nS m).size s)) = nS (m - n) := trim_laid hN1 (sub_done he.out hs.out h HS.out) (by have := HS.out; omega)
      have HF := Lib.hid hfin
      clear hfin
      go_wp2_with (go_at_call 123; (with_reducible refine (r1_trim _ _ (by omega)).mono ?_); rintro e w' ⟨rfl, rfl⟩)
      go_ret2
      exact ⟨congrArg (fun t => Ending.returned (.tuple #[.string t, .bool true])) HF.out, hB⟩
end Go.Proofs.YtpoejheienohjaaGreatDoor
