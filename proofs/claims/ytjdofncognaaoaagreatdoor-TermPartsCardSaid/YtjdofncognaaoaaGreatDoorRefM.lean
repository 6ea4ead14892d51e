/- Walk of the reference's product of naturals. -/
import Derived.Test.YtjdofncognaaoaaGreatDoorRefB
import Derived.Test.YtjdofncognaaoaaGreatDoorRat
namespace Go.Proofs.YtjdofncognaaoaaGreatDoor
open Go.RowKit
set_option linter.unusedVariables false
set_option linter.unusedSimpArgs false

/-- The value of cells, the lowest one first; a cell may be more than a digit. -/
def cv : List Nat → Nat
  | [] => 0
  | x :: r => x + 10 * cv r
theorem cv_append (a b : List Nat) : cv (a ++ b) = cv a + 10 ^ a.length * cv b := by
  induction a with
  | nil => simp [cv]
  | cons x a ih => rw [List.cons_append, cv, ih, cv, List.length_cons, Nat.pow_succ, Nat.mul_add, Nat.add_assoc, Nat.mul_comm (10 ^ a.length) 10, Nat.mul_assoc]
theorem cv_take_succ (l : List Nat) (k : Nat) (hk : k < l.length) : cv (l.take (k + 1)) = cv (l.take k) + 10 ^ k * l[k] := by
  rw [List.take_succ_eq_append_getElem hk, cv_append, List.length_take, Nat.min_eq_left (by omega)]; simp [cv]
theorem cv_rep (n : Nat) : cv (List.replicate n 0) = 0 := by
  induction n with
  | zero => rfl
  | succ n ih => rw [List.replicate_succ, cv, ih]
theorem cv_set {l : List Nat} {i : Nat} (h : i < l.length) (v : Nat) : cv (l.set i v) + 10 ^ i * l[i] = cv l + 10 ^ i * v := by
  induction l generalizing i with
  | nil => simp at h
  | cons x l ih =>
    cases i with
    | zero => simp [cv]; omega
    | succ i =>
      have := ih (i := i) (by simpa using h)
      simp only [List.set_cons_succ, cv, List.getElem_cons_succ, Nat.pow_succ]
      generalize l[i]'(by simpa using h) = y at *
      have e1 : 10 ^ i * 10 * y = 10 * (10 ^ i * y) := by rw [Nat.mul_comm (10 ^ i) 10, Nat.mul_assoc]
      have e2 : 10 ^ i * 10 * v = 10 * (10 ^ i * v) := by rw [Nat.mul_comm (10 ^ i) 10, Nat.mul_assoc]
      rw [e1, e2]; omega
/-- Ahead of the digit i of m, and of the digit k of n. -/
def cellI (m n N i k : Nat) (o : List Nat) : Prop := o.length = N + 1 ∧ (∀ (j x : Nat), o[j]? = some x → x ≤ 81 * i + (if j < i + k then 81 else 0)) ∧ cv o = m % 10 ^ i * n + 10 ^ i * ndigit m i * (n % 10 ^ k)
def cellO (m n N i : Nat) (o : List Nat) : Prop := o.length = N + 1 ∧ (∀ (j x : Nat), o[j]? = some x → x ≤ 81 * i) ∧ cv o = m % 10 ^ i * n
theorem cellO_zero (m n N : Nat) : cellO m n N 0 (List.replicate (N + 1) 0) :=
  ⟨by simp, fun j x h => by rw [List.getElem?_replicate] at h; split at h <;> simp_all <;> omega, by rw [cv_rep]; simp [Nat.mod_one]⟩
theorem cellI_zero {m n N i : Nat} {o : List Nat} (h : cellO m n N i o) : cellI m n N i 0 o :=
  ⟨h.1, fun j x hj => Nat.le_trans (h.2.1 j x hj) (Nat.le_add_right _ _), by rw [h.2.2]; simp [Nat.mod_one]⟩
theorem cellI_step {m n N i k t : Nat} {o : List Nat} (h : cellI m n N i k o) (hk : i + k < o.length) (ht : t = o[i + k] + ndigit m i * ndigit n k) : cellI m n N i (k + 1) (o.set (i + k) t) := by
  obtain ⟨h1, h2, h3⟩ := h
  refine ⟨by rw [List.length_set, h1], fun j x hj => ?_, ?_⟩
  · rw [List.getElem?_set] at hj
    by_cases he : i + k = j
    · subst he
      rw [if_pos rfl, if_pos hk] at hj
      injection hj with hj
      have h4 := h2 (i + k) _ (List.getElem?_eq_getElem hk)
      rw [if_neg (by omega)] at h4
      have h5 : ndigit m i * ndigit n k ≤ 9 * 9 := Nat.mul_le_mul (by have := ndigit_lt m i; omega) (by have := ndigit_lt n k; omega)
      rw [if_pos (by omega)]; omega
    · rw [if_neg he] at hj
      have h4 := h2 j x hj
      split at h4
      · rw [if_pos (by omega)]; exact h4
      · exact Nat.le_trans h4 (by split <;> omega)
  · have h5 := cv_set hk t
    rw [h3, mod_succ n k] at *
    subst ht
    rw [Nat.mul_add (10 ^ i * ndigit m i)]
    have e : 10 ^ i * ndigit m i * (10 ^ k * ndigit n k) = 10 ^ (i + k) * (ndigit m i * ndigit n k) := by rw [Nat.pow_add]; simp only [Nat.mul_comm, Nat.mul_left_comm, Nat.mul_assoc]
    rw [e]
    rw [Nat.mul_add] at h5
    omega
theorem cellO_step {m n N i : Nat} {o : List Nat} (h : cellI m n N i (ndg n) o) : cellO m n N (i + 1) o := by
  refine ⟨h.1, fun j x hj => ?_, ?_⟩
  · have := h.2.1 j x hj
    split at this <;> omega
  · rw [h.2.2, Nat.mod_eq_of_lt (ndg_lt n), mod_succ, Nat.add_mul]
theorem cellO_end {m n N : Nat} {o : List Nat} (h : cellO m n N (ndg m) o) : cv o = m * n := by rw [h.2.2, Nat.mod_eq_of_lt (ndg_lt m)]
/-- The second round: i digits are laid. -/
def layI (o : List Nat) (i c s : Nat) : Prop := s < 10 ^ i ∧ s + c * 10 ^ i = cv (o.take i) ∧ c ≤ 100000000000
theorem layI_zero (o : List Nat) : layI o 0 0 0 := ⟨by simp, by simp [cv], by omega⟩
theorem layI_step {o : List Nat} {i c s t : Nat} (h : layI o i c s) (hi : i < o.length) (ho : o[i] ≤ 100000000000) (ht : t = o[i] + c) : layI o (i + 1) (t / 10) (s + 10 ^ i * (t % 10)) := by
  obtain ⟨h1, h2, h3⟩ := h
  refine ⟨put_lt h1 (Nat.mod_lt _ (by omega)), ?_, by omega⟩
  rw [cv_take_succ o i hi, ← h2, Nat.pow_succ]
  have hd := Nat.div_add_mod t 10
  generalize t / 10 = d at *
  generalize t % 10 = v at *
  generalize o[i] = y at *
  have e1 : d * (10 ^ i * 10) = 10 ^ i * (10 * d) := by simp only [Nat.mul_comm, Nat.mul_left_comm, Nat.mul_assoc]
  have e2 : 10 ^ i * v + 10 ^ i * (10 * d) = c * 10 ^ i + 10 ^ i * y := by rw [Nat.mul_comm c, ← Nat.mul_add, ← Nat.mul_add]; congr 1; omega
  rw [e1]; omega
theorem layI_end {o : List Nat} {N c s v : Nat} (h : layI o N c s) (hl : o.length = N + 1) (hv : cv o = v) (hlt : v < 10 ^ N) : s = v := by
  have h1 : cv o = cv (o.take N) + 10 ^ N * o[N] := by
    have := cv_take_succ o N (by omega)
    rwa [List.take_of_length_le (by omega)] at this
  rw [← h.2.1] at h1
  have h2 : c = 0 := by
    rcases Nat.eq_zero_or_pos c with h0 | h0
    · exact h0
    · have := Nat.mul_le_mul_right (10 ^ N) h0; omega
  have h3 : o[N] = 0 := by
    rcases Nat.eq_zero_or_pos o[N] with h0 | h0
    · exact h0
    · have := Nat.mul_le_mul_left (10 ^ N) h0; omega
  rw [h2, h3] at h1; omega
/-- 'make([]int, n)'. -/
theorem make_ints (n : Nat) (h : n ≤ 4000000000) (w : World) : (Instr.makeSlice 43 (.int .i64 (n : Int)) (.int .i64 (n : Int))).run Tryz.prog w = .ok (.slice (some ⟨w.heap.size, 0, none⟩) n n) (w.alloc (.cells (madeCells #[.int .i64 0] n) 3)) := by
  obtain ⟨i0, hi, hz0, hz1, hz2⟩ := info_parts infoInt
  have hr := run_make (P := Tryz.prog) w 43 3 i0 _ Tryz.underlying43 hi hz0 .i64 .i64 n n (by omega) (by omega) (by rw [hz2]; omega) (by omega)
  simp only [Int.toNat_natCast, hz1, Nat.mul_one] at hr
  rw [hr]; rfl
theorem r1_atz (n i z : Nat) (w : World) (hn : ndg n ≤ 1000000000) (hi : i ≤ 2000000000) (hz : Hid (ndigit n i = z)) :
    Calls Tryz.prog 122 #[.string (nS n), .int .i64 (i : Int)] w fun e w' => e = .returned (.int .i64 (z : Nat)) ∧ w = w' := by
  rw [← hz.out]; exact r1_at n i w hn hi
set_option maxRecDepth 100000 in
set_option maxHeartbeats 2000000 in
theorem r1_mul (m n : Nat) (w : World) (hm : ndg m ≤ 900000000) (hn : ndg n ≤ 900000000) :
    Calls Tryz.prog 83 #[.string (nS m), .string (nS n)] w fun e w' => e = .returned (.string (nS (m * n))) ∧ Below w.heap.size w w' := by
  have h1 : (nS m).size = ndg m := nS_size m
  have h2 : (nS n).size = ndg n := nS_size n
  have p1 := ndg_pos m
  have p2 := ndg_pos n
  obtain ⟨M, hM⟩ : ∃ M, (nS m).size = M := ⟨_, rfl⟩
  obtain ⟨K, hK⟩ : ∃ K, (nS n).size = K := ⟨_, rfl⟩
  obtain ⟨N, hN⟩ : ∃ N : Nat, N = M + K := ⟨_, rfl⟩
  have hN1 : 1 ≤ N := by omega
  have hsum : m * n < 10 ^ N := by
    apply lt_of_ndg
    have := ndg_mul m n
    omega
  have HS := Lib.hid hsum
  have hN1' : N ≤ M + K := by omega
  have hN2' : M + K ≤ N := by omega
  have hMd : M = ndg m := by omega
  have hKd : K = ndg n := by omega
  have HMd := Lib.hid hMd
  have HKd := Lib.hid hKd
  have hM9 : M ≤ 900000000 := by omega
  have hK9 : K ≤ 900000000 := by omega
  clear hMd hKd h1 h2 p1 p2 hsum
  have c1 := isNB_nS m
  have c2 := isNB_nS n
  have hmk : ∀ w : World, (Instr.makeSlice 43 (.int .i64 ((N : Int) + 1)) (.int .i64 ((N : Int) + 1))).run Tryz.prog w = .ok (.slice (some ⟨w.heap.size, 0, none⟩) (N + 1) (N + 1)) (w.alloc (.cells (madeCells #[.int .i64 0] (N + 1)) 3)) := fun w => by
    have := make_ints (N + 1) (by omega) w
    push_cast at this
    exact this
  have hmb : ∀ w : World, (Instr.makeSlice 133 (.int .i64 (N : Int)) (.int .i64 (N : Int))).run Tryz.prog w = .ok (.slice (some ⟨w.heap.size, 0, none⟩) N N) (w.alloc (.cells (bcells (List.replicate N 0)) 5)) := fun w => by
    have := make_bytes N (by omega) w
    exact this
  have H0 : Hid (cellO m n N 0 (List.replicate (N + 1) 0)) := cellO_zero m n N
  have M0 : Mu (w.alloc (.cells (madeCells #[.int .i64 0] (N + 1)) 3)) w.heap.size (.slice (some ⟨w.heap.size, 0, none⟩) (N + 1) (N + 1)) (List.replicate (N + 1) 0) := Mu.made (Nat.le_refl _) _ (by omega)
  have hMK : (M : Int) + (K : Int) = (N : Int) := by omega
  clear hN
  go_enter Tryz.func83, Tryz.ntmps83
  go_wp2_with (go_at_call 114; (with_reducible refine (r1_may _ _ (by omega)).mono ?_); rintro e w' ⟨rfl, rfl⟩)
  have hm9 := hm
  have hn9 := hn
  clear hm hn
  go_loopw [7] (fun i wr => ∃ (k : Nat) (o : List Nat), k ≤ M ∧ i = .int .i64 (k : Nat) ∧ Hid (cellO m n N k o) ∧ Mu wr w.heap.size (.slice (some ⟨w.heap.size, 0, none⟩) (N + 1) (N + 1)) o ∧ Below w.heap.size w wr) (fun i _ => M - (intOf i).toNat)
  case atStart => exact ⟨0, _, Nat.zero_le _, rfl, H0, M0, (by repeat (first | exact Below.refl _ _ | assumption | refine b_then ?_ (by assumption) | refine b_alloc ?_ _ | refine b_drewN ?_ _ | refine Below.drew ?_ | refine b_set ?_ (by first | exact Nat.le_refl _ | (simp; done) | (simp; omega) | omega) _))⟩
  case round =>
    obtain ⟨k, O, hk, rfl, HO, hown, hB1⟩ := hrel
    by_cases hlt : k < M
    · go_wp2
      go_loopw [8] (fun i wr2 => ∃ (j : Nat) (o : List Nat), j ≤ K ∧ i = .int .i64 (j : Nat) ∧ Hid (cellI m n N k j o) ∧ Mu wr2 w.heap.size (.slice (some ⟨w.heap.size, 0, none⟩) (N + 1) (N + 1)) o ∧ Below w.heap.size w wr2) (fun i _ => K - (intOf i).toNat)
      case atStart => exact ⟨0, O, Nat.zero_le _, rfl, cellI_zero HO.out, hown, hB1⟩
      case round =>
        clear hown hB1
        obtain ⟨j, o, hj, rfl, H, hown, hB1⟩ := hrel
        have hol : o.length = N + 1 := H.out.1
        by_cases hlt2 : j < K
        · obtain ⟨q, hq⟩ : ∃ q, k + j = q := ⟨_, rfl⟩
          have hqn : q < N + 1 := by omega
          obtain ⟨y, hye⟩ : ∃ y, o[q]'(by omega) = y := ⟨_, rfl⟩
          have hyb : y ≤ 81 * k := by
            have := H.out.2.1 q y (by rw [← hye]; exact List.getElem?_eq_getElem _)
            rw [if_neg (by omega)] at this
            exact this
          have hcA : ∀ x : After wr, x.W.cell? ⟨w.heap.size, q, none⟩ = some (.int .i64 (y : Nat)) := fun x => by
            have := (Mu.cell (hown.below x.h) (i := q) (by omega)).1
            rw [hye] at this; exact this
          have hfA : ∀ x : After wr, x.W.frozen? ⟨w.heap.size, q, none⟩ = false := fun x => (Mu.cell (hown.below x.h) (i := q) (by omega)).2.1
          have hcN := hcA ⟨wr, Below.refl _ _⟩
          have hfN := hfA ⟨wr, Below.refl _ _⟩
          have hgl := (hown.cell (i := q) (by omega)).2.2.2
          obtain ⟨x, hxe⟩ : ∃ x, ndigit m k = x := ⟨_, rfl⟩
          obtain ⟨z, hze⟩ : ∃ z, ndigit n j = z := ⟨_, rfl⟩
          have hx9 : x ≤ 9 := by rw [← hxe]; have := ndigit_lt m k; omega
          have hz9 : z ≤ 9 := by rw [← hze]; have := ndigit_lt n j; omega
          have HY := Lib.hid hye
          have HX := Lib.hid hxe
          have HZ := Lib.hid hze
          clear hye hxe hze
          have hxz : x * z ≤ 9 * 9 := Nat.mul_le_mul hx9 hz9
          obtain ⟨t, ht⟩ : ∃ t, x * z = t := ⟨_, rfl⟩
          rw [ht] at hxz
          have hti : (x : Int) * (z : Int) = (t : Int) := by rw [← ht]; push_cast; rfl
          have HT := Lib.hid ht
          clear ht
          go_wp2
          (refine wp_region_ahead 15 (by kernel_rfl) (by kernel_rfl) ?_; simp only [List.take_succ_cons, List.take_zero, List.drop_succ_cons, List.drop_zero]; (repeat (first | go_big_quiet_skip | (go_big_quiet_want; go_big_quiet_op; first | go_big_quiet_on | (apply Exists.intro; refine ⟨fun _ => ?_, ?_⟩; (focus (first | (go_at_call 122; with_reducible exact Calls.after_same (r1_atz m k x _ (by omega) (by omega) HX)) | (go_at_call 122; with_reducible exact Calls.after_same (r1_atz n j z _ (by omega) (by omega) HZ)))); go_big_quiet_on)))); refine wpQuiet_nil ?_; rintro ⟨w1, hb1⟩; (try dsimp only); obtain ⟨hc1, hf1⟩ := bcell hb1; have hs1 := hb1.size; (try simp at hs1))
          go_wp2
          go_roundw
          case rel =>
            refine ⟨j + 1, o.set q (y + t), by omega, int_eq (by omega), ?_, Mu.put (hown.below hb1) (by omega) _ (by omega), b_set (b_then hB1 hb1) (Nat.le_refl _) _⟩
            have := cellI_step H.out (k := j) (by omega) (t := y + t) (by have h1 := HY.out; have h2 := HZ.out; have h3 := HX.out; have h4 := HT.out; subst hq; rw [h1, h2, h3, h4])
            rw [hq] at this
            exact this
          case measure => (simp [intOf]; try omega)
        · obtain rfl : j = K := by omega
          go_wp2
          go_roundw
          case rel =>
            refine ⟨k + 1, o, by omega, int_eq (by omega), ?_, hown, hB1⟩
            have h1 := H.out
            rw [HKd.out] at h1
            exact cellO_step h1
          case measure => (simp [intOf]; try omega)
    · obtain rfl : k = M := by omega
      have hv : cv O = m * n := by
        have h1 := HO.out
        rw [HMd.out] at h1
        exact cellO_end h1
      have hO9 : ∀ (j : Nat) (hj : j < O.length), O[j] ≤ 100000000000 := fun j hj => by
        have := HO.out.2.1 j _ (List.getElem?_eq_getElem hj)
        omega
      have hOl : O.length = N + 1 := HO.out.1
      have HV := Lib.hid hv
      have HO9 := Lib.hid hO9
      clear hv hO9
      have hgw := hB1.size
      have hne : w.heap.size ≠ wr.heap.size := by have := (hown.cell (i := 0) (by omega)).2.2.2; omega
      obtain ⟨g8, hg8⟩ : ∃ g, wr.heap.size = g := ⟨_, rfl⟩
      go_wp2
      rw [hg8] at hgw hne
      try rw [hg8]
      have HG8 := Lib.hid hg8
      clear hg8
      go_loopw [10, 11] (fun cv i wr2 => ∃ (j c s : Nat), j ≤ N ∧ cv = .int .i64 (c : Nat) ∧ i = .int .i64 (j : Nat) ∧ c ≤ 100000000000 ∧ Hid (layI O j c s) ∧ Hid (Blk wr2 g8 5 (bcells (laid N j s))) ∧ Mu wr2 w.heap.size (.slice (some ⟨w.heap.size, 0, none⟩) (N + 1) (N + 1)) O ∧ Below w.heap.size w wr2) (fun _ i _ => N - (intOf i).toNat)
      case atStart => exact ⟨0, 0, 0, Nat.zero_le _, rfl, rfl, by omega, layI_zero O, by rw [Hid, laid_zero, ← HG8.out]; exact Blk.new _ _ _, hown.alloc _, b_alloc hB1 _⟩
      case round =>
        clear hown hB1 HG8
        obtain ⟨j, c, s, hj, rfl, rfl, hc9, H, hblk, hown, hB1⟩ := hrel
        by_cases hlt2 : j < N
        · obtain ⟨y, hye⟩ : ∃ y, O[j]'(by omega) = y := ⟨_, rfl⟩
          have hyb := HO9.out j (by omega)
          obtain ⟨hc, hf, _, hgl⟩ := hown.cell (i := j) (by omega)
          rw [hye] at hc hyb
          have hcl := hblk.out.cell (N - 1 - j)
          rw [bcells_get _ _ (by rw [laid_length (by omega)]; omega)] at hcl
          have hfr := hblk.out.frozen (N - 1 - j)
          have hgb := hblk.out.lt
          have HY := Lib.hid hye
          clear hye
          go_wp2
          go_roundw
          case rel =>
            have hst := layI_step H.out (by omega) (HO9.out j (by omega)) (t := y + c) (by rw [HY.out])
            exact ⟨j + 1, (y + c) / 10, s + 10 ^ j * ((y + c) % 10), by omega, int_eq (by omega), int_eq (by omega), by omega, hst, laid_blk hblk.out hlt2 H.out.1 (Nat.mod_lt _ (by omega)) (by omega), hown.far (by simp [Value.ownBlock]; exact hne) _, b_set hB1 hgw _⟩
          case measure => (simp [intOf]; try omega)
        · obtain rfl : j = N := by omega
          have hs := layI_end H.out hOl HV.out HS.out
          have hstr := laid_string hblk.out
          have hsz := Nat.le_of_eq (laid_size j s)
          have hfin : trimB (mkS (laid j j s)) = nS (m * n) := trim_laid hN1 hs HS.out
          have HF := Lib.hid hfin
          clear hfin hs
          go_wp2_with (go_at_call 123; (with_reducible refine (r1_trim _ _ (by omega)).mono ?_); rintro e w' ⟨rfl, rfl⟩)
          go_ret
          exact ⟨ret_str HF.out, hB1⟩
end Go.Proofs.YtjdofncognaaoaaGreatDoor

/- Walks of the references' whole numbers and fractions: sign, sum, product, quotient. -/
namespace Go.Proofs.YtjdofncognaaoaaGreatDoor
open Go.RowKit
set_option linter.unusedVariables false
set_option linter.unusedSimpArgs false

theorem zero_eq (n : Nat) : ((nS n).toList == [48]) = (n == 0) := by
  rw [nS_t, Bool.eq_iff_iff, beq_iff_eq, beq_iff_eq, ntx_eq_zero]
theorem nS_nil {n : Nat} (h : n = 0) : ((nS n).toList == [48]) = true := by rw [zero_eq, h]; rfl
theorem nS_pos {n : Nat} (h : 0 < n) : ((nS n).toList == [48]) = false := by rw [zero_eq]; simp; omega
/-- An amount with a sign. -/
def wth (n : Nat) (b : Bool) : Int := if b then -(n : Int) else n
theorem wth_abs (z : Int) : wth z.natAbs (decide (z < 0)) = z := by
  unfold wth
  by_cases h : z < 0
  · rw [decide_eq_true h, if_pos rfl]; omega
  · rw [decide_eq_false h, if_neg (by simp)]; omega
theorem wth_not (z : Int) : wth z.natAbs (!decide (z < 0)) = -z := by
  unfold wth
  by_cases h : z < 0
  · rw [decide_eq_true h]; simp; omega
  · rw [decide_eq_false h]; simp; omega
theorem minus_nS {n : Nat} (h : 0 < n) : mkS [45] ++ nS n = iS (-(n : Int)) := by
  apply s_ext
  rw [iS_l, itx_neg (by omega), s_append, nS_l, mkS_l, show (-(n : Int)).natAbs = n by omega]; rfl
theorem r2_amtI (z : Int) (w : World) (hs : (iS z).size ≤ 9223372036854775807) :
    Calls Tryz.prog 118 #[.string (iS z)] w fun e w' => e = .returned (.tuple #[.string (nS z.natAbs), .bool (decide (z < 0))]) ∧ w = w' := by
  have := r2_amount (iS z) w hs
  rw [(amt_iS z).1, (amt_iS z).2] at this
  exact this
theorem r2_mayI (z : Int) (w : World) (hs : (iS z).size ≤ 9223372036854775807) :
    Calls Tryz.prog 113 #[.string (iS z)] w fun e w' => e = .returned (.bool true) ∧ w = w' := by
  have := r2_may (iS z) w hs
  rwa [isIB_iS] at this
theorem iS_sz {z : Int} {k : Nat} (h : ndg z.natAbs ≤ k) : (iS z).size ≤ k + 1 := by rw [iS_size]; split <;> omega
theorem r2_with (n : Nat) (b : Bool) (w : World) (hn : ndg n ≤ 2000000000) :
    Calls Tryz.prog 119 #[.string (nS n), .bool b] w fun e w' => e = .returned (.string (iS (wth n b))) ∧ w = w' := by
  have hz : (nS n).size ≤ 2000000000 := by rw [nS_size]; exact hn
  cases b with
  | false =>
    have hf : nS n = iS (wth n false) := (iS_nat n).symm
    have HF := Lib.hid hf
    clear hf
    go_enter Tryz.func119, Tryz.ntmps119
    go_wp2
    go_ret
    exact ⟨ret_str HF.out, rfl⟩
  | true =>
    rcases Nat.eq_zero_or_pos n with h | h
    · have hf : nS n = iS (wth n true) := by rw [h]; exact (iS_nat 0).symm
      have h0 := nS_nil h
      have HF := Lib.hid hf
      clear hf h
      go_enter Tryz.func119, Tryz.ntmps119
      go_wp2
      go_ret
      exact ⟨ret_str HF.out, rfl⟩
    · have hf : mkS [45] ++ nS n = iS (wth n true) := minus_nS h
      have h0 := nS_pos h
      have HF := Lib.hid hf
      clear hf h
      go_enter Tryz.func119, Tryz.ntmps119
      go_wp2
      go_ret
      exact ⟨ret_str HF.out, rfl⟩
theorem r2_sign (z : Int) (w : World) (hs : (iS z).size ≤ 9223372036854775807) :
    Calls Tryz.prog 81 #[.string (iS z)] w fun e w' => e = .returned (.int .i64 z.sign) ∧ w = w' := by
  have hA := r2_amtI z w hs
  have hM := r2_mayI z w hs
  rcases Int.lt_trichotomy z 0 with h | h | h
  · rw [decide_eq_true h] at hA
    rw [Int.sign_eq_neg_one_of_neg h]
    have h0 := nS_pos (n := z.natAbs) (by omega)
    clear h
    go_enter Tryz.func81, Tryz.ntmps81
    go_wp2_with (first | (go_at_call 118; (with_reducible refine (hA).mono ?_); rintro e w' ⟨rfl, rfl⟩) | (go_at_call 113; (with_reducible refine (hM).mono ?_); rintro e w' ⟨rfl, rfl⟩))
    go_ret
    exact ⟨rfl, rfl⟩
  · rw [decide_eq_false (by omega)] at hA
    rw [show z.sign = 0 by rw [h]; rfl]
    have h0 := nS_nil (n := z.natAbs) (by omega)
    clear h
    go_enter Tryz.func81, Tryz.ntmps81
    go_wp2_with (first | (go_at_call 118; (with_reducible refine (hA).mono ?_); rintro e w' ⟨rfl, rfl⟩) | (go_at_call 113; (with_reducible refine (hM).mono ?_); rintro e w' ⟨rfl, rfl⟩))
    go_ret
    exact ⟨rfl, rfl⟩
  · rw [decide_eq_false (by omega)] at hA
    rw [Int.sign_eq_one_of_pos h]
    have h0 := nS_pos (n := z.natAbs) (by omega)
    clear h
    go_enter Tryz.func81, Tryz.ntmps81
    go_wp2_with (first | (go_at_call 118; (with_reducible refine (hA).mono ?_); rintro e w' ⟨rfl, rfl⟩) | (go_at_call 113; (with_reducible refine (hM).mono ?_); rintro e w' ⟨rfl, rfl⟩))
    go_ret
    exact ⟨rfl, rfl⟩
theorem r2_neg (z : Int) (w : World) (hz : ndg z.natAbs ≤ 1000000000) :
    Calls Tryz.prog 116 #[.string (iS z)] w fun e w' => e = .returned (.string (iS (-z))) ∧ w = w' := by
  have hs : (iS z).size ≤ 9223372036854775807 := by have := iS_sz hz; omega
  have hA := r2_amtI z w hs
  have hM := r2_mayI z w hs
  have hw := r2_with z.natAbs (!decide (z < 0)) w (by omega)
  rw [wth_not] at hw
  obtain ⟨b, hb⟩ : ∃ b, decide (z < 0) = b := ⟨_, rfl⟩
  rw [hb] at hA hw
  clear hb
  go_enter Tryz.func116, Tryz.ntmps116
  go_wp2_with (first | (go_at_call 118; (with_reducible refine (hA).mono ?_); rintro e w' ⟨rfl, rfl⟩) | (go_at_call 113; (with_reducible refine (hM).mono ?_); rintro e w' ⟨rfl, rfl⟩) | (go_at_call 119; (with_reducible refine (hw).mono ?_); rintro e w' ⟨rfl, rfl⟩))
  go_ret
  exact ⟨rfl, rfl⟩
theorem r1_cmp_lt {m n : Nat} (w : World) (hm : ndg m ≤ 1000000000) (hn : ndg n ≤ 1000000000) (h : m < n) : Calls Tryz.prog 120 #[.string (nS m), .string (nS n)] w fun e w' => e = .returned (.int .i64 (-1)) ∧ w = w' := by
  have := r1_cmp m n w hm hn
  rwa [show cmpN m n = -1 by unfold cmpN; rw [if_pos h]] at this
theorem r1_cmp_ge {m n : Nat} (w : World) (hm : ndg m ≤ 1000000000) (hn : ndg n ≤ 1000000000) (h : n ≤ m) : ∃ c : Int, 0 ≤ c ∧ Calls Tryz.prog 120 #[.string (nS m), .string (nS n)] w fun e w' => e = .returned (.int .i64 c) ∧ w = w' :=
  ⟨cmpN m n, cmpN_ge h, r1_cmp m n w hm hn⟩
theorem add_same {a b : Int} (h : decide (a < 0) = decide (b < 0)) : wth (a.natAbs + b.natAbs) (decide (a < 0)) = a + b := by
  unfold wth
  by_cases h1 : a < 0
  · have h2 : b < 0 := by rw [decide_eq_true h1] at h; exact of_decide_eq_true h.symm
    rw [decide_eq_true h1, if_pos rfl]; omega
  · have h2 : ¬ b < 0 := by rw [decide_eq_false h1] at h; exact of_decide_eq_false h.symm
    rw [decide_eq_false h1, if_neg (by simp)]; omega
theorem add_more {a b : Int} (h : decide (a < 0) ≠ decide (b < 0)) (hl : b.natAbs ≤ a.natAbs) : wth (a.natAbs - b.natAbs) (decide (a < 0)) = a + b := by
  unfold wth
  by_cases h1 : a < 0
  · have h2 : ¬ b < 0 := fun h2 => h (by rw [decide_eq_true h1, decide_eq_true h2])
    rw [decide_eq_true h1, if_pos rfl]; omega
  · have h2 : b < 0 := by
      by_cases h2 : b < 0
      · exact h2
      · exact absurd (by rw [decide_eq_false h1, decide_eq_false h2]) h
    rw [decide_eq_false h1, if_neg (by simp)]; omega
set_option maxHeartbeats 400000 in
theorem r2_add (a b : Int) (w : World) (ha : ndg a.natAbs ≤ 900000000) (hb : ndg b.natAbs ≤ 900000000) :
    Calls Tryz.prog 82 #[.string (iS a), .string (iS b)] w fun e w' => e = .returned (.string (iS (a + b))) ∧ Below w.heap.size w w' := by
  have hsa : (iS a).size ≤ 9223372036854775807 := by have := iS_sz ha; omega
  have hsb : (iS b).size ≤ 9223372036854775807 := by have := iS_sz hb; omega
  have hA := r2_amtI a w hsa
  have hB := r2_amtI b w hsb
  have hMA := r2_mayI a w hsa
  have hMB := r2_mayI b w hsb
  have hd := ndg_add a.natAbs b.natAbs
  by_cases h : decide (a < 0) = decide (b < 0)
  · have hw := fun W => r2_with (a.natAbs + b.natAbs) (decide (a < 0)) W (by omega)
    rw [add_same h] at hw
    rw [← h] at hB
    obtain ⟨s, hs⟩ : ∃ s, decide (a < 0) = s := ⟨_, rfl⟩
    rw [hs] at hA hB hw
    clear h hs
    cases s <;>
    · go_enter Tryz.func82, Tryz.ntmps82
      go_wp2_with (first | (go_at_call 118; (with_reducible refine (hA).mono ?_); rintro e w' ⟨rfl, rfl⟩) | (go_at_call 118; (with_reducible refine (hB).mono ?_); rintro e w' ⟨rfl, rfl⟩) | (go_at_call 113; (with_reducible refine (hMA).mono ?_); rintro e w' ⟨rfl, rfl⟩) | (go_at_call 113; (with_reducible refine (hMB).mono ?_); rintro e w' ⟨rfl, rfl⟩) | (go_at_call 119; (with_reducible refine (hw _).mono ?_); rintro e w' ⟨rfl, rfl⟩) | (go_at_call 94; (with_reducible refine (r1_add _ _ _ (by omega) (by omega)).mono ?_); rintro e w1 ⟨rfl, hb1⟩))
      go_ret
      exact ⟨rfl, hb1⟩
  · have h' : decide (b < 0) ≠ decide (a < 0) := fun e => h e.symm
    have hb' : decide (b < 0) = !decide (a < 0) := by revert h; cases decide (a < 0) <;> cases decide (b < 0) <;> simp
    by_cases hl : b.natAbs ≤ a.natAbs
    · have hw := fun W => r2_with (a.natAbs - b.natAbs) (decide (a < 0)) W (by have := ndg_mono (Nat.sub_le a.natAbs b.natAbs); omega)
      rw [add_more h hl] at hw
      rw [hb'] at hB
      obtain ⟨c, hc0, hC⟩ := r1_cmp_ge w (by omega) (by omega) hl
      have hS := fun W => r1_sub a.natAbs b.natAbs W (by omega) (by omega) hl
      obtain ⟨s, hs⟩ : ∃ s, decide (a < 0) = s := ⟨_, rfl⟩
      rw [hs] at hA hB hw
      clear h h' hb' hs hl
      cases s <;>
      · go_enter Tryz.func82, Tryz.ntmps82
        go_wp2_with (first | (go_at_call 118; (with_reducible refine (hA).mono ?_); rintro e w' ⟨rfl, rfl⟩) | (go_at_call 118; (with_reducible refine (hB).mono ?_); rintro e w' ⟨rfl, rfl⟩) | (go_at_call 113; (with_reducible refine (hMA).mono ?_); rintro e w' ⟨rfl, rfl⟩) | (go_at_call 113; (with_reducible refine (hMB).mono ?_); rintro e w' ⟨rfl, rfl⟩) | (go_at_call 120; (with_reducible refine (hC).mono ?_); rintro e w' ⟨rfl, rfl⟩) | (go_at_call 119; (with_reducible refine (hw _).mono ?_); rintro e w' ⟨rfl, rfl⟩) | (go_at_call 121; (with_reducible refine (hS _).mono ?_); rintro e w1 ⟨rfl, hb1⟩))
        go_ret
        exact ⟨rfl, hb1⟩
    · have hl' : a.natAbs ≤ b.natAbs := by omega
      have hw := fun W => r2_with (b.natAbs - a.natAbs) (decide (b < 0)) W (by have := ndg_mono (Nat.sub_le b.natAbs a.natAbs); omega)
      rw [add_more h' hl', Int.add_comm b a] at hw
      have hC := r1_cmp_lt (m := a.natAbs) (n := b.natAbs) w (by omega) (by omega) (by omega)
      have hS := fun W => r1_sub b.natAbs a.natAbs W (by omega) (by omega) hl'
      obtain ⟨s, hs⟩ : ∃ s, decide (a < 0) = s := ⟨_, rfl⟩
      obtain ⟨t, ht⟩ : ∃ s, decide (b < 0) = s := ⟨_, rfl⟩
      rw [hs] at hA h
      rw [ht] at hB hw h
      clear h' hb' hs ht hl hl'
      cases s <;> cases t
      any_goals exact absurd rfl h
      all_goals
        clear h
        go_enter Tryz.func82, Tryz.ntmps82
        go_wp2_with (first | (go_at_call 118; (with_reducible refine (hA).mono ?_); rintro e w' ⟨rfl, rfl⟩) | (go_at_call 118; (with_reducible refine (hB).mono ?_); rintro e w' ⟨rfl, rfl⟩) | (go_at_call 113; (with_reducible refine (hMA).mono ?_); rintro e w' ⟨rfl, rfl⟩) | (go_at_call 113; (with_reducible refine (hMB).mono ?_); rintro e w' ⟨rfl, rfl⟩) | (go_at_call 120; (with_reducible refine (hC).mono ?_); rintro e w' ⟨rfl, rfl⟩) | (go_at_call 119; (with_reducible refine (hw _).mono ?_); rintro e w' ⟨rfl, rfl⟩) | (go_at_call 121; (with_reducible refine (hS _).mono ?_); rintro e w1 ⟨rfl, hb1⟩))
        go_ret
        exact ⟨rfl, hb1⟩
theorem mul_with (a b : Int) : wth (a.natAbs * b.natAbs) (decide (a < 0) != decide (b < 0)) = a * b := by
  unfold wth
  by_cases ha : a < 0 <;> by_cases hb : b < 0
  · rw [decide_eq_true ha, decide_eq_true hb]
    obtain ⟨m, rfl⟩ : ∃ m : Nat, a = -(m : Int) := ⟨a.natAbs, by omega⟩
    obtain ⟨n, rfl⟩ : ∃ m : Nat, b = -(m : Int) := ⟨b.natAbs, by omega⟩
    simp [Int.neg_mul_neg]
  · rw [decide_eq_true ha, decide_eq_false hb]
    obtain ⟨m, rfl⟩ : ∃ m : Nat, a = -(m : Int) := ⟨a.natAbs, by omega⟩
    obtain ⟨n, rfl⟩ : ∃ m : Nat, b = (m : Int) := ⟨b.natAbs, by omega⟩
    simp [Int.neg_mul]
  · rw [decide_eq_false ha, decide_eq_true hb]
    obtain ⟨m, rfl⟩ : ∃ m : Nat, a = (m : Int) := ⟨a.natAbs, by omega⟩
    obtain ⟨n, rfl⟩ : ∃ m : Nat, b = -(m : Int) := ⟨b.natAbs, by omega⟩
    simp [Int.mul_neg]
  · rw [decide_eq_false ha, decide_eq_false hb]
    obtain ⟨m, rfl⟩ : ∃ m : Nat, a = (m : Int) := ⟨a.natAbs, by omega⟩
    obtain ⟨n, rfl⟩ : ∃ m : Nat, b = (m : Int) := ⟨b.natAbs, by omega⟩
    simp
set_option maxHeartbeats 400000 in
theorem r2_mul (a b : Int) (w : World) (ha : ndg a.natAbs ≤ 900000000) (hb : ndg b.natAbs ≤ 900000000) :
    Calls Tryz.prog 80 #[.string (iS a), .string (iS b)] w fun e w' => e = .returned (.string (iS (a * b))) ∧ Below w.heap.size w w' := by
  have hsa : (iS a).size ≤ 9223372036854775807 := by have := iS_sz ha; omega
  have hsb : (iS b).size ≤ 9223372036854775807 := by have := iS_sz hb; omega
  have hA := r2_amtI a w hsa
  have hB := r2_amtI b w hsb
  have hMA := r2_mayI a w hsa
  have hMB := r2_mayI b w hsb
  have hd := ndg_mul a.natAbs b.natAbs
  have hw := fun W => r2_with (a.natAbs * b.natAbs) (decide (a < 0) != decide (b < 0)) W (by omega)
  rw [mul_with] at hw
  obtain ⟨u, hu⟩ : ∃ u, (decide (a < 0) != decide (b < 0)) = u := ⟨_, rfl⟩
  rw [hu] at hw
  obtain ⟨s, hs⟩ : ∃ s, decide (a < 0) = s := ⟨_, rfl⟩
  obtain ⟨t, ht⟩ : ∃ s, decide (b < 0) = s := ⟨_, rfl⟩
  rw [hs] at hA hu
  rw [ht] at hB hu
  clear hs ht
  have hM := r1_mul a.natAbs b.natAbs
  cases s <;> cases t <;> cases u
  any_goals (exfalso; revert hu; decide)
  all_goals
    clear hu
    go_enter Tryz.func80, Tryz.ntmps80
    go_wp2_with (first | (go_at_call 118; (with_reducible refine (hA).mono ?_); rintro e w' ⟨rfl, rfl⟩) | (go_at_call 118; (with_reducible refine (hB).mono ?_); rintro e w' ⟨rfl, rfl⟩) | (go_at_call 113; (with_reducible refine (hMA).mono ?_); rintro e w' ⟨rfl, rfl⟩) | (go_at_call 113; (with_reducible refine (hMB).mono ?_); rintro e w' ⟨rfl, rfl⟩) | (go_at_call 119; (with_reducible refine (hw _).mono ?_); rintro e w' ⟨rfl, rfl⟩) | (go_at_call 83; (with_reducible refine (hM _ (by omega) (by omega)).mono ?_); rintro e w1 ⟨rfl, hb1⟩))
    go_ret
    exact ⟨rfl, hb1⟩
end Go.Proofs.YtjdofncognaaoaaGreatDoor

/- Walks of the references' quotient, and of their fractions: Make, Add, Neg, Sign, Cmp, Sub, Mul. -/
namespace Go.Proofs.YtjdofncognaaoaaGreatDoor
open Go.RowKit
set_option linter.unusedVariables false
set_option linter.unusedSimpArgs false

theorem ediv_pos (n : Nat) (b : Nat) (hb : 0 < b) : (-(n:Int)) / (b:Int) = wth (if n % b = 0 then n / b else n / b + 1) true ∧ (-(n:Int)) % (b : Int) = ((if n % b = 0 then 0 else b - n % b : Nat) : Int) := by
  have h := Nat.div_add_mod n b
  have h2 := Nat.mod_lt n hb
  rw [Int.ediv_emod_unique (by omega)]
  unfold wth
  generalize n / b = q at *
  generalize n % b = r at *
  subst h
  split
  · rename_i h0; subst h0
    refine ⟨?_, by simp, by simpa using hb⟩
    push_cast; simp [Int.mul_neg]
  · refine ⟨?_, by omega, by omega⟩
    simp only [if_true]
    rw [Int.ofNat_sub (Nat.le_of_lt h2)]
    push_cast
    rw [Int.mul_neg, Int.mul_add]
    omega
theorem ediv_nat (n b : Nat) : (n : Int) / (b : Int) = wth (n / b) false ∧ (n : Int) % (b : Int) = ((n % b : Nat) : Int) := ⟨rfl, rfl⟩
theorem ndg_div (n b : Nat) : ndg (n / b) ≤ ndg n := ndg_mono (Nat.div_le_self _ _)
theorem ndg_succ (n : Nat) : ndg (n + 1) ≤ ndg n + 1 := by
  have := ndg_add n 1
  rw [ndg_small (n := 1) (by omega)] at this
  have := ndg_pos n
  omega
set_option maxHeartbeats 400000 in
theorem r2_div (a : Int) (b : Nat) (w : World) (ha : ndg a.natAbs ≤ 890000000) (hb : ndg b ≤ 890000000) (h0 : 0 < b) :
    Calls Tryz.prog 117 #[.string (iS a), .string (nS b)] w fun e w' => e = .returned (.tuple #[.string (iS (a / b)), .string (nS (a % b).toNat), .bool true]) ∧ Below w.heap.size w w' := by
  have hsa : (iS a).size ≤ 9223372036854775807 := by have := iS_sz ha; omega
  have hA := r2_amtI a w hsa
  have hMA := r2_mayI a w hsa
  have hsb : (iS (b : Int)).size ≤ 9223372036854775807 := by rw [iS_nat, nS_size]; omega
  have hB := r2_amtI b w hsb
  have hMB := r2_mayI b w hsb
  rw [iS_nat] at hB hMB
  rw [decide_eq_false (by omega), show (b : Int).natAbs = b from rfl] at hB
  have hbz := nS_pos h0
  by_cases h : a < 0
  · obtain ⟨n, rfl⟩ : ∃ n : Nat, a = -(n : Int) := ⟨a.natAbs, by omega⟩
    have hn : (-(n : Int)).natAbs = n := by omega
    rw [hn] at hA ha
    rw [decide_eq_true h] at hA
    obtain ⟨e1, e2⟩ := ediv_pos n b h0
    have hD := r1_div n b w (by omega) (by omega) h0
    rw [e1, e2]
    have hq := ndg_div n b
    have hq1 := ndg_succ (n / b)
    have hr := Nat.mod_lt n h0
    have hrn := ndg_mono (Nat.le_of_lt hr)
    clear e1 e2 h hn
    generalize n / b = q at *
    generalize n % b = r at *
    by_cases h2 : r = 0
    · subst h2
      rw [if_pos rfl, if_pos rfl]
      have hrz := nS_nil (n := 0) rfl
      have hw := fun W => r2_with q true W (by omega)
      go_enter Tryz.func117, Tryz.ntmps117
      go_wp2_with (first | (go_at_call 118; (with_reducible refine (hA).mono ?_); rintro e w' ⟨rfl, rfl⟩) | (go_at_call 118; (with_reducible refine (hB).mono ?_); rintro e w' ⟨rfl, rfl⟩) | (go_at_call 113; (with_reducible refine (hMA).mono ?_); rintro e w' ⟨rfl, rfl⟩) | (go_at_call 113; (with_reducible refine (hMB).mono ?_); rintro e w' ⟨rfl, rfl⟩) | (go_at_call 119; (with_reducible refine (hw _).mono ?_); rintro e w' ⟨rfl, rfl⟩) | (go_at_call 150; (with_reducible refine hD.mono ?_); rintro e w1 ⟨rfl, hb1⟩))
      go_ret3
      exact ⟨rfl, hb1⟩
    · rw [if_neg h2, if_neg h2]
      have hrz := nS_pos (n := r) (by omega)
      have hw := fun W => r2_with (q + 1) true W (by omega)
      have hS := fun W => r1_sub b r W (by omega) (by omega) (Nat.le_of_lt hr)
      have hP := fun W => r1_add_one q W (by omega)
      have hE : ((b - r : Nat) : Int).toNat = b - r := by omega
      rw [hE]
      clear h2 hE
      go_enter Tryz.func117, Tryz.ntmps117
      go_wp2_with (first | (go_at_call 118; (with_reducible refine (hA).mono ?_); rintro e w' ⟨rfl, rfl⟩) | (go_at_call 118; (with_reducible refine (hB).mono ?_); rintro e w' ⟨rfl, rfl⟩) | (go_at_call 113; (with_reducible refine (hMA).mono ?_); rintro e w' ⟨rfl, rfl⟩) | (go_at_call 113; (with_reducible refine (hMB).mono ?_); rintro e w' ⟨rfl, rfl⟩) | (go_at_call 119; (with_reducible refine (hw _).mono ?_); rintro e w' ⟨rfl, rfl⟩) | (go_at_call 150; (with_reducible refine hD.mono ?_); rintro e w1 ⟨rfl, hb1⟩) | (go_at_call 94; (with_reducible refine (hP _).mono ?_); rintro e w2 ⟨rfl, hb2⟩) | (go_at_call 121; (with_reducible refine (hS _).mono ?_); rintro e w3 ⟨rfl, hb3⟩))
      go_ret3
      exact ⟨rfl, b_then (b_then hb1 hb2) hb3⟩
  · obtain ⟨n, rfl⟩ : ∃ n : Nat, a = (n : Int) := ⟨a.natAbs, by omega⟩
    have hn : ((n : Int)).natAbs = n := by omega
    rw [hn] at hA ha
    rw [decide_eq_false h] at hA
    obtain ⟨e1, e2⟩ := ediv_nat n b
    have hD := r1_div n b w (by omega) (by omega) h0
    rw [e1, e2]
    have hq := ndg_div n b
    clear e1 e2 h hn
    have hE : ((n % b : Nat) : Int).toNat = n % b := by omega
    rw [hE]
    clear hE
    generalize n / b = q at *
    generalize n % b = r at *
    have hw := fun W => r2_with q false W (by omega)
    go_enter Tryz.func117, Tryz.ntmps117
    go_wp2_with (first | (go_at_call 118; (with_reducible refine (hA).mono ?_); rintro e w' ⟨rfl, rfl⟩) | (go_at_call 118; (with_reducible refine (hB).mono ?_); rintro e w' ⟨rfl, rfl⟩) | (go_at_call 113; (with_reducible refine (hMA).mono ?_); rintro e w' ⟨rfl, rfl⟩) | (go_at_call 113; (with_reducible refine (hMB).mono ?_); rintro e w' ⟨rfl, rfl⟩) | (go_at_call 119; (with_reducible refine (hw _).mono ?_); rintro e w' ⟨rfl, rfl⟩) | (go_at_call 150; (with_reducible refine hD.mono ?_); rintro e w1 ⟨rfl, hb1⟩))
    go_ret3
    exact ⟨rfl, hb1⟩
/-- What a fraction over a natural is, reduced. -/
theorem enc_mk (a : Int) (d : Nat) (h : 0 < d) : enc (mkRat a d) = ⟨iS (a / (Nat.gcd a.natAbs d : Int)), nS (d / Nat.gcd a.natAbs d)⟩ := by
  unfold enc
  rw [Rat.num_mkRat, Rat.den_mkRat, if_neg (by omega), if_neg (by omega), Nat.gcd_comm]
theorem gcd_pos {a : Int} {d : Nat} (h : 0 < d) : 0 < Nat.gcd a.natAbs d := Nat.gcd_pos_of_pos_right _ h
theorem gcd_ndg {a : Int} {d : Nat} (h : 0 < d) : ndg (Nat.gcd a.natAbs d) ≤ ndg d := ndg_mono (Nat.gcd_le_right _ h)
set_option maxHeartbeats 400000 in
/-- Make, over what is above 0. -/
theorem r3_make (a : Int) (d : Nat) (w : World) (ha : ndg a.natAbs ≤ 880000000) (hd : ndg d ≤ 880000000) (h0 : 0 < d) :
    Calls Tryz.prog 79 #[.string (iS a), .string (nS d)] w fun e w' => e = .returned (.tuple #[(enc (mkRat a d)).v, .bool true]) ∧ Below w.heap.size w w' := by
  have hsa : (iS a).size ≤ 9223372036854775807 := by have := iS_sz ha; omega
  have hsd : (iS (d : Int)).size ≤ 9223372036854775807 := by rw [iS_nat, nS_size]; omega
  have hMA := fun W => r2_mayI a W hsa
  have hMD := fun W => r2_mayI d W hsd
  have hSD := fun W => r2_sign d W hsd
  simp only [iS_nat] at hMD hSD
  rw [Int.sign_eq_one_of_pos (by omega)] at hSD
  have hdz := nS_pos h0
  have hAb := fun W => r2_abs a W hsa
  have hG := fun W => r1_gcd a.natAbs d W (by omega) (by omega)
  have hg0 := gcd_pos (a := a) h0
  have hgn := gcd_ndg (a := a) h0
  rw [enc_mk a d h0]
  have hE : (d : Int) / (Nat.gcd a.natAbs d : Int) = ((d / Nat.gcd a.natAbs d : Nat) : Int) := rfl
  generalize Nat.gcd a.natAbs d = g at *
  have hQ := fun W => r2_div a g W (by omega) (by omega) hg0
  have hR := fun W => r2_div d g W (by show ndg d ≤ _; omega) (by omega) hg0
  simp only [hE, iS_nat] at hR
  have HQ := Lib.hid hQ
  have HR := Lib.hid hR
  clear hE hQ hR hg0 hgn
  go_enter Tryz.func79, Tryz.ntmps79
  go_wp2_with (first | (go_at_call 113; (with_reducible refine (hMA _).mono ?_); rintro e w' ⟨rfl, rfl⟩) | (go_at_call 113; (with_reducible refine (hMD _).mono ?_); rintro e w' ⟨rfl, rfl⟩) | (go_at_call 81; (with_reducible refine (hSD _).mono ?_); rintro e w' ⟨rfl, rfl⟩) | (go_at_call 90; (with_reducible refine (hAb _).mono ?_); rintro e w' ⟨rfl, rfl⟩) | (go_at_call 115; (with_reducible refine (hG _).mono ?_); rintro e w1 ⟨rfl, hb1⟩; obtain ⟨hc1, hf1⟩ := bcell hb1; have hs1 := hb1.size; (try simp at hs1); have hq1 : w.heap.size < w1.heap.size := by omega) | (go_at_call 117; (with_reducible refine (HQ.out _).mono ?_); rintro e w2 ⟨rfl, hb2⟩; have hs2 := hb2.size; obtain ⟨hc2, hf2⟩ := bcell hb2; have hq2 : w.heap.size < w2.heap.size := by omega) | (go_at_call 117; (with_reducible refine (HR.out _).mono ?_); rintro e w3 ⟨rfl, hb3⟩; have hs3 := hb3.size; obtain ⟨hc3, hf3⟩ := bcell hb3; have hq3 : w.heap.size < w3.heap.size := by omega))
  refine bodyPost_ret (v := .tuple #[.agg #[.string (iS (a / (g : Int))), .string (nS (d / g))], .bool true]) ?_ rfl ⟨rfl, (by repeat (first | exact Below.refl _ _ | assumption | refine b_then ?_ (by assumption) | refine b_alloc ?_ _ | refine b_drewN ?_ _ | refine Below.drew ?_ | refine b_set ?_ (by first | exact Nat.le_refl _ | (simp; done) | (simp; omega) | omega) _))⟩
  simp [results, Tryz.results79, go_sem, hc1, hf1, hc2, hf2, hc3, hf3, hq1, hq2, hq3]
end Go.Proofs.YtjdofncognaaoaaGreatDoor
