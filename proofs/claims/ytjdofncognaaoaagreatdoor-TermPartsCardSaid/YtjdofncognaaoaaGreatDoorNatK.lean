/- Walks of nat: Add, Sub, Mul, Div, Cmp. -/
import Derived.Test.YtjdofncognaaoaaGreatDoorRefB
import Derived.Test.YtjdofncognaaoaaGreatDoorRat
import Derived.Test.YtjdofncognaaoaaGreatDoorRefM
namespace Go.Proofs.YtjdofncognaaoaaGreatDoor
open Go.RowKit
set_option linter.unusedVariables false
set_option linter.unusedSimpArgs false

theorem make_limbs_cap (N : Nat) (h : N ≤ 4000000000) (w : World) : (Instr.makeSlice 160 (.int .i64 0) (.int .i64 (N : Int))).run Tryz.prog w = .ok (.slice (some ⟨w.heap.size, 0, none⟩) 0 N) (w.alloc (.cells (madeCells #[.int .i64 0] N) 3)) := by
  obtain ⟨i0, hi, hz0, hz1, hz2⟩ := info_parts infoInt
  have hr := run_make (P := Tryz.prog) w 160 3 i0 _ Tryz.underlying160 hi hz0 .i64 .i64 0 N (by omega) (by omega) (by rw [hz2]; omega) (by omega)
  simp only [Int.toNat_natCast, hz1, Nat.mul_one] at hr
  exact hr
theorem Mu.madeCap {w : World} {base : Nat} (hb : base ≤ w.heap.size) (N : Nat) (hn : N ≤ 4000000000) : Mu (w.alloc (.cells (madeCells #[.int .i64 0] N) 3)) base (.slice (some ⟨w.heap.size, 0, none⟩) 0 N) [] := by
  have := (Mu.made hb N hn).take (k := 0) (Nat.zero_le _)
  simpa using this
/-- i limbs of the sum, and what is carried. -/
def addI (a b : List Nat) (i : Nat) (o : List Nat) (c : Nat) : Prop := isL o ∧ o.length = i ∧ c ≤ 1 ∧ lv o + c * 10000 ^ i = lv (a.take i) + lv (b.take i)
def subI (a b : List Nat) (i : Nat) (o : List Nat) (c : Nat) : Prop := isL o ∧ o.length = i ∧ c ≤ 1 ∧ lv o + lv (b.take i) = lv (a.take i) + c * 10000 ^ i
theorem isL_snoc {o : List Nat} {v : Nat} (h : isL o) (hv : v < 10000) : isL (o ++ [v]) := isL_append h fun x hx => by rw [List.mem_singleton.1 hx]; exact hv
theorem addI_zero (a b : List Nat) : addI a b 0 [] 0 := ⟨isL_nil, rfl, by omega, by simp [lv]⟩
theorem subI_zero (a b : List Nat) : subI a b 0 [] 0 := ⟨isL_nil, rfl, by omega, by simp [lv]⟩
theorem addI_step {a b o : List Nat} {i c d v : Nat} (h : addI a b i o c) (hv : v < 10000) (hd : d ≤ 1) (ht : v + 10000 * d = a.getD i 0 + b.getD i 0 + c) : addI a b (i + 1) (o ++ [v]) d := by
  obtain ⟨h1, h2, h3, h4⟩ := h
  refine ⟨isL_snoc h1 hv, by simp [h2], hd, ?_⟩
  rw [lv_snoc, lv_take_more, lv_take_more, Nat.pow_succ, h2]
  generalize a.getD i 0 = x at *
  generalize b.getD i 0 = y at *
  generalize 10000 ^ i = P at *
  have e1 : P * v + P * (10000 * d) = P * x + P * y + P * c := by rw [← Nat.mul_add, ← Nat.mul_add, ← Nat.mul_add]; congr 1
  have e2 : d * (P * 10000) = P * (10000 * d) := by simp only [Nat.mul_comm, Nat.mul_left_comm]
  rw [Nat.mul_comm c P] at h4
  rw [e2]; omega
theorem subI_step {a b o : List Nat} {i c d v : Nat} (h : subI a b i o c) (hv : v < 10000) (hd : d ≤ 1) (ht : v + (b.getD i 0 + c) = a.getD i 0 + 10000 * d) : subI a b (i + 1) (o ++ [v]) d := by
  obtain ⟨h1, h2, h3, h4⟩ := h
  refine ⟨isL_snoc h1 hv, by simp [h2], hd, ?_⟩
  rw [lv_snoc, lv_take_more, lv_take_more, Nat.pow_succ, h2]
  generalize a.getD i 0 = x at *
  generalize b.getD i 0 = y at *
  generalize 10000 ^ i = P at *
  have e1 : P * v + (P * y + P * c) = P * x + P * (10000 * d) := by rw [← Nat.mul_add, ← Nat.mul_add, ← Nat.mul_add]; congr 1
  have e2 : d * (P * 10000) = P * (10000 * d) := by simp only [Nat.mul_comm, Nat.mul_left_comm]
  rw [Nat.mul_comm c P] at h4
  rw [e2]; omega
theorem lv_len_lt {a : List Nat} (h : isL a) {k : Nat} (hk : a.length ≤ k) : lv a < 10000 ^ k := Nat.lt_of_lt_of_le (lv_lt h) (Nat.pow_le_pow_right (by omega) hk)
theorem addI_end {a b o : List Nat} {N c : Nat} (h : addI a b (N + 1) o c) (ha : isL a) (hb : isL b) (h1 : a.length ≤ N) (h2 : b.length ≤ N) : isL o ∧ lv o = lv a + lv b := by
  refine ⟨h.1, ?_⟩
  have h4 := h.2.2.2
  rw [List.take_of_length_le (by omega), List.take_of_length_le (by omega), Nat.pow_succ] at h4
  have := lv_len_lt ha h1
  have := lv_len_lt hb h2
  have hc := h.2.2.1
  rcases (by omega : c = 0 ∨ c = 1) with rfl | rfl <;> omega
theorem subI_end {a b o : List Nat} {N c : Nat} (h : subI a b (N + 1) o c) (ha : isL a) (hb : isL b) (h1 : a.length ≤ N) (h2 : b.length ≤ N) (hle : lv b ≤ lv a) : isL o ∧ lv o = lv a - lv b := by
  refine ⟨h.1, ?_⟩
  have h4 := h.2.2.2
  rw [List.take_of_length_le (by omega), List.take_of_length_le (by omega)] at h4
  have h5 := lv_lt h.1
  rw [h.2.1] at h5
  have hc := h.2.2.1
  rcases (by omega : c = 0 ∨ c = 1) with rfl | rfl <;> omega

/-! ### What reads, as what is read -/
def RetLs (w : World) (n : Nat) (e : Ending) (w' : World) : Prop := ∃ A m c, e = .returned (.slice A m c) ∧ Ls w' A m (lim n) ∧ Below w.heap.size w w'
theorem RetL.ls {w w' : World} {n : Nat} {e : Ending} (h : RetL w n e w') (hn : ndg n ≤ 900000000) : RetLs w n e w' := by
  obtain ⟨A, c, rfl, hm, hb⟩ := h
  obtain ⟨A', c', e1, hls, _, _⟩ := Mu.ls hm (Nat.le_trans (lim_len_ndg n) (by omega))
  injection e1 with e11 _ e12
  subst e11; subst e12
  exact ⟨A, _, c, rfl, hls, hb⟩
theorem n_both2 (a b : Nat) (w : World) (ha : ndg a ≤ 900000000) (hb : ndg b ≤ 900000000) :
    Calls Tryz.prog 173 #[.string (nS a), .string (nS b)] w fun e w' => ∃ A n c B m d, e = .returned (.tuple #[.slice A n c, .slice B m d, .bool true]) ∧ Ls w' A n (lim a) ∧ Ls w' B m (lim b) ∧ Below w.heap.size w w' :=
  (n_both a b w ha hb).mono fun e w' ⟨A, c, B, d, he, hm1, hm2, hb1⟩ => by
    subst he
    obtain ⟨A', c', e1, hls1, _, _⟩ := Mu.ls hm1 (Nat.le_trans (lim_len_ndg a) (by omega))
    injection e1 with e11 _ e12
    subst e11; subst e12
    obtain ⟨B', d', e2, hls2, _, _⟩ := Mu.ls hm2 (Nat.le_trans (lim_len_ndg b) (by omega))
    injection e2 with e21 _ e22
    subst e21; subst e22
    exact ⟨A, _, c, B, _, d, rfl, hls1, hls2, hb1⟩
theorem ls_ndg {w : World} {A : Option Addr} {n x : Nat} (h : Ls w A n (lim x)) : n ≤ ndg x := by rw [← h.len]; exact lim_len_ndg x
theorem n_textT {A : Option Addr} {m c : Nat} (n : Nat) (w : World) (hg : Glob w) (ha : Ls w A m (lim n)) (hn : ndg n ≤ 900000000) :
    Calls Tryz.prog 175 #[.slice A m c] w fun e w' => e = .returned (.string (nS n)) ∧ Below w.heap.size w w' := n_text A n m c w hg ha.len ha hn
set_option maxHeartbeats 400000 in
theorem n_Mul (a b : Nat) (w : World) (hg : Glob w) (ha : ndg a ≤ 440000000) (hb : ndg b ≤ 440000000) :
    Calls Tryz.prog 147 #[.string (nS a), .string (nS b)] w fun e w' => e = .returned (.string (nS (a * b))) ∧ Below w.heap.size w w' := by
  have hd := ndg_mul a b
  have hT := fun (A : Option Addr) m c W hg hl => n_textT (A := A) (m := m) (c := c) (a * b) W hg hl (by omega)
  have hM := fun (A B : Option Addr) n m c d W (h1 : Ls W A n (lim a)) (h2 : Ls W B m (lim b)) => (n_mul A B n m c d (lim a) (lim b) W h1 h2 (isL_lim a) (isL_lim b) (by have := ls_ndg h1; have := ls_ndg h2; omega)).mono fun e w' h => (by rw [lv_lim, lv_lim] at h; exact h.ls (by omega) : RetLs W (a * b) e w')
  have hR := n_both2 a b w (by omega) (by omega)
  clear hd
  go_enter Tryz.func147, Tryz.ntmps147
  go_wp2_with (first
    | (go_at_call 173; (with_reducible refine hR.mono ?_); rintro e w1 ⟨A, n, c, B, m, d, rfl, hl1, hl2, hb1⟩)
    | (go_at_call 174; (with_reducible refine (hM A B n m c d w1 hl1 hl2).mono ?_); rintro e w2 ⟨C, k, f, rfl, hl3, hb2⟩)
    | (go_at_call 175; (with_reducible refine (hT C k f w2 (hg.below (b_then hb1 hb2)) hl3).mono ?_); rintro e w3 ⟨rfl, hb3⟩))
  go_ret
  exact ⟨rfl, b_then (b_then hb1 hb2) hb3⟩
set_option maxHeartbeats 400000 in
theorem n_Cmp (a b : Nat) (w : World) (ha : ndg a ≤ 890000000) (hb : ndg b ≤ 890000000) :
    Calls Tryz.prog 198 #[.string (nS a), .string (nS b)] w fun e w' => e = .returned (.int .i64 (cmpN a b)) ∧ Below w.heap.size w w' := by
  have hR := n_both2 a b w (by omega) (by omega)
  go_enter Tryz.func198, Tryz.ntmps198
  go_wp2_with (first
    | (go_at_call 173; (with_reducible refine hR.mono ?_); rintro e w1 ⟨A, n, c, B, m, d, rfl, hl1, hl2, hb1⟩)
    | (go_at_call 205; (with_reducible refine (n_cmp A B n m c d a b w1 hl1 hl2).mono ?_); rintro e w2 ⟨rfl, hb2⟩))
  go_ret
  exact ⟨rfl, b_then hb1 hb2⟩
set_option maxHeartbeats 400000 in
theorem n_Div (a b : Nat) (w : World) (hg : Glob w) (ha : ndg a ≤ 890000000) (hb : ndg b ≤ 890000000) (h0 : 0 < b) :
    Calls Tryz.prog 156 #[.string (nS a), .string (nS b)] w fun e w' => e = .returned (.tuple #[.string (nS (a / b)), .string (nS (a % b)), .bool true]) ∧ Below w.heap.size w w' := by
  have hd := ndg_mono (Nat.div_le_self a b)
  have hm := ndg_mono (Nat.le_of_lt (Nat.mod_lt a h0))
  have hT1 := fun (A : Option Addr) m c W hg hl => n_textT (A := A) (m := m) (c := c) (a / b) W hg hl (by omega)
  have hT2 := fun (A : Option Addr) m c W hg hl => n_textT (A := A) (m := m) (c := c) (a % b) W hg hl (by omega)
  have hD := fun (A B : Option Addr) n m c d W (h1 : Ls W A n (lim a)) (h2 : Ls W B m (lim b)) => n_div A B n m c d a b W h1 h2 h0 (by have := ls_ndg h1; omega)
  have hR := n_both2 a b w (by omega) (by omega)
  have hp : ∀ (W : World) (B : Option Addr) (m : Nat), Ls W B m (lim b) → 0 < m := fun _ _ _ h => Nat.pos_of_ne_zero fun e => by have := h.len; rw [e] at this; have := lim_len_zero.1 this; omega
  have HP := Lib.hid hp
  clear hd hm hp
  generalize a / b = q at *
  generalize a % b = r at *
  go_enter Tryz.func156, Tryz.ntmps156
  go_wp2_with (first
    | (go_at_call 173; (with_reducible refine hR.mono ?_); rintro e w1 ⟨A, n, c, B, m, d, rfl, hl1, hl2, hb1⟩; have hm0 := HP.out _ _ _ hl2)
    | (go_at_call 177; (with_reducible refine (hD A B n m c d w1 hl1 hl2).mono ?_); rintro e w2 ⟨C, k, D, f, rfl, hl3, hl4, hb2⟩)
    | (go_at_call 175; (with_reducible refine (hT1 C _ k w2 (hg.below (b_then hb1 hb2)) hl3).mono ?_); rintro e w3 ⟨rfl, hb3⟩)
    | (go_at_call 175; (with_reducible refine (hT2 D _ f w3 (hg.below (b_then (b_then hb1 hb2) hb3)) (hl4.below hb3)).mono ?_); rintro e w4 ⟨rfl, hb4⟩))
  go_ret3
  exact ⟨rfl, b_then (b_then (b_then hb1 hb2) hb3) hb4⟩
theorem at_z {B : Option Addr} {m d k z : Nat} {b : List Nat} {w : World} (h : Ls w B m b) (hk : k ≤ 4000000000) (hz : Hid (b.getD k 0 = z)) :
    Calls Tryz.prog 202 #[.slice B m d, .int .i64 (k : Nat)] w fun e w' => e = .returned (.int .i64 (z : Nat)) ∧ w = w' := by
  rw [← hz.out]; exact n_at _ _ _ _ _ _ h hk
set_option maxRecDepth 100000 in
set_option maxHeartbeats 1000000 in
theorem n_add (A B : Option Addr) (n m c d : Nat) (a b : List Nat) (w : World) (ha : Ls w A n a) (hb : Ls w B m b) (hA : isL a) (hB : isL b) (hs : n ≤ 900000000) (hs2 : m ≤ 900000000) :
    Calls Tryz.prog 222 #[.slice A n c, .slice B m d, .int .i64 1] w fun e w' => RetL w (lv a + lv b) e w' := by
  have hna := ha.len
  have hnb := hb.len
  obtain ⟨N, hN⟩ : ∃ N : Nat, N = max n m := ⟨_, rfl⟩
  have hN9 : N ≤ 900000000 := by omega
  have hNi : max (n : Int) (m : Int) = (N : Int) := by omega
  have hnN : n ≤ N := by omega
  have hmN : m ≤ N := by omega
  have hmk : ∀ w : World, (Instr.makeSlice 160 (.int .i64 0) (.int .i64 ((N : Int) + 1))).run Tryz.prog w = .ok (.slice (some ⟨w.heap.size, 0, none⟩) 0 (N + 1)) (w.alloc (.cells (madeCells #[.int .i64 0] (N + 1)) 3)) := fun w => by
    have := make_limbs_cap (N + 1) (by omega) w
    push_cast at this
    exact this
  have M0 : Mu (w.alloc (.cells (madeCells #[.int .i64 0] (N + 1)) 3)) w.heap.size (.slice (some ⟨w.heap.size, 0, none⟩) 0 (N + 1)) [] := Mu.madeCap (Nat.le_refl _) _ (by omega)
  have H0 : Hid (addI a b 0 [] 0) := addI_zero a b
  clear hN
  go_enter Tryz.func222, Tryz.ntmps222
  go_wp2
  go_loopw [7, 8, 24] (fun out cv i wr => ∃ (k c : Nat) (o : List Nat), k ≤ N + 1 ∧ cv = .int .i64 (c : Nat) ∧ i = .int .i64 (k : Nat) ∧ Hid (addI a b k o c) ∧ Mu wr w.heap.size out o ∧ Below w.heap.size w wr) (fun _ _ i _ => N + 1 - (intOf i).toNat)
  case atStart => exact ⟨0, 0, [], Nat.zero_le _, rfl, rfl, H0, M0, (by repeat (first | exact Below.refl _ _ | assumption | refine b_then ?_ (by assumption) | refine b_alloc ?_ _ | refine b_drewN ?_ _ | refine Below.drew ?_ | refine b_set ?_ (by first | exact Nat.le_refl _ | (simp; done) | (simp; omega) | omega) _))⟩
  case round =>
    obtain ⟨k, c, o, hk, rfl, rfl, H, hown, hB1⟩ := hrel
    have hol : o.length = k := H.out.2.1
    have hc1 := H.out.2.2.1
    have hs0 := hB1.size
    by_cases hlt : k < N + 1
    · have hl1 := ha.below hB1
      have hl2 := hb.below hB1
      obtain ⟨x, hxe⟩ : ∃ x, a.getD k 0 = x := ⟨_, rfl⟩
      obtain ⟨y, hye⟩ : ∃ y, b.getD k 0 = y := ⟨_, rfl⟩
      have hx := isL_getD hA k
      have hy := isL_getD hB k
      rw [hxe] at hx
      rw [hye] at hy
      have HX := Lib.hid hxe
      have HY := Lib.hid hye
      clear hxe hye
      by_cases hge : 10000 ≤ x + y + c
      · skip
        go_wp2_with (first | (go_at_call 202; (with_reducible refine (at_z hl1 (by omega) HX).mono ?_); rintro e w' ⟨rfl, rfl⟩) | (go_at_call 202; (with_reducible refine (at_z hl2 (by omega) HY).mono ?_); rintro e w' ⟨rfl, rfl⟩) | (at_builtin; refine wpList_app (v := u7) E_limbs (by omega) ie_length ie_one rfl (.tmp 46) (.tmp 48) rfl rfl (hown.alloc _) ⟨wr.heap.size, 0, none⟩ 1 (x + y + c - 10000) rfl (new_cells _ _ _ _ (by simp [ie]; try omega)) (by first | omega | (simp; omega)) (by first | omega | (simp; omega)) (by first | omega | (simp; omega)) ?_; intro v2 w2 hown2 hg2 hat2))
        go_roundw
        case rel => exact ⟨k + 1, 1, o ++ [x + y + c - 10000], by omega, int_eq (by omega), int_eq (by omega), addI_step H.out (by omega) (by omega) (by rw [HX.out, HY.out]; omega), hown2, ((hown.alloc _).frame (b_alloc hB1 _) (Nat.le_refl _) hg2)⟩
        case measure => (simp [intOf]; try omega)
      · skip
        go_wp2_with (first | (go_at_call 202; (with_reducible refine (at_z hl1 (by omega) HX).mono ?_); rintro e w' ⟨rfl, rfl⟩) | (go_at_call 202; (with_reducible refine (at_z hl2 (by omega) HY).mono ?_); rintro e w' ⟨rfl, rfl⟩) | (at_builtin; refine wpList_app (v := u7) E_limbs (by omega) ie_length ie_one rfl (.tmp 46) (.tmp 48) rfl rfl (hown.alloc _) ⟨wr.heap.size, 0, none⟩ 1 (x + y + c) rfl (new_cells _ _ _ _ (by simp [ie]; try omega)) (by first | omega | (simp; omega)) (by first | omega | (simp; omega)) (by first | omega | (simp; omega)) ?_; intro v2 w2 hown2 hg2 hat2))
        go_roundw
        case rel => exact ⟨k + 1, 0, o ++ [x + y + c], by omega, int_eq (by omega), int_eq (by omega), addI_step H.out (by omega) (by omega) (by rw [HX.out, HY.out]; omega), hown2, ((hown.alloc _).frame (b_alloc hB1 _) (Nat.le_refl _) hg2)⟩
        case measure => (simp [intOf]; try omega)
    · obtain rfl : k = N + 1 := by omega
      obtain ⟨hoL, hoV⟩ := addI_end H.out hA hB (by omega) (by omega)
      obtain ⟨A', c', rfl, hls, hc1, hc2⟩ := hown.ls (by omega)
      have hlen2 : (lim (lv o)).length ≤ o.length := lim_len_le (lv_lt hoL)
      have htk := take_lim hoL
      have hm := hown.take hlen2
      rw [htk, hoV] at hm
      rw [hoV] at hlen2
      have HV := Lib.hid hoV
      clear hoV htk hol
      go_wp2_with (go_at_call 203; (with_reducible refine (n_trim _ _ _ _ _ hls hoL hc1 hc2).mono ?_); rintro e w' ⟨rfl, rfl⟩)
      go_ret
      exact ⟨A', c', congrArg (fun k => Ending.returned (Value.slice A' k c')) (congrArg (fun v => (lim v).length) HV.out), hm, hB1⟩
set_option maxRecDepth 100000 in
set_option maxHeartbeats 1000000 in
theorem n_sub (A B : Option Addr) (n m c d : Nat) (a b : List Nat) (w : World) (ha : Ls w A n a) (hb : Ls w B m b) (hA : isL a) (hB : isL b) (hs : n ≤ 900000000) (hs2 : m ≤ 900000000) (hle : lv b ≤ lv a) :
    Calls Tryz.prog 222 #[.slice A n c, .slice B m d, .int .i64 (-1)] w fun e w' => RetL w (lv a - lv b) e w' := by
  have hna := ha.len
  have hnb := hb.len
  obtain ⟨N, hN⟩ : ∃ N : Nat, N = max n m := ⟨_, rfl⟩
  have hN9 : N ≤ 900000000 := by omega
  have hNi : max (n : Int) (m : Int) = (N : Int) := by omega
  have hnN : n ≤ N := by omega
  have hmN : m ≤ N := by omega
  have hmk : ∀ w : World, (Instr.makeSlice 160 (.int .i64 0) (.int .i64 ((N : Int) + 1))).run Tryz.prog w = .ok (.slice (some ⟨w.heap.size, 0, none⟩) 0 (N + 1)) (w.alloc (.cells (madeCells #[.int .i64 0] (N + 1)) 3)) := fun w => by
    have := make_limbs_cap (N + 1) (by omega) w
    push_cast at this
    exact this
  have M0 : Mu (w.alloc (.cells (madeCells #[.int .i64 0] (N + 1)) 3)) w.heap.size (.slice (some ⟨w.heap.size, 0, none⟩) 0 (N + 1)) [] := Mu.madeCap (Nat.le_refl _) _ (by omega)
  have H0 : Hid (subI a b 0 [] 0) := subI_zero a b
  clear hN
  go_enter Tryz.func222, Tryz.ntmps222
  go_wp2
  go_loopw [7, 8, 24] (fun out cv i wr => ∃ (k c : Nat) (o : List Nat), k ≤ N + 1 ∧ cv = .int .i64 (-(c : Int)) ∧ i = .int .i64 (k : Nat) ∧ Hid (subI a b k o c) ∧ Mu wr w.heap.size out o ∧ Below w.heap.size w wr) (fun _ _ i _ => N + 1 - (intOf i).toNat)
  case atStart => exact ⟨0, 0, [], Nat.zero_le _, rfl, rfl, H0, M0, (by repeat (first | exact Below.refl _ _ | assumption | refine b_then ?_ (by assumption) | refine b_alloc ?_ _ | refine b_drewN ?_ _ | refine Below.drew ?_ | refine b_set ?_ (by first | exact Nat.le_refl _ | (simp; done) | (simp; omega) | omega) _))⟩
  case round =>
    obtain ⟨k, c, o, hk, rfl, rfl, H, hown, hB1⟩ := hrel
    have hol : o.length = k := H.out.2.1
    have hc1 := H.out.2.2.1
    have hs0 := hB1.size
    by_cases hlt : k < N + 1
    · have hl1 := ha.below hB1
      have hl2 := hb.below hB1
      obtain ⟨x, hxe⟩ : ∃ x, a.getD k 0 = x := ⟨_, rfl⟩
      obtain ⟨y, hye⟩ : ∃ y, b.getD k 0 = y := ⟨_, rfl⟩
      have hx := isL_getD hA k
      have hy := isL_getD hB k
      rw [hxe] at hx
      rw [hye] at hy
      have HX := Lib.hid hxe
      have HY := Lib.hid hye
      clear hxe hye
      by_cases hge : x < y + c
      · skip
        go_wp2_with (first | (go_at_call 202; (with_reducible refine (at_z hl1 (by omega) HX).mono ?_); rintro e w' ⟨rfl, rfl⟩) | (go_at_call 202; (with_reducible refine (at_z hl2 (by omega) HY).mono ?_); rintro e w' ⟨rfl, rfl⟩) | (at_builtin; refine wpList_app (v := u7) E_limbs (by omega) ie_length ie_one rfl (.tmp 46) (.tmp 48) rfl rfl (hown.alloc _) ⟨wr.heap.size, 0, none⟩ 1 (x + 10000 - (y + c)) rfl (new_cells _ _ _ _ (by simp [ie]; try omega)) (by first | omega | (simp; omega)) (by first | omega | (simp; omega)) (by first | omega | (simp; omega)) ?_; intro v2 w2 hown2 hg2 hat2))
        go_roundw
        case rel => exact ⟨k + 1, 1, o ++ [x + 10000 - (y + c)], by omega, int_eq (by omega), int_eq (by omega), subI_step H.out (by omega) (by omega) (by rw [HX.out, HY.out]; omega), hown2, ((hown.alloc _).frame (b_alloc hB1 _) (Nat.le_refl _) hg2)⟩
        case measure => (simp [intOf]; try omega)
      · skip
        go_wp2_with (first | (go_at_call 202; (with_reducible refine (at_z hl1 (by omega) HX).mono ?_); rintro e w' ⟨rfl, rfl⟩) | (go_at_call 202; (with_reducible refine (at_z hl2 (by omega) HY).mono ?_); rintro e w' ⟨rfl, rfl⟩) | (at_builtin; refine wpList_app (v := u7) E_limbs (by omega) ie_length ie_one rfl (.tmp 46) (.tmp 48) rfl rfl (hown.alloc _) ⟨wr.heap.size, 0, none⟩ 1 (x - (y + c)) rfl (new_cells _ _ _ _ (by simp [ie]; try omega)) (by first | omega | (simp; omega)) (by first | omega | (simp; omega)) (by first | omega | (simp; omega)) ?_; intro v2 w2 hown2 hg2 hat2))
        go_roundw
        case rel => exact ⟨k + 1, 0, o ++ [x - (y + c)], by omega, int_eq (by omega), int_eq (by omega), subI_step H.out (by omega) (by omega) (by rw [HX.out, HY.out]; omega), hown2, ((hown.alloc _).frame (b_alloc hB1 _) (Nat.le_refl _) hg2)⟩
        case measure => (simp [intOf]; try omega)
    · obtain rfl : k = N + 1 := by omega
      obtain ⟨hoL, hoV⟩ := subI_end H.out hA hB (by omega) (by omega) hle
      obtain ⟨A', c', rfl, hls, hc1, hc2⟩ := hown.ls (by omega)
      have hlen2 : (lim (lv o)).length ≤ o.length := lim_len_le (lv_lt hoL)
      have htk := take_lim hoL
      have hm := hown.take hlen2
      rw [htk, hoV] at hm
      rw [hoV] at hlen2
      have HV := Lib.hid hoV
      clear hoV htk hol
      go_wp2_with (go_at_call 203; (with_reducible refine (n_trim _ _ _ _ _ hls hoL hc1 hc2).mono ?_); rintro e w' ⟨rfl, rfl⟩)
      go_ret
      exact ⟨A', c', congrArg (fun k => Ending.returned (Value.slice A' k c')) (congrArg (fun v => (lim v).length) HV.out), hm, hB1⟩
end Go.Proofs.YtjdofncognaaoaaGreatDoor

/- Walks of whole: Sign, Neg, Add, Mul, Div, Cmp. -/
namespace Go.Proofs.YtjdofncognaaoaaGreatDoor
open Go.RowKit
set_option linter.unusedVariables false
set_option linter.unusedSimpArgs false

theorem w_readI (z : Int) (w : World) (hs : ndg z.natAbs ≤ 1000000000) :
    Calls Tryz.prog 154 #[.string (iS z)] w fun e w' => e = .returned (.tuple #[.agg #[.string (nS z.natAbs), .bool (decide (z < 0))], .bool true]) ∧ Below w.heap.size w w' := by
  have hr := w_read (iS z) w (by have := iS_sz hs; omega)
  obtain ⟨h2, h3⟩ := amt_iS z
  rw [wnum, if_pos (isIB_iS z), h2, h3, isIB_iS] at hr
  exact hr
theorem w_text (n : Nat) (b : Bool) (w : World) (hn : ndg n ≤ 2000000000) :
    Calls Tryz.prog 169 #[.agg #[.string (nS n), .bool b]] w fun e w' => e = .returned (.string (iS (wth n b))) ∧ Below w.heap.size w w' := by
  have hz : (nS n).size ≤ 2000000000 := by rw [nS_size]; exact hn
  cases b with
  | false =>
    have hf : nS n = iS (wth n false) := (iS_nat n).symm
    have HF := Lib.hid hf
    clear hf
    go_enter Tryz.func169, Tryz.ntmps169
    go_wp2
    go_ret
    exact ⟨ret_str HF.out, (by repeat (first | exact Below.refl _ _ | assumption | refine b_then ?_ (by assumption) | refine b_alloc ?_ _ | refine b_drewN ?_ _ | refine Below.drew ?_ | refine b_set ?_ (by first | exact Nat.le_refl _ | (simp; done) | (simp; omega) | omega) _))⟩
  | true =>
    rcases Nat.eq_zero_or_pos n with h | h
    · have hf : nS n = iS (wth n true) := by rw [h]; exact (iS_nat 0).symm
      have h0 := nS_nil h
      have HF := Lib.hid hf
      clear hf h
      go_enter Tryz.func169, Tryz.ntmps169
      go_wp2
      go_ret
      exact ⟨ret_str HF.out, (by repeat (first | exact Below.refl _ _ | assumption | refine b_then ?_ (by assumption) | refine b_alloc ?_ _ | refine b_drewN ?_ _ | refine Below.drew ?_ | refine b_set ?_ (by first | exact Nat.le_refl _ | (simp; done) | (simp; omega) | omega) _))⟩
    · have hf : mkS [45] ++ nS n = iS (wth n true) := minus_nS h
      have h0 := nS_pos h
      have HF := Lib.hid hf
      clear hf h
      go_enter Tryz.func169, Tryz.ntmps169
      go_wp2
      go_ret
      exact ⟨ret_str HF.out, (by repeat (first | exact Below.refl _ _ | assumption | refine b_then ?_ (by assumption) | refine b_alloc ?_ _ | refine b_drewN ?_ _ | refine Below.drew ?_ | refine b_set ?_ (by first | exact Nat.le_refl _ | (simp; done) | (simp; omega) | omega) _))⟩
set_option maxHeartbeats 400000 in
theorem w_sign (z : Int) (w : World) (hs : ndg z.natAbs ≤ 1000000000) :
    Calls Tryz.prog 148 #[.string (iS z)] w fun e w' => e = .returned (.int .i64 z.sign) ∧ Below w.heap.size w w' := by
  have hR := w_readI z w hs
  rcases Int.lt_trichotomy z 0 with h | h | h
  · rw [decide_eq_true h] at hR
    rw [Int.sign_eq_neg_one_of_neg h]
    have h0 := nS_pos (n := z.natAbs) (by omega)
    clear h
    go_enter Tryz.func148, Tryz.ntmps148
    go_wp2_with (go_at_call 154; (with_reducible refine (hR).mono ?_); rintro e w1 ⟨rfl, hb1⟩; obtain ⟨hc1, hf1⟩ := bcell hb1; have hs1 := hb1.size; (try simp at hs1))
    go_ret
    exact ⟨rfl, (by repeat (first | exact Below.refl _ _ | assumption | refine b_then ?_ (by assumption) | refine b_alloc ?_ _ | refine b_drewN ?_ _ | refine Below.drew ?_ | refine b_set ?_ (by first | exact Nat.le_refl _ | (simp; done) | (simp; omega) | omega) _))⟩
  · rw [decide_eq_false (by omega)] at hR
    rw [show z.sign = 0 by rw [h]; rfl]
    have h0 := nS_nil (n := z.natAbs) (by omega)
    clear h
    go_enter Tryz.func148, Tryz.ntmps148
    go_wp2_with (go_at_call 154; (with_reducible refine (hR).mono ?_); rintro e w1 ⟨rfl, hb1⟩; obtain ⟨hc1, hf1⟩ := bcell hb1; have hs1 := hb1.size; (try simp at hs1))
    go_ret
    exact ⟨rfl, (by repeat (first | exact Below.refl _ _ | assumption | refine b_then ?_ (by assumption) | refine b_alloc ?_ _ | refine b_drewN ?_ _ | refine Below.drew ?_ | refine b_set ?_ (by first | exact Nat.le_refl _ | (simp; done) | (simp; omega) | omega) _))⟩
  · rw [decide_eq_false (by omega)] at hR
    rw [Int.sign_eq_one_of_pos h]
    have h0 := nS_pos (n := z.natAbs) (by omega)
    clear h
    go_enter Tryz.func148, Tryz.ntmps148
    go_wp2_with (go_at_call 154; (with_reducible refine (hR).mono ?_); rintro e w1 ⟨rfl, hb1⟩; obtain ⟨hc1, hf1⟩ := bcell hb1; have hs1 := hb1.size; (try simp at hs1))
    go_ret
    exact ⟨rfl, (by repeat (first | exact Below.refl _ _ | assumption | refine b_then ?_ (by assumption) | refine b_alloc ?_ _ | refine b_drewN ?_ _ | refine Below.drew ?_ | refine b_set ?_ (by first | exact Nat.le_refl _ | (simp; done) | (simp; omega) | omega) _))⟩
set_option maxHeartbeats 400000 in
theorem w_neg (z : Int) (w : World) (hz : ndg z.natAbs ≤ 1000000000) :
    Calls Tryz.prog 142 #[.string (iS z)] w fun e w' => e = .returned (.string (iS (-z))) ∧ Below w.heap.size w w' := by
  have hR := w_readI z w hz
  have hT := fun W => w_text z.natAbs (!decide (z < 0)) W (by omega)
  rw [wth_not] at hT
  obtain ⟨b, hb⟩ : ∃ b, decide (z < 0) = b := ⟨_, rfl⟩
  rw [hb] at hR hT
  clear hb
  go_enter Tryz.func142, Tryz.ntmps142
  go_wp2_with (first | (go_at_call 154; (with_reducible refine (hR).mono ?_); rintro e w1 ⟨rfl, hb1⟩; obtain ⟨hc1, hf1⟩ := bcell hb1; have hs1 := hb1.size; (try simp at hs1)) | (go_at_call 169; (with_reducible refine (hT _).mono ?_); rintro e w2 ⟨rfl, hb2⟩; obtain ⟨hc2, hf2⟩ := bcell hb2; have hs2 := hb2.size; (try simp at hs2)))
  go_ret
  exact ⟨rfl, (by repeat (first | exact Below.refl _ _ | assumption | refine b_then ?_ (by assumption) | refine b_alloc ?_ _ | refine b_drewN ?_ _ | refine Below.drew ?_ | refine b_set ?_ (by first | exact Nat.le_refl _ | (simp; done) | (simp; omega) | omega) _))⟩
set_option maxHeartbeats 400000 in
theorem w_both (a b : Int) (w : World) (ha : ndg a.natAbs ≤ 1000000000) (hb : ndg b.natAbs ≤ 1000000000) :
    Calls Tryz.prog 171 #[.string (iS a), .string (iS b)] w fun e w' => e = .returned (.tuple #[.agg #[.string (nS a.natAbs), .bool (decide (a < 0))], .agg #[.string (nS b.natAbs), .bool (decide (b < 0))], .bool true]) ∧ Below w.heap.size w w' := by
  have hA := fun W => w_readI a W ha
  have hB := fun W => w_readI b W hb
  generalize decide (a < 0) = s at *
  generalize decide (b < 0) = t at *
  go_enter Tryz.func171, Tryz.ntmps171
  go_wp2_with (first | (go_at_call 154; (with_reducible refine (hA _).mono ?_); rintro e w1 ⟨rfl, hb1⟩; obtain ⟨hc1, hf1⟩ := bcell hb1; have hs1 := hb1.size; (try simp at hs1); have hq1 : w.heap.size + 1 < w1.heap.size := by omega) | (go_at_call 154; (with_reducible refine (hB _).mono ?_); rintro e w2 ⟨rfl, hb2⟩; obtain ⟨hc2, hf2⟩ := bcell hb2; have hs2 := hb2.size; (try simp at hs2); have hq2 : w1.heap.size < w2.heap.size := by omega))
  obtain ⟨k0, k1, k2, k3⟩ := ((((((Blk.new w 150 #[.string ⟨#[]⟩, .bool false]).alloc (.cells #[.string ⟨#[]⟩, .bool false] 150)).below hb1).alloc (.cells #[.string (nS a.natAbs), .bool s] 150)).below hb2)).two
  obtain ⟨l0, l1, l2, l3⟩ := (((((Blk.new2 w (.cells #[.string ⟨#[]⟩, .bool false] 150) 150 #[.string ⟨#[]⟩, .bool false]).below hb1).alloc (.cells #[.string (nS a.natAbs), .bool s] 150)).below hb2)).two
  obtain ⟨m0, m1, m2, m3⟩ := (((Blk.new w1 150 #[.string (nS a.natAbs), .bool s]).below hb2)).two
  obtain ⟨n0, n1, n2, n3⟩ := (Blk.new w2 150 #[.string (nS b.natAbs), .bool t]).two
  have hr0 : w.heap.size < w2.heap.size := by omega
  have hr1 : w.heap.size + 1 < w2.heap.size := by omega
  have e1 : w.heap.size ≠ w1.heap.size := by omega
  have e2 : w.heap.size + 1 ≠ w1.heap.size := by omega
  have e3 : w.heap.size ≠ w2.heap.size := by omega
  have e4 : w.heap.size + 1 ≠ w2.heap.size := by omega
  go_region
  go_wp2
  refine bodyPost_ret (v := .tuple #[.agg #[.string (nS a.natAbs), .bool s], .agg #[.string (nS b.natAbs), .bool t], .bool true]) ?_ rfl ⟨rfl, (by repeat (first | exact Below.refl _ _ | assumption | refine b_then ?_ (by assumption) | refine b_alloc ?_ _ | refine b_drewN ?_ _ | refine Below.drew ?_ | refine b_set ?_ (by first | exact Nat.le_refl _ | (simp; done) | (simp; omega) | omega) _))⟩
  simp [results, Tryz.results171, go_sem, k0, k1, l0, l1, hr0, hr1]
theorem n_Sub (a b : Nat) (w : World) (hg : Glob w) (ha : ndg a ≤ 890000000) (hb : ndg b ≤ 890000000) (h : b ≤ a) :
    Calls Tryz.prog 200 #[.string (nS a), .string (nS b)] w fun e w' => e = .returned (.tuple #[.string (nS (a - b)), .bool true]) ∧ Below w.heap.size w w' := by
  have hR := n_both2 a b w (by omega) (by omega)
  have hd := ndg_mono (Nat.sub_le a b)
  have hT := fun (A : Option Addr) m c W hg hl => n_textT (A := A) (m := m) (c := c) (a - b) W hg hl (by omega)
  have hM := fun (A B : Option Addr) n m c d W (h1 : Ls W A n (lim a)) (h2 : Ls W B m (lim b)) => (n_sub A B n m c d (lim a) (lim b) W h1 h2 (isL_lim a) (isL_lim b) (by have := ls_ndg h1; omega) (by have := ls_ndg h2; omega) (by rw [lv_lim, lv_lim]; exact h)).mono fun e w' h => (by rw [lv_lim, lv_lim] at h; exact h.ls (by omega) : RetLs W (a - b) e w')
  have hc := cmpN_ge h
  have hC := fun (A B : Option Addr) n m c d W h1 h2 => n_cmp A B n m c d a b W h1 h2
  clear hd h
  generalize cmpN a b = cm at *
  go_enter Tryz.func200, Tryz.ntmps200
  go_wp2_with (first
    | (go_at_call 173; (with_reducible refine hR.mono ?_); rintro e w1 ⟨A, n, c, B, m, d, rfl, hl1, hl2, hb1⟩)
    | (go_at_call 205; (with_reducible refine (hC A B n m c d w1 hl1 hl2).mono ?_); rintro e w2 ⟨rfl, hb2⟩)
    | (go_at_call 222; (with_reducible refine (hM A B n m c d w2 (hl1.below hb2) (hl2.below hb2)).mono ?_); rintro e w3 ⟨C, k, f, rfl, hl3, hb3⟩)
    | (go_at_call 175; (with_reducible refine (hT C k f w3 (hg.below (b_then (b_then hb1 hb2) hb3)) hl3).mono ?_); rintro e w4 ⟨rfl, hb4⟩))
  go_ret2
  exact ⟨rfl, b_then (b_then (b_then hb1 hb2) hb3) hb4⟩
theorem n_Sub_no (a b : Nat) (w : World) (ha : ndg a ≤ 890000000) (hb : ndg b ≤ 890000000) (h : a < b) :
    Calls Tryz.prog 200 #[.string (nS a), .string (nS b)] w fun e w' => e = .returned (.tuple #[.string ⟨#[]⟩, .bool false]) ∧ Below w.heap.size w w' := by
  have hR := n_both2 a b w (by omega) (by omega)
  have hc := cmpN_lt h
  have hC := fun (A B : Option Addr) n m c d W h1 h2 => n_cmp A B n m c d a b W h1 h2
  clear h
  generalize cmpN a b = cm at *
  go_enter Tryz.func200, Tryz.ntmps200
  go_wp2_with (first
    | (go_at_call 173; (with_reducible refine hR.mono ?_); rintro e w1 ⟨A, n, c, B, m, d, rfl, hl1, hl2, hb1⟩)
    | (go_at_call 205; (with_reducible refine (hC A B n m c d w1 hl1 hl2).mono ?_); rintro e w2 ⟨rfl, hb2⟩))
  go_ret2
  exact ⟨rfl, b_then hb1 hb2⟩
theorem n_Add (a b : Nat) (w : World) (hg : Glob w) (ha : ndg a ≤ 890000000) (hb : ndg b ≤ 890000000) :
    Calls Tryz.prog 199 #[.string (nS a), .string (nS b)] w fun e w' => e = .returned (.string (nS (a + b))) ∧ Below w.heap.size w w' := by
  have hR := n_both2 a b w (by omega) (by omega)
  have hd := ndg_add a b
  have hT := fun (A : Option Addr) m c W hg hl => n_textT (A := A) (m := m) (c := c) (a + b) W hg hl (by omega)
  have hM := fun (A B : Option Addr) n m c d W (h1 : Ls W A n (lim a)) (h2 : Ls W B m (lim b)) => (n_add A B n m c d (lim a) (lim b) W h1 h2 (isL_lim a) (isL_lim b) (by have := ls_ndg h1; omega) (by have := ls_ndg h2; omega)).mono fun e w' h => (by rw [lv_lim, lv_lim] at h; exact h.ls (by omega) : RetLs W (a + b) e w')
  clear hd
  go_enter Tryz.func199, Tryz.ntmps199
  go_wp2_with (first
    | (go_at_call 173; (with_reducible refine hR.mono ?_); rintro e w1 ⟨A, n, c, B, m, d, rfl, hl1, hl2, hb1⟩)
    | (go_at_call 222; (with_reducible refine (hM A B n m c d w1 hl1 hl2).mono ?_); rintro e w2 ⟨C, k, f, rfl, hl3, hb2⟩)
    | (go_at_call 175; (with_reducible refine (hT C k f w2 (hg.below (b_then hb1 hb2)) hl3).mono ?_); rintro e w3 ⟨rfl, hb3⟩))
  go_ret
  exact ⟨rfl, b_then (b_then hb1 hb2) hb3⟩
/-- What the sum of two numbers is, with its sign. -/
def wadd (m n : Nat) (s t : Bool) : Nat × Bool := if s = t then (m + n, s) else if n ≤ m then (m - n, s) else (n - m, t)
theorem wadd_abs (a b : Int) : wth (wadd a.natAbs b.natAbs (decide (a < 0)) (decide (b < 0))).1 (wadd a.natAbs b.natAbs (decide (a < 0)) (decide (b < 0))).2 = a + b := by
  unfold wadd
  by_cases h : decide (a < 0) = decide (b < 0)
  · rw [if_pos h]; exact add_same h
  · rw [if_neg h]
    by_cases hl : b.natAbs ≤ a.natAbs
    · rw [if_pos hl]; exact add_more h hl
    · rw [if_neg hl]
      have := add_more (a := b) (b := a) (fun e => h e.symm) (by omega)
      rw [Int.add_comm b a] at this
      exact this
theorem wadd_ndg (m n : Nat) (s t : Bool) : ndg (wadd m n s t).1 ≤ max (ndg m) (ndg n) + 1 := by
  have h1 := ndg_add m n
  unfold wadd
  split
  · exact h1
  · split
    · have := ndg_mono (Nat.sub_le m n); dsimp only; omega
    · have := ndg_mono (Nat.sub_le n m); dsimp only; omega
set_option maxHeartbeats 800000 in
theorem w_add (m n : Nat) (s t : Bool) (w : World) (hg : Glob w) (hm : ndg m ≤ 880000000) (hn : ndg n ≤ 880000000) :
    Calls Tryz.prog 172 #[.agg #[.string (nS m), .bool s], .agg #[.string (nS n), .bool t]] w fun e w' => e = .returned (.agg #[.string (nS (wadd m n s t).1), .bool (wadd m n s t).2]) ∧ Below w.heap.size w w' := by
  have hA := fun W hg => n_Add m n W hg (by omega) (by omega)
  by_cases h : s = t
  · subst h
    rw [wadd, if_pos rfl]
    have hg0 : Glob (((w.alloc (.cells #[.string (nS m), .bool s] 150)).alloc (.cells #[.string (nS n), .bool s] 150)).alloc (.cells #[.string ⟨#[]⟩, .bool false] 150)) := hg.below (by repeat (first | exact Below.refl _ _ | assumption | refine b_then ?_ (by assumption) | refine b_alloc ?_ _ | refine b_drewN ?_ _ | refine Below.drew ?_ | refine b_set ?_ (by first | exact Nat.le_refl _ | (simp; done) | (simp; omega) | omega) _))
    go_enter Tryz.func172, Tryz.ntmps172
    have hss : (s == s) = true := by simp
    go_wp2
    (refine wp_region_ahead 8 (by kernel_rfl) (by kernel_rfl) ?_; simp only [List.take_succ_cons, List.take_zero, List.drop_succ_cons, List.drop_zero]; (repeat (first | go_big_quiet_skip | (go_big_quiet_want; go_big_quiet_op; first | go_big_quiet_on | (apply Exists.intro; refine ⟨fun _ => ?_, ?_⟩; (focus ((go_at_call 199; exact Calls.after (hA _ (hg0.below (After.h _)))))); go_big_quiet_on)))); refine wpQuiet_nil ?_; rintro ⟨w1, hb1⟩; (try dsimp only); obtain ⟨hc1, hf1⟩ := bcell hb1; have hs1 := hb1.size; (try simp at hs1))
    go_wp2
    refine bodyPost_ret (v := .agg #[.string (nS (m + n)), .bool s]) ?_ rfl ⟨rfl, (by repeat (first | exact Below.refl _ _ | assumption | refine b_then ?_ (by assumption) | refine b_alloc ?_ _ | refine b_drewN ?_ _ | refine Below.drew ?_ | refine b_set ?_ (by first | exact Nat.le_refl _ | (simp; done) | (simp; omega) | omega) _))⟩
    simp [results, Tryz.results172, go_sem, hc1, hf1]
  · rw [wadd, if_neg h]
    by_cases hl : n ≤ m
    · rw [if_pos hl]
      have hS := fun W hg => n_Sub m n W hg (by omega) (by omega) hl
      have hst : (s == t) = false := by simpa using h
      clear hA h
      go_enter Tryz.func172, Tryz.ntmps172
      go_wp2_with (go_at_call 200; (with_reducible refine (hS _ (hg.below (by repeat (first | exact Below.refl _ _ | assumption | refine b_then ?_ (by assumption) | refine b_alloc ?_ _ | refine b_drewN ?_ _ | refine Below.drew ?_ | refine b_set ?_ (by first | exact Nat.le_refl _ | (simp; done) | (simp; omega) | omega) _)))).mono ?_); rintro e w1 ⟨rfl, hb1⟩; obtain ⟨hc1, hf1⟩ := bcell hb1; have hs1 := hb1.size; (try simp at hs1); have hq1 : w.heap.size + 2 < w1.heap.size := (by omega); have hq2 : w.heap.size + 1 < w1.heap.size := (by omega); have hq3 : w.heap.size < w1.heap.size := (by omega))
      refine bodyPost_ret (v := .agg #[.string (nS (m - n)), .bool s]) ?_ rfl ⟨rfl, (by repeat (first | exact Below.refl _ _ | assumption | refine b_then ?_ (by assumption) | refine b_alloc ?_ _ | refine b_drewN ?_ _ | refine Below.drew ?_ | refine b_set ?_ (by first | exact Nat.le_refl _ | (simp; done) | (simp; omega) | omega) _))⟩
      simp [results, Tryz.results172, go_sem, hc1, hf1, hq1, hq2, hq3]
    · rw [if_neg hl]
      have hN := fun W => n_Sub_no m n W (by omega) (by omega) (by omega)
      have hS := fun W hg => n_Sub n m W hg (by omega) (by omega) (by omega)
      have hst : (s == t) = false := by simpa using h
      clear hA h
      go_enter Tryz.func172, Tryz.ntmps172
      go_wp2_with (first | (go_at_call 200; (with_reducible refine (hN _).mono ?_); rintro e w1 ⟨rfl, hb1⟩; obtain ⟨hc1, hf1⟩ := bcell hb1; have hs1 := hb1.size; (try simp at hs1); have hq1 : w.heap.size + 2 < w1.heap.size := (by omega); have hq2 : w.heap.size + 1 < w1.heap.size := (by omega); have hq3 : w.heap.size < w1.heap.size := (by omega)) | (go_at_call 200; (with_reducible refine (hS _ (hg.below (by repeat (first | exact Below.refl _ _ | assumption | refine b_then ?_ (by assumption) | refine b_alloc ?_ _ | refine b_drewN ?_ _ | refine Below.drew ?_ | refine b_set ?_ (by first | exact Nat.le_refl _ | (simp; done) | (simp; omega) | omega) _)))).mono ?_); rintro e w2 ⟨rfl, hb2⟩; obtain ⟨hc2, hf2⟩ := bcell hb2; have hs2 := hb2.size; (try simp at hs2); have hq4 : w.heap.size + 2 < w2.heap.size := (by omega); have hq5 : w.heap.size + 1 < w2.heap.size := (by omega); have hq6 : w.heap.size < w2.heap.size := (by omega)))
      refine bodyPost_ret (v := .agg #[.string (nS (n - m)), .bool t]) ?_ rfl ⟨rfl, (by repeat (first | exact Below.refl _ _ | assumption | refine b_then ?_ (by assumption) | refine b_alloc ?_ _ | refine b_drewN ?_ _ | refine Below.drew ?_ | refine b_set ?_ (by first | exact Nat.le_refl _ | (simp; done) | (simp; omega) | omega) _))⟩
      simp [results, Tryz.results172, go_sem, hc1, hf1, hq1, hq2, hq3, hc2, hf2, hq4, hq5, hq6]
set_option maxHeartbeats 400000 in
theorem w_Add (a b : Int) (w : World) (hg : Glob w) (ha : ndg a.natAbs ≤ 880000000) (hb : ndg b.natAbs ≤ 880000000) :
    Calls Tryz.prog 145 #[.string (iS a), .string (iS b)] w fun e w' => e = .returned (.string (iS (a + b))) ∧ Below w.heap.size w w' := by
  have hR := w_both a b w (by omega) (by omega)
  have hA := fun W hg => w_add a.natAbs b.natAbs (decide (a < 0)) (decide (b < 0)) W hg ha hb
  have hT := fun W => w_text (wadd a.natAbs b.natAbs (decide (a < 0)) (decide (b < 0))).1 (wadd a.natAbs b.natAbs (decide (a < 0)) (decide (b < 0))).2 W (by have := wadd_ndg a.natAbs b.natAbs (decide (a < 0)) (decide (b < 0)); omega)
  rw [wadd_abs] at hT
  generalize (wadd a.natAbs b.natAbs (decide (a < 0)) (decide (b < 0))).1 = k at *
  generalize (wadd a.natAbs b.natAbs (decide (a < 0)) (decide (b < 0))).2 = u at *
  go_enter Tryz.func145, Tryz.ntmps145
  go_wp2_with (first | (go_at_call 171; (with_reducible refine (hR).mono ?_); rintro e w1 ⟨rfl, hb1⟩; obtain ⟨hc1, hf1⟩ := bcell hb1; have hs1 := hb1.size; (try simp at hs1)) | (go_at_call 172; (with_reducible refine (hA _ (hg.below (by repeat (first | exact Below.refl _ _ | assumption | refine b_then ?_ (by assumption) | refine b_alloc ?_ _ | refine b_drewN ?_ _ | refine Below.drew ?_ | refine b_set ?_ (by first | exact Nat.le_refl _ | (simp; done) | (simp; omega) | omega) _)))).mono ?_); rintro e w2 ⟨rfl, hb2⟩) | (go_at_call 169; (with_reducible refine (hT _).mono ?_); rintro e w3 ⟨rfl, hb3⟩; obtain ⟨hc3, hf3⟩ := bcell hb3; have hs3 := hb3.size; (try simp at hs3)))
  go_ret
  exact ⟨rfl, (by repeat (first | exact Below.refl _ _ | assumption | refine b_then ?_ (by assumption) | refine b_alloc ?_ _ | refine b_drewN ?_ _ | refine Below.drew ?_ | refine b_set ?_ (by first | exact Nat.le_refl _ | (simp; done) | (simp; omega) | omega) _))⟩
set_option maxHeartbeats 400000 in
theorem w_Mul (a b : Int) (w : World) (hg : Glob w) (ha : ndg a.natAbs ≤ 440000000) (hb : ndg b.natAbs ≤ 440000000) :
    Calls Tryz.prog 146 #[.string (iS a), .string (iS b)] w fun e w' => e = .returned (.string (iS (a * b))) ∧ Below w.heap.size w w' := by
  have hR := w_both a b w (by omega) (by omega)
  have hM := fun W hg => n_Mul a.natAbs b.natAbs W hg ha hb
  have hd := ndg_mul a.natAbs b.natAbs
  have hT := fun W => w_text (a.natAbs * b.natAbs) (decide (a < 0) != decide (b < 0)) W (by omega)
  rw [mul_with] at hT
  clear hd
  generalize a.natAbs * b.natAbs = k at *
  obtain ⟨u, hu⟩ : ∃ u, (decide (a < 0) != decide (b < 0)) = u := ⟨_, rfl⟩
  rw [hu] at hT
  obtain ⟨s, hs⟩ : ∃ s, decide (a < 0) = s := ⟨_, rfl⟩
  obtain ⟨t, ht⟩ : ∃ s, decide (b < 0) = s := ⟨_, rfl⟩
  rw [hs, ht] at hR hu
  clear hs ht
  cases s <;> cases t <;> cases u
  any_goals (exfalso; revert hu; decide)
  all_goals
    clear hu
    go_enter Tryz.func146, Tryz.ntmps146
    go_wp2_with (go_at_call 171; (with_reducible refine (hR).mono ?_); rintro e w1 ⟨rfl, hb1⟩; obtain ⟨hc1, hf1⟩ := bcell hb1; have hs1 := hb1.size; (try simp at hs1))
    (refine wp_region_after (by kernel_rfl) (by kernel_rfl) ?_; (repeat (first | go_big_quiet_skip | (go_big_quiet_want; go_big_quiet_op; first | go_big_quiet_on | (apply Exists.intro; refine ⟨fun _ => ?_, ?_⟩; (focus (first | (go_at_call 147; exact Calls.after (hM _ (hg.below (b_then (by repeat (first | exact Below.refl _ _ | assumption | refine b_then ?_ (by assumption) | refine b_alloc ?_ _ | refine b_drewN ?_ _ | refine Below.drew ?_ | refine b_set ?_ (by first | exact Nat.le_refl _ | (simp; done) | (simp; omega) | omega) _)) (After.h _))))) | (go_at_call 169; exact Calls.after (hT _)))); go_big_quiet_on)))); refine wpQuiet_nil ?_; rintro w3 ⟨⟨_, hb3⟩, rfl⟩; (try dsimp only); obtain ⟨hc3, hf3⟩ := bcell hb3; have hs3 := hb3.size; (try simp at hs3))
    go_wp2
    go_ret
    exact ⟨rfl, (by repeat (first | exact Below.refl _ _ | assumption | refine b_then ?_ (by assumption) | refine b_alloc ?_ _ | refine b_drewN ?_ _ | refine Below.drew ?_ | refine b_set ?_ (by first | exact Nat.le_refl _ | (simp; done) | (simp; omega) | omega) _))⟩
theorem n_Add_one (m : Nat) (w : World) (hg : Glob w) (hm : ndg m ≤ 890000000) :
    Calls Tryz.prog 199 #[.string (nS m), .string ⟨#[49]⟩] w fun e w' => e = .returned (.string (nS (m + 1))) ∧ Below w.heap.size w w' := by
  rw [← nS_one]; exact n_Add m 1 w hg hm (by rw [ndg_small (by omega)]; omega)
theorem w_bothD (a : Int) (b : Nat) (w : World) (ha : ndg a.natAbs ≤ 1000000000) (hb : ndg b ≤ 1000000000) :
    Calls Tryz.prog 171 #[.string (iS a), .string (nS b)] w fun e w' => e = .returned (.tuple #[.agg #[.string (nS a.natAbs), .bool (decide (a < 0))], .agg #[.string (nS b), .bool false], .bool true]) ∧ Below w.heap.size w w' := by
  have := w_both a b w ha hb
  rw [iS_nat, decide_eq_false (by omega : ¬ (b : Int) < 0), show (b : Int).natAbs = b from rfl] at this
  exact this
set_option maxHeartbeats 800000 in
theorem w_Div (a : Int) (b : Nat) (w : World) (hg : Glob w) (ha : ndg a.natAbs ≤ 880000000) (hb : ndg b ≤ 880000000) (h0 : 0 < b) :
    Calls Tryz.prog 170 #[.string (iS a), .string (nS b)] w fun e w' => e = .returned (.tuple #[.string (iS (a / b)), .string (nS (a % b).toNat), .bool true]) ∧ Below w.heap.size w w' := by
  have hR := w_bothD a b w (by omega) (by omega)
  have hbz := nS_pos h0
  by_cases h : a < 0
  · obtain ⟨n, rfl⟩ : ∃ n : Nat, a = -(n : Int) := ⟨a.natAbs, by omega⟩
    have hn : (-(n : Int)).natAbs = n := by omega
    rw [hn] at hR ha
    rw [decide_eq_true h] at hR
    obtain ⟨e1, e2⟩ := ediv_pos n b h0
    have hD := fun W hg => n_Div n b W hg (by omega) (by omega) h0
    rw [e1, e2]
    have hq := ndg_div n b
    have hq1 := ndg_succ (n / b)
    have hr := Nat.mod_lt n h0
    have hrn := ndg_mono (Nat.le_of_lt hr)
    clear e1 e2 h hn
    generalize n / b = q at *
    generalize n % b = r at *
    by_cases h2 : r = 0
    · subst h2
      rw [if_pos rfl, if_pos rfl]
      have hrz := nS_nil (n := 0) rfl
      have hT := fun W => w_text q true W (by omega)
      go_enter Tryz.func170, Tryz.ntmps170
      go_wp2_with (first | (go_at_call 171; (with_reducible refine (hR).mono ?_); rintro e w1 ⟨rfl, hb1⟩; obtain ⟨hc1, hf1⟩ := bcell hb1; have hs1 := hb1.size; (try simp at hs1)) | (go_at_call 156; (with_reducible refine (hD _ (hg.below (by repeat (first | exact Below.refl _ _ | assumption | refine b_then ?_ (by assumption) | refine b_alloc ?_ _ | refine b_drewN ?_ _ | refine Below.drew ?_ | refine b_set ?_ (by first | exact Nat.le_refl _ | (simp; done) | (simp; omega) | omega) _)))).mono ?_); rintro e w2 ⟨rfl, hb2⟩; have hs2 := hb2.size; simp at hs2; obtain ⟨hc2, hf2⟩ := bcell hb2; have hq2 : w1.heap.size + 1 < w2.heap.size := (by omega); have hr2 : w1.heap.size < w2.heap.size := (by omega)) | (go_at_call 169; (with_reducible refine (hT _).mono ?_); rintro e w3 ⟨rfl, hb3⟩; obtain ⟨hc3, hf3⟩ := bcell hb3; have hs3 := hb3.size; (try simp at hs3)))
      go_ret3
      exact ⟨rfl, (by repeat (first | exact Below.refl _ _ | assumption | refine b_then ?_ (by assumption) | refine b_alloc ?_ _ | refine b_drewN ?_ _ | refine Below.drew ?_ | refine b_set ?_ (by first | exact Nat.le_refl _ | (simp; done) | (simp; omega) | omega) _))⟩
    · rw [if_neg h2, if_neg h2]
      have hrz := nS_pos (n := r) (by omega)
      have hT := fun W => w_text (q + 1) true W (by omega)
      have hS := fun W hg => n_Sub b r W hg (by omega) (by omega) (Nat.le_of_lt hr)
      have hP := fun W hg => n_Add_one q W hg (by omega)
      have hE : ((b - r : Nat) : Int).toNat = b - r := by omega
      rw [hE]
      clear h2 hE
      go_enter Tryz.func170, Tryz.ntmps170
      go_wp2_with (first | (go_at_call 171; (with_reducible refine (hR).mono ?_); rintro e w1 ⟨rfl, hb1⟩; obtain ⟨hc1, hf1⟩ := bcell hb1; have hs1 := hb1.size; (try simp at hs1)) | (go_at_call 156; (with_reducible refine (hD _ (hg.below (by repeat (first | exact Below.refl _ _ | assumption | refine b_then ?_ (by assumption) | refine b_alloc ?_ _ | refine b_drewN ?_ _ | refine Below.drew ?_ | refine b_set ?_ (by first | exact Nat.le_refl _ | (simp; done) | (simp; omega) | omega) _)))).mono ?_); rintro e w2 ⟨rfl, hb2⟩; have hs2 := hb2.size; simp at hs2; obtain ⟨hc2, hf2⟩ := bcell hb2; have hq2 : w1.heap.size + 1 < w2.heap.size := (by omega); have hr2 : w1.heap.size < w2.heap.size := (by omega)) | (go_at_call 199; (with_reducible refine (hP _ (hg.below (by repeat (first | exact Below.refl _ _ | assumption | refine b_then ?_ (by assumption) | refine b_alloc ?_ _ | refine b_drewN ?_ _ | refine Below.drew ?_ | refine b_set ?_ (by first | exact Nat.le_refl _ | (simp; done) | (simp; omega) | omega) _)))).mono ?_); rintro e w3 ⟨rfl, hb3⟩; have hs3 := hb3.size; obtain ⟨hc3, hf3⟩ := bcell hb3; have hq3 : w1.heap.size + 1 < w3.heap.size := (by omega); have hr3 : w1.heap.size < w3.heap.size := (by omega)) | (go_at_call 200; (with_reducible refine (hS _ (hg.below (by repeat (first | exact Below.refl _ _ | assumption | refine b_then ?_ (by assumption) | refine b_alloc ?_ _ | refine b_drewN ?_ _ | refine Below.drew ?_ | refine b_set ?_ (by first | exact Nat.le_refl _ | (simp; done) | (simp; omega) | omega) _)))).mono ?_); rintro e w4 ⟨rfl, hb4⟩; have hs4 := hb4.size; obtain ⟨hc4, hf4⟩ := bcell hb4; have hq4 : w1.heap.size + 1 < w4.heap.size := (by omega); have hr4 : w1.heap.size < w4.heap.size := (by omega)) | (go_at_call 169; (with_reducible refine (hT _).mono ?_); rintro e w5 ⟨rfl, hb5⟩; obtain ⟨hc5, hf5⟩ := bcell hb5; have hs5 := hb5.size; (try simp at hs5)))
      go_ret3
      exact ⟨rfl, (by repeat (first | exact Below.refl _ _ | assumption | refine b_then ?_ (by assumption) | refine b_alloc ?_ _ | refine b_drewN ?_ _ | refine Below.drew ?_ | refine b_set ?_ (by first | exact Nat.le_refl _ | (simp; done) | (simp; omega) | omega) _))⟩
  · obtain ⟨n, rfl⟩ : ∃ n : Nat, a = (n : Int) := ⟨a.natAbs, by omega⟩
    have hn : ((n : Int)).natAbs = n := by omega
    rw [hn] at hR ha
    rw [decide_eq_false h] at hR
    obtain ⟨e1, e2⟩ := ediv_nat n b
    have hD := fun W hg => n_Div n b W hg (by omega) (by omega) h0
    rw [e1, e2]
    have hq := ndg_div n b
    clear e1 e2 h hn
    have hE : ((n % b : Nat) : Int).toNat = n % b := by omega
    rw [hE]
    clear hE
    generalize n / b = q at *
    generalize n % b = r at *
    have hT := fun W => w_text q false W (by omega)
    go_enter Tryz.func170, Tryz.ntmps170
    go_wp2_with (first | (go_at_call 171; (with_reducible refine (hR).mono ?_); rintro e w1 ⟨rfl, hb1⟩; obtain ⟨hc1, hf1⟩ := bcell hb1; have hs1 := hb1.size; (try simp at hs1)) | (go_at_call 156; (with_reducible refine (hD _ (hg.below (by repeat (first | exact Below.refl _ _ | assumption | refine b_then ?_ (by assumption) | refine b_alloc ?_ _ | refine b_drewN ?_ _ | refine Below.drew ?_ | refine b_set ?_ (by first | exact Nat.le_refl _ | (simp; done) | (simp; omega) | omega) _)))).mono ?_); rintro e w2 ⟨rfl, hb2⟩; have hs2 := hb2.size; simp at hs2; obtain ⟨hc2, hf2⟩ := bcell hb2; have hq2 : w1.heap.size + 1 < w2.heap.size := (by omega); have hr2 : w1.heap.size < w2.heap.size := (by omega)) | (go_at_call 169; (with_reducible refine (hT _).mono ?_); rintro e w3 ⟨rfl, hb3⟩; obtain ⟨hc3, hf3⟩ := bcell hb3; have hs3 := hb3.size; (try simp at hs3)))
    go_ret3
    exact ⟨rfl, (by repeat (first | exact Below.refl _ _ | assumption | refine b_then ?_ (by assumption) | refine b_alloc ?_ _ | refine b_drewN ?_ _ | refine Below.drew ?_ | refine b_set ?_ (by first | exact Nat.le_refl _ | (simp; done) | (simp; omega) | omega) _))⟩
end Go.Proofs.YtjdofncognaaoaaGreatDoor
