/- Walks of nat: mul, take, give. -/
import Derived.Test.YtpoejheienohjaaGreatDoorNatB
import Derived.BigQuiet
namespace Go.Proofs.YtpoejheienohjaaGreatDoor
open Go.RowKit
set_option linter.unusedVariables false
set_option linter.unusedSimpArgs false

theorem lv_set {l : List Nat} {i : Nat} (h : i < l.length) (v : Nat) : lv (l.set i v) + 10000 ^ i * l[i] = lv l + 10000 ^ i * v := by
  induction l generalizing i with
  | nil => simp at h
  | cons x l ih =>
    cases i with
    | zero => simp [lv]; omega
    | succ i =>
      have := ih (i := i) (by simpa using h)
      simp only [List.set_cons_succ, lv, List.getElem_cons_succ, Nat.pow_succ]
      generalize l[i]'(by simpa using h) = y at *
      have e1 : 10000 ^ i * 10000 * y = 10000 * (10000 ^ i * y) := by rw [Nat.mul_comm (10000 ^ i) 10000, Nat.mul_assoc]
      have e2 : 10000 ^ i * 10000 * v = 10000 * (10000 ^ i * v) := by rw [Nat.mul_comm (10000 ^ i) 10000, Nat.mul_assoc]
      rw [e1, e2]; omega
theorem lv_take_more (b : List Nat) (k : Nat) : lv (b.take (k + 1)) = lv (b.take k) + 10000 ^ k * b.getD k 0 := by
  by_cases h : k < b.length
  · rw [lv_take_succ b k h, List.getD, List.getElem?_eq_getElem h]; rfl
  · rw [List.take_of_length_le (by omega), List.take_of_length_le (by omega), List.getD, List.getElem?_eq_none (by omega)]; simp
theorem isL_getD {b : List Nat} (h : isL b) (k : Nat) : b.getD k 0 < 10000 := by
  by_cases hk : k < b.length
  · rw [List.getD, List.getElem?_eq_getElem hk]; exact isL_get h hk
  · rw [List.getD, List.getElem?_eq_none (by omega)]; decide

/-! ### The rounds of mul, take, give -/
def mulI (O b : List Nat) (x i k : Nat) (o : List Nat) (c : Nat) : Prop := isL o ∧ o.length = O.length ∧ c < 10000 ∧ lv o + c * 10000 ^ (i + k) = lv O + x * 10000 ^ i * lv (b.take k)
theorem mulI_zero {O b : List Nat} {x i : Nat} (h : isL O) : mulI O b x i 0 O 0 := ⟨h, rfl, by decide, by simp [lv]⟩
theorem mul_small {x y o c : Nat} (hx : x < 10000) (hy : y < 10000) (ho : o < 10000) (hc : c < 10000) : (c + (o + x * y)) / 10000 < 10000 := by
  rw [Nat.div_lt_iff_lt_mul (by decide)]
  have : x * y ≤ 9999 * 9999 := Nat.mul_le_mul (by omega) (by omega)
  omega
theorem mulI_step {O b : List Nat} {x i k : Nat} {o : List Nat} {c t : Nat} (H : mulI O b x i k o c) (hi : i + k < o.length) (hx : x < 10000) (hb : isL b) (ht : t = c + (o[i + k] + x * b.getD k 0)) :
    mulI O b x i (k + 1) (o.set (i + k) (t % 10000)) (t / 10000) := by
  obtain ⟨h1, h2, h3, h4⟩ := H
  refine ⟨isL_set h1 _ (Nat.mod_lt _ (by decide)), by rw [List.length_set, h2], by rw [ht]; exact mul_small hx (isL_getD hb k) (isL_get h1 hi) h3, ?_⟩
  have h5 := lv_set hi (t % 10000)
  rw [lv_take_more]
  generalize o[i + k] = y at *
  have hd := Nat.div_add_mod t 10000
  generalize t % 10000 = v at *
  generalize t / 10000 = d at *
  have e0 : 10000 ^ (i + (k + 1)) = 10000 ^ (i + k) * 10000 := by rw [← Nat.add_assoc, Nat.pow_succ]
  have e1 : x * 10000 ^ i * (lv (b.take k) + 10000 ^ k * b.getD k 0) = x * 10000 ^ i * lv (b.take k) + 10000 ^ (i + k) * (x * b.getD k 0) := by
    rw [Nat.mul_add, Nat.pow_add]
    congr 1
    simp only [Nat.mul_comm, Nat.mul_left_comm, Nat.mul_assoc]
  rw [e0, e1]
  generalize 10000 ^ (i + k) = P at *
  generalize x * b.getD k 0 = z at *
  generalize x * 10000 ^ i * lv (b.take k) = L at *
  have e2 : P * v + P * (10000 * d) = P * c + (P * y + P * z) := by rw [← Nat.mul_add, ← Nat.mul_add, ← Nat.mul_add]; congr 1; omega
  have e3 : d * (P * 10000) = P * (10000 * d) := by rw [Nat.mul_comm d, Nat.mul_assoc]
  rw [Nat.mul_comm c P] at h4
  rw [e3]; omega
def mulO (a b : List Nat) (i : Nat) (o : List Nat) : Prop := isL o ∧ o.length = a.length + b.length + 1 ∧ lv o = lv (a.take i) * lv b
theorem mulO_zero (a b : List Nat) : mulO a b 0 (List.replicate (a.length + b.length + 1) 0) := ⟨isL_rep _, by simp, by rw [lv_rep]; simp [lv]⟩
theorem mulO_step {a b : List Nat} {i : Nat} {O o : List Nat} {c : Nat} (H : mulO a b i O) (hi : i < a.length) (ha : isL a) (hb : isL b) (h : mulI O b a[i] i (b.length + 1) o c) : mulO a b (i + 1) o := by
  obtain ⟨_, g2, g3⟩ := H
  obtain ⟨h1, h2, h3, h4⟩ := h
  refine ⟨h1, by rw [h2, g2], ?_⟩
  rw [List.take_of_length_le (by omega)] at h4
  have e : lv (a.take (i + 1)) * lv b = lv O + a[i] * 10000 ^ i * lv b := by rw [g3, lv_take_succ a i hi, Nat.add_mul, Nat.mul_comm (10000 ^ i)]
  rw [e, ← h4]
  have l1 : lv (a.take (i + 1)) < 10000 ^ (i + 1) := by
    have := lv_lt (isL_take ha (i + 1))
    rwa [List.length_take, Nat.min_eq_left (by omega)] at this
  have l2 := lv_lt hb
  have l3 : lv (a.take (i + 1)) * lv b < 10000 ^ (i + (b.length + 1)) := by
    rw [show i + (b.length + 1) = (i + 1) + b.length by omega, Nat.pow_add]
    calc lv (a.take (i + 1)) * lv b ≤ lv (a.take (i + 1)) * 10000 ^ b.length := Nat.mul_le_mul_left _ (Nat.le_of_lt l2)
      _ < 10000 ^ (i + 1) * 10000 ^ b.length := Nat.mul_lt_mul_of_pos_right l1 (Nat.pow_pos (by decide))
  rw [e, ← h4] at l3
  rcases Nat.eq_zero_or_pos c with rfl | hc
  · simp
  · have : 10000 ^ (i + (b.length + 1)) ≤ c * 10000 ^ (i + (b.length + 1)) := Nat.le_mul_of_pos_left _ hc
    omega
theorem mulO_done {a b o : List Nat} (H : mulO a b a.length o) : isL o ∧ lv o = lv a * lv b := ⟨H.1, by rw [H.2.2, List.take_length]⟩

def takI (O b : List Nat) (q i k : Nat) (o : List Nat) (c : Nat) : Prop := isL o ∧ o.length = O.length ∧ o.drop (i + k) = O.drop (i + k) ∧ c ≤ 10000 ∧ lv o + q * 10000 ^ i * lv (b.take k) = lv O + c * 10000 ^ (i + k)
theorem takI_zero {O b : List Nat} {q i : Nat} (h : isL O) : takI O b q i 0 O 0 := ⟨h, rfl, rfl, by decide, by simp [lv]⟩
/-- One round: the limb y, less q times z, less what was missing, is v, less what is missing. -/
theorem takI_step {O b : List Nat} {q i k : Nat} {o : List Nat} {c d v : Nat} (H : takI O b q i k o c) (hi : i + k < o.length) (hv : v < 10000) (hd : d ≤ 10000) (ht : o[i + k] + 10000 * d = v + (q * b.getD k 0 + c)) :
    takI O b q i (k + 1) (o.set (i + k) v) d := by
  obtain ⟨h1, h2, h6, h3, h4⟩ := H
  refine ⟨isL_set h1 _ hv, by rw [List.length_set, h2], ?_, hd, ?_⟩
  · rw [List.drop_set_of_lt (by omega), ← Nat.add_assoc, ← List.drop_drop, h6, List.drop_drop]
  have h5 := lv_set hi v
  rw [lv_take_more]
  generalize o[i + k] = y at *
  have e0 : 10000 ^ (i + (k + 1)) = 10000 ^ (i + k) * 10000 := by rw [← Nat.add_assoc, Nat.pow_succ]
  have e1 : q * 10000 ^ i * (lv (b.take k) + 10000 ^ k * b.getD k 0) = q * 10000 ^ i * lv (b.take k) + 10000 ^ (i + k) * (q * b.getD k 0) := by
    rw [Nat.mul_add, Nat.pow_add]
    congr 1
    simp only [Nat.mul_comm, Nat.mul_left_comm, Nat.mul_assoc]
  rw [e0, e1]
  generalize 10000 ^ (i + k) = P at *
  generalize q * b.getD k 0 = z at *
  generalize q * 10000 ^ i * lv (b.take k) = L at *
  have e2 : P * y + P * (10000 * d) = P * v + (P * z + P * c) := by rw [← Nat.mul_add, ← Nat.mul_add, ← Nat.mul_add]; congr 1
  have e3 : d * (P * 10000) = P * (10000 * d) := by rw [Nat.mul_comm d, Nat.mul_assoc]
  rw [Nat.mul_comm c P] at h4
  rw [e3]; omega
def givI (O b : List Nat) (i k : Nat) (o : List Nat) (c : Nat) : Prop := isL o ∧ o.length = O.length ∧ o.drop (i + k) = O.drop (i + k) ∧ c ≤ 1 ∧ lv o + c * 10000 ^ (i + k) = lv O + 10000 ^ i * lv (b.take k)
theorem givI_zero {O b : List Nat} {i : Nat} (h : isL O) : givI O b i 0 O 0 := ⟨h, rfl, rfl, by decide, by simp [lv]⟩
theorem givI_step {O b : List Nat} {i k : Nat} {o : List Nat} {c t : Nat} (H : givI O b i k o c) (hi : i + k < o.length) (hb : isL b) (ht : t = o[i + k] + b.getD k 0 + c) :
    givI O b i (k + 1) (o.set (i + k) (t % 10000)) (t / 10000) := by
  obtain ⟨h1, h2, h6, h3, h4⟩ := H
  have hy := isL_get h1 hi
  have hz := isL_getD hb k
  refine ⟨isL_set h1 _ (Nat.mod_lt _ (by decide)), by rw [List.length_set, h2], ?_, by omega, ?_⟩
  · rw [List.drop_set_of_lt (by omega), ← Nat.add_assoc, ← List.drop_drop, h6, List.drop_drop]
  have h5 := lv_set hi (t % 10000)
  rw [lv_take_more]
  generalize o[i + k] = y at *
  have hd := Nat.div_add_mod t 10000
  generalize t % 10000 = v at *
  generalize t / 10000 = d at *
  have e0 : 10000 ^ (i + (k + 1)) = 10000 ^ (i + k) * 10000 := by rw [← Nat.add_assoc, Nat.pow_succ]
  have e1 : 10000 ^ i * (lv (b.take k) + 10000 ^ k * b.getD k 0) = 10000 ^ i * lv (b.take k) + 10000 ^ (i + k) * b.getD k 0 := by
    rw [Nat.mul_add, Nat.pow_add, Nat.mul_assoc]
  rw [e0, e1]
  generalize 10000 ^ (i + k) = P at *
  generalize b.getD k 0 = z at *
  generalize 10000 ^ i * lv (b.take k) = L at *
  have e2 : P * v + P * (10000 * d) = P * c + (P * y + P * z) := by rw [← Nat.mul_add, ← Nat.mul_add, ← Nat.mul_add]; congr 1; omega
  have e3 : d * (P * 10000) = P * (10000 * d) := by rw [Nat.mul_comm d, Nat.mul_assoc]
  rw [Nat.mul_comm c P] at h4
  rw [e3]; omega

/-! ### The step of the long division (Knuth D): u from the limb j on, by V = lv v of n limbs -/
/-- The quotient that is tried is at most one above the true one, where the test ends. -/
theorem knuth_le {U H V v1 v2 u2 q r T : Nat} {B : Nat} (hH : H = q * v1 + r) (hU1 : (H * B + u2) * T ≤ U) (hV2 : V < (v1 * B + v2 + 1) * T) (hVT : B * T ≤ V) (hq : q ≤ B) (hte : q * v2 ≤ r * B + u2) : (q - 1) * V ≤ U := by
  rcases Nat.eq_zero_or_pos q with rfl | hq0
  · simp
  have h1 : q * V ≤ q * ((v1 * B + v2 + 1) * T) := Nat.mul_le_mul_left _ (Nat.le_of_lt hV2)
  have h2 : q * ((v1 * B + v2 + 1) * T) = (q * v1 * B + q * v2 + q) * T := by
    rw [← Nat.mul_assoc]; congr 1; rw [Nat.mul_add, Nat.mul_add, Nat.mul_one, Nat.mul_assoc]
  have h3 : (q * v1 * B + q * v2 + q) * T ≤ (H * B + u2 + B) * T := by
    apply Nat.mul_le_mul_right
    rw [hH, Nat.add_mul]; omega
  have h4 : (H * B + u2 + B) * T = (H * B + u2) * T + B * T := Nat.add_mul _ _ _
  have h5 : (q - 1) * V = q * V - V := by rw [Nat.sub_mul, Nat.one_mul]
  rw [h5]
  generalize q * V = X at *
  omega
/-- .. and it is not below it: where the test holds, it was above. -/
theorem knuth_gt {U H V v1 v2 u2 q r T : Nat} {B : Nat} (hH : H = q * v1 + r) (hU2 : U < (H * B + u2 + 1) * T) (hV1 : (v1 * B + v2) * T ≤ V) (hte : r * B + u2 < q * v2) : U < q * V := by
  have h1 : q * ((v1 * B + v2) * T) ≤ q * V := Nat.mul_le_mul_left _ hV1
  have h2 : q * ((v1 * B + v2) * T) = (q * v1 * B + q * v2) * T := by
    rw [← Nat.mul_assoc]; congr 1; rw [Nat.mul_add, Nat.mul_assoc]
  have h3 : (H * B + u2 + 1) * T ≤ (q * v1 * B + q * v2) * T := by
    apply Nat.mul_le_mul_right
    rw [hH, Nat.add_mul]; omega
  omega

/-! ### Worlds in which one block of the call's own is written -/
theorem grown_refl (w : World) (row : Option Nat) : w.grownBy w row := ⟨rfl, rfl, rfl, Nat.le_refl _, fun _ _ _ => rfl⟩
theorem grown_set {w W : World} {g : Nat} (h : w.grownBy W (some g)) (i : Nat) (u : Value) : w.grownBy (W.setCell ⟨g, i, none⟩ u) (some g) :=
  ⟨h.os, h.tape, h.output, by simpa [World.setCell] using h.size, fun k hk hne => (Below.heap_setCell W ⟨g, i, none⟩ u k (fun e => hne (by rw [e]))).trans (h.block k hk hne)⟩
theorem grown_drewN {w W : World} {row : Option Nat} (h : w.grownBy W row) (n : Nat) : w.grownBy (W.drewN n) row := ⟨h.os, h.tape, h.output, h.size, h.block⟩
theorem Ls.grown {w W : World} {A : Option Addr} {n g : Nat} {xs : List Nat} (h : Ls w A n xs) (hg : w.grownBy W (some g)) (hne : ∀ ad, A = some ad → ad.block ≠ g) : Ls W A n xs := by
  obtain ⟨h1, h2, h3⟩ := h
  refine ⟨h1, h2, fun hn => ?_⟩
  obtain ⟨b, off, rfl, hb, hc⟩ := h3 hn
  refine ⟨b, off, rfl, Nat.lt_of_lt_of_le hb hg.size, fun j x hj => ?_⟩
  rw [← hc j x hj]
  have := hg.block b hb (fun e => hne _ rfl (by injection e))
  unfold World.cell?
  rw [this]
theorem Mu.draw {w : World} {base : Nat} {v : Value} {xs : List Nat} (h : Mu w base v xs) (n : Nat) : Mu (w.drewN n) base v xs := h.below (b_drewN (Below.refl _ _) n)
theorem Ls.draw {w : World} {A : Option Addr} {n : Nat} {xs : List Nat} (h : Ls w A n xs) (k : Nat) : Ls (w.drewN k) A n xs := h.below (b_drewN (Below.refl _ _) k)

theorem at_quiet {B : Option Addr} {m d k z : Nat} {b : List Nat} {w : World} (h : Ls w B m b) (hk : k ≤ 4000000000) (hz : Hid (b.getD k 0 = z)) (n : Nat) :
    Calls Tryz.prog 160 #[.slice B m d, .int .i64 (k : Nat)] (w.drewN n) fun e w'' => e = .returned (.int .i64 (z : Nat)) ∧ ∃ m, w'' = w.drewN m := by
  rw [← hz.out]
  exact (n_at _ _ _ _ _ _ (h.draw n) hk).mono fun _ _ ⟨he, hw⟩ => ⟨he, n, hw.symm⟩
theorem Mu.put {w : World} {base g n cap : Nat} {xs : List Nat} (h : Mu w base (.slice (some ⟨g, 0, none⟩) n cap) xs) {i : Nat} (hi : i < xs.length) {a : Int} (x : Nat) (e : a = (x : Nat)) : Mu (w.setCell ⟨g, i, none⟩ (.int .i64 a)) base (.slice (some ⟨g, 0, none⟩) n cap) (xs.set i x) := by
  subst e; exact h.set_ hi x
theorem int_eq {k : IntKind} {a b : Int} (h : a = b) : Value.int k a = Value.int k b := by rw [h]
set_option maxHeartbeats 1000000 in
theorem n_give (g n cap base : Nat) (B : Option Addr) (m d j : Nat) (xs b : List Nat) (w : World) (hu : Mu w base (.slice (some ⟨g, 0, none⟩) n cap) xs) (hn : xs.length = n) (hn2 : n ≤ 1000000000) (hX : isL xs) (hb : Ls w B m b) (hB : isL b) (hj : j + (m + 1) ≤ n) (hne : ∀ ad, B = some ad → ad.block ≠ g) :
    Calls Tryz.prog 174 #[.slice (some ⟨g, 0, none⟩) n cap, .slice B m d, .int .i64 (j : Nat)] w fun e w' => (∃ v, e = .returned v) ∧ ∃ xs' c, givI xs b j (m + 1) xs' c ∧ Mu w' base (.slice (some ⟨g, 0, none⟩) n cap) xs' ∧ w.grownBy w' (some g) := by
  have H0 : Hid (givI xs b j 0 xs 0) := givI_zero hX
  go_enter Tryz.func174, Tryz.ntmps174
  go_wp2
  go_loopw [6, 12] (fun cv i wr => ∃ k c o, k ≤ m + 1 ∧ cv = .int .i64 (c : Nat) ∧ i = .int .i64 (k : Nat) ∧ Hid (givI xs b j k o c) ∧ Mu wr base (.slice (some ⟨g, 0, none⟩) n cap) o ∧ w.grownBy wr (some g)) (fun _ i _ => m + 1 - (intOf i).toNat)
  case atStart => exact ⟨0, 0, xs, Nat.zero_le _, rfl, rfl, H0, hu, grown_refl _ _⟩
  case round =>
    obtain ⟨k, c, o, hk, rfl, rfl, H, hown, hgr⟩ := hrel
    have hol : o.length = n := H.out.2.1.trans hn
    have hc1 := H.out.2.2.2.1
    by_cases hlt : k < m + 1
    · obtain ⟨q, hq⟩ : ∃ q, j + k = q := ⟨_, rfl⟩
      have hqn : q < n := by omega
      obtain ⟨hc, hf, _, hgl⟩ := hown.cell (i := q) (by omega)
      have hls := hb.grown hgr hne
      have hy : o[q]'(by omega) < 10000 := isL_get H.out.1 _
      obtain ⟨y, hye⟩ : ∃ y, o[q]'(by omega) = y := ⟨_, rfl⟩
      rw [hye] at hc hy
      obtain ⟨z, hze⟩ : ∃ z, b.getD k 0 = z := ⟨_, rfl⟩
      have hz := isL_getD hB k
      rw [hze] at hz
      have HY := Lib.hid hye
      have HZ := Lib.hid hze
      clear hye hze
      go_wp2
      go_big_quiet ((go_at_call 160; exact at_quiet hls (by omega) HZ _))
      go_wp2
      go_roundw
      case rel =>
        refine ⟨k + 1, (y + z + c) / 10000, o.set q ((y + z + c) % 10000), by omega, int_eq (by omega), int_eq (by omega), ?_, (hown.draw nq).put (by omega) _ (by omega), grown_set (grown_drewN hgr nq) _ _⟩
        have := givI_step H.out (k := k) (by omega) hB (t := y + z + c) (by have h1 := HY.out; have h2 := HZ.out; subst hq; rw [h1, h2])
        rw [hq] at this
        exact this
      case measure => (simp [intOf]; try omega)
    · obtain rfl : k = m + 1 := by omega
      go_wp2
      go_end0
      exact ⟨⟨_, rfl⟩, o, c, H.out, hown, hgr⟩
set_option maxHeartbeats 1000000 in
theorem n_take (g n cap base : Nat) (B : Option Addr) (m d j qq : Nat) (xs b : List Nat) (w : World) (hu : Mu w base (.slice (some ⟨g, 0, none⟩) n cap) xs) (hn : xs.length = n) (hn2 : n ≤ 1000000000) (hX : isL xs) (hb : Ls w B m b) (hB : isL b) (hj : j + (m + 1) ≤ n) (hne : ∀ ad, B = some ad → ad.block ≠ g) (hqq : qq < 10000) :
    Calls Tryz.prog 173 #[.slice (some ⟨g, 0, none⟩) n cap, .slice B m d, .int .i64 (j : Nat), .int .i64 (qq : Nat)] w fun e w' => ∃ xs' c, e = .returned (.int .i64 (-(c : Nat))) ∧ takI xs b qq j (m + 1) xs' c ∧ Mu w' base (.slice (some ⟨g, 0, none⟩) n cap) xs' ∧ w.grownBy w' (some g) := by
  have H0 : Hid (takI xs b qq j 0 xs 0) := takI_zero hX
  go_enter Tryz.func173, Tryz.ntmps173
  go_wp2
  go_loopw [9, 15] (fun cv i wr => ∃ (k c : Nat) (o : List Nat), k ≤ m + 1 ∧ cv = .int .i64 (-(c : Nat)) ∧ i = .int .i64 (k : Nat) ∧ Hid (takI xs b qq j k o c) ∧ Mu wr base (.slice (some ⟨g, 0, none⟩) n cap) o ∧ w.grownBy wr (some g)) (fun _ i _ => m + 1 - (intOf i).toNat)
  case atStart => exact ⟨0, 0, xs, Nat.zero_le _, rfl, rfl, H0, hu, grown_refl _ _⟩
  case round =>
    obtain ⟨k, c, o, hk, rfl, rfl, H, hown, hgr⟩ := hrel
    have hol : o.length = n := H.out.2.1.trans hn
    have hc1 := H.out.2.2.2.1
    by_cases hlt : k < m + 1
    · obtain ⟨q, hq⟩ : ∃ q, j + k = q := ⟨_, rfl⟩
      have hqn : q < n := by omega
      obtain ⟨hc, hf, _, hgl⟩ := hown.cell (i := q) (by omega)
      have hls := hb.grown hgr hne
      have hy : o[q]'(by omega) < 10000 := isL_get H.out.1 _
      obtain ⟨y, hye⟩ : ∃ y, o[q]'(by omega) = y := ⟨_, rfl⟩
      rw [hye] at hc hy
      obtain ⟨z, hze⟩ : ∃ z, b.getD k 0 = z := ⟨_, rfl⟩
      have hz := isL_getD hB k
      rw [hze] at hz
      have HY := Lib.hid hye
      have HZ := Lib.hid hze
      clear hye hze
      have hqz : qq * z ≤ 9999 * 9999 := Nat.mul_le_mul (by omega) (by omega)
      obtain ⟨t, ht⟩ : ∃ t, qq * z = t := ⟨_, rfl⟩
      rw [ht] at hqz
      have hti : (qq : Int) * (z : Int) = (t : Int) := by rw [← ht]; push_cast; rfl
      go_wp2
      go_big_quiet ((go_at_call 160; exact at_quiet hls (by omega) HZ _))
      by_cases hs : (y : Int) - (t : Int) + -(c : Int) < 0
      · obtain ⟨d', hd'⟩ : ∃ d', (t + c - y + 9999) / 10000 = d' := ⟨_, rfl⟩
        obtain ⟨v, hv⟩ : ∃ v, y + 10000 * d' - (t + c) = v := ⟨_, rfl⟩
        have hi2 : (-((y : Int) - t + -c) + 10000 - 1) / 10000 = (d' : Int) := by omega
        go_wp2
        go_roundw
        case rel =>
          refine ⟨k + 1, d', o.set q v, by omega, int_eq (by omega), int_eq (by omega), ?_, (hown.draw nq).put (by omega) v (by omega), grown_set (grown_drewN hgr nq) _ _⟩
          have := takI_step H.out (k := k) (by omega) (v := v) (d := d') (by omega) (by omega) (by have h1 := HY.out; have h2 := HZ.out; subst hq; rw [h1, h2, ht]; omega)
          rw [hq] at this
          exact this
        case measure => (simp [intOf]; try omega)
      · obtain ⟨v, hv⟩ : ∃ v, y - (t + c) = v := ⟨_, rfl⟩
        go_wp2
        go_roundw
        case rel =>
          refine ⟨k + 1, 0, o.set q v, by omega, int_eq (by omega), int_eq (by omega), ?_, (hown.draw nq).put (by omega) v (by omega), grown_set (grown_drewN hgr nq) _ _⟩
          have := takI_step H.out (k := k) (by omega) (v := v) (d := 0) (by omega) (by omega) (by have h1 := HY.out; have h2 := HZ.out; subst hq; rw [h1, h2, ht]; omega)
          rw [hq] at this
          exact this
        case measure => (simp [intOf]; try omega)
    · obtain rfl : k = m + 1 := by omega
      go_wp2
      go_ret
      exact ⟨o, c, rfl, H.out, hown, hgr⟩
set_option maxHeartbeats 1000000 in
theorem n_mul (A B : Option Addr) (n m c d : Nat) (a b : List Nat) (w : World) (ha : Ls w A n a) (hb : Ls w B m b) (hA : isL a) (hB : isL b) (hs : n + m ≤ 990000000) :
    Calls Tryz.prog 143 #[.slice A n c, .slice B m d] w fun e w' => RetL w (lv a * lv b) e w' := by
  have hna := ha.len
  have hnb := hb.len
  have hmk : ∀ w : World, (Instr.makeSlice 126 (.int .i64 ((n : Int) + (m : Int) + 1)) (.int .i64 ((n : Int) + (m : Int) + 1))).run Tryz.prog w = .ok (.slice (some ⟨w.heap.size, 0, none⟩) (n + m + 1) (n + m + 1)) (w.alloc (.cells (madeCells #[.int .i64 0] (n + m + 1)) 3)) := fun w => by
    have := make_limbs (n + m + 1) (by omega) w
    push_cast at this
    exact this
  have H0 : Hid (mulO a b 0 (List.replicate (n + m + 1) 0)) := by
    have := mulO_zero a b
    rw [hna, hnb] at this
    exact this
  have M0 : Mu (w.alloc (.cells (madeCells #[.int .i64 0] (n + m + 1)) 3)) w.heap.size (.slice (some ⟨w.heap.size, 0, none⟩) (n + m + 1) (n + m + 1)) (List.replicate (n + m + 1) 0) := Mu.made (Nat.le_refl _) _ (by omega)
  go_enter Tryz.func143, Tryz.ntmps143
  go_wp2
  go_loopw [19] (fun i wr => ∃ (k : Nat) (o : List Nat), k ≤ n ∧ i = .int .i64 (k : Nat) ∧ Hid (mulO a b k o) ∧ Mu wr w.heap.size (.slice (some ⟨w.heap.size, 0, none⟩) (n + m + 1) (n + m + 1)) o ∧ Below w.heap.size w wr) (fun i _ => n - (intOf i).toNat)
  case atStart => exact ⟨0, _, Nat.zero_le _, rfl, H0, M0, (by repeat (first | exact Below.refl _ _ | assumption | refine b_then ?_ (by assumption) | refine b_alloc ?_ _ | refine b_drewN ?_ _ | refine Below.drew ?_ | refine b_set ?_ (by first | exact Nat.le_refl _ | (simp; done) | (simp; omega) | omega) _))⟩
  case round =>
    obtain ⟨k, O, hk, rfl, HO, hown, hB1⟩ := hrel
    by_cases hlt : k < n
    · obtain ⟨x, hxe⟩ : ∃ x, a[k]'(by omega) = x := ⟨_, rfl⟩
      have hx : x < 10000 := by rw [← hxe]; exact isL_get hA _
      have HXe := Lib.hid hxe
      obtain ⟨ba, offa, rfl, hba, hca⟩ := (ha.below hB1).at_ hlt
      rw [hxe] at hca
      clear hxe
      go_wp2
      go_loopw [8, 27] (fun cv i wr2 => ∃ (j c : Nat) (o : List Nat), j ≤ m + 1 ∧ cv = .int .i64 (c : Nat) ∧ i = .int .i64 (j : Nat) ∧ Hid (mulI O b x k j o c) ∧ Mu wr2 w.heap.size (.slice (some ⟨w.heap.size, 0, none⟩) (n + m + 1) (n + m + 1)) o ∧ Below w.heap.size w wr2) (fun _ i _ => m + 1 - (intOf i).toNat)
      case atStart => exact ⟨0, 0, O, Nat.zero_le _, rfl, rfl, mulI_zero HO.out.1, hown, hB1⟩
      case round =>
        clear hown hB1 hca hba
        obtain ⟨j, c, o, hj, rfl, rfl, H, hown, hB1⟩ := hrel
        have hol : o.length = n + m + 1 := by rw [H.out.2.1, HO.out.2.1, hna, hnb]
        have hc1 := H.out.2.2.1
        by_cases hlt2 : j < m + 1
        · obtain ⟨q, hq⟩ : ∃ q, k + j = q := ⟨_, rfl⟩
          have hqn : q < n + m + 1 := by omega
          obtain ⟨hc, hf, _, hgl⟩ := hown.cell (i := q) (by omega)
          have hls := hb.below hB1
          have hy : o[q]'(by omega) < 10000 := isL_get H.out.1 _
          obtain ⟨y, hye⟩ : ∃ y, o[q]'(by omega) = y := ⟨_, rfl⟩
          rw [hye] at hc hy
          obtain ⟨z, hze⟩ : ∃ z, b.getD j 0 = z := ⟨_, rfl⟩
          have hz := isL_getD hB j
          rw [hze] at hz
          have HY := Lib.hid hye
          have HZ := Lib.hid hze
          clear hye hze
          have hqz : x * z ≤ 9999 * 9999 := Nat.mul_le_mul (by omega) (by omega)
          obtain ⟨t, ht⟩ : ∃ t, x * z = t := ⟨_, rfl⟩
          rw [ht] at hqz
          have hti : (x : Int) * (z : Int) = (t : Int) := by rw [← ht]; push_cast; rfl
          go_wp2
          go_big_quiet ((go_at_call 160; exact at_quiet hls (by omega) HZ _))
          go_wp2
          go_roundw
          case rel =>
            refine ⟨j + 1, (c + (y + t)) / 10000, o.set q ((c + (y + t)) % 10000), by omega, int_eq (by omega), int_eq (by omega), ?_, (hown.draw nq).put (by omega) _ (by omega), b_set (b_drewN hB1 nq) (Nat.le_refl _) _⟩
            have := mulI_step H.out (k := j) (by omega) hx hB (t := c + (y + t)) (by have h1 := HY.out; have h2 := HZ.out; subst hq; rw [h1, h2, ht])
            rw [hq] at this
            exact this
          case measure => (simp [intOf]; try omega)
        · obtain rfl : j = m + 1 := by omega
          go_wp2
          go_roundw
          case rel =>
            refine ⟨k + 1, o, by omega, int_eq (by omega), ?_, hown, hB1⟩
            have h1 := HXe.out
            exact mulO_step HO.out (by omega) hA hB (by rw [h1, hnb]; exact H.out)
          case measure => (simp [intOf]; try omega)
    · obtain rfl : k = n := by omega
      have HO' : mulO a b a.length O := by rw [hna]; exact HO.out
      obtain ⟨hoL, hoV⟩ := mulO_done HO'
      have hol : O.length = k + m + 1 := by rw [HO'.2.1, hna, hnb]
      obtain ⟨A', c', e, hls, hc1, hc2⟩ := hown.ls (by omega)
      rw [hol] at e hls hc1
      injection e with e1 _ e2
      subst e1; subst e2
      have htk := take_lim hoL
      have hlen2 : (lim (lv O)).length ≤ O.length := lim_len_l hoL
      go_wp2_with (go_at_call 161; (with_reducible refine (n_trim _ _ _ _ _ hls hoL hc1 hc2).mono ?_); rintro e w' ⟨rfl, rfl⟩)
      go_ret
      have hm := hown.take hlen2
      rw [htk, hoV] at hm
      exact ⟨_, _, rfl, hm, hB1⟩
end Go.Proofs.YtpoejheienohjaaGreatDoor
