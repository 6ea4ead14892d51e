/- Texts (ByteArray) that are numbers. -/
import Derived.Test.YtpoejheienohjaaGreatDoorBase
namespace Go.Proofs.YtpoejheienohjaaGreatDoor
open Go.RowKit
set_option linter.unusedVariables false
set_option linter.unusedSimpArgs false

def mkS (l : List UInt8) : ByteArray := ⟨l.toArray⟩
def nS (n : Nat) : ByteArray := ⟨(ntx n).toArray⟩
def iS (z : Int) : ByteArray := ⟨(itx z).toArray⟩
def isNB (s : ByteArray) : Bool := isN s.data.toList
def isIB (s : ByteArray) : Bool := isI s.data.toList
theorem tl (s : ByteArray) : s.toList = s.data.toList := ByteArray.toList_eq s
theorem sz (s : ByteArray) : s.size = s.data.toList.length := by rw [Array.length_toList]; rfl
theorem s_ext {a b : ByteArray} (h : a.data.toList = b.data.toList) : a = b := ByteArray.ext (Array.ext' h)
theorem s_at (s : ByteArray) (i : Nat) (h : i < s.size) : s.data.toList[i]? = some s[i] := by
  rw [List.getElem?_eq_getElem (by rw [← sz]; exact h)]; rfl
theorem s_extract (s : ByteArray) (a b : Nat) : (s.extract a b).data.toList = (s.data.toList.take b).drop a := by
  rw [ByteArray.data_extract, Array.toList_extract]
  simp [List.extract_eq_take_drop, List.drop_take]
theorem s_append (s t : ByteArray) : (s ++ t).data.toList = s.data.toList ++ t.data.toList := ByteArray.toList_data_append
theorem mkS_l (l : List UInt8) : (mkS l).data.toList = l := rfl
theorem mkS_of (s : ByteArray) : mkS s.data.toList = s := rfl
theorem mkS_inj {a b : List UInt8} (h : mkS a = mkS b) : a = b := congrArg (fun s : ByteArray => s.data.toList) h
theorem nS_l (n : Nat) : (nS n).data.toList = ntx n := rfl
theorem nS_t (n : Nat) : (nS n).toList = ntx n := tl _
theorem nS_size (n : Nat) : (nS n).size = ndg n := by rw [sz, nS_l, ntx_length]
theorem iS_l (z : Int) : (iS z).data.toList = itx z := rfl
theorem iS_t (z : Int) : (iS z).toList = itx z := tl _
theorem iS_size (z : Int) : (iS z).size = ndg z.natAbs + (if z < 0 then 1 else 0) := by rw [sz, iS_l, itx_length]
theorem isNB_nS (n : Nat) : isNB (nS n) = true := isN_ntx n
theorem isNB_of {s : ByteArray} (h : isNB s = true) : ∃ n, s = nS n := by
  obtain ⟨n, hn⟩ := isN_iff.1 h
  exact ⟨n, s_ext hn⟩
theorem isIB_iS (z : Int) : isIB (iS z) = true := isI_itx z
theorem isIB_of {s : ByteArray} (h : isIB s = true) : ∃ z, s = iS z := by
  obtain ⟨n, hn⟩ := isI_iff.1 h
  exact ⟨n, s_ext hn⟩
theorem nS_inj {m n : Nat} (h : nS m = nS n) : m = n := ntx_inj (congrArg (fun s : ByteArray => s.data.toList) h)
theorem iS_inj {m n : Int} (h : iS m = iS n) : m = n := itx_inj (congrArg (fun s : ByteArray => s.data.toList) h)
theorem iS_nonneg {z : Int} (h : 0 ≤ z) : iS z = nS z.natAbs := by unfold iS nS; rw [itx_nonneg h]
theorem iS_nat (n : Nat) : iS (n : Int) = nS n := by unfold iS nS; rw [itx_nat]
theorem iS_neg {z : Int} (h : z < 0) : iS z = mkS (45 :: ntx z.natAbs) := by unfold iS mkS; rw [itx_neg h]
theorem nS_at (n i : Nat) (h : i < (nS n).size) : (nS n)[i] = dg (ndigit n (ndg n - 1 - i)) := by
  have h1 := s_at (nS n) i h
  rw [nS_size] at h
  have h2 := ntx_get n (ndg n - 1 - i) (by omega)
  rw [nS_l] at h1
  rw [show ndg n - 1 - (ndg n - 1 - i) = i by omega, h1] at h2
  exact Option.some.inj h2
theorem ndigit_lt (n i : Nat) : ndigit n i < 10 := Nat.mod_lt _ (by omega)
theorem nS_byte (n i : Nat) (h : i < (nS n).size) : (nS n)[i].toNat = 48 + ndigit n (ndg n - 1 - i) := by
  rw [nS_at n i h, dg_toNat (ndigit_lt _ _)]
end Go.Proofs.YtpoejheienohjaaGreatDoor

/- Sums and differences digit by digit: plain lemmas. -/
namespace Go.Proofs.YtpoejheienohjaaGreatDoor
set_option linter.unusedVariables false
set_option linter.unusedSimpArgs false
theorem fdg_mod (k n : Nat) : fdg k (n % 10 ^ k) = fdg k n := by
  induction k generalizing n with
  | zero => rfl
  | succ k ih =>
    rw [fdg, fdg, ← ih (n / 10), Nat.pow_succ]
    congr 2
    · rw [Nat.mul_comm (10 ^ k) 10, Nat.mod_mul_right_div_self]
    · rw [Nat.mod_mul_left_mod]
theorem fdg_put {i s d : Nat} (hs : s < 10 ^ i) (hd : d < 10) : fdg (i + 1) (s + 10 ^ i * d) = dg d :: fdg i s := by
  rw [fdg_cons, ← fdg_mod i (s + 10 ^ i * d)]
  congr 2
  · unfold ndigit
    rw [Nat.add_mul_div_left _ _ (Nat.pos_of_ne_zero (by exact Nat.ne_of_gt (Nat.pow_pos (by omega)))), Nat.div_eq_of_lt hs]
    omega
  · rw [Nat.add_mul_mod_self_left, Nat.mod_eq_of_lt hs]
theorem mod_succ (m i : Nat) : m % 10 ^ (i + 1) = m % 10 ^ i + 10 ^ i * ndigit m i := by
  unfold ndigit; rw [Nat.pow_succ, Nat.mod_mul]
theorem put_lt {i s d : Nat} (hs : s < 10 ^ i) (hd : d < 10) : s + 10 ^ i * d < 10 ^ (i + 1) := by
  have : 10 ^ i * d ≤ 10 ^ i * 9 := Nat.mul_le_mul_left _ (by omega)
  rw [Nat.pow_succ]; omega
theorem add_step {m n i s c : Nat} (h : m % 10 ^ i + n % 10 ^ i = s + c * 10 ^ i) :
    m % 10 ^ (i + 1) + n % 10 ^ (i + 1) = (s + 10 ^ i * ((ndigit m i + ndigit n i + c) % 10)) + ((ndigit m i + ndigit n i + c) / 10) * 10 ^ (i + 1) := by
  rw [mod_succ, mod_succ, Nat.pow_succ]
  generalize 10 ^ i = p at *
  generalize hx : ndigit m i + ndigit n i + c = x
  have h1 : p * (x % 10) + x / 10 * (p * 10) = p * x := by
    rw [show x / 10 * (p * 10) = p * (10 * (x / 10)) by rw [Nat.mul_comm p 10, ← Nat.mul_assoc, Nat.mul_comm (x / 10) 10, Nat.mul_comm]]
    rw [← Nat.mul_add, Nat.mod_add_div]
  have h2 : p * x = p * ndigit m i + p * ndigit n i + c * p := by rw [← hx, Nat.mul_add, Nat.mul_add, Nat.mul_comm p c]
  omega
theorem sub_step0 {m n i s c : Nat} (h : n % 10 ^ i + s = m % 10 ^ i + c * 10 ^ i) (hc : ndigit n i + c ≤ ndigit m i) :
    n % 10 ^ (i + 1) + (s + 10 ^ i * (ndigit m i - ndigit n i - c)) = m % 10 ^ (i + 1) + 0 * 10 ^ (i + 1) := by
  rw [mod_succ, mod_succ]
  generalize 10 ^ i = p at *
  obtain ⟨d, hd⟩ : ∃ d, ndigit m i = ndigit n i + c + d := ⟨_, (Nat.add_sub_cancel' hc).symm⟩
  rw [hd, show ndigit n i + c + d - ndigit n i - c = d by omega, Nat.mul_add, Nat.mul_add, Nat.mul_comm p c]
  omega
theorem sub_step1 {m n i s c : Nat} (h : n % 10 ^ i + s = m % 10 ^ i + c * 10 ^ i) (hc : ndigit m i < ndigit n i + c) (hc2 : ndigit n i + c ≤ ndigit m i + 10) :
    n % 10 ^ (i + 1) + (s + 10 ^ i * (ndigit m i + 10 - ndigit n i - c)) = m % 10 ^ (i + 1) + 1 * 10 ^ (i + 1) := by
  rw [mod_succ, mod_succ, Nat.pow_succ]
  generalize 10 ^ i = p at *
  obtain ⟨d, hd⟩ : ∃ d, ndigit m i + 10 = ndigit n i + c + d := ⟨_, (Nat.add_sub_cancel' hc2).symm⟩
  rw [show ndigit m i + 10 - ndigit n i - c = d by omega]
  have h1 : p * ndigit m i + p * 10 = p * ndigit n i + p * c + p * d := by rw [← Nat.mul_add, hd, Nat.mul_add, Nat.mul_add]
  rw [Nat.mul_comm p c] at h1
  omega
/-- i digits are laid at the end of N places. -/
def laid (N i s : Nat) : List UInt8 := List.replicate (N - i) 0 ++ fdg i s
theorem laid_length {N i s : Nat} (h : i ≤ N) : (laid N i s).length = N := by simp [laid, fdg_length]; omega
theorem laid_zero (N : Nat) : laid N 0 0 = List.replicate N 0 := by simp [laid, fdg]
theorem laid_set {N i s d : Nat} (h : i < N) (hs : s < 10 ^ i) (hd : d < 10) : (laid N i s).set (N - 1 - i) (dg d) = laid N (i + 1) (s + 10 ^ i * d) := by
  unfold laid
  rw [fdg_put hs hd, show N - i = (N - (i + 1)) + 1 by omega, List.replicate_succ', List.append_assoc, List.set_append_right _ _ (by simp; omega)]
  simp [show N - 1 - i - (N - (i + 1)) = 0 by omega]
theorem laid_full (N s : Nat) : laid N N s = fdg N s := by simp [laid]
end Go.Proofs.YtpoejheienohjaaGreatDoor
