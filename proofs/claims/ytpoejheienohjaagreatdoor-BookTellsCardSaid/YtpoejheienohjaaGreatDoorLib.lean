/- The library's contracts in this claim's own form; strings.Builder's WriteString. -/
import Derived.Test.YtpoejheienohjaaGreatDoorShelf
import Derived.Test.YtpoejheienohjaaGreatDoorText
import Derived.Shelf.Strings.SlTrimAscii
import Derived.Laws.Externs
import Derived.Lib.AppendIntMem
import Derived.Shelf.Strings.BuilderX
import Derived.Shelf.Strings.BuilderK
import Derived.Lib.OthersKept
namespace Go.Proofs.YtpoejheienohjaaGreatDoor
open Go.RowKit
set_option linter.unusedVariables false
set_option linter.unusedSimpArgs false

/-- The library's table of powers of ten lies as its text lays it. -/
def Glob (w : World) : Prop := Lib.TabIs Tryz.prog w "internal/strconv.uint64pow10" .u64 Lib.pow10Tab
theorem Glob.below {w w' : World} (h : Glob w) (hb : Below w.heap.size w w') : Glob w' := Lib.tabBelow_of_tabIs h w' hb
section
variable {P : Program} {f : FuncId} {args : Array Value} {w : World} {v : Value}
theorem same_flip (h : Calls P f args w fun e w' => e = .returned v ∧ w' = w) : Calls P f args w fun e w' => e = .returned v ∧ w = w' := h.mono fun _ _ ⟨a, b⟩ => ⟨a, b.symm⟩
end
theorem c_compare (a b : ByteArray) (w : World) : Calls Tryz.prog 91 #[.string a, .string b] w fun e w' => e = .returned (.int .i64 (Lib.compareBytes a.data.toList b.data.toList)) ∧ w = w' := same_flip (Tryz.strings_Compare a b w)
theorem c_cutPrefix (s p : ByteArray) (w : World) : Calls Tryz.prog 166 #[.string s, .string p] w fun e w' => e = .returned (.tuple #[.string (mkS (Lib.trimPrefix s.data.toList p.data.toList)), .bool (Lib.hasPrefix s.data.toList p.data.toList)]) ∧ w = w' := same_flip (Tryz.strings_CutPrefix s p w)
theorem c_trimPrefix (s p : ByteArray) (w : World) : Calls Tryz.prog 74 #[.string s, .string p] w fun e w' => e = .returned (.string (mkS (Lib.trimPrefix s.data.toList p.data.toList))) ∧ w = w' := same_flip (Tryz.strings_TrimPrefix s p w)
theorem c_hasPrefix (s p : ByteArray) (w : World) : Calls Tryz.prog 83 #[.string s, .string p] w fun e w' => e = .returned (.bool (Lib.hasPrefix s.data.toList p.data.toList)) ∧ w = w' := same_flip (Tryz.strings_HasPrefix s p w)
theorem c_cmpInt (x y : Int) (w : World) : Calls Tryz.prog 92 #[.int .i64 x, .int .i64 y] w fun e w' => e = .returned (.int .i64 (Lib.compareInt x y)) ∧ w = w' := same_flip (Tryz.cmp_Compare_int x y w)
theorem c_trim (s cs : ByteArray) (w : World) (hs : s.size ≤ 9223372036854775807) (hc : cs.size < 4294967281) (ha : ∀ (j : Nat) b, cs.data.toList[j]? = some b → b.toNat < 128) :
    Calls Tryz.prog 75 #[.string s, .string cs] w fun e w' => e = .returned (.string (mkS (Lib.trimS s.data.toList cs.data.toList))) ∧ Below w.heap.size w w' :=
  Any.strings_Trim_laid Tryz.lays160 (by kernel_rfl) s cs w hs hc ha
theorem c_repeat (s : ByteArray) (c : Nat) (w : World) (hc : c ≤ 1000000000) (hlen : s.size * c ≤ 140737488355328) :
    Calls Tryz.prog 164 #[.string s, .int .i64 c] w fun e w' => e = .returned (.string (mkS (Lib.repeatL s.data.toList c))) ∧ Below w.heap.size w w' := Tryz.strings_Repeat s c w (by omega) hlen

/-! ### strconv -/
theorem decDigits_ntx (n : Nat) : Lib.decDigits n = ntx n := by
  induction n using Nat.strongRecOn with
  | ind n ih =>
    rw [Lib.decDigits]
    split
    · rename_i h; rw [ntx_small h]; rfl
    · rename_i h; rw [ih (n / 10) (by omega), ntx_big (n := n) (by omega)]; rfl
theorem itoa_itx (z : Int) : Lib.itoa z = itx z := by
  unfold Lib.itoa
  split
  · rename_i h; rw [itx_neg h, decDigits_ntx]
  · rename_i h; rw [itx_nonneg (by omega), decDigits_ntx, show z.toNat = z.natAbs by omega]
theorem c_itoa (z : Int) (w : World) (h0 : -9223372036854775808 ≤ z) (h1 : z ≤ 9223372036854775807) (hg : Glob w) :
    Calls Tryz.prog 136 #[.int .i64 z] w fun e w' => e = .returned (.string (iS z)) ∧ Below w.heap.size w w' := by
  refine (Tryz.strconv_Itoa z h0 h1 w hg).mono ?_
  rintro e w' ⟨rfl, k, os, rfl⟩
  refine ⟨by rw [itoa_itx]; rfl, ?_⟩
  exact ⟨rfl, rfl, rfl, by simp [Go.Sort.grow, World.drewN], fun j hj => by simp [Go.Sort.grow, World.drewN, Array.getElem?_append, hj]⟩
theorem decFrom_dg : ∀ (l : List UInt8) (acc : Nat), l.all isDg = true → Lib.decFrom acc l = some (l.foldl (fun a c => a * 10 + (c.toNat - 48)) acc)
  | [], _, _ => rfl
  | c :: l, acc, h => by
    simp only [List.all_cons, Bool.and_eq_true] at h
    have hc : Lib.digitVal c = some (c.toNat - 48) := by
      have := h.1
      simp [isDg] at this
      simp [Lib.digitVal, this]
    simp only [Lib.decFrom, hc, List.foldl_cons]
    exact decFrom_dg l _ h.2
/-- what a row of digits spells -/
def dval (l : List UInt8) : Nat := l.foldl (fun a c => a * 10 + (c.toNat - 48)) 0
theorem atoi_dg {l : List UInt8} (h : l.all isDg = true) (hn : l ≠ []) : Lib.atoi l = some (dval l : Int) := by
  match l, hn with
  | b :: r, _ =>
    have hb : 48 ≤ b.toNat ∧ b.toNat ≤ 57 := by
      simp only [List.all_cons, Bool.and_eq_true] at h
      have := h.1
      simpa [isDg] using this
    have h1 : (b == 45) = false := by
      rw [beq_eq_false_iff_ne]; rintro rfl; revert hb; decide
    have h2 : (b == 43) = false := by
      rw [beq_eq_false_iff_ne]; rintro rfl; revert hb; decide
    simp only [Lib.atoi, h1, h2, Bool.false_eq_true, if_false, Lib.decNat, List.isEmpty_cons]
    rw [decFrom_dg _ _ h]
    rfl
theorem below_bytes (w : World) (e : TypeId) (s : ByteArray) : Below w.heap.size w (Lib.bytesWorld w e s) := by
  refine ⟨rfl, rfl, rfl, ?_, fun j hj => Lib.bytesWorld_at_old w e s j hj⟩
  simp [Lib.bytesWorld, World.freeze, World.alloc, World.drew, -World.alloc_eq, -World.drew_eq]
theorem c_atoi (s : ByteArray) (w : World) (hl : s.size ≤ 18) (h : s.data.toList.all isDg = true) (hn : s.data.toList ≠ []) :
    Calls Tryz.prog 177 #[.string s] w fun e w' => e = .returned (.tuple #[.int .i64 (dval s.data.toList), .nilIface]) ∧ Below w.heap.size w w' := by
  refine (Tryz.strconv_Atoi s _ hl (atoi_dg h hn) w).mono ?_
  rintro e w' ⟨rfl, t, rfl⟩
  exact ⟨rfl, below_bytes w _ t⟩

theorem c_atoiL (l : List UInt8) (w : World) (hl : l.length ≤ 18) (h : l.all isDg = true) (hn : l ≠ []) :
    Calls Tryz.prog 177 #[.string (mkS l)] w fun e w' => e = .returned (.tuple #[.int .i64 (dval l : Nat), .nilIface]) ∧ Below w.heap.size w w' :=
  c_atoi (mkS l) w (by rw [sz, mkS_l]; exact hl) h hn

/-! ### strings.Builder -/
set_option maxHeartbeats 1000000 in
set_option maxRecDepth 100000 in
theorem c_copyCheck_used (b : Nat) (w : World) (h0 : w.cell? ⟨b, 0, none⟩ = some (.pointer (some ⟨b, 0, none⟩))) :
    Calls Tryz.prog 179 #[.pointer (some ⟨b, 0, none⟩)] w fun e w' => e = .returned (.tuple #[]) ∧ w' = w := by
  obtain ⟨j, hj, _⟩ := Option.map_eq_some_iff.1 Tryz.Builder_Extra_169.sizeBuilder
  go_enter Tryz.func179, Tryz.ntmps179
  go_wp2
  rw [Lib.run_neq_ptr_same w _ Tryz.underlying143 hj]
  go_wp2
  go_end0
  exact ⟨rfl, rfl⟩
set_option maxHeartbeats 1000000 in
set_option maxRecDepth 100000 in
theorem c_copyCheck_fresh (b : Nat) (w : World) (h0 : w.cell? ⟨b, 0, none⟩ = some (.pointer none)) (hsh : w.shape? b = some (145, 2)) (hfz : w.frozen? ⟨b, 0, none⟩ = false) :
    Calls Tryz.prog 179 #[.pointer (some ⟨b, 0, none⟩)] w fun e w' => e = .returned (.tuple #[]) ∧ w' = w.setCell ⟨b, 0, none⟩ (.pointer (some ⟨b, 0, none⟩)) := by
  obtain ⟨j, hj, hjs⟩ := Option.map_eq_some_iff.1 Tryz.Builder_Extra_169.sizeBuilder
  go_enter Tryz.func179, Tryz.ntmps179
  go_wp2
  rw [Lib.run_to_unsafe w ⟨b, 0, none⟩ Tryz.underlying143 Tryz.underlying180 hj (by rw [hjs]; decide) hsh (Nat.zero_lt_succ 1)]
  simp only [Result.andThen]
  rw [Oper.upon_value]
  go_wp2
  rw [run_callFunc_extern Tryz.func194 (by kernel_rfl) (by kernel_rfl) (by kernel_rfl) (e := Extern.AbiNoEscape.same) (by kernel_rfl)]
  rw [Lib.run_noEscape]
  simp only [Result.andThen]
  rw [Oper.upon_value]
  go_wp2
  rw [Lib.run_from_unsafe w ⟨b, 0, none⟩ Tryz.underlying180 Tryz.underlying143 hj hsh Tryz.Builder_Extra_169.liesBuilder]
  simp only [Result.andThen]
  rw [Oper.upon_value]
  go_wp2
  go_end0
  exact ⟨rfl, rfl⟩
theorem ownsRow_kind {w : World} {B : Nat} {e : TypeId} {v : Value} {n : Nat} {xs : List Value} (h : w.ownsRow B e 1 v n xs) : ∀ g, v.ownBlock = some g → ∃ c fz, w.heap[g]? = some (.cells c e fz) := by
  intro g hg
  rcases h.2 with ⟨rfl, _⟩ | ⟨g', cap, cur, rfl, _, hgg, _⟩
  · simp [Value.ownBlock] at hg
  · simp [Value.ownBlock] at hg
    subst hg
    exact ⟨cur, _, hgg⟩
theorem c_copyCheck (B b : Nat) (bs : List Value) (w : World) (h : Lib.IsBuilder 145 5 B b bs w) :
    Calls Tryz.prog 179 #[.pointer (some ⟨b, 0, none⟩)] w fun e w' => e = .returned (.tuple #[]) ∧ (Lib.BuilderAt 145 5 B b (.pointer (some ⟨b, 0, none⟩)) bs w' ∧ Below B w w' ∧ Lib.OthersKept 5 (some b) w w') := by
  rcases h with h | h
  · refine (c_copyCheck_fresh b w h.cell0 h.shape h.frozen0).mono ?_
    rintro e w' ⟨rfl, rfl⟩
    exact ⟨rfl, h.used _, (Below.refl B w).setCell (p := ⟨b, 0, none⟩) h.1 _, (Lib.OthersKept.refl _ _ w).setCell ⟨b, 0, none⟩ rfl _⟩
  · refine (c_copyCheck_used b w h.cell0).mono ?_
    rintro e w' ⟨rfl, rfl⟩
    exact ⟨rfl, h, Below.refl _ _, Lib.OthersKept.refl _ _ _⟩
set_option maxHeartbeats 1000000 in
set_option maxRecDepth 100000 in
theorem c_writeString (B b : Nat) (bs : List Value) (s : ByteArray) (w : World) (h : Lib.IsBuilder 145 5 B b bs w) (hlen : bs.length + s.size ≤ 140737488355328) (hBw : B ≤ w.heap.size) :
    Calls Tryz.prog 163 #[.pointer (some ⟨b, 0, none⟩), .string s] w fun e w' => e = .returned (.tuple #[.int .i64 s.size, .nilIface]) ∧ (Lib.BuilderAt 145 5 B b (.pointer (some ⟨b, 0, none⟩)) (bs ++ Lib.strCells s) w' ∧ Below B w w' ∧ Lib.OthersKept 5 (some b) w w') := by
  obtain ⟨i0, hi, hz0, hz1, hz2⟩ := info_parts Tryz.Builder_Extra_169.infoByte
  go_enter Tryz.func163, Tryz.ntmps163
  go_wp2_with (go_at_call 179; refine (c_copyCheck B b bs _ h).mono ?_)
  rintro e w1 ⟨rfl, h1, hb1, hk1⟩
  obtain ⟨hB, v, hbk, hown, hne⟩ := h1
  have c0 : w1.cell? ⟨b, 0, none⟩ = some (.pointer (some ⟨b, 0, none⟩)) := by rw [Lib.cell_of_heap hbk]; rfl
  have c1 : w1.cell? ⟨b, 1, none⟩ = some v := by rw [Lib.cell_of_heap hbk]; rfl
  go_wp2_with (at_builtin; refine Lib.wpList_append_own_string _ rfl _ _ 59 9 rfl B 5 i0 Tryz.underlying59 Tryz.underlying9 hi hz0 hz1 hz2 _ _ _ rfl hown s rfl ?c3 ?c4 ?c5 ?_)
  case c3 => unfold maxLen; omega
  case c4 => omega
  case c5 => have := hb1.size; omega
  intro v' w2 hown' hgrow _
  have hlt : b < w1.heap.size := by
    rcases Nat.lt_or_ge b w1.heap.size with h' | h'
    · exact h'
    · simp [Array.getElem?_eq_none h'] at hbk
  have hb2 : w2.heap[b]? = some (.cells #[.pointer (some ⟨b, 0, none⟩), v] 145 (0, 0)) := by
    rw [hgrow.block b hlt (fun e => hne e.symm)]
    exact hbk
  have d0 : w2.cell? ⟨b, 0, none⟩ = some (.pointer (some ⟨b, 0, none⟩)) := by rw [Lib.cell_of_heap hb2]; rfl
  have d1 : w2.cell? ⟨b, 1, none⟩ = some v := by rw [Lib.cell_of_heap hb2]; rfl
  have f1 : w2.frozen? ⟨b, 1, none⟩ = false := Lib.frozen_of_heap hb2 1
  obtain ⟨ao, n', cap, rfl⟩ : ∃ ao n' cap, v' = .slice ao n' cap := by
    rcases hown'.2 with ⟨hv, _⟩ | ⟨g, cap, cur, hv, _⟩
    · exact ⟨_, _, _, hv⟩
    · exact ⟨_, _, _, hv⟩
  go_wp2
  go_ret2
  refine ⟨rfl, ?_, ?_, (hk1.grown hgrow (ownsRow_kind hown)).setCell ⟨b, 1, none⟩ rfl _⟩
  · exact Lib.BuilderAt.put (T := 145) (e := 5) hB hb2 (bs' := bs ++ Lib.strCells s) (by simpa [Lib.strCells_length] using hown') Tryz.Builder_Extra_169.neB5
  · exact (hb1.grown hgrow (by have := hb1.size; omega) (fun k hk => (hown.lt k hk).1)).setCell (p := ⟨b, 1, none⟩) hB _
theorem c_builderString (B b : Nat) (l : List UInt8) (w : World) (h : Lib.IsBuilder 145 5 B b (Lib.byteCells l) w) (h0 : l ≠ []) :
    Calls Tryz.prog 165 #[.pointer (some ⟨b, 0, none⟩)] w fun e w' => e = .returned (.string (mkS l)) ∧ (Below B w w' ∧ Lib.OthersKept 5 (some b) w w') := by
  refine (Any.Builder_String_k Tryz.lays169 Tryz.Builder_Extra_169 B b l w (Lib.IsBuilderF.of h) h0).mono ?_
  rintro e w' ⟨rfl, _, h1, h2⟩
  exact ⟨rfl, h1, h2⟩
end Go.Proofs.YtpoejheienohjaaGreatDoor
