/- The library's contracts in this claim's own form; strings.Builder's WriteString. -/
import Derived.Test.YtjdofncognaaoaaGreatDoorShelf
import Derived.Test.YtjdofncognaaoaaGreatDoorNum
import Derived.Shelf.Strings.SlTrimAscii
import Derived.Laws.Externs
import Derived.Lib.AppendIntMem
import Derived.Shelf.Strings.BuilderX
import Derived.Shelf.Strings.BuilderK
import Derived.Lib.OthersKept
import Derived.RangeFuncNested
import Derived.RangeFuncBound
import Derived.RangeFuncCalls
import Derived.RangeFuncLeaves
import Derived.RangeFuncBox
import Derived.Shelf.Abstract
import Derived.Shelf.RegionOpen
import Derived.OwnWalkIn
import Derived.TacticsInMore
import Derived.LoopNIn
import Derived.LoopIn
namespace Go.Proofs.YtjdofncognaaoaaGreatDoor
open Go.RowKit
set_option linter.unusedVariables false
set_option linter.unusedSimpArgs false

/-- The library's table of powers of ten lies as its text lays it. -/
def Glob (w : World) : Prop := Lib.TabIs Tryz.prog w "internal/strconv.uint64pow10" .u64 Lib.pow10Tab
theorem Glob.below {w w' : World} (h : Glob w) (hb : Below w.heap.size w w') : Glob w' := Lib.tabBelow_of_tabIs h w' hb
section
variable {P : Program} {f : FuncId} {args : Array Value} {w : World} {v : Value}
theorem same_flip (h : Calls P f args w fun e w' => e = .returned v ∧ w' = w) : Calls P f args w fun e w' => e = .returned v ∧ w = w' := h.mono fun _ _ ⟨a, b⟩ => ⟨a, b.symm⟩
end
theorem c_compare (a b : ByteArray) (w : World) : Calls Tryz.prog 138 #[.string a, .string b] w fun e w' => e = .returned (.int .i64 (Lib.compareBytes a.data.toList b.data.toList)) ∧ w = w' := same_flip (Tryz.strings_Compare a b w)
theorem c_cutPrefix (s p : ByteArray) (w : World) : Calls Tryz.prog 178 #[.string s, .string p] w fun e w' => e = .returned (.tuple #[.string (mkS (Lib.trimPrefix s.data.toList p.data.toList)), .bool (Lib.hasPrefix s.data.toList p.data.toList)]) ∧ w = w' := same_flip (Tryz.strings_CutPrefix s p w)
theorem c_trimPrefix (s p : ByteArray) (w : World) : Calls Tryz.prog 163 #[.string s, .string p] w fun e w' => e = .returned (.string (mkS (Lib.trimPrefix s.data.toList p.data.toList))) ∧ w = w' := same_flip (Tryz.strings_TrimPrefix s p w)
theorem c_hasPrefix (s p : ByteArray) (w : World) : Calls Tryz.prog 181 #[.string s, .string p] w fun e w' => e = .returned (.bool (Lib.hasPrefix s.data.toList p.data.toList)) ∧ w = w' := same_flip (Tryz.strings_HasPrefix s p w)
theorem c_cmpInt (x y : Int) (w : World) : Calls Tryz.prog 139 #[.int .i64 x, .int .i64 y] w fun e w' => e = .returned (.int .i64 (Lib.compareInt x y)) ∧ w = w' := same_flip (Tryz.cmp_Compare_int x y w)
theorem c_trim (s cs : ByteArray) (w : World) (hs : s.size ≤ 9223372036854775807) (hc : cs.size < 4294967281) (ha : ∀ (j : Nat) b, cs.data.toList[j]? = some b → b.toNat < 128) :
    Calls Tryz.prog 164 #[.string s, .string cs] w fun e w' => e = .returned (.string (mkS (Lib.trimS s.data.toList cs.data.toList))) ∧ Below w.heap.size w w' :=
  Any.strings_Trim_laid Tryz.lays160 (by kernel_rfl) s cs w hs hc ha
theorem c_repeat (s : ByteArray) (c : Nat) (w : World) (hc : c ≤ 1000000000) (hlen : s.size * c ≤ 140737488355328) :
    Calls Tryz.prog 158 #[.string s, .int .i64 c] w fun e w' => e = .returned (.string (mkS (Lib.repeatL s.data.toList c))) ∧ Below w.heap.size w w' := Tryz.strings_Repeat s c w (by omega) hlen

/-! ### strconv -/
theorem decDigits_ntx (n : Nat) : Lib.decDigits n = ntx n := by
  induction n using Nat.strongRecOn with
  | ind n ih =>
    rw [Lib.decDigits]
    split
    · rename_i h; rw [ntx_small h]; rfl
    · rename_i h; rw [ih (n / 10) (by omega), ntx_big (n := n) (by omega)]; rfl
theorem itoa_itx (z : Int) : Lib.itoa z = itx z := by
  unfold Lib.itoa
  split
  · rename_i h; rw [itx_neg h, decDigits_ntx]
  · rename_i h; rw [itx_nonneg (by omega), decDigits_ntx, show z.toNat = z.natAbs by omega]
theorem c_itoa (z : Int) (w : World) (h0 : -9223372036854775808 ≤ z) (h1 : z ≤ 9223372036854775807) (hg : Glob w) :
    Calls Tryz.prog 88 #[.int .i64 z] w fun e w' => e = .returned (.string (iS z)) ∧ Below w.heap.size w w' := by
  refine (Tryz.strconv_Itoa z h0 h1 w hg).mono ?_
  rintro e w' ⟨rfl, k, os, rfl⟩
  refine ⟨by rw [itoa_itx]; rfl, ?_⟩
  exact ⟨rfl, rfl, rfl, by simp [Go.Sort.grow, World.drewN], fun j hj => by simp [Go.Sort.grow, World.drewN, Array.getElem?_append, hj]⟩
theorem decFrom_dg : ∀ (l : List UInt8) (acc : Nat), l.all isDg = true → Lib.decFrom acc l = some (l.foldl (fun a c => a * 10 + (c.toNat - 48)) acc)
  | [], _, _ => rfl
  | c :: l, acc, h => by
    simp only [List.all_cons, Bool.and_eq_true] at h
    have hc : Lib.digitVal c = some (c.toNat - 48) := by
      have := h.1
      simp [isDg] at this
      simp [Lib.digitVal, this]
    simp only [Lib.decFrom, hc, List.foldl_cons]
    exact decFrom_dg l _ h.2
/-- what a row of digits spells -/
def dval (l : List UInt8) : Nat := l.foldl (fun a c => a * 10 + (c.toNat - 48)) 0
theorem atoi_dg {l : List UInt8} (h : l.all isDg = true) (hn : l ≠ []) : Lib.atoi l = some (dval l : Int) := by
  match l, hn with
  | b :: r, _ =>
    have hb : 48 ≤ b.toNat ∧ b.toNat ≤ 57 := by
      simp only [List.all_cons, Bool.and_eq_true] at h
      have := h.1
      simpa [isDg] using this
    have h1 : (b == 45) = false := by
      rw [beq_eq_false_iff_ne]; rintro rfl; revert hb; decide
    have h2 : (b == 43) = false := by
      rw [beq_eq_false_iff_ne]; rintro rfl; revert hb; decide
    simp only [Lib.atoi, h1, h2, Bool.false_eq_true, if_false, Lib.decNat, List.isEmpty_cons]
    rw [decFrom_dg _ _ h]
    rfl
theorem below_bytes (w : World) (e : TypeId) (s : ByteArray) : Below w.heap.size w (Lib.bytesWorld w e s) := by
  refine ⟨rfl, rfl, rfl, ?_, fun j hj => Lib.bytesWorld_at_old w e s j hj⟩
  simp [Lib.bytesWorld, World.freeze, World.alloc, World.drew, -World.alloc_eq, -World.drew_eq]
theorem c_atoi (s : ByteArray) (w : World) (hl : s.size ≤ 18) (h : s.data.toList.all isDg = true) (hn : s.data.toList ≠ []) :
    Calls Tryz.prog 223 #[.string s] w fun e w' => e = .returned (.tuple #[.int .i64 (dval s.data.toList), .nilIface]) ∧ Below w.heap.size w w' := by
  refine (Tryz.strconv_Atoi s _ hl (atoi_dg h hn) w).mono ?_
  rintro e w' ⟨rfl, t, rfl⟩
  exact ⟨rfl, below_bytes w _ t⟩

theorem c_atoiL (l : List UInt8) (w : World) (hl : l.length ≤ 18) (h : l.all isDg = true) (hn : l ≠ []) :
    Calls Tryz.prog 223 #[.string (mkS l)] w fun e w' => e = .returned (.tuple #[.int .i64 (dval l : Nat), .nilIface]) ∧ Below w.heap.size w w' :=
  c_atoi (mkS l) w (by rw [sz, mkS_l]; exact hl) h hn

/-! ### strings.Builder -/
set_option maxHeartbeats 1000000 in
set_option maxRecDepth 100000 in
theorem c_copyCheck_used (b : Nat) (w : World) (h0 : w.cell? ⟨b, 0, none⟩ = some (.pointer (some ⟨b, 0, none⟩))) :
    Calls Tryz.prog 160 #[.pointer (some ⟨b, 0, none⟩)] w fun e w' => e = .returned (.tuple #[]) ∧ w' = w := by
  obtain ⟨j, hj, _⟩ := Option.map_eq_some_iff.1 Tryz.Builder_Extra_169.sizeBuilder
  go_enter Tryz.func160, Tryz.ntmps160
  go_wp2
  rw [Lib.run_neq_ptr_same w _ Tryz.underlying135 hj]
  go_wp2
  go_end0
  exact ⟨rfl, rfl⟩
set_option maxHeartbeats 1000000 in
set_option maxRecDepth 100000 in
theorem c_copyCheck_fresh (b : Nat) (w : World) (h0 : w.cell? ⟨b, 0, none⟩ = some (.pointer none)) (hsh : w.shape? b = some (137, 2)) (hfz : w.frozen? ⟨b, 0, none⟩ = false) :
    Calls Tryz.prog 160 #[.pointer (some ⟨b, 0, none⟩)] w fun e w' => e = .returned (.tuple #[]) ∧ w' = w.setCell ⟨b, 0, none⟩ (.pointer (some ⟨b, 0, none⟩)) := by
  obtain ⟨j, hj, hjs⟩ := Option.map_eq_some_iff.1 Tryz.Builder_Extra_169.sizeBuilder
  go_enter Tryz.func160, Tryz.ntmps160
  go_wp2
  rw [Lib.run_to_unsafe w ⟨b, 0, none⟩ Tryz.underlying135 Tryz.underlying179 hj (by rw [hjs]; decide) hsh (Nat.zero_lt_succ 1)]
  simp only [Result.andThen]
  rw [Oper.upon_value]
  go_wp2
  rw [run_callFunc_extern Tryz.func187 (by kernel_rfl) (by kernel_rfl) (by kernel_rfl) (e := Extern.AbiNoEscape.same) (by kernel_rfl)]
  rw [Lib.run_noEscape]
  simp only [Result.andThen]
  rw [Oper.upon_value]
  go_wp2
  rw [Lib.run_from_unsafe w ⟨b, 0, none⟩ Tryz.underlying179 Tryz.underlying135 hj hsh Tryz.Builder_Extra_169.liesBuilder]
  simp only [Result.andThen]
  rw [Oper.upon_value]
  go_wp2
  go_end0
  exact ⟨rfl, rfl⟩
theorem ownsRow_kind {w : World} {B : Nat} {e : TypeId} {v : Value} {n : Nat} {xs : List Value} (h : w.ownsRow B e 1 v n xs) : ∀ g, v.ownBlock = some g → ∃ c fz, w.heap[g]? = some (.cells c e fz) := by
  intro g hg
  rcases h.2 with ⟨rfl, _⟩ | ⟨g', cap, cur, rfl, _, hgg, _⟩
  · simp [Value.ownBlock] at hg
  · simp [Value.ownBlock] at hg
    subst hg
    exact ⟨cur, _, hgg⟩
theorem c_copyCheck (B b : Nat) (bs : List Value) (w : World) (h : Lib.IsBuilder 137 5 B b bs w) :
    Calls Tryz.prog 160 #[.pointer (some ⟨b, 0, none⟩)] w fun e w' => e = .returned (.tuple #[]) ∧ (Lib.BuilderAt 137 5 B b (.pointer (some ⟨b, 0, none⟩)) bs w' ∧ Below B w w' ∧ Lib.OthersKept 5 (some b) w w') := by
  rcases h with h | h
  · refine (c_copyCheck_fresh b w h.cell0 h.shape h.frozen0).mono ?_
    rintro e w' ⟨rfl, rfl⟩
    exact ⟨rfl, h.used _, (Below.refl B w).setCell (p := ⟨b, 0, none⟩) h.1 _, (Lib.OthersKept.refl _ _ w).setCell ⟨b, 0, none⟩ rfl _⟩
  · refine (c_copyCheck_used b w h.cell0).mono ?_
    rintro e w' ⟨rfl, rfl⟩
    exact ⟨rfl, h, Below.refl _ _, Lib.OthersKept.refl _ _ _⟩
set_option maxHeartbeats 1000000 in
set_option maxRecDepth 100000 in
theorem c_writeString (B b : Nat) (bs : List Value) (s : ByteArray) (w : World) (h : Lib.IsBuilder 137 5 B b bs w) (hlen : bs.length + s.size ≤ 140737488355328) (hBw : B ≤ w.heap.size) :
    Calls Tryz.prog 132 #[.pointer (some ⟨b, 0, none⟩), .string s] w fun e w' => e = .returned (.tuple #[.int .i64 s.size, .nilIface]) ∧ (Lib.BuilderAt 137 5 B b (.pointer (some ⟨b, 0, none⟩)) (bs ++ Lib.strCells s) w' ∧ Below B w w' ∧ Lib.OthersKept 5 (some b) w w') := by
  obtain ⟨i0, hi, hz0, hz1, hz2⟩ := info_parts Tryz.Builder_Extra_169.infoByte
  go_enter Tryz.func132, Tryz.ntmps132
  go_wp2_with (go_at_call 160; refine (c_copyCheck B b bs _ h).mono ?_)
  rintro e w1 ⟨rfl, h1, hb1, hk1⟩
  obtain ⟨hB, v, hbk, hown, hne⟩ := h1
  have c0 : w1.cell? ⟨b, 0, none⟩ = some (.pointer (some ⟨b, 0, none⟩)) := by rw [Lib.cell_of_heap hbk]; rfl
  have c1 : w1.cell? ⟨b, 1, none⟩ = some v := by rw [Lib.cell_of_heap hbk]; rfl
  go_wp2_with (at_builtin; refine Lib.wpList_append_own_string _ rfl _ _ 133 9 rfl B 5 i0 Tryz.underlying133 Tryz.underlying9 hi hz0 hz1 hz2 _ _ _ rfl hown s rfl ?c3 ?c4 ?c5 ?_)
  case c3 => unfold maxLen; omega
  case c4 => omega
  case c5 => have := hb1.size; omega
  intro v' w2 hown' hgrow _
  have hlt : b < w1.heap.size := by
    rcases Nat.lt_or_ge b w1.heap.size with h' | h'
    · exact h'
    · simp [Array.getElem?_eq_none h'] at hbk
  have hb2 : w2.heap[b]? = some (.cells #[.pointer (some ⟨b, 0, none⟩), v] 137 (0, 0)) := by
    rw [hgrow.block b hlt (fun e => hne e.symm)]
    exact hbk
  have d0 : w2.cell? ⟨b, 0, none⟩ = some (.pointer (some ⟨b, 0, none⟩)) := by rw [Lib.cell_of_heap hb2]; rfl
  have d1 : w2.cell? ⟨b, 1, none⟩ = some v := by rw [Lib.cell_of_heap hb2]; rfl
  have f1 : w2.frozen? ⟨b, 1, none⟩ = false := Lib.frozen_of_heap hb2 1
  obtain ⟨ao, n', cap, rfl⟩ : ∃ ao n' cap, v' = .slice ao n' cap := by
    rcases hown'.2 with ⟨hv, _⟩ | ⟨g, cap, cur, hv, _⟩
    · exact ⟨_, _, _, hv⟩
    · exact ⟨_, _, _, hv⟩
  go_wp2
  go_ret2
  refine ⟨rfl, ?_, ?_, (hk1.grown hgrow (ownsRow_kind hown)).setCell ⟨b, 1, none⟩ rfl _⟩
  · exact Lib.BuilderAt.put (T := 137) (e := 5) hB hb2 (bs' := bs ++ Lib.strCells s) (by simpa [Lib.strCells_length] using hown') Tryz.Builder_Extra_169.neB5
  · exact (hb1.grown hgrow (by have := hb1.size; omega) (fun k hk => (hown.lt k hk).1)).setCell (p := ⟨b, 1, none⟩) hB _
theorem c_builderString (B b : Nat) (l : List UInt8) (w : World) (h : Lib.IsBuilder 137 5 B b (Lib.byteCells l) w) (h0 : l ≠ []) :
    Calls Tryz.prog 133 #[.pointer (some ⟨b, 0, none⟩)] w fun e w' => e = .returned (.string (mkS l)) ∧ (Below B w w' ∧ Lib.OthersKept 5 (some b) w w') := by
  refine (Any.Builder_String_k Tryz.lays169 Tryz.Builder_Extra_169 B b l w (Lib.IsBuilderF.of h) h0).mono ?_
  rintro e w' ⟨rfl, _, h1, h2⟩
  exact ⟨rfl, h1, h2⟩
end Go.Proofs.YtjdofncognaaoaaGreatDoor

/- Slices of limbs; slices.Backward over them. -/
namespace Go.Proofs.YtjdofncognaaoaaGreatDoor
open Go.RowKit Go.Shelf
set_option linter.unusedVariables false
set_option linter.unusedSimpArgs false
attribute [local go_sem] Oper.semAt_some

/-- A slice '.slice A n c' of ints holds the limbs xs. -/
structure Ls (w : World) (A : Option Addr) (n : Nat) (xs : List Nat) : Prop where
  len : xs.length = n
  big : n ≤ 1000000000
  cells : 0 < n → ∃ b off, A = some ⟨b, off, none⟩ ∧ b < w.heap.size ∧ ∀ (j x : Nat), xs[j]? = some x → w.cell? ⟨b, off + j, none⟩ = some (.int .i64 x)
theorem Ls.below {w w1 : World} {A : Option Addr} {n : Nat} {xs : List Nat} (h : Ls w A n xs) (hb : Below w.heap.size w w1) : Ls w1 A n xs :=
  ⟨h.len, h.big, fun hn => by
    obtain ⟨b, off, ha, hl, hc⟩ := h.cells hn
    exact ⟨b, off, ha, Nat.lt_of_lt_of_le hl hb.size, fun j x hj => (hb.cell (p := ⟨b, off + j, none⟩) hl).trans (hc j x hj)⟩⟩
theorem Ls.nil {w : World} {A : Option Addr} : Ls w A 0 [] := ⟨rfl, by omega, fun h => absurd h (by omega)⟩
theorem Ls.at_ {w : World} {A : Option Addr} {n : Nat} {xs : List Nat} (h : Ls w A n xs) {k : Nat} (hk : k < n) : ∃ b off, A = some ⟨b, off, none⟩ ∧ b < w.heap.size ∧ w.cell? ⟨b, off + k, none⟩ = some (.int .i64 (xs[k]'(by rw [h.len]; exact hk) : Nat)) := by
  obtain ⟨b, off, ha, hl, hc⟩ := h.cells (by omega)
  exact ⟨b, off, ha, hl, hc k _ (List.getElem?_eq_getElem _)⟩

/-- The indices from the last one on, k of them. -/
def backs (m k : Nat) : List (Fin m) := (List.finRange m).reverse.take k
theorem backs_succ (m k : Nat) (h : k < m) : backs m (k + 1) = backs m k ++ [⟨m - 1 - k, by omega⟩] := by
  unfold backs
  rw [List.take_add_one, List.getElem?_eq_getElem (by simpa using h)]
  simp [List.getElem_reverse]
theorem backs_length (m k : Nat) (h : k ≤ m) : (backs m k).length = k := by simp [backs, h]
theorem backs_zero (m : Nat) : backs m 0 = [] := rfl
theorem backs_all (m : Nat) : backs m m = (List.finRange m).reverse := by
  unfold backs; rw [List.take_of_length_le (by simp)]
/-- What a round is handed. -/
def benc (xs : List Nat) (i : Fin xs.length) : Array Value := #[.int .i64 (i.1 : Nat), .int .i64 (xs[i.1] : Nat)]

/-- What a round that goes on keeps: what lay below n₀, and the iterator's box. -/
def KpI (n₀ Bs : Nat) (W W' : World) : Prop := Below n₀ W W' ∧ W'.cell? ⟨Bs, 0, none⟩ = W.cell? ⟨Bs, 0, none⟩
theorem KpI.trans {n₀ Bs : Nat} {A B C : World} (h : KpI n₀ Bs A B) (k : KpI n₀ Bs B C) : KpI n₀ Bs A C := ⟨h.1.trans k.1, k.2.trans h.2⟩
theorem KpI.refl (n₀ Bs : Nat) (A : World) : KpI n₀ Bs A A := ⟨Below.refl _ _, rfl⟩
theorem KpI.turn {n₀ Bs : Nat} {w : World} (hn : n₀ ≤ w.heap.size) (hb : Bs < w.heap.size) (W : World) (l : Nat) (o o' : Obj) (hl : w.heap.size ≤ l) (h : W.heap[l]? = some o) (h1 : o.isCells = false) (h2 : o.isWalk = false) : KpI n₀ Bs W (W.putObj l o') :=
  ⟨belowK_b hn W l o o' hl h h1 h2, World.cell?_of_block (w := W) (a := ⟨Bs, 0, none⟩) (World.putObj_heap_other (k := Bs) (r := l) (by omega))⟩
theorem KpI.of {n₀ Bs : Nat} {A B : World} (h : Below n₀ A B) (k : Below (Bs + 1) A B) : KpI n₀ Bs A B := ⟨h, k.cell (p := ⟨Bs, 0, none⟩) (Nat.lt_succ_self _)⟩

set_option maxRecDepth 100000 in
set_option maxHeartbeats 2000000 in
theorem back1_in (F : Fence) (n : Nat) (h7 : F.fn 224) (hro : F.round = none) (hn : 1 ≤ n) (l Bs n₀ b off cap : Nat) (xs : List Nat) (hbig : xs.length ≤ 1000000000) (hb : b < n₀) (J Jx : List (Fin xs.length) → World → Prop)
    (hY : ∀ pre x W, J pre W → pre.length < xs.length → YieldAt F (n - 1) Tryz.prog l (benc xs x) W fun e W' =>
      (e = .returned (.bool true) ∧ J (pre ++ [x]) W' ∧ KpI n₀ Bs W W') ∨ (e = .returned (.bool false) ∧ Jx (pre ++ [x]) W'))
    (W : World) (hBs : W.cell? ⟨Bs, 0, none⟩ = some (.slice (some ⟨b, off, none⟩) xs.length cap)) (hc : ∀ j x, xs[j]? = some x → W.cell? ⟨b, off + j, none⟩ = some (.int .i64 (x : Nat))) (h0 : J [] W) :
    CallsIn F n Tryz.prog 224 #[.func (.yield l) #[] #[], .pointer (some ⟨Bs, 0, none⟩)] W fun e W' => (∃ v, e = .returned v) ∧
      ((∃ ys, ys = backs xs.length xs.length ∧ J ys W') ∨ (∃ pre, (∃ k, k ≤ xs.length ∧ pre = backs xs.length k) ∧ Jx pre W')) := by
  refine callsIn_of_wp Tryz.func224 rfl h7 ?_ hro
  simp only [Tryz.ntmps224, List.size_toArray, List.length_cons, List.length_nil, Nat.reduceAdd, Nat.reduceSub, Array.replicate_succ, Array.replicate_zero, List.push_toArray, List.append_toArray, List.nil_append, List.cons_append]
  gi_wp2
  gi_loopw [3] (fun i wr => ∃ k : Nat, k ≤ xs.length ∧ i = .int .i64 ((xs.length : Int) - 1 - k) ∧ J (backs xs.length k) wr ∧ KpI n₀ Bs W wr)
    (fun i _ => (intOf i + 1).toNat)
  case atStart => exact ⟨0, Nat.zero_le _, by simp, h0, KpI.refl _ _ _⟩
  case round =>
    obtain ⟨k, hk, rfl, hJs, hnx⟩ := hrel
    have hBr := hnx.2.trans hBs
    by_cases hlt : k < xs.length
    · have hx : xs[xs.length - 1 - k]? = some (xs[xs.length - 1 - k]'(by omega)) := List.getElem?_eq_getElem _
      have hcx : wr.cell? ⟨b, off + (xs.length - 1 - k), none⟩ = some (.int .i64 ((xs[xs.length - 1 - k]'(by omega) : Nat) : Int)) := (hnx.1.cell (p := ⟨b, off + (xs.length - 1 - k), none⟩) hb).trans (hc _ _ hx)
      obtain ⟨fn, tmps, assign, body, hy, hR⟩ := hY _ ⟨xs.length - 1 - k, by omega⟩ wr hJs (by rw [backs_length _ _ hk]; exact hlt)
      simp only [benc] at hy
      obtain ⟨q, hq⟩ : ∃ q, xs.length - 1 - k = q := ⟨_, rfl⟩
      have hqi : (xs.length : Int) - 1 - k = (q : Int) := by omega
      rw [hqi]
      simp only [hq] at hcx hy
      gi_wp2
      refine hR.mono ?_
      rintro e W3 (⟨rfl, hJ3, hk3⟩ | ⟨rfl, hJx3⟩)
      · gi_wp2
        go_roundw
        case rel => exact ⟨k + 1, by omega, by (simp; try omega), by rw [backs_succ _ _ hlt]; exact hJ3, hnx.trans hk3⟩
        case measure => (simp [intOf]; try omega)
      · gi_wp2
        refine bodyPost_ret (results_none rfl _ _ _) rfl ?_
        exact ⟨⟨_, rfl⟩, .inr ⟨_, ⟨k + 1, by omega, (backs_succ _ _ hlt).symm⟩, hJx3⟩⟩
    · obtain rfl : k = xs.length := by omega
      gi_wp2
      go_end0
      exact ⟨⟨_, rfl⟩, .inl ⟨_, rfl, hJs⟩⟩

set_option maxHeartbeats 1000000 in
theorem back_in (F : Fence) (n : Nat) (h5 : F.fn 204) (hro : F.round = none) (a : Option Addr) (len cap : Nat) (w : World) :
    CallsIn F n Tryz.prog 204 #[.slice a len cap] w fun e w' => e = .returned (.func (.func 224) #[] #[.pointer (some ⟨w.heap.size, 0, none⟩)]) ∧ w' = w.alloc (.cells #[.slice a len cap] 160) := by
  refine callsIn_of_wp Tryz.func204 rfl h5 ?_ hro
  simp only [Tryz.ntmps204, List.size_toArray, List.length_cons, List.length_nil, Nat.reduceAdd, Nat.reduceSub, Array.replicate_succ, Array.replicate_zero, List.push_toArray, List.append_toArray, List.nil_append, List.cons_append]
  gi_wp2
  go_ret
  exact ⟨rfl, rfl⟩
set_option maxRecDepth 100000 in
set_option maxHeartbeats 1000000 in
theorem back1_nil_in (F : Fence) (n : Nat) (h7 : F.fn 224) (hro : F.round = none) (l Bs cap : Nat) (A : Option Addr) (J : List (Fin ([] : List Nat).length) → World → Prop) (W : World) (hBs : W.cell? ⟨Bs, 0, none⟩ = some (.slice A 0 cap)) (h0 : J [] W) :
    CallsIn F n Tryz.prog 224 #[.func (.yield l) #[] #[], .pointer (some ⟨Bs, 0, none⟩)] W fun e W' => (∃ v, e = .returned v) ∧ J [] W' := by
  refine callsIn_of_wp Tryz.func224 rfl h7 ?_ hro
  simp only [Tryz.ntmps224, List.size_toArray, List.length_cons, List.length_nil, Nat.reduceAdd, Nat.reduceSub, Array.replicate_succ, Array.replicate_zero, List.push_toArray, List.append_toArray, List.nil_append, List.cons_append]
  gi_wp2
  gi_loopw [3] (fun i wr => i = .int .i64 (-1) ∧ J [] wr) (fun _ _ => 0)
  case atStart => exact ⟨rfl, h0⟩
  case round =>
    obtain ⟨rfl, hJs⟩ := hrel
    gi_wp2
    go_end0
    exact ⟨⟨_, rfl⟩, hJs⟩
/-- slices.Backward of limbs: all of them, the last one first; or some of them. -/
theorem back_stops (F : Fence) (n : Nat) (h7 : F.fn 224) (hro : F.round = none) (hn : 1 ≤ n) (Bs n₀ m cap : Nat) (A : Option Addr) (xs : List Nat) (w : World) (hBs : Bs < w.heap.size) (hn₀ : n₀ ≤ w.heap.size)
    (hc : w.cell? ⟨Bs, 0, none⟩ = some (.slice A m cap)) {w0 : World} (h0' : n₀ = w0.heap.size) (hI : Ls w0 A m xs) (hb : Below n₀ w0 w) :
    SeqStopsK F n Tryz.prog 224 #[.pointer (some ⟨Bs, 0, none⟩)] (benc xs) (KpI n₀ Bs) (fun ys => ys = (List.finRange xs.length).reverse) (fun pre => ∃ k, k ≤ xs.length ∧ pre = backs xs.length k) xs.length w := fun l J Jx W hW _ _ hY h0 => by
  have hc' := (hW.cell (p := ⟨Bs, 0, none⟩) hBs).trans hc
  subst h0'
  obtain ⟨hl, hbig, hcs⟩ := hI
  subst hl
  by_cases he : 0 < xs.length
  · obtain ⟨b, off, rfl, hbl, hcell⟩ := hcs he
    refine (back1_in F n h7 hro hn l Bs _ b off cap xs hbig hbl J Jx hY W hc' (fun j x hj => ((hW.mono hn₀).cell (p := ⟨b, off + j, none⟩) hbl).trans ((hb.cell (p := ⟨b, off + j, none⟩) hbl).trans (hcell j x hj))) h0).mono ?_
    rintro e W' ⟨he, ⟨ys, rfl, hj⟩ | ⟨pre, hk, hj⟩⟩
    · exact ⟨he, .inl ⟨_, backs_all _, hj⟩⟩
    · exact ⟨he, .inr ⟨_, hk, hj⟩⟩
  · obtain rfl : xs = [] := List.eq_nil_of_length_eq_zero (by omega)
    exact (back1_nil_in F n h7 hro l Bs cap A J W hc' h0).mono fun e W' ⟨he, hj⟩ => ⟨he, .inl ⟨_, rfl, hj⟩⟩
end Go.Proofs.YtjdofncognaaoaaGreatDoor

/- Walks of nat: compare. -/
namespace Go.Proofs.YtjdofncognaaoaaGreatDoor
open Go.RowKit Go.Shelf
set_option linter.unusedVariables false
set_option linter.unusedSimpArgs false
attribute [local go_sem] Oper.semAt_some

/-- nat.compare, of limbs. -/
def cmpFrom (xs ys : List Nat) : List Nat → Int
  | [] => 0
  | i :: r => if xs[i]? = ys[i]? then cmpFrom xs ys r else Lib.compareInt (xs.getD i 0 : Nat) (ys.getD i 0 : Nat)
def cmpLs (xs ys : List Nat) : Int := if xs.length ≠ ys.length then Lib.compareInt xs.length ys.length else cmpFrom xs ys ((List.finRange xs.length).reverse.map (·.1))
theorem cmpFrom_eq {xs ys l : List Nat} (h : ∀ i ∈ l, xs[i]? = ys[i]?) : cmpFrom xs ys l = 0 := by
  induction l with
  | nil => rfl
  | cons i r ih => rw [cmpFrom, if_pos (h i (by simp))]; exact ih fun j hj => h j (by simp [hj])
theorem cmpFrom_at {xs ys l r : List Nat} {i : Nat} (h : ∀ j ∈ l, xs[j]? = ys[j]?) (hi : xs[i]? ≠ ys[i]?) : cmpFrom xs ys (l ++ i :: r) = Lib.compareInt (xs.getD i 0 : Nat) (ys.getD i 0 : Nat) := by
  induction l with
  | nil => rw [List.nil_append, cmpFrom, if_neg hi]
  | cons j l ih => rw [List.cons_append, cmpFrom, if_pos (h j (by simp))]; exact ih fun k hk => h k (by simp [hk])
theorem backs_split {m k : Nat} (hk : k ≤ m) : (List.finRange m).reverse = backs m k ++ (List.finRange m).reverse.drop k := by
  unfold backs; rw [List.take_append_drop]

theorem bodyM_ret {F : Fence} {n : Nat} {P : Program} {f : Func} {R : Ending → World → Prop} {tmps : Array Value} {w : World} {v : Value} (h : (results f tmps).run P w = .ok v w) (hR : R (.returned v) w) :
    bodyPostM F n P f R .ret { tmps := tmps, defers := [] } w := ⟨v, h, hR⟩
set_option maxRecDepth 100000 in
set_option maxHeartbeats 2000000 in
theorem n_compare (A B : Option Addr) (n m c d : Nat) (xs ys : List Nat) (w : World) (ha : Ls w A n xs) (hb : Ls w B m ys) :
    Calls Tryz.prog 205 #[.slice A n c, .slice B m d] w fun e w' => e = .returned (.int .i64 (cmpLs xs ys)) ∧ Below w.heap.size w w' := by
  refine (callsIn_wide (n := 5)).1 ?_
  refine callsIn_of_wp_marks Tryz.func205 rfl trivial ?_ rfl
  simp only [Tryz.ntmps205, List.size_toArray, List.length_cons, List.length_nil, Nat.reduceAdd, Nat.reduceSub, Array.replicate_succ, Array.replicate_zero, List.push_toArray, List.append_toArray, List.nil_append, List.cons_append]
  have hA := ha.len; have hB := hb.len; have hAb := ha.big; have hBb := hb.big
  gi_wp2_with (first
    | (refine ⟨trivial, ?_⟩; gi_at_call 139; refine (callsIn_wide.2 (c_cmpInt _ _ _)).mono ?_; rintro e w' ⟨rfl, rfl⟩)
    | (refine ⟨trivial, ?_⟩; gi_at_call 204; refine (back_in Fence.wide _ trivial rfl _ _ _ _).mono ?_; rintro e w' ⟨rfl, rfl⟩))
  · have hne : ((n : Int) != (m : Int)) = true := by assumption
    have hne' : n ≠ m := by intro e; simp [e] at hne
    refine bodyM_ret (v := .int .i64 (Lib.compareInt n m)) (by simp [results, Tryz.f205, go_sem]) ⟨?_, (by repeat (first | exact Below.refl _ _ | assumption | refine b_then ?_ (by assumption) | refine b_alloc ?_ _ | refine b_drewN ?_ _ | refine Below.drew ?_ | refine b_set ?_ (by first | exact Nat.le_refl _ | (simp; done) | (simp; omega) | omega) _))⟩
    rw [cmpLs, if_pos (by rw [hA, hB]; exact hne'), hA, hB]
  · obtain rfl : n = m := by
      have hne : ((n : Int) != (m : Int)) = false := by assumption
      have : ¬ ((n : Int) ≠ m) := by simpa using hne
      omega
    subst hA
    have bR := Boxed.new (w.alloc (.cells #[.slice B xs.length d] 160)) 3 (.int .i64 0)
    have bB := Boxed.new w 160 (.slice B xs.length d)
    have bN := Boxed.new ((w.alloc (.cells #[.slice B xs.length d] 160)).alloc (.cells #[.int .i64 0] 3)) 160 (.slice A xs.length c)
    have hB0 : Below w.heap.size w (((w.alloc (.cells #[.slice B xs.length d] 160)).alloc (.cells #[.int .i64 0] 3)).alloc (.cells #[.slice A xs.length c] 160)) := (by repeat (first | exact Below.refl _ _ | assumption | refine b_then ?_ (by assumption) | refine b_alloc ?_ _ | refine b_drewN ?_ _ | refine Below.drew ?_ | refine b_set ?_ (by first | exact Nat.le_refl _ | (simp; done) | (simp; omega) | omega) _))
    simp only [World.size_alloc] at bR bN
    refine wpIn_rangeFunc_ownF rfl (by omega) (gf := 224) (lb := #[.pointer (some ⟨w.heap.size + 1 + 1, 0, none⟩)]) rfl trivial (enters_of Tryz.func224 (by kernel_rfl) rfl)
      (back_stops Fence.wide _ trivial rfl (by omega) (w.heap.size + 1 + 1) w.heap.size _ _ _ xs _ (by simp) (by simp; omega) bN.cell (w0 := w) rfl ha hB0) (fun h k => h.trans k) (KpI.turn (by simp; omega) (by simp)) (Below.refl _ _) (fun _ => rfl)
      (fun pre W => ((∀ i ∈ pre, xs[i.1]? = ys[i.1]?) ∧ W.cell? ⟨w.heap.size, 0, none⟩ = some (.slice B xs.length d) ∧ W.cell? ⟨w.heap.size + 1, 0, none⟩ = some (.int .i64 0) ∧ W.frozen? ⟨w.heap.size + 1, 0, none⟩ = false) ∧ Below w.heap.size w W)
      (fun cd pre W => (cd = .ret ∧ ∃ ini last, pre = ini ++ [last] ∧ (∀ i ∈ ini, xs[i.1]? = ys[i.1]?) ∧ xs[last.1]? ≠ ys[last.1]? ∧ W.cell? ⟨w.heap.size + 1, 0, none⟩ = some (.int .i64 (Lib.compareInt (xs.getD last.1 0 : Nat) (ys.getD last.1 0 : Nat)))) ∧ Below w.heap.size w W)
      (OwnFrom.and (Own.from (fun s A B row hs hg hr => ⟨hs.1, cell_kept hs.2.1 hg hr, cell_kept hs.2.2.1 hg hr, (frozen_kept hs.2.2.1 hg hr).trans hs.2.2.2⟩) _) (ownFrom_below (Nat.le_refl _) (by simp; omega)))
      (fun cd => OwnFrom.and (Own.from (fun s A B row hs hg hr => by obtain ⟨hc, ini, last, e1, e2, e3, e4⟩ := hs; exact ⟨hc, ini, last, e1, e2, e3, cell_kept e4 hg hr⟩) _) (ownFrom_below (Nat.le_refl _) (by simp; omega)))
      ⟨⟨by simp, ((bB.alloc _).alloc _).cell, (bR.alloc _).cell, (bR.alloc _).frozen⟩, hB0⟩
      (fun x => { tmps := #[.slice A xs.length c, .slice B xs.length d, undef, .pointer (some ⟨w.heap.size, 0, none⟩), .pointer (some ⟨w.heap.size + 1, 0, none⟩), .int .i64 (x.1 : Nat), .int .i64 (xs[x.1] : Nat), .slice A xs.length c,
          .int .i64 xs.length, .slice B xs.length d, .int .i64 xs.length, .bool false, undef, undef, undef, undef, undef, .slice A xs.length c,
          .func (.func 224) #[] #[.pointer (some ⟨w.heap.size + 1 + 1, 0, none⟩)], .int .i64 (x.1 : Nat), .int .i64 (xs[x.1] : Nat),
          undef, undef, undef, undef, undef, undef, undef, undef, undef, undef, undef, undef], defers := [] }) ?assign ?body ?done ?stop
    case assign =>
      intro l x W K hK
      simp only [benc]
      gi_wp2
      exact hK
    case body =>
      rintro l pre x W ⟨⟨hp, hcb, hcr, hfr⟩, hBl⟩ _
      have hx : x.1 < xs.length := x.2
      have hxy : x.1 < ys.length := by omega
      obtain ⟨b, off, rfl, hbl, hcell⟩ := hb.cells (by omega)
      have hcy : W.cell? ⟨b, off + x.1, none⟩ = some (.int .i64 (ys[x.1] : Nat)) := (hBl.cell (p := ⟨b, off + x.1, none⟩) hbl).trans (hcell x.1 _ (List.getElem?_eq_getElem hxy))
      gi_wp2_with (refine ⟨trivial, ?_⟩; gi_at_call 139; refine (CallsIn.inRound l (callsIn_wide.2 (c_cmpInt _ _ _))).mono ?_; rintro e w' ⟨rfl, rfl⟩)
      · rename_i hne
        refine ⟨KeepsOthers.setCell _ _ _, ⟨rfl, pre, x, rfl, hp, ?_, ?_⟩, hBl.setCell (p := ⟨w.heap.size + 1, 0, none⟩) (by simp) _⟩
        · rw [List.getElem?_eq_getElem hx, List.getElem?_eq_getElem hxy]
          intro e; injection e with e; simp [e] at hne
        · rw [World.cell?_setCell_same' _ _ _ (by rw [hcr]; rfl)]
          simp [hx, hxy]
      · rename_i hne
        have he : xs[x.1] = ys[x.1] := by
          have : ¬ (((xs[x.1] : Nat) : Int) ≠ (ys[x.1] : Nat)) := by simpa using hne
          omega
        exact ⟨KeepsOthers.refl _, KpI.refl _ _ _, ⟨fun i hi => (List.mem_append.1 hi).elim (hp i) (fun e => by simp at e; subst e; rw [List.getElem?_eq_getElem hx, List.getElem?_eq_getElem hxy, he]), hcb, hcr, hfr⟩, hBl⟩
    case done =>
      rintro D zs W hD rfl ⟨⟨hp, hcb, hcr, hfr⟩, hBl⟩ hK
      gi_wp2
      have hK' := (KeepsOthers.setCell W ⟨w.heap.size + 1, 0, none⟩ (.int .i64 0)).same D _ hK rfl
      refine ⟨by simp, .inl ⟨_, _, rfl, run_takeDeferred hK', ?_⟩⟩
      have hc5 := cell_kept (World.cell?_setCell_same' W ⟨w.heap.size + 1, 0, none⟩ (.int .i64 0) (by rw [hcr]; rfl)) (grownBy_putObj' _ D (.deferred none)) (fun r e => by cases e; exact ⟨_, hK', rfl⟩)
      refine ⟨.int .i64 0, by simp [results, Tryz.f205, go_sem, hc5], ?_, (hBl.setCell (p := ⟨w.heap.size + 1, 0, none⟩) (by simp) _).trans (belowK_b (w := w) (Nat.le_refl _) _ D _ _ (by simp at hD; omega) hK' rfl rfl)⟩
      rw [cmpLs, if_neg (by omega), cmpFrom_eq]
      intro i hi
      obtain ⟨j, hj, rfl⟩ := List.mem_map.1 hi
      exact hp j hj
    case stop =>
      rintro D cd pre W hD ⟨k, hk, rfl⟩ ⟨⟨rfl, ini, last, e1, e2, e3, hcr⟩, hBl⟩ hK
      gi_wp2
      refine ⟨by simp, .inl ⟨_, _, rfl, run_takeDeferred hK, ?_⟩⟩
      have hc5 := cell_kept hcr (grownBy_putObj' _ D (.deferred none)) (fun r e => by cases e; exact ⟨_, hK, rfl⟩)
      refine ⟨.int .i64 (Lib.compareInt (xs.getD last.1 0 : Nat) (ys.getD last.1 0 : Nat)), by simp only [List.getD] at hc5; simp [results, Tryz.f205, go_sem, hc5], ?_, hBl.trans (belowK_b (w := w) (Nat.le_refl _) W D _ _ (by simp at hD; omega) hK rfl rfl)⟩
      rw [cmpLs, if_neg (by omega), backs_split hk, e1, List.append_assoc, List.map_append, List.singleton_append, List.map_cons, cmpFrom_at _ e3]
      intro i hi
      obtain ⟨j, hj, rfl⟩ := List.mem_map.1 hi
      exact e2 j hj
end Go.Proofs.YtjdofncognaaoaaGreatDoor

/- Walks of the reference's naturals: May, at, trim, Of, Cmp. -/
namespace Go.Proofs.YtjdofncognaaoaaGreatDoor
open Go.RowKit
set_option linter.unusedVariables false
set_option linter.unusedSimpArgs false

/-! ### What the tests of May say -/
def dgUpto (s : ByteArray) (k : Nat) : Prop := ∀ j, (h : j < s.size) → j < k → isDg s[j] = true
theorem dgUpto_succ {s : ByteArray} {k : Nat} (h : dgUpto s k) (hk : k < s.size) (h1 : (48 : Int) ≤ (s[k].toNat : Int)) (h2 : (s[k].toNat : Int) ≤ 57) : dgUpto s (k + 1) := by
  intro j hj hjk
  by_cases e : j = k
  · subst e; simp [isDg]; omega
  · exact h j hj (by omega)
theorem isNB_no {s : ByteArray} {k : Nat} (hk : k < s.size) (h : (s[k].toNat : Int) < 48 ∨ 57 < (s[k].toNat : Int)) : isNB s = false := by
  rw [← Bool.not_eq_true]
  intro e
  simp only [isNB, isN, Bool.and_eq_true, List.all_eq_true] at e
  have h1 := e.1.2 s[k] (List.mem_of_getElem? (s_at s k hk))
  simp [isDg] at h1; omega
theorem isNB_all {s : ByteArray} (h : dgUpto s s.size) : isNB s = (decide (0 < s.size) && ((s.data.toList == [48]) || (s.data.toList.head? != some 48))) := by
  have h1 : s.data.toList.all isDg = true := by
    rw [List.all_eq_true]
    intro c hc
    obtain ⟨i, hi, rfl⟩ := List.mem_iff_getElem.1 hc
    exact h i (by rw [sz]; exact hi) (by rw [sz]; exact hi)
  simp only [isNB, isN, h1, Bool.and_true]
  congr 1
  rw [sz, Bool.eq_iff_iff]
  cases s.data.toList <;> simp
theorem head_at {s : ByteArray} (h : 0 < s.size) : s.data.toList.head? = some s[0] := by rw [← s_at s 0 h, List.head?_eq_getElem?]
theorem isNB_zero {s : ByteArray} (h : dgUpto s s.size) (h0 : ¬ 0 < s.size) : isNB s = false := by rw [isNB_all h]; simp [h0]
theorem isNB_hd {s : ByteArray} (h : dgUpto s s.size) (h0 : 0 < s.size) : isNB s = (s.toList == [48] || ((s[0].toNat : Int) != 48)) := by
  rw [isNB_all h, head_at h0, tl]
  simp only [h0, decide_true, Bool.true_and]
  congr 1
  rw [Bool.eq_iff_iff]
  simp only [bne_iff_ne, ne_eq, Option.some.injEq]
  refine not_congr ⟨fun h => by rw [h]; rfl, fun h => UInt8.toNat_inj.1 (by rw [show (48 : UInt8).toNat = 48 from rfl]; omega)⟩

set_option maxHeartbeats 400000 in
theorem r1_may (s : ByteArray) (w : World) (hs : s.size ≤ 9223372036854775807) :
    Calls Tryz.prog 114 #[.string s] w fun e w' => e = .returned (.bool (isNB s)) ∧ w = w' := by
  go_enter Tryz.func114, Tryz.ntmps114
  go_wp2
  go_loop [3] (fun i => ∃ k : Nat, k ≤ s.size ∧ i = .int .i64 k ∧ Hid (dgUpto s k)) (fun i => s.size - (intOf i).toNat)
  case atStart => exact ⟨0, Nat.zero_le _, rfl, fun _ _ h => by omega⟩
  case round =>
    obtain ⟨k, hk, rfl, H⟩ := hrel
    by_cases hlt : k < s.size
    · have hr := s[k].toNat_lt
      go_wp2
      · go_ret
        exact ⟨ret_bool (isNB_no hlt (by omega)).symm, rfl⟩
      · go_round
        case rel => exact ⟨k + 1, by omega, by go_num, dgUpto_succ H.out hlt (by omega) (by omega)⟩
        case measure => simp [intOf]; omega
      · go_ret
        exact ⟨ret_bool (isNB_no hlt (by omega)).symm, rfl⟩
    · obtain rfl : k = s.size := by omega
      by_cases h0 : 0 < s.size
      · go_wp2
        all_goals
          go_ret
          exact ⟨ret_bool (by rw [isNB_hd (Hid.out H) h0]; try simp [*]), rfl⟩
      · go_wp2
        go_ret
        exact ⟨ret_bool (isNB_zero H.out h0).symm, rfl⟩

/-! ### at -/
set_option maxHeartbeats 400000 in
theorem r1_at (n i : Nat) (w : World) (hn : ndg n ≤ 1000000000) (hi : i ≤ 2000000000) :
    Calls Tryz.prog 122 #[.string (nS n), .int .i64 (i : Int)] w fun e w' => e = .returned (.int .i64 (ndigit n i)) ∧ w = w' := by
  have hz : (nS n).size = ndg n := nS_size n
  have hp := ndg_pos n
  have hq : (nS n).size ≤ 1000000000 := by omega
  by_cases h : (nS n).size ≤ i
  · have hb := ndigit_big n i (by omega)
    clear hz
    go_enter Tryz.func122, Tryz.ntmps122
    go_wp2
    go_ret
    exact ⟨ret_int (by rw [hb]; rfl), rfl⟩
  · have hk : (nS n).size - 1 - i < (nS n).size := by omega
    have hB := nS_byte n ((nS n).size - 1 - i) hk
    have hd := ndigit_lt n i
    have he : ndg n - 1 - ((nS n).size - 1 - i) = i := by omega
    rw [he] at hB
    have HB := Lib.hid hB
    have HE := Lib.hid he
    clear hz hB he
    go_enter Tryz.func122, Tryz.ntmps122
    go_wp2
    go_ret
    exact ⟨ret_int (by rw [HB.out]; omega), rfl⟩

/-! ### trim -/
theorem ntrim_drop {l : List UInt8} {k : Nat} (h : ntrim (l.drop k) = ntrim l) (h1 : k + 1 < l.length) (h2 : l[k]? = some 48) : ntrim (l.drop (k + 1)) = ntrim l := by
  rw [← h]
  have e1 : l.drop k = 48 :: l.drop (k + 1) := by
    rw [List.drop_eq_getElem_cons (by omega)]
    congr 1
    rw [List.getElem?_eq_getElem (by omega)] at h2
    exact Option.some.inj h2
  rw [e1]
  have e2 := List.drop_eq_getElem_cons h1
  rw [e2, ntrim, if_pos rfl]
theorem ntrim_stop {l : List UInt8} {k : Nat} (h : ntrim (l.drop k) = ntrim l) (h1 : k + 1 < l.length → l[k]? ≠ some 48) : ntrim l = l.drop k := by
  rw [← h]
  rcases Nat.lt_or_ge (k + 1) l.length with h2 | h2
  · have h3 := h1 h2
    rw [List.drop_eq_getElem_cons (by omega), List.drop_eq_getElem_cons h2, ntrim, if_neg]
    intro e
    exact h3 (by rw [List.getElem?_eq_getElem (by omega), e])
  · have : (l.drop k).length ≤ 1 := by rw [List.length_drop]; omega
    match l.drop k, this with
    | [], _ => rfl
    | [c], _ => rfl
theorem byte48 {s : ByteArray} {k : Nat} (h : k < s.size) : s.data.toList[k]? = some 48 ↔ (s[k].toNat : Int) = 48 := by
  rw [s_at s k h, Option.some.injEq]
  exact ⟨fun h => by rw [h]; rfl, fun h => UInt8.toNat_inj.1 (by rw [show (48 : UInt8).toNat = 48 from rfl]; omega)⟩
def trimB (s : ByteArray) : ByteArray := mkS (ntrim s.data.toList)
theorem trim_done {s : ByteArray} {k : Nat} (hk : k ≤ s.size) (h : ntrim (s.data.toList.drop k) = ntrim s.data.toList) (h1 : ∀ h : k < s.size, k + 1 < s.size → ¬ (s[k].toNat : Int) = 48) : s.extract k s.size = trimB s := by
  unfold trimB
  apply s_ext
  rw [s_extract, mkS_l, sz, List.take_length]
  refine (ntrim_stop h fun h2 => ?_).symm
  have h3 : k < s.size := by rw [sz]; omega
  rw [ne_eq, byte48 h3]
  exact h1 h3 (by rw [sz]; exact h2)
set_option maxHeartbeats 400000 in
theorem r1_trim (s : ByteArray) (w : World) (hs : s.size ≤ 4000000000) :
    Calls Tryz.prog 123 #[.string s] w fun e w' => e = .returned (.string (trimB s)) ∧ w = w' := by
  go_enter Tryz.func123, Tryz.ntmps123
  go_wp2
  go_loop [3] (fun i => ∃ k : Nat, k ≤ s.size ∧ i = .int .i64 k ∧ Hid (ntrim (s.data.toList.drop k) = ntrim s.data.toList)) (fun i => s.size - (intOf i).toNat)
  case atStart => exact ⟨0, Nat.zero_le _, rfl, rfl⟩
  case round =>
    obtain ⟨k, hk, rfl, H⟩ := hrel
    by_cases hlt : k + 1 < s.size
    · have hr := s[k].toNat_lt
      by_cases he : (s[k].toNat : Int) = 48
      · have HE := Lib.hid he
        have he' : ((s[k].toNat : Int) == 48) = true := by simpa using he
        clear he
        go_wp2
        go_round
        case rel => exact ⟨k + 1, by omega, by go_num, ntrim_drop H.out (by rw [← sz]; omega) ((byte48 (by omega)).2 HE.out)⟩
        case measure => simp [intOf]; omega
      · go_wp2
        go_ret
        exact ⟨ret_str (trim_done hk H.out (fun _ _ => he)), rfl⟩
    · go_wp2
      go_ret
      exact ⟨ret_str (trim_done hk H.out (fun _ h => absurd h hlt)), rfl⟩

/-! ### Of -/
theorem of_digit (d : Nat) (h : d < 10) : (ByteArray.mk #[48, 49, 50, 51, 52, 53, 54, 55, 56, 57]).extract d (d + 1) = mkS [dg d] := by
  apply s_ext
  rw [s_extract, mkS_l]
  match d, h with
  | 0, _ | 1, _ | 2, _ | 3, _ | 4, _ | 5, _ | 6, _ | 7, _ | 8, _ | 9, _ => rfl
theorem of_small {n : Nat} {l : List UInt8} {m : Nat} (h : n < 10) (e : ntx n ++ l = ntx m) : (ByteArray.mk #[48, 49, 50, 51, 52, 53, 54, 55, 56, 57]).extract n (n + 1) ++ mkS l = nS m := by
  apply s_ext
  rw [of_digit n h, s_append, mkS_l, mkS_l, nS_l, ← e, ntx_small h]
theorem of_big {n : Nat} {l : List UInt8} {m : Nat} (h : 10 ≤ n) (e : ntx n ++ l = ntx m) : ntx (n / 10) ++ (dg (n % 10) :: l) = ntx m := by
  rw [← e, ntx_big h]; simp
theorem of_step (d : Nat) (h : d < 10) (l : List UInt8) : (ByteArray.mk #[48, 49, 50, 51, 52, 53, 54, 55, 56, 57]).extract d (d + 1) ++ mkS l = mkS (dg d :: l) := by
  apply s_ext
  rw [of_digit d h, s_append, mkS_l, mkS_l, mkS_l]; rfl
theorem of_len {n m : Nat} {l : List UInt8} (e : ntx n ++ l = ntx m) (hm : m ≤ 9223372036854775807) : (mkS l).size ≤ 19 := by
  have h1 := congrArg List.length e
  rw [List.length_append, ntx_length, ntx_length] at h1
  have h2 : ndg m ≤ 19 := ndg_le_of (by omega) (by omega)
  rw [sz, mkS_l]; omega
set_option maxHeartbeats 800000 in
theorem r1_of (m : Nat) (w : World) (hm : m ≤ 9223372036854775807) :
    Calls Tryz.prog 93 #[.int .i64 (m : Int)] w fun e w' => e = .returned (.string (nS m)) ∧ w = w' := by
  go_enter Tryz.func93, Tryz.ntmps93
  go_wp2
  go_loop [0, 3] (fun x t => ∃ (n : Nat) (l : List UInt8), n ≤ 9223372036854775807 ∧ x = .int .i64 n ∧ t = .string (mkS l) ∧ Hid (ntx n ++ l = ntx m)) (fun x _ => (intOf x).toNat)
  case atStart => exact ⟨m, [], hm, rfl, rfl, by simp [Hid]⟩
  case round =>
    obtain ⟨n, l, hn, rfl, rfl, H⟩ := hrel
    have hl := of_len H.out hm
    by_cases hlt : 10 ≤ n
    · have hs := Lib.hid (of_step (n % 10) (Nat.mod_lt _ (by omega)) l)
      have hx : (ByteArray.extract { data := #[48, 49, 50, 51, 52, 53, 54, 55, 56, 57] } (n % 10) (n % 10 + 1)).size ≤ 10 := by
        rw [of_digit _ (Nat.mod_lt _ (by omega)), sz]; exact Nat.le_of_ble_eq_true rfl
      have hm10 : n % 10 < 10 := Nat.mod_lt _ (by omega)
      go_wp2
      go_round
      case rel => exact ⟨n / 10, _, by omega, by go_num, by rw [hs.out], of_big hlt H.out⟩
      case measure => simp [intOf]; omega
    · go_wp2
      go_ret
      exact ⟨ret_str (of_small (by omega) H.out), rfl⟩

/-! ### Cmp -/
def cmpN (m n : Nat) : Int := if m < n then -1 else if m = n then 0 else 1
theorem bytesLess_iff (a b : List UInt8) : Op.bytesLess a b = true ↔ a < b := by
  induction a generalizing b with
  | nil => cases b <;> simp [Op.bytesLess]
  | cons x a ih =>
    cases b with
    | nil => simp [Op.bytesLess]
    | cons y b =>
      simp only [Op.bytesLess, Bool.or_eq_true, Bool.and_eq_true, decide_eq_true_eq, beq_iff_eq, ih, List.cons_lt_cons_iff]
theorem cmp_of (m n : Nat) : cmpN m n = if (nS m).toList == (nS n).toList then 0 else if (nS m).size < (nS n).size then -1 else if (nS m).size = (nS n).size then (if Op.bytesLess (nS m).toList (nS n).toList then -1 else 1) else 1 := by
  have h := ntx_lt_iff m n
  rw [nS_t, nS_t, nS_size, nS_size]
  rw [ntx_length, ntx_length, ← bytesLess_iff] at h
  unfold cmpN
  by_cases e : m = n
  · subst e; simp
  · have e1 : (ntx m == ntx n) = false := by
      rw [beq_eq_false_iff_ne]; exact fun h => e (ntx_inj h)
    rw [e1, if_neg Bool.false_ne_true, if_neg e]
    by_cases hl : m < n
    · rw [if_pos hl]
      rcases h.1 hl with h1 | ⟨h1, h2⟩
      · rw [if_pos h1]
      · rw [if_neg (by omega), if_pos h1, if_pos h2]
    · rw [if_neg hl]
      have h1 := fun x => hl (h.2 (.inl x))
      have h2 := fun x y => hl (h.2 (.inr ⟨x, y⟩))
      rw [if_neg h1]
      by_cases h3 : ndg m = ndg n
      · rw [if_pos h3, if_neg (h2 h3)]
      · rw [if_neg h3]
set_option maxHeartbeats 400000 in
theorem r1_cmp (m n : Nat) (w : World) (hm : ndg m ≤ 1000000000) (hn : ndg n ≤ 1000000000) :
    Calls Tryz.prog 120 #[.string (nS m), .string (nS n)] w fun e w' => e = .returned (.int .i64 (cmpN m n)) ∧ w = w' := by
  have h1 : (nS m).size ≤ 1000000000 := by rw [nS_size]; exact hm
  have h2 : (nS n).size ≤ 1000000000 := by rw [nS_size]; exact hn
  have c1 := isNB_nS m
  have c2 := isNB_nS n
  go_enter Tryz.func120, Tryz.ntmps120
  go_wp2_with (go_at_call 114; refine (r1_may _ _ (by omega)).mono ?_; rintro e w' ⟨rfl, rfl⟩)
  all_goals
    go_ret
    exact ⟨ret_int (by rw [cmp_of]; grind), rfl⟩
end Go.Proofs.YtjdofncognaaoaaGreatDoor

/- Naturals as limbs of four decimal digits, the lowest one first: plain lemmas, no program in sight. -/
namespace Go.Proofs.YtjdofncognaaoaaGreatDoor
set_option linter.unusedVariables false
set_option linter.unusedSimpArgs false

def lv : List Nat → Nat
  | [] => 0
  | x :: r => x + 10000 * lv r
def isL (l : List Nat) : Prop := ∀ x ∈ l, x < 10000
def lim (n : Nat) : List Nat := if h : n = 0 then [] else (n % 10000) :: lim (n / 10000)
termination_by n
decreasing_by omega
theorem lim_zero : lim 0 = [] := by rw [lim]; simp
theorem lim_pos {n : Nat} (h : 0 < n) : lim n = (n % 10000) :: lim (n / 10000) := by rw [lim, dif_neg (by omega)]
theorem lv_lim (n : Nat) : lv (lim n) = n := by
  induction n using Nat.strongRecOn with
  | ind n ih =>
    by_cases h : n = 0
    · subst h; rw [lim_zero]; rfl
    · rw [lim_pos (by omega), lv, ih _ (by omega)]; omega
theorem isL_lim (n : Nat) : isL (lim n) := by
  induction n using Nat.strongRecOn with
  | ind n ih =>
    by_cases h : n = 0
    · subst h; rw [lim_zero]; intro x hx; cases hx
    · rw [lim_pos (by omega)]
      intro x hx
      rcases List.mem_cons.1 hx with rfl | hx
      · omega
      · exact ih _ (by omega) x hx
theorem lim_inj {a b : Nat} (h : lim a = lim b) : a = b := by rw [← lv_lim a, h, lv_lim]
theorem isL_nil : isL [] := fun _ h => by cases h
theorem isL_append {a b : List Nat} (ha : isL a) (hb : isL b) : isL (a ++ b) := fun x h => (List.mem_append.1 h).elim (ha x) (hb x)
theorem isL_take {l : List Nat} (h : isL l) (k : Nat) : isL (l.take k) := fun x hx => h x (List.mem_of_mem_take hx)
theorem isL_drop {l : List Nat} (h : isL l) (k : Nat) : isL (l.drop k) := fun x hx => h x (List.mem_of_mem_drop hx)
theorem isL_set {l : List Nat} (h : isL l) (k : Nat) {x : Nat} (hx : x < 10000) : isL (l.set k x) := fun y hy => by
  rcases List.mem_or_eq_of_mem_set hy with h1 | rfl
  · exact h y h1
  · exact hx
theorem isL_get {l : List Nat} (h : isL l) {k : Nat} (hk : k < l.length) : l[k] < 10000 := h _ (List.getElem_mem _)
theorem isL_rep (n : Nat) : isL (List.replicate n 0) := fun x hx => by rw [(List.mem_replicate.1 hx).2]; omega
theorem lv_rep (n : Nat) : lv (List.replicate n 0) = 0 := by
  induction n with
  | zero => rfl
  | succ n ih => rw [List.replicate_succ, lv, ih]
theorem lv_append (a b : List Nat) : lv (a ++ b) = lv a + 10000 ^ a.length * lv b := by
  induction a with
  | nil => simp [lv]
  | cons x a ih => rw [List.cons_append, lv, ih, lv, List.length_cons, Nat.pow_succ, Nat.mul_add, Nat.add_assoc, Nat.mul_comm (10000 ^ a.length) 10000, Nat.mul_assoc]
theorem lv_snoc (a : List Nat) (x : Nat) : lv (a ++ [x]) = lv a + 10000 ^ a.length * x := by rw [lv_append]; simp [lv]
theorem lv_lt {l : List Nat} (h : isL l) : lv l < 10000 ^ l.length := by
  induction l with
  | nil => simp [lv]
  | cons x l ih =>
    have h1 := h x (by simp)
    have h2 := ih fun y hy => h y (by simp [hy])
    rw [lv, List.length_cons, Nat.pow_succ]
    omega
theorem lv_split (l : List Nat) (k : Nat) (hk : k ≤ l.length) : lv l = lv (l.take k) + 10000 ^ k * lv (l.drop k) := by
  conv => lhs; rw [← List.take_append_drop k l]
  rw [lv_append, List.length_take, Nat.min_eq_left hk]
theorem lv_take_succ (l : List Nat) (k : Nat) (hk : k < l.length) : lv (l.take (k + 1)) = lv (l.take k) + 10000 ^ k * l[k] := by
  rw [List.take_succ_eq_append_getElem hk, lv_snoc, List.length_take, Nat.min_eq_left (by omega)]
theorem lim_of {l : List Nat} (h : isL l) (ht : ∀ x, l.getLast? = some x → x ≠ 0) : l = lim (lv l) := by
  induction l with
  | nil => rw [lv, lim_zero]
  | cons x l ih =>
    have h1 := h x (by simp)
    cases l with
    | nil =>
      have := ht x (by simp)
      rw [lv, lv, Nat.mul_zero, Nat.add_zero, lim_pos (by omega), Nat.mod_eq_of_lt h1, Nat.div_eq_of_lt h1, lim_zero]
    | cons y r =>
      have ih' := ih (fun z hz => h z (by simp [hz])) (fun z hz => ht z (by rw [List.getLast?_cons_cons]; exact hz))
      have hp : 0 < lv (y :: r) := by
        rcases Nat.eq_zero_or_pos (lv (y :: r)) with h0 | h0
        · rw [h0, lim_zero] at ih'; cases ih'
        · exact h0
      rw [lv, lim_pos (by omega), Nat.add_mul_mod_self_left, Nat.mod_eq_of_lt h1, Nat.add_mul_div_left _ _ (by omega), Nat.div_eq_of_lt h1, Nat.zero_add, ← ih']
theorem take_lim {l : List Nat} (h : isL l) : l.take (lim (lv l)).length = lim (lv l) := by
  induction l with
  | nil => rw [lv, lim_zero]; rfl
  | cons x r ih =>
    have h1 := h x (by simp)
    have ih' := ih fun y hy => h y (by simp [hy])
    by_cases h0 : lv (x :: r) = 0
    · rw [h0, lim_zero]; rfl
    · rw [lim_pos (by omega), lv, Nat.add_mul_mod_self_left, Nat.mod_eq_of_lt h1, Nat.add_mul_div_left _ _ (by omega), Nat.div_eq_of_lt h1, Nat.zero_add, List.length_cons, List.take_succ_cons, ih']
theorem lim_last (n : Nat) : ∀ x, (lim n).getLast? = some x → x ≠ 0 := by
  induction n using Nat.strongRecOn with
  | ind n ih =>
    intro x hx
    by_cases h : n = 0
    · subst h; rw [lim_zero] at hx; cases hx
    · rw [lim_pos (by omega)] at hx
      by_cases h2 : n / 10000 = 0
      · rw [h2, lim_zero] at hx
        have : n % 10000 = x := by simpa using hx
        omega
      · refine ih (n / 10000) (by omega) x ?_
        rw [lim_pos (n := n / 10000) (by omega)] at hx ⊢
        rw [List.getLast?_cons_cons] at hx
        exact hx
theorem lim_lt (n : Nat) : n < 10000 ^ (lim n).length := by
  have := lv_lt (isL_lim n)
  rwa [lv_lim] at this
theorem lim_ge {n : Nat} (h : 0 < n) : 10000 ^ ((lim n).length - 1) ≤ n := by
  induction n using Nat.strongRecOn with
  | ind n ih =>
    rw [lim_pos h, List.length_cons, Nat.add_sub_cancel]
    by_cases h2 : n / 10000 = 0
    · rw [h2, lim_zero]; simp only [List.length_nil, Nat.pow_zero]; omega
    · have h3 := ih _ (by omega) (by omega : 0 < n / 10000)
      have h4 : (lim (n / 10000)).length ≠ 0 := by rw [lim_pos (by omega)]; simp
      calc 10000 ^ (lim (n / 10000)).length = 10000 ^ ((lim (n / 10000)).length - 1) * 10000 := by
            rw [← Nat.pow_succ]; congr 1; omega
        _ ≤ n / 10000 * 10000 := Nat.mul_le_mul_right _ h3
        _ ≤ n := Nat.div_mul_le_self _ _
theorem lim_len_le {n k : Nat} (h : n < 10000 ^ k) : (lim n).length ≤ k := by
  rcases Nat.eq_zero_or_pos n with rfl | h0
  · rw [lim_zero]; simp
  · have h1 := lim_ge h0
    have h2 : 10000 ^ ((lim n).length - 1) < 10000 ^ k := Nat.lt_of_le_of_lt h1 h
    have := (Nat.pow_lt_pow_iff_right (by omega : 1 < 10000)).1 h2
    omega
theorem lim_len_l {l : List Nat} (h : isL l) : (lim (lv l)).length ≤ l.length := lim_len_le (lv_lt h)
theorem lim_len_ndg (n : Nat) : (lim n).length ≤ ndg n := lim_len_le (Nat.lt_of_lt_of_le (ndg_lt n) (Nat.pow_le_pow_left (by omega) _))
theorem lim_len_mono {m n : Nat} (h : m ≤ n) : (lim m).length ≤ (lim n).length := lim_len_le (Nat.lt_of_le_of_lt h (lim_lt n))
theorem lim_nil {n : Nat} : lim n = [] ↔ n = 0 := ⟨fun h => lim_inj (h.trans lim_zero.symm), fun h => h ▸ lim_zero⟩
theorem lim_len_zero {n : Nat} : (lim n).length = 0 ↔ n = 0 := by rw [List.length_eq_zero_iff, lim_nil]

/-! ### Their order -/
theorem cmpFrom_take {xs ys : List Nat} (hx : isL xs) (hy : isL ys) (hl : xs.length = ys.length) : ∀ k, k ≤ xs.length → cmpFrom xs ys (List.range k).reverse = Lib.compareInt (lv (xs.take k) : Nat) (lv (ys.take k) : Nat)
  | 0, _ => by simp [cmpFrom, lv, Lib.compareInt]
  | k + 1, h => by
    have h1 : k < ys.length := by omega
    have e1 := lv_take_succ xs k h
    have e2 := lv_take_succ ys k h1
    have b1 := lv_lt (isL_take hx k)
    have b2 := lv_lt (isL_take hy k)
    rw [List.length_take, Nat.min_eq_left (by omega)] at b1 b2
    rw [List.range_succ, List.reverse_append, List.reverse_singleton, List.singleton_append, cmpFrom, List.getElem?_eq_getElem h, List.getElem?_eq_getElem h1, e1, e2]
    by_cases he : xs[k] = ys[k]
    · rw [if_pos (by rw [he]), cmpFrom_take hx hy hl k (by omega), he]
      unfold Lib.compareInt
      split <;> split <;> (try split) <;> (try split) <;> first | rfl | omega
    · rw [if_neg (by simpa using he)]
      have g1 : xs.getD k 0 = xs[k] := by rw [List.getD, List.getElem?_eq_getElem h]; rfl
      have g2 : ys.getD k 0 = ys[k] := by rw [List.getD, List.getElem?_eq_getElem h1]; rfl
      rw [g1, g2]
      unfold Lib.compareInt
      rcases Nat.lt_or_ge xs[k] ys[k] with hlt | hge
      · have : 10000 ^ k * (xs[k] + 1) ≤ 10000 ^ k * ys[k] := Nat.mul_le_mul_left _ hlt
        rw [Nat.mul_add] at this
        rw [if_pos (by omega), if_pos (by omega)]
      · have hgt : ys[k] < xs[k] := by omega
        have : 10000 ^ k * (ys[k] + 1) ≤ 10000 ^ k * xs[k] := Nat.mul_le_mul_left _ hgt
        rw [Nat.mul_add] at this
        rw [if_neg (by omega), if_pos (by omega), if_neg (by omega), if_pos (by omega)]
theorem cmpLs_lim (a b : Nat) : cmpLs (lim a) (lim b) = cmpN a b := by
  have hc : Lib.compareInt (a : Nat) (b : Nat) = cmpN a b := by
    unfold Lib.compareInt cmpN
    split <;> split <;> (try split) <;> (try split) <;> first | rfl | omega
  unfold cmpLs
  by_cases hl : (lim a).length = (lim b).length
  · rw [if_neg (by simpa using hl)]
    have hr : ((List.finRange (lim a).length).reverse.map (·.1)) = (List.range (lim a).length).reverse := by
      rw [List.map_reverse]
      congr 1
      apply List.ext_getElem <;> simp
    rw [hr, cmpFrom_take (isL_lim a) (isL_lim b) hl _ (Nat.le_refl _), List.take_length, List.take_of_length_le (by omega), lv_lim, lv_lim, hc]
  · rw [if_pos hl, ← hc]
    unfold Lib.compareInt
    rcases Nat.lt_or_ge (lim a).length (lim b).length with h | h
    · have : a < b := by
        rcases Nat.lt_or_ge a b with h1 | h1
        · exact h1
        · have := lim_len_mono h1; omega
      rw [if_pos (by omega), if_pos (by omega)]
    · have : b < a := by
        rcases Nat.lt_or_ge b a with h1 | h1
        · exact h1
        · have := lim_len_mono h1; omega
      rw [if_neg (by omega), if_pos (by omega), if_neg (by omega), if_pos (by omega)]

/-! ### Their texts -/
theorem fdg_pad (j : Nat) (n : Nat) (h : n < 10 ^ j) : ∀ k, fdg (k + j) n = List.replicate k 48 ++ fdg j n
  | 0 => by simp
  | k + 1 => by
    rw [show k + 1 + j = (k + j) + 1 by omega, fdg_cons, fdg_pad j n h k, List.replicate_succ, List.cons_append]
    congr 1
    have h1 : n < 10 ^ (k + j) := Nat.lt_of_lt_of_le h (Nat.pow_le_pow_right (by omega) (by omega))
    unfold ndigit
    rw [Nat.div_eq_of_lt h1]; rfl
theorem fdg4 {x : Nat} (h : x < 10000) : fdg 4 x = List.replicate (4 - ndg x) 48 ++ ntx x := by
  have h1 : ndg x ≤ 4 := ndg_le_of (by omega) (by omega)
  have := fdg_pad (ndg x) x (ndg_lt x) (4 - ndg x)
  rwa [Nat.sub_add_cancel h1] at this
theorem ntx_limb {x r : Nat} (hr : 0 < r) (hx : x < 10000) : ntx (x + 10000 * r) = ntx r ++ fdg 4 x := by
  rw [ntx_big (by omega), ntx_big (n := (x + 10000 * r) / 10) (by omega), ntx_big (n := (x + 10000 * r) / 10 / 10) (by omega), ntx_big (n := (x + 10000 * r) / 10 / 10 / 10) (by omega)]
  have e : (x + 10000 * r) / 10 / 10 / 10 / 10 = r := by omega
  have e1 : (x + 10000 * r) / 10 / 10 / 10 % 10 = x / 10 / 10 / 10 % 10 := by omega
  have e2 : (x + 10000 * r) / 10 / 10 % 10 = x / 10 / 10 % 10 := by omega
  have e3 : (x + 10000 * r) / 10 % 10 = x / 10 % 10 := by omega
  have e4 : (x + 10000 * r) % 10 = x % 10 := by omega
  rw [e, e1, e2, e3, e4]
  simp [fdg]
theorem dval_nval (l : List UInt8) : dval l = nval l := by
  unfold dval nval
  congr 1
  funext a c
  rw [Nat.mul_comm]
theorem nval_append (a b : List UInt8) : nval (a ++ b) = 10 ^ b.length * nval a + nval b := by
  induction b using snoc_ind with
  | h0 => simp [nval]
  | h1 l c ih => rw [← List.append_assoc, nval_snoc, ih, nval_snoc, List.length_append, List.length_singleton, Nat.pow_succ, Nat.mul_add, ← Nat.add_assoc, Nat.mul_comm (10 ^ l.length) 10, Nat.mul_assoc]
end Go.Proofs.YtjdofncognaaoaaGreatDoor

/- Slices of limbs that the call has made: read, written, cut. -/
namespace Go.Proofs.YtjdofncognaaoaaGreatDoor
open Go.RowKit
set_option linter.unusedVariables false
set_option linter.unusedSimpArgs false

def ie (x : Nat) : List Value := [.int .i64 (x : Nat)]
/-- v is a slice of the call's own that holds the limbs xs. -/
abbrev Mu (w : World) (base : Nat) (v : Value) (xs : List Nat) : Prop := Own ie 1 3 w base v xs
theorem ie_flat (xs : List Nat) : xs.flatMap ie = xs.map fun x : Nat => Value.int .i64 x := by
  induction xs with
  | nil => rfl
  | cons x r ih => rw [List.flatMap_cons, ih]; rfl
theorem ie_length (x : Nat) : (ie x).length = 1 := rfl
theorem ie_one (x : Nat) : ∀ u ∈ ie x, u.oneCell' = true := fun u hu => by rw [List.mem_singleton.1 hu]; rfl
/-- What a slice of the call's own is. -/
theorem Mu.open_ {w : World} {base : Nat} {v : Value} {xs : List Nat} (h : Mu w base v xs) (hn : 0 < xs.length) : ∃ g cap cur, v = .slice (some ⟨g, 0, none⟩) xs.length cap ∧ base ≤ g ∧ g < w.heap.size ∧ Blk w g 3 cur ∧ xs.length ≤ cap ∧ cap ≤ 9223372036854775807 ∧ cur.size = cap ∧ ∀ (j x : Nat), xs[j]? = some x → cur[j]? = some (.int .i64 x) := by
  rcases h.row.2 with ⟨_, h0⟩ | ⟨g, cap, cur, hv, hb, hh, hc, hm, hs, ht⟩
  · omega
  · refine ⟨g, cap, cur, hv, hb, (Array.getElem?_eq_some_iff.1 hh).1, hh, hc, by simpa [maxLen] using hm, by simpa using hs, fun j x hj => ?_⟩
    have h1 : (xs.flatMap ie)[j]? = some (.int .i64 x) := by rw [ie_flat]; simp [hj]
    rw [← ht, List.getElem?_take] at h1
    split at h1
    · simpa using h1
    · cases h1
theorem Mu.of {w : World} {base g cap : Nat} {cur : Array Value} {xs : List Nat} (hb : base ≤ g) (h : Blk w g 3 cur) (hc : xs.length ≤ cap) (hm : cap ≤ 9223372036854775807) (hs : cur.size = cap) (hx : ∀ (j x : Nat), xs[j]? = some x → cur[j]? = some (.int .i64 x)) : Mu w base (.slice (some ⟨g, 0, none⟩) xs.length cap) xs := by
  refine ⟨⟨by rw [ie_flat]; simp, .inr ⟨g, cap, cur, rfl, hb, h, hc, by simpa [maxLen] using hm, by omega, ?_⟩⟩⟩
  rw [ie_flat, Nat.mul_one]
  apply List.ext_getElem?
  intro j
  rw [List.getElem?_take, List.getElem?_map]
  split
  · rename_i hj
    rw [List.getElem?_eq_getElem hj, Option.map_some, ← hx j _ (List.getElem?_eq_getElem hj)]
    simp
  · rename_i hj
    rw [List.getElem?_eq_none (by omega)]; rfl
theorem Mu.ls {w : World} {base : Nat} {v : Value} {xs : List Nat} (h : Mu w base v xs) (hn : xs.length ≤ 1000000000) : ∃ A c, v = .slice A xs.length c ∧ Ls w A xs.length xs ∧ xs.length ≤ c ∧ c ≤ 9223372036854775807 := by
  by_cases h0 : 0 < xs.length
  · obtain ⟨g, cap, cur, rfl, hb, hg, hh, hc, hm, hs, hx⟩ := h.open_ h0
    exact ⟨_, _, rfl, ⟨rfl, hn, fun _ => ⟨g, 0, rfl, hg, fun j x hj => by rw [hh.cell, Nat.zero_add]; exact hx j x hj⟩⟩, hc, hm⟩
  · have he : xs = [] := List.eq_nil_of_length_eq_zero (by omega)
    subst he
    rcases h.row.2 with ⟨rfl, _⟩ | ⟨g, cap, cur, rfl, _, _, hc, hm, _⟩
    · exact ⟨_, _, rfl, Ls.nil, Nat.le_refl _, by omega⟩
    · exact ⟨_, _, rfl, Ls.nil, Nat.zero_le _, by simpa [maxLen] using hm⟩
theorem Mu.shape {w : World} {base : Nat} {v : Value} {xs : List Nat} (h : Mu w base v xs) : ∃ A c, v = .slice A xs.length c := by
  rcases h.row.2 with ⟨rfl, h0⟩ | ⟨g, cap, cur, rfl, _⟩
  · exact ⟨_, _, by rw [h0]⟩
  · exact ⟨_, _, rfl⟩
/-- A cut at the end. -/
theorem Mu.take {w : World} {base c : Nat} {A : Option Addr} {n : Nat} {xs : List Nat} (h : Mu w base (.slice A n c) xs) {k : Nat} (hk : k ≤ xs.length) : Mu w base (.slice A k c) (xs.take k) := by
  by_cases h0 : 0 < xs.length
  · obtain ⟨g, cap, cur, e, hb, hg, hh, hc, hm, hs, hx⟩ := h.open_ h0
    injection e with e1 e2 e3
    subst e1; subst e3
    have := Mu.of (xs := xs.take k) hb hh (by rw [List.length_take]; omega) hm hs fun j x hj => hx j x (by
      rw [List.getElem?_take] at hj
      split at hj
      · exact hj
      · cases hj)
    rwa [List.length_take, Nat.min_eq_left hk] at this
  · have he : xs = [] := List.eq_nil_of_length_eq_zero (by omega)
    subst he
    obtain rfl : k = 0 := by simpa using hk
    have hn : n = 0 := by
      obtain ⟨A', c', e⟩ := h.shape
      injection e
    subst hn
    simpa using h
/-- A store. -/
theorem Mu.set_ {w : World} {base g n cap : Nat} {xs : List Nat} (h : Mu w base (.slice (some ⟨g, 0, none⟩) n cap) xs) {i : Nat} (hi : i < xs.length) (x : Nat) : Mu (w.setCell ⟨g, i, none⟩ (.int .i64 x)) base (.slice (some ⟨g, 0, none⟩) n cap) (xs.set i x) := by
  obtain ⟨g', cap', cur, e, hb, hg, hh, hc, hm, hs, hx⟩ := h.open_ (by omega)
  injection e with e1 e2 e3
  injection e1 with e1
  injection e1 with e1
  subst e1; subst e2; subst e3
  have := Mu.of (xs := xs.set i x) hb (hh.set_ i (.int .i64 x)) (by rw [List.length_set]; exact hc) hm (by simp [hs]) fun j y hj => by
    rw [List.getElem?_set] at hj
    rw [Array.getElem?_setIfInBounds]
    by_cases he : i = j
    · subst he
      rw [if_pos rfl] at hj ⊢
      rw [if_pos hi] at hj
      rw [if_pos (by omega)]
      injection hj with hj; rw [hj]
    · rw [if_neg he] at hj ⊢
      exact hx j y hj
  rwa [List.length_set] at this
theorem Mu.cell {w : World} {base g n cap : Nat} {xs : List Nat} (h : Mu w base (.slice (some ⟨g, 0, none⟩) n cap) xs) {i : Nat} (hi : i < xs.length) : w.cell? ⟨g, i, none⟩ = some (.int .i64 (xs[i] : Nat)) ∧ w.frozen? ⟨g, i, none⟩ = false ∧ base ≤ g ∧ g < w.heap.size := by
  obtain ⟨g', cap', cur, e, hb, hg, hh, hc, hm, hs, hx⟩ := h.open_ (by omega)
  injection e with e1 e2 e3
  injection e1 with e1
  injection e1 with e1
  subst e1
  exact ⟨(hh.cell i).trans (hx i _ (List.getElem?_eq_getElem hi)), hh.frozen i, hb, hg⟩
theorem Mu.block {w : World} {base : Nat} {v : Value} {xs : List Nat} (h : Mu w base v xs) (hn : 0 < xs.length) : ∃ g cap, v = .slice (some ⟨g, 0, none⟩) xs.length cap ∧ base ≤ g ∧ g < w.heap.size := by
  obtain ⟨g, cap, cur, e, hb, hg, _⟩ := h.open_ hn
  exact ⟨g, cap, e, hb, hg⟩
/-- A store into another block. -/
theorem Mu.far {w : World} {base : Nat} {v : Value} {xs : List Nat} (h : Mu w base v xs) {p : Addr} (hp : v.ownBlock ≠ some p.block) (u : Value) : Mu (w.setCell p u) base v xs :=
  h.grown (row := some p.block) ⟨rfl, rfl, rfl, by simp [World.setCell], fun k _ hk => Below.heap_setCell w p u k (fun e => hk (by rw [e]))⟩ (.inr hp)
theorem Mu.made {w : World} {base : Nat} (hb : base ≤ w.heap.size) (n : Nat) (hn : n ≤ 4000000000) : Mu (w.alloc (.cells (madeCells #[.int .i64 0] n) 3)) base (.slice (some ⟨w.heap.size, 0, none⟩) n n) (List.replicate n 0) := by
  have hc : madeCells #[.int .i64 0] n = (List.replicate n (Value.int .i64 0)).toArray := by
    apply Array.ext'
    simp only [madeCells]
    apply List.ext_getElem
    · simp
    · intro i h1 h2
      simp [Nat.mod_one]
  have := Mu.of (w := w.alloc (.cells (madeCells #[.int .i64 0] n) 3)) (xs := List.replicate n 0) (cap := n) hb (Blk.new w 3 _) (by simp) (by omega) (by rw [hc]; simp) fun j x hj => by
    rw [hc]
    rw [List.getElem?_replicate] at hj
    split at hj
    · rename_i hlt
      injection hj with hj
      subst hj
      simp [hlt]
    · cases hj
  rwa [List.length_replicate] at this
theorem infoInt : (Tryz.prog.info? 3).map (fun i => (i.zero, i.size, i.bytes)) = some (some (.int .i64 0), 1, 8) := by kernel_rfl
/-- 'make(limbs, n)'. -/
theorem make_limbs (n : Nat) (h : n ≤ 4000000000) (w : World) : (Instr.makeSlice 160 (.int .i64 (n : Int)) (.int .i64 (n : Int))).run Tryz.prog w = .ok (.slice (some ⟨w.heap.size, 0, none⟩) n n) (w.alloc (.cells (madeCells #[.int .i64 0] n) 3)) := by
  obtain ⟨i0, hi, hz0, hz1, hz2⟩ := info_parts infoInt
  have hr := run_make (P := Tryz.prog) w 160 3 i0 _ Tryz.underlying160 hi hz0 .i64 .i64 n n (by omega) (by omega) (by rw [hz2]; omega) (by omega)
  simp only [Int.toNat_natCast, hz1, Nat.mul_one] at hr
  rw [hr]; rfl
theorem E_limbs : Elem Tryz.prog 160 3 1 8 := ⟨Tryz.underlying160, ⟨.int .i64 0, by kernel_rfl, by decide⟩⟩
end Go.Proofs.YtjdofncognaaoaaGreatDoor
