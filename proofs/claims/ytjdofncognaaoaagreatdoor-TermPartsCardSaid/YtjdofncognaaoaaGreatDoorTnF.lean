/- Walks: term.Args$1 (it writes two variables of its caller). -/
import Derived.Test.YtjdofncognaaoaaGreatDoorTnA
import Derived.Test.YtjdofncognaaoaaGreatDoorGhG
import Derived.Test.YtjdofncognaaoaaGreatDoorGhC
namespace Go.Proofs.YtjdofncognaaoaaGreatDoor
open Go Go.RowKit
set_option linter.unusedVariables false
set_option linter.unusedSimpArgs false

/-- All but two blocks are as they were. -/
structure KK (ga gb : Nat) (w W : World) : Prop where
  os : W.os = w.os
  tape : W.tape = w.tape
  output : W.output = w.output
  size : w.heap.size ≤ W.heap.size
  block : ∀ k, k < w.heap.size → k ≠ ga → k ≠ gb → W.heap[k]? = w.heap[k]?
section
variable {ga gb : Nat} {w W V : World}
theorem KK.refl (ga gb : Nat) (w : World) : KK ga gb w w := ⟨rfl, rfl, rfl, Nat.le_refl _, fun _ _ _ _ => rfl⟩
theorem KK.then_ (h : KK ga gb w W) (k : KK ga gb W V) : KK ga gb w V :=
  ⟨k.os.trans h.os, k.tape.trans h.tape, k.output.trans h.output, Nat.le_trans h.size k.size, fun i hi h1 h2 => (k.block i (Nat.lt_of_lt_of_le hi h.size) h1 h2).trans (h.block i hi h1 h2)⟩
theorem KK.of (h : Below w.heap.size w W) : KK ga gb w W := ⟨h.os, h.tape, h.output, h.size, fun i hi _ _ => h.block i hi⟩
theorem KK.below (h : KK ga gb w W) (k : Below W.heap.size W V) : KK ga gb w V := h.then_ (KK.of k)
theorem KK.set (h : KK ga gb w W) {p : Addr} (hp : p.block = ga ∨ p.block = gb ∨ w.heap.size ≤ p.block) (u : Value) : KK ga gb w (W.setCell p u) := by
  have h0 : Below 0 W (W.setCell p u) := (Below.refl 0 W).setCell (Nat.zero_le _) u
  refine ⟨h0.os.trans h.os, h0.tape.trans h.tape, h0.output.trans h.output, Nat.le_trans h.size h0.size, fun i hi h1 h2 => ?_⟩
  have hip : i ≠ p.block := by rcases hp with e | e | e <;> omega
  exact (Below.heap_setCell W p u i hip).trans (h.block i hi h1 h2)
theorem KK.blk {g : Nat} {t : TypeId} {cs : Array Value} (h : KK ga gb w W) (hb : Blk w g t cs) (h1 : g ≠ ga) (h2 : g ≠ gb) : Blk W g t cs := (h.block g hb.lt h1 h2).trans hb
theorem KK.low {n : Nat} {w0 : World} (hB : Below n w0 w) (h : KK ga gb w W) (h1 : n ≤ ga) (h2 : n ≤ gb) (hn : n ≤ w.heap.size) : Below n w0 W :=
  ⟨h.os.trans hB.os, h.tape.trans hB.tape, h.output.trans hB.output, Nat.le_trans hB.size h.size, fun i hi => (h.block i (by omega) (by omega) (by omega)).trans (hB.block i hi)⟩
theorem KK.own {α : Type} {e : α → List Value} {z : Nat} {T : TypeId} {base : Nat} {v : Value} {xs : List α} (h : KK ga gb w W) (ho : Own e z T w base v xs) (h1 : ga < base) (h2 : gb < base) : Own e z T W base v xs := by
  refine ⟨ho.row.1, ?_⟩
  rcases ho.row.2 with h3 | ⟨g, cap, cur, hv, hb, hh, r⟩
  · exact .inl h3
  · exact .inr ⟨g, cap, cur, hv, hb, (h.block g (Array.getElem?_eq_some_iff.1 hh).1 (by omega) (by omega)).trans hh, r⟩
end
theorem blk_newAt (w : World) (t : TypeId) (cs : Array Value) {g : Nat} (hg : g = w.heap.size) : Blk (w.alloc (.cells cs t)) g t cs := by subst hg; exact Blk.new w t cs
theorem Own.farset {α : Type} {e : α → List Value} {z : Nat} {T : TypeId} {w : World} {base : Nat} {v : Value} {xs : List α} (h : Own e z T w base v xs) {p : Addr} (hp : v.ownBlock ≠ some p.block) (u : Value) : Own e z T (w.setCell p u) base v xs := by
  have h0 : Below 0 w (w.setCell p u) := (Below.refl 0 w).setCell (Nat.zero_le _) u
  refine h.grown (row := some p.block) ⟨h0.os, h0.tape, h0.output, h0.size, fun i hi hne => Below.heap_setCell w p u i (fun e => hne (by rw [e]))⟩ (.inr hp)
abbrev Sp := Nat × Nat
abbrev pCs (p : Sp) : List Value := [.int .i64 (p.1 : Nat), .int .i64 (p.2 : Nat)]
theorem pCs_length (p : Sp) : (pCs p).length = 2 := rfl
theorem pCs_one (p : Sp) : ∀ u ∈ pCs p, u.oneCell' = true := by
  intro u hu
  simp only [pCs, List.mem_cons, List.not_mem_nil, or_false] at hu
  rcases hu with rfl | rfl <;> rfl
theorem Tryz.elSp : Elem Tryz.prog 84 86 2 16 := ⟨Tryz.underlying84, ⟨.agg #[.int .i64 0, .int .i64 0], by kernel_rfl, rfl⟩⟩
theorem sp_in {w wr : World} {A : Option Addr} {n : Nat} {ss : List Sp} (h : Rd pCs 2 w A n ss) (hB : Below w.heap.size w wr) {k : Nat} (hk : k < n) :
    ∃ ad s, A = some ad ∧ ss[k]? = some s ∧ ∀ w1, Below wr.heap.size wr w1 → w1.cell? (ad.add (k * 2)) = some (.int .i64 (s.1 : Nat)) ∧ w1.cell? ⟨(ad.add (k * 2)).block, (ad.add (k * 2)).off + 1, none⟩ = some (.int .i64 (s.2 : Nat)) := by
  obtain ⟨ad, s, e, hl, hs, hc⟩ := (h.below hB).at_ hk
  refine ⟨ad, s, e, hs, fun w1 h1 => ?_⟩
  have g : ∀ i u, (pCs s)[i]? = some u → w1.cell? (ad.add (k * 2 + i)) = some u := fun i u hu => (h1.cell (by rw [add_block]; exact hl)).trans (hc i u hu)
  exact ⟨g 0 _ rfl, by rw [← add_field _ _ 1 (by omega)]; exact g 1 _ rfl⟩
/-- What the closure has done. -/
structure ArgS (ga gb : Nat) (base : Nat) (k : Nat) (l : List Sp) (og : Option Nat) (W : World) : Prop where
  ex : ∃ v, Blk W ga 84 #[v] ∧ Own pCs 2 86 W base v l ∧ ∀ g, og = some g → v.ownBlock ≠ some g
  at_ : Blk W gb 3 #[.int .i64 (k : Nat)]
set_option maxRecDepth 100000 in
set_option maxHeartbeats 8000000 in
theorem p_args1 (ga gb k : Nat) (va : Value) {B : Option Addr} {m c base : Nat} {l : List Sp} (W : World) (hne : ga ≠ gb) (ha : Blk W ga 84 #[va]) (hb : Blk W gb 3 #[.int .i64 (k : Nat)]) (hr : Rd pCs 2 W B m l) (hm : m ≤ 1000) (hk : k ≤ 1000000) (hbase : base ≤ W.heap.size)
    (a0 : Int) (a1 a2 a3 : ByteArray) (a4 a5 : Int) :
    Calls Tryz.prog 61 #[.agg #[.int .i64 a0, .string a1, .string a2, .string a3, .int .i64 a4, .int .i64 a5], .slice B m c, .pointer (some ⟨gb, 0, none⟩), .pointer (some ⟨ga, 0, none⟩)] W fun e W' =>
      e = .returned (.tuple #[.agg #[.int .i64 (((l[0]?).map (·.1)).getD k : Nat), .int .i64 ((k + 1 : Nat) : Int)], .bool true]) ∧ KK ga gb W W' ∧ ArgS ga gb base (k + 1) l none W' ∧ (∃ v, W'.cell? ⟨ga, 0, none⟩ = some v ∧ ∀ b, v.ownBlock = some b → W.heap.size ≤ b) := by
  have c1 := ha.cell 0
  have c2 := hb.cell 0
  have f1 := ha.frozen 0
  have f2 := hb.frozen 0
  have l1 := ha.lt
  have l2 := hb.lt
  simp at c1 c2
  have hlen := hr.len
  have hy : (([] : List Sp).length + m) * 16 ≤ 140737488355328 ∧ ([] : List Sp).length + m ≤ 140737488355328 := by rw [List.length_nil]; omega
  by_cases h0 : m = 0
  · have hl0 : l = [] := List.eq_nil_of_length_eq_zero (by omega)
    subst h0
    have hfr : ((l[0]?).map (·.1)).getD k = k := by rw [hl0]; rfl
    rw [hfr, show ((k + 1 : Nat) : Int) = (k : Int) + 1 from rfl]
    clear hfr
    have hB3 : Below W.heap.size W (((W.alloc (.cells #[.int .i64 a0, .string a1, .string a2, .string a3, .int .i64 a4, .int .i64 a5] 41)).alloc (.cells #[.int .i64 0, .int .i64 0] 86)).alloc (.cells #[.int .i64 (k : Nat), .int .i64 ((k : Int) + 1)] 86)) := (by repeat (first | exact Below.refl _ _ | assumption | refine b_then ?_ (by assumption) | refine b_alloc ?_ _ | refine b_drewN ?_ _ | refine Below.drew ?_ | refine b_set ?_ (by first | exact Nat.le_refl _ | (simp; done) | (simp; omega) | omega) _))
    have HRX := Lib.hid (hr.below hB3)
    have bxr : Blk (((W.alloc (.cells #[.int .i64 a0, .string a1, .string a2, .string a3, .int .i64 a4, .int .i64 a5] 41)).alloc (.cells #[.int .i64 0, .int .i64 0] 86)).alloc (.cells #[.int .i64 (k : Nat), .int .i64 ((k : Int) + 1)] 86)) (W.heap.size + 1) 86 #[.int .i64 0, .int .i64 0] := (blk_newAt _ _ _ (by simp)).alloc _
    have bxx : Blk (((W.alloc (.cells #[.int .i64 a0, .string a1, .string a2, .string a3, .int .i64 a4, .int .i64 a5] 41)).alloc (.cells #[.int .i64 0, .int .i64 0] 86)).alloc (.cells #[.int .i64 (k : Nat), .int .i64 ((k : Int) + 1)] 86)) (W.heap.size + 1 + 1) 86 #[.int .i64 (k : Nat), .int .i64 ((k : Int) + 1)] := blk_newAt _ _ _ (by simp)
    have hsz3 : (((W.alloc (.cells #[.int .i64 a0, .string a1, .string a2, .string a3, .int .i64 a4, .int .i64 a5] 41)).alloc (.cells #[.int .i64 0, .int .i64 0] 86)).alloc (.cells #[.int .i64 (k : Nat), .int .i64 ((k : Int) + 1)] 86)).heap.size = W.heap.size + 3 := by simp
    have hbase3 : W.heap.size ≤ (((W.alloc (.cells #[.int .i64 a0, .string a1, .string a2, .string a3, .int .i64 a4, .int .i64 a5] 41)).alloc (.cells #[.int .i64 0, .int .i64 0] 86)).alloc (.cells #[.int .i64 (k : Nat), .int .i64 ((k : Int) + 1)] 86)).heap.size := by omega
    go_enter Tryz.func61, Tryz.ntmps61
    go_wp2_with (at_builtin; refine wpList_appr (v := .slice none 0 0) Tryz.elSp Tryz.elSp.und (by omega) pCs_length pCs_one rfl (.const (.slice none 0 0)) (.tmp 21) rfl rfl (Own.nil (base := W.heap.size)) B 0 c l rfl HRX.out hy.1 hy.2 hbase3 ?_; intro v2 w2 hown2 hg2 hat2; (obtain ⟨A2, c2', hv2, hr2⟩ := hown2.rd pCs_length); subst hv2; (have hl2 : ([] ++ l : List Sp).length = 0 := hlen); rw [hl2] at hown2 hat2 ⊢; clear hr2 hl2; (have hB2 : Below W.heap.size W w2 := Own.frame (Own.nil (e := pCs) (z := 2) (T := 86) (base := W.heap.size)) hB3 (Nat.le_refl _) hg2); (have bA := ha.below hB2); (have bB := hb.below hB2); (have bR : Blk w2 (W.heap.size + 1) 86 #[.int .i64 0, .int .i64 0] := bxr.grown hg2 (by simp [Value.ownBlock])); (have bX : Blk w2 (W.heap.size + 1 + 1) 86 #[.int .i64 (k : Nat), .int .i64 ((k : Int) + 1)] := bxx.grown hg2 (by simp [Value.ownBlock])); (have hob : (Value.slice A2 0 c2').ownBlock = none ∨ (Value.slice A2 0 c2').ownBlock = some (W.heap.size + 3) := by rcases hat2 with h | h; exact .inl h; exact .inr (by rw [h, hsz3])); (have HOB := Lib.hid hob); (have HOWN := Lib.hid hown2); (have HB2 := Lib.hid hB2); (have HBA := Lib.hid bA); (have HBB := Lib.hid bB); (have HBR := Lib.hid bR); (have HBX := Lib.hid bX); (have u1 := bA.cell 0); (have u2 := bB.cell 0); (have u3 := bA.frozen 0); (have u4 := bB.frozen 0); (obtain ⟨u5, u6, u7, u8⟩ := bR.two); (obtain ⟨u9, u10, u11, u12⟩ := bX.two); (have hs2 := hB2.size); simp at u1 u2; clear hown2 hg2 hat2 hob hB2 bA bB bR bX bxr bxx)
    have hlt2 := HBX.out.lt
    have hr1 : ¬ ga = W.heap.size + 1 := by omega
    have hr2 : ¬ gb = W.heap.size + 1 := by omega
    have hne' : ¬ gb = ga := fun e => hne e.symm
    refine bodyPost_ret (v := .tuple #[.agg #[.int .i64 (k : Nat), .int .i64 ((k : Int) + 1)], .bool true]) ?_ rfl ?_
    · simp [results, Tryz.results61, go_sem, u5, u6, u7, u8, hr1, hr2]
    have hB2 := HB2.out
    refine ⟨rfl, ?_, ⟨⟨.slice A2 0 c2', ?_, ?_, fun g h => by cases h⟩, ?_⟩, ⟨.slice A2 0 c2', ?_, ?_⟩⟩
    · exact ((((KK.of hB2).set (p := ⟨ga, 0, none⟩) (.inl rfl) _).set (p := ⟨gb, 0, none⟩) (.inr (.inl rfl)) _).set (p := ⟨W.heap.size + 1, 0, none⟩) (.inr (.inr (Nat.le_succ _))) _).set (p := ⟨W.heap.size + 1, 1, none⟩) (.inr (.inr (Nat.le_succ _))) _
    · have h1 := HBA.out.set_ 0 (.slice A2 0 c2')
      exact ((h1.far (p := ⟨gb, 0, none⟩) hne _).far (p := ⟨W.heap.size + 1, 0, none⟩) (by show ga ≠ W.heap.size + 1; omega) _).far (p := ⟨W.heap.size + 1, 1, none⟩) (by show ga ≠ W.heap.size + 1; omega) _
    · have h1 := ((HOWN.out.setOld (p := ⟨ga, 0, none⟩) l1 (.slice A2 0 c2')).setOld (p := ⟨gb, 0, none⟩) l2 (.int .i64 ((k : Int) + 1)))
      have h2 : (Value.slice A2 0 c2').ownBlock ≠ some (W.heap.size + 1) := by rcases HOB.out with h | h <;> rw [h] <;> simp
      exact ((h1.farset (p := ⟨W.heap.size + 1, 0, none⟩) h2 _).farset (p := ⟨W.heap.size + 1, 1, none⟩) h2 _).lower hbase
    · have h1 := (HBB.out.far (p := ⟨ga, 0, none⟩) (Ne.symm hne) (.slice A2 0 c2')).set_ 0 (.int .i64 ((k : Int) + 1))
      exact (h1.far (p := ⟨W.heap.size + 1, 0, none⟩) (by show gb ≠ W.heap.size + 1; omega) _).far (p := ⟨W.heap.size + 1, 1, none⟩) (by show gb ≠ W.heap.size + 1; omega) _
    · have h1 := HBA.out.set_ 0 (.slice A2 0 c2')
      have h2 := ((h1.far (p := ⟨gb, 0, none⟩) hne (.int .i64 ((k : Int) + 1))).far (p := ⟨W.heap.size + 1, 0, none⟩) (by show ga ≠ W.heap.size + 1; omega) (.int .i64 (k : Nat))).far (p := ⟨W.heap.size + 1, 1, none⟩) (by show ga ≠ W.heap.size + 1; omega) (.int .i64 ((k : Int) + 1))
      exact h2.cell 0
    · intro b hbb
      rcases HOB.out with h | h
      · rw [h] at hbb; cases hbb
      · rw [h] at hbb; injection hbb with hbb; omega
  · obtain ⟨adb, s, rfl, hs0, hcs⟩ := sp_in hr (Below.refl _ _) (show 0 < m by omega)
    have hfr : ((l[0]?).map (·.1)).getD k = s.1 := by rw [hs0]; rfl
    have hmp : 0 < m := by omega
    rw [hfr, show ((k + 1 : Nat) : Int) = (k : Int) + 1 from rfl]
    have hcs0 := (hcs (((W.alloc (.cells #[.int .i64 a0, .string a1, .string a2, .string a3, .int .i64 a4, .int .i64 a5] 41)).alloc (.cells #[.int .i64 0, .int .i64 0] 86)).alloc (.cells #[.int .i64 (k : Nat), .int .i64 ((k : Int) + 1)] 86)) (by repeat (first | exact Below.refl _ _ | assumption | refine b_then ?_ (by assumption) | refine b_alloc ?_ _ | refine b_drewN ?_ _ | refine Below.drew ?_ | refine b_set ?_ (by first | exact Nat.le_refl _ | (simp; done) | (simp; omega) | omega) _))).1
    have ha0 : adb.add (0 * 2) = adb := rfl
    rw [ha0] at hcs0
    have hB : True := trivial
    obtain ⟨B', hB'⟩ : ∃ B' : Option Addr, B' = some adb := ⟨_, rfl⟩
    clear hfr hcs ha0 hs0
    have hB3 : Below W.heap.size W (((W.alloc (.cells #[.int .i64 a0, .string a1, .string a2, .string a3, .int .i64 a4, .int .i64 a5] 41)).alloc (.cells #[.int .i64 0, .int .i64 0] 86)).alloc (.cells #[.int .i64 (s.1 : Nat), .int .i64 ((k : Int) + 1)] 86)) := (by repeat (first | exact Below.refl _ _ | assumption | refine b_then ?_ (by assumption) | refine b_alloc ?_ _ | refine b_drewN ?_ _ | refine Below.drew ?_ | refine b_set ?_ (by first | exact Nat.le_refl _ | (simp; done) | (simp; omega) | omega) _))
    have HRX := Lib.hid (hr.below hB3)
    have bxr : Blk (((W.alloc (.cells #[.int .i64 a0, .string a1, .string a2, .string a3, .int .i64 a4, .int .i64 a5] 41)).alloc (.cells #[.int .i64 0, .int .i64 0] 86)).alloc (.cells #[.int .i64 (s.1 : Nat), .int .i64 ((k : Int) + 1)] 86)) (W.heap.size + 1) 86 #[.int .i64 0, .int .i64 0] := (blk_newAt _ _ _ (by simp)).alloc _
    have bxx : Blk (((W.alloc (.cells #[.int .i64 a0, .string a1, .string a2, .string a3, .int .i64 a4, .int .i64 a5] 41)).alloc (.cells #[.int .i64 0, .int .i64 0] 86)).alloc (.cells #[.int .i64 (s.1 : Nat), .int .i64 ((k : Int) + 1)] 86)) (W.heap.size + 1 + 1) 86 #[.int .i64 (s.1 : Nat), .int .i64 ((k : Int) + 1)] := blk_newAt _ _ _ (by simp)
    have hsz3 : (((W.alloc (.cells #[.int .i64 a0, .string a1, .string a2, .string a3, .int .i64 a4, .int .i64 a5] 41)).alloc (.cells #[.int .i64 0, .int .i64 0] 86)).alloc (.cells #[.int .i64 (s.1 : Nat), .int .i64 ((k : Int) + 1)] 86)).heap.size = W.heap.size + 3 := by simp
    have hbase3 : W.heap.size ≤ (((W.alloc (.cells #[.int .i64 a0, .string a1, .string a2, .string a3, .int .i64 a4, .int .i64 a5] 41)).alloc (.cells #[.int .i64 0, .int .i64 0] 86)).alloc (.cells #[.int .i64 (s.1 : Nat), .int .i64 ((k : Int) + 1)] 86)).heap.size := by omega
    go_enter Tryz.func61, Tryz.ntmps61
    go_wp2_with (at_builtin; refine wpList_appr (v := .slice none 0 0) Tryz.elSp Tryz.elSp.und (by omega) pCs_length pCs_one rfl (.const (.slice none 0 0)) (.tmp 21) rfl rfl (Own.nil (base := W.heap.size)) (some adb) m c l rfl HRX.out hy.1 hy.2 hbase3 ?_; intro v2 w2 hown2 hg2 hat2; (obtain ⟨A2, c2', hv2, hr2⟩ := hown2.rd pCs_length); subst hv2; (have hl2 : ([] ++ l : List Sp).length = m := hlen); rw [hl2] at hown2 hat2 ⊢; clear hr2 hl2; (have hB2 : Below W.heap.size W w2 := Own.frame (Own.nil (e := pCs) (z := 2) (T := 86) (base := W.heap.size)) hB3 (Nat.le_refl _) hg2); (have bA := ha.below hB2); (have bB := hb.below hB2); (have bR : Blk w2 (W.heap.size + 1) 86 #[.int .i64 0, .int .i64 0] := bxr.grown hg2 (by simp [Value.ownBlock])); (have bX : Blk w2 (W.heap.size + 1 + 1) 86 #[.int .i64 (s.1 : Nat), .int .i64 ((k : Int) + 1)] := bxx.grown hg2 (by simp [Value.ownBlock])); (have hob : (Value.slice A2 m c2').ownBlock = none ∨ (Value.slice A2 m c2').ownBlock = some (W.heap.size + 3) := by rcases hat2 with h | h; exact .inl h; exact .inr (by rw [h, hsz3])); (have HOB := Lib.hid hob); (have HOWN := Lib.hid hown2); (have HB2 := Lib.hid hB2); (have HBA := Lib.hid bA); (have HBB := Lib.hid bB); (have HBR := Lib.hid bR); (have HBX := Lib.hid bX); (have u1 := bA.cell 0); (have u2 := bB.cell 0); (have u3 := bA.frozen 0); (have u4 := bB.frozen 0); (obtain ⟨u5, u6, u7, u8⟩ := bR.two); (obtain ⟨u9, u10, u11, u12⟩ := bX.two); (have hs2 := hB2.size); simp at u1 u2; clear hown2 hg2 hat2 hob hB2 bA bB bR bX bxr bxx)
    have hlt2 := HBX.out.lt
    have hr1 : ¬ ga = W.heap.size + 1 := by omega
    have hr2 : ¬ gb = W.heap.size + 1 := by omega
    have hne' : ¬ gb = ga := fun e => hne e.symm
    refine bodyPost_ret (v := .tuple #[.agg #[.int .i64 (s.1 : Nat), .int .i64 ((k : Int) + 1)], .bool true]) ?_ rfl ?_
    · simp [results, Tryz.results61, go_sem, u5, u6, u7, u8, hr1, hr2]
    have hB2 := HB2.out
    refine ⟨rfl, ?_, ⟨⟨.slice A2 m c2', ?_, ?_, fun g h => by cases h⟩, ?_⟩, ⟨.slice A2 m c2', ?_, ?_⟩⟩
    · exact ((((KK.of hB2).set (p := ⟨ga, 0, none⟩) (.inl rfl) _).set (p := ⟨gb, 0, none⟩) (.inr (.inl rfl)) _).set (p := ⟨W.heap.size + 1, 0, none⟩) (.inr (.inr (Nat.le_succ _))) _).set (p := ⟨W.heap.size + 1, 1, none⟩) (.inr (.inr (Nat.le_succ _))) _
    · have h1 := HBA.out.set_ 0 (.slice A2 m c2')
      exact ((h1.far (p := ⟨gb, 0, none⟩) hne _).far (p := ⟨W.heap.size + 1, 0, none⟩) (by show ga ≠ W.heap.size + 1; omega) _).far (p := ⟨W.heap.size + 1, 1, none⟩) (by show ga ≠ W.heap.size + 1; omega) _
    · have h1 := ((HOWN.out.setOld (p := ⟨ga, 0, none⟩) l1 (.slice A2 m c2')).setOld (p := ⟨gb, 0, none⟩) l2 (.int .i64 ((k : Int) + 1)))
      have h2 : (Value.slice A2 m c2').ownBlock ≠ some (W.heap.size + 1) := by rcases HOB.out with h | h <;> rw [h] <;> simp
      exact ((h1.farset (p := ⟨W.heap.size + 1, 0, none⟩) h2 _).farset (p := ⟨W.heap.size + 1, 1, none⟩) h2 _).lower hbase
    · have h1 := (HBB.out.far (p := ⟨ga, 0, none⟩) (Ne.symm hne) (.slice A2 m c2')).set_ 0 (.int .i64 ((k : Int) + 1))
      exact (h1.far (p := ⟨W.heap.size + 1, 0, none⟩) (by show gb ≠ W.heap.size + 1; omega) _).far (p := ⟨W.heap.size + 1, 1, none⟩) (by show gb ≠ W.heap.size + 1; omega) _
    · have h1 := HBA.out.set_ 0 (.slice A2 m c2')
      have h2 := ((h1.far (p := ⟨gb, 0, none⟩) hne (.int .i64 ((k : Int) + 1))).far (p := ⟨W.heap.size + 1, 0, none⟩) (by show ga ≠ W.heap.size + 1; omega) (.int .i64 (s.1 : Nat))).far (p := ⟨W.heap.size + 1, 1, none⟩) (by show ga ≠ W.heap.size + 1; omega) (.int .i64 ((k : Int) + 1))
      exact h2.cell 0
    · intro b hbb
      rcases HOB.out with h | h
      · rw [h] at hbb; cases hbb
      · rw [h] at hbb; injection hbb with hbb; omega
end Go.Proofs.YtjdofncognaaoaaGreatDoor

/- Walks: term.Fold at spans. -/
namespace Go.Proofs.YtjdofncognaaoaaGreatDoor
open Go Go.RowKit
set_option linter.unusedVariables false
set_option linter.unusedSimpArgs false

/-- Where each of so many terms begins and ends. -/
def tspans (us : List (List Nd)) : List Sp := (List.range us.length).map fun i => (tlen (us.take i), tlen (us.take (i + 1)))
theorem tspans_len (us : List (List Nd)) : (tspans us).length = us.length := by unfold tspans; simp
theorem tspans_at {us : List (List Nd)} {i : Nat} (h : i < us.length) : (tspans us)[i]? = some (tlen (us.take i), tlen (us.take (i + 1))) := by unfold tspans; simp [h]
theorem tspans_take (us : List (List Nd)) (k : Nat) (hk : k ≤ us.length) : (tspans us).take k = tspans (us.take k) := by
  apply List.ext_getElem?
  intro i
  rw [List.getElem?_take]
  split
  next h => rw [tspans_at (by omega), tspans_at (by simp; omega), List.take_take, List.take_take, Nat.min_eq_left (by omega), Nat.min_eq_left (by omega)]
  next h => rw [List.getElem?_eq_none (by rw [tspans_len]; simp; omega)]
theorem tspans_snoc (us : List (List Nd)) (x : List Nd) : tspans (us ++ [x]) = tspans us ++ [(tlen us, tlen us + x.length)] := by
  apply List.ext_getElem?
  intro i
  by_cases h : i < us.length
  · rw [List.getElem?_append_left (by rw [tspans_len]; exact h), tspans_at (by simp; omega), tspans_at h, List.take_append_of_le_length (by omega), List.take_append_of_le_length (by omega)]
  · by_cases h2 : i = us.length
    · subst h2
      rw [tspans_at (by simp), List.getElem?_append_right (by rw [tspans_len]; omega), tspans_len]
      have e : (us ++ [x]).take (us.length + 1) = us ++ [x] := List.take_of_length_le (by simp)
      rw [e, tlen_append, tlen_one]
      simp
    · rw [List.getElem?_eq_none (by rw [tspans_len]; simp; omega), List.getElem?_eq_none (by simp [tspans_len]; omega)]
theorem nterm_k {t : List Nd} {k : Nat} {us : List (List Nd)} (h : tfold nterm [] (t.take k) = some us) (hk : k ≤ t.length) : tlen us = k := by
  have := nterm_flat h
  unfold tlen
  rw [this]
  simp; omega
/-- One node more: the stack's spans, and what the closure saw. -/
theorem span_step {t : List Nd} {k q m : Nat} {us : List (List Nd)} {a : Nd} (h : tfold nterm [] (t.take k) = some us) (hk : t[k]? = some a) (hm : arity a.op = (m : Int)) (hs : us.length = q + m) :
    ∃ vs, tfold nterm [] (t.take (k + 1)) = some vs ∧ vs.length = q + 1 ∧ tspans vs = (tspans us).take q ++ [(((((tspans us).drop q)[0]?).map (·.1)).getD k, k + 1)] := by
  have hkl := (List.getElem?_eq_some_iff.1 hk).1
  have hst : tstep nterm us a = some (us.take q ++ [(us.drop q).flatten ++ [a]]) := by rw [tstep_at hm hs]; rfl
  refine ⟨_, (tfold_at h hk).trans hst, by rw [List.length_append, List.length_take]; simp; omega, ?_⟩
  rw [tspans_snoc, tspans_take _ _ (by omega)]
  have hk2 := nterm_k h (by omega)
  have hsum : tlen us = tlen (us.take q) + tlen (us.drop q) := by rw [← tlen_append, List.take_append_drop]
  have e1 : tlen (us.take q) + ((us.drop q).flatten ++ [a]).length = k + 1 := by
    rw [List.length_append]
    show tlen (us.take q) + (tlen (us.drop q) + 1) = _
    omega
  have e2 : ((((tspans us).drop q)[0]?).map (·.1)).getD k = tlen (us.take q) := by
    rw [List.getElem?_drop, Nat.add_zero]
    by_cases h0 : m = 0
    · rw [List.getElem?_eq_none (by rw [tspans_len]; omega)]
      have : us.take q = us := List.take_of_length_le (by omega)
      rw [this, hk2]; rfl
    · rw [tspans_at (by omega)]; rfl
  rw [e1, e2]
/-- What the closure saw last: of a formed term, the spans of its parts. -/
def SawL (t : List Nd) (k : Nat) (l : List Sp) : Prop := k = 0 ∨ ∃ (us : List (List Nd)) (q m : Nat) (a : Nd), t[k - 1]? = some a ∧ tfold nterm [] (t.take (k - 1)) = some us ∧ arity a.op = (m : Int) ∧ us.length = q + m ∧ l = (tspans us).drop q
theorem saw_end {t : List Nd} {l : List Sp} (hf : tform t = true) (h : SawL t t.length l) : l = tspans (targsP t) := by
  obtain ⟨s, nd, hsn⟩ : ∃ s nd, t = s ++ [nd] := by
    rcases List.eq_nil_or_concat t with h | ⟨s, nd, h⟩
    · rw [h] at hf; rw [tform_nil] at hf; cases hf
    · exact ⟨s, nd, by rw [h, List.concat_eq_append]⟩
  obtain ⟨p, e1, e2, e3, e4, _⟩ := targs_of hf hsn
  rcases h with h | ⟨us, q, m, a, h1, h2, h3, h4, h5⟩
  · rw [hsn] at h; simp at h
  · have hl : t.length - 1 = s.length := by rw [hsn]; simp
    rw [hl] at h1 h2
    have ha : a = nd := by rw [hsn] at h1; simpa using h1.symm
    have hs : t.take s.length = s := by rw [hsn, List.take_left]
    rw [hs, e2] at h2
    injection h2 with h2
    subst ha; subst h2
    rw [h5, e1]
    have : q = 0 := by omega
    subst this; rfl
theorem run_alloc_sp {o : Oper} {a : Act} {W : World} (h : o.op = .alloc 86) : (execOp a.eval o).run Tryz.prog W = .ok (.value (.pointer (some ⟨W.heap.size, 0, none⟩))) (W.alloc (.cells #[.int .i64 0, .int .i64 0] 86)) := by
  simp [execOp, h, go_sem]
theorem run_store_sp {o : Oper} {a : Act} {W : World} {dA t g : Nat} {u1 u2 : Int} {z1 z2 : Value} (h : o.op = .store 86 (.tmp dA) (.tmp t)) (h1 : a.tmps[dA]? = some (.pointer (some ⟨g, 0, none⟩))) (h2 : a.tmps[t]? = some (.agg #[.int .i64 u1, .int .i64 u2])) (hB : Blk W g 86 #[z1, z2]) :
    (execOp a.eval o).run Tryz.prog W = .ok .skip ((W.setCell ⟨g, 0, none⟩ (.int .i64 u1)).setCell ⟨g, 1, none⟩ (.int .i64 u2)) := by
  obtain ⟨c0, c1, f0, f1⟩ := hB.two
  simp [execOp, h, h1, h2, go_sem, c0, c1, f0, f1]
theorem ArgS.below {ga gb base k : Nat} {l : List Sp} {og : Option Nat} {W W' : World} (h : ArgS ga gb base k l og W) (hb : Below W.heap.size W W') : ArgS ga gb base k l og W' := by
  obtain ⟨v, h1, h2, h3⟩ := h.ex
  exact ⟨⟨v, h1.below hb, h2.below hb, h3⟩, h.at_.below hb⟩
theorem ArgS.none_some {ga gb base k : Nat} {l : List Sp} {W W' : World} (h : ArgS ga gb base k l none W) (hb : Below W.heap.size W W') : ArgS ga gb base k l (some W.heap.size) W' := by
  obtain ⟨v, h1, h2, h3⟩ := h.ex
  exact ⟨⟨v, h1.below hb, h2.below hb, fun g hg e => by injection hg with hg; have := h2.lt _ e; omega⟩, h.at_.below hb⟩
theorem ArgS.forget {ga gb base k : Nat} {l : List Sp} {og : Option Nat} {W : World} (h : ArgS ga gb base k l og W) : ArgS ga gb base k l none W := by
  obtain ⟨v, h1, h2, h3⟩ := h.ex
  exact ⟨⟨v, h1, h2, fun g hg => by cases hg⟩, h.at_⟩
theorem ArgS.set {ga gb base k : Nat} {l : List Sp} {g : Nat} {W : World} (h : ArgS ga gb base k l (some g) W) (h1 : ga ≠ g) (h2 : gb ≠ g) (i : Nat) (u : Value) : ArgS ga gb base k l (some g) (W.setCell ⟨g, i, none⟩ u) := by
  obtain ⟨v, e1, e2, e3⟩ := h.ex
  exact ⟨⟨v, e1.far (p := ⟨g, i, none⟩) h1 u, e2.farset (p := ⟨g, i, none⟩) (e3 g rfl) u, e3⟩, h.at_.far (p := ⟨g, i, none⟩) h2 u⟩
theorem ArgS.setNe {ga gb base k : Nat} {l : List Sp} {og : Option Nat} {g : Nat} {W : World} (h : ArgS ga gb base k l og W) (h1 : ga ≠ g) (h2 : gb ≠ g) (h3 : ∀ v, Blk W ga 84 #[v] → v.ownBlock ≠ some g) (i : Nat) (u : Value) : ArgS ga gb base k l og (W.setCell ⟨g, i, none⟩ u) := by
  obtain ⟨v, e1, e2, e3⟩ := h.ex
  exact ⟨⟨v, e1.far (p := ⟨g, i, none⟩) h1 u, e2.farset (p := ⟨g, i, none⟩) (h3 v e1) u, e3⟩, h.at_.far (p := ⟨g, i, none⟩) h2 u⟩
theorem ArgS.setLo {ga gb base k : Nat} {l : List Sp} {g : Nat} {W : World} (h : ArgS ga gb base k l none W) (h1 : ga ≠ g) (h2 : gb ≠ g) (h3 : g < base) (i : Nat) (u : Value) : ArgS ga gb base k l none (W.setCell ⟨g, i, none⟩ u) := by
  obtain ⟨v, e1, e2, e3⟩ := h.ex
  exact ⟨⟨v, e1.far (p := ⟨g, i, none⟩) h1 u, e2.setOld (p := ⟨g, i, none⟩) h3 u, e3⟩, h.at_.far (p := ⟨g, i, none⟩) h2 u⟩
theorem ArgS.grown {ga gb base k : Nat} {l : List Sp} {og : Option Nat} {W W' : World} (h : ArgS ga gb base k l og W) (hg : W.grownBy W' og) (h1 : og ≠ some ga) (h2 : og ≠ some gb) : ArgS ga gb base k l none W' := by
  obtain ⟨v, e1, e2, e3⟩ := h.ex
  refine ⟨⟨v, e1.grown hg h1, e2.grown hg ?_, fun g hg => by cases hg⟩, h.at_.grown hg h2⟩
  cases hv : v.ownBlock with
  | none => exact .inl rfl
  | some b => exact .inr fun e => e3 b e.symm hv
theorem KK.frame {α : Type} {e : α → List Value} {z : Nat} {T : TypeId} {ga gb base : Nat} {v : Value} {xs : List α} {w W W' : World} (h : KK ga gb w W) (ho : Own e z T W base v xs) (hb : w.heap.size ≤ base) (hg : W.grownBy W' v.ownBlock) : KK ga gb w W' := by
  refine ⟨hg.os.trans h.os, hg.tape.trans h.tape, hg.output.trans h.output, Nat.le_trans h.size hg.size, fun i hi h1 h2 => (hg.block i (Nat.lt_of_lt_of_le hi h.size) fun e => ?_).trans (h.block i hi h1 h2)⟩
  have := ho.base_le i e.symm
  omega
theorem tform_bad {t : List Nd} {k : Nat} {us : List (List Nd)} {a : Nd} (h : tfold nterm [] (t.take k) = some us) (hk : t[k]? = some a) (hm : arity a.op < 0 ∨ (us.length : Int) < arity a.op) : tform t = false := by
  rw [← Bool.not_eq_true]
  intro hf
  obtain ⟨h3, h4⟩ := tm_next (tform_iff.1 hf).2 hk h
  omega
theorem tform_fin {t : List Nd} {us : List (List Nd)} (h : tfold nterm [] (t.take t.length) = some us) (hl : t.length ≤ 2000) : tform t = (us.length == 1) := by
  rw [List.take_length] at h
  have hfl := nterm_flat h
  rw [List.flatten_nil, List.nil_append] at hfl
  rw [Bool.eq_iff_iff, tform_iff, beq_iff_eq]
  constructor
  · rintro ⟨_, ht⟩
    unfold Tm at ht
    rw [h] at ht
    injection ht with ht
    rw [ht]; rfl
  · intro h1
    refine ⟨hl, ?_⟩
    unfold Tm
    match us, h1 with
    | [u], _ =>
      have : u = t := by simpa using hfl
      rw [h, this]
/-- What the fold gives. -/
def FoldSp (t : List Nd) (n : Nat) (w0 : World) (ga gb base : Nat) (e : Ending) (W' : World) : Prop :=
  ∃ x1 x2 : Int, e = .returned (.tuple #[.agg #[.int .i64 x1, .int .i64 x2], .bool (tform t)]) ∧ Below w0.heap.size w0 W' ∧ (tform t = true → ∃ v, W'.cell? ⟨ga, 0, none⟩ = some v ∧ Own pCs 2 86 W' base v (tspans (targsP t)))
set_option maxRecDepth 100000 in
set_option maxHeartbeats 16000000 in
theorem fold_sp {A : Option Addr} {n c : Nat} {t : List Nd} (ga gb : Nat) (w0 W1 : World) (hx : Rd Nd.cs 6 w0 A n t) (hB0 : Below w0.heap.size w0 W1) (hga : w0.heap.size ≤ ga) (hgb : w0.heap.size ≤ gb) (hne : ga ≠ gb) (hA0 : ArgS ga gb (W1.heap.size + 2) 0 [] none W1) :
    Calls Tryz.prog 60 #[.slice A n c, .func (.func 61) #[] #[.pointer (some ⟨gb, 0, none⟩), .pointer (some ⟨ga, 0, none⟩)]] W1 fun e W' => FoldSp t n w0 ga gb (W1.heap.size + 2) e W' := by
  have hbig := hx.big
  have hlen := hx.len
  have l1 : ga < W1.heap.size := by obtain ⟨v, h1, _⟩ := hA0.ex; exact h1.lt
  have l2 : gb < W1.heap.size := hA0.at_.lt
  have hw01 := hB0.size
  obtain ⟨R, hR⟩ : ∃ R, tform t = R := ⟨_, rfl⟩
  have HRR := Lib.hid hR
  have HPOST := Lib.hid (show ∀ (b : Bool) (W' : World) (x1 x2 : Int), R = b → KK ga gb W1 W' → (b = true → ∃ v, W'.cell? ⟨ga, 0, none⟩ = some v ∧ Own pCs 2 86 W' (W1.heap.size + 2) v (tspans (targsP t))) → FoldSp t n w0 ga gb (W1.heap.size + 2) (.returned (.tuple #[.agg #[.int .i64 x1, .int .i64 x2], .bool b])) W' from fun b W' x1 x2 hb h1 h2 => ⟨x1, x2, by rw [hR, hb], h1.low hB0 hga hgb hw01, by rw [hR, hb]; exact h2⟩)
  clear hR
  have bz1 : Blk ((W1.alloc (.cells #[.int .i64 0, .int .i64 0] 86)).alloc (.cells #[.int .i64 0, .int .i64 0] 86)) W1.heap.size 86 #[.int .i64 0, .int .i64 0] := (Blk.new _ _ _).alloc _
  have bz2 : Blk ((W1.alloc (.cells #[.int .i64 0, .int .i64 0] 86)).alloc (.cells #[.int .i64 0, .int .i64 0] 86)) (W1.heap.size + 1) 86 #[.int .i64 0, .int .i64 0] := blk_newAt _ _ _ (by simp)
  have hk0 : KK ga gb W1 ((W1.alloc (.cells #[.int .i64 0, .int .i64 0] 86)).alloc (.cells #[.int .i64 0, .int .i64 0] 86)) := KK.of (by repeat (first | exact Below.refl _ _ | assumption | refine b_then ?_ (by assumption) | refine b_alloc ?_ _ | refine b_drewN ?_ _ | refine Below.drew ?_ | refine b_set ?_ (by first | exact Nat.le_refl _ | (simp; done) | (simp; omega) | omega) _))
  by_cases hn : n ≤ 2000
  · have HL := Lib.hid hlen
    have HA0 := Lib.hid (hA0.below (W' := ((W1.alloc (.cells #[.int .i64 0, .int .i64 0] 86)).alloc (.cells #[.int .i64 0, .int .i64 0] 86))) (by repeat (first | exact Below.refl _ _ | assumption | refine b_then ?_ (by assumption) | refine b_alloc ?_ _ | refine b_drewN ?_ _ | refine Below.drew ?_ | refine b_set ?_ (by first | exact Nat.le_refl _ | (simp; done) | (simp; omega) | omega) _)))
    have HZ1 := Lib.hid bz1
    have HZ2 := Lib.hid bz2
    have HK0 := Lib.hid hk0
    clear hlen hA0 bz1 bz2 hk0
    go_enter Tryz.func60, Tryz.ntmps60
    go_wp2
    go_loopw [7, 19] (fun sv iv wr => ∃ (k L cc : Nat) (B : Option Addr) (us : List (List Nd)) (lp : List Sp), k ≤ n ∧ iv = .int .i64 k ∧ sv = .slice B L cc ∧ L ≤ k ∧ Hid (us.length = L) ∧ Hid (Own pCs 2 86 wr W1.heap.size (.slice B L cc) (tspans us)) ∧ Hid (tfold nterm [] (t.take k) = some us) ∧ Hid (Blk wr W1.heap.size 86 #[.int .i64 0, .int .i64 0]) ∧ Hid (Blk wr (W1.heap.size + 1) 86 #[.int .i64 0, .int .i64 0]) ∧ Hid (Value.ownBlock (.slice B L cc) ≠ some W1.heap.size ∧ Value.ownBlock (.slice B L cc) ≠ some (W1.heap.size + 1)) ∧ Hid (ArgS ga gb (W1.heap.size + 2) k lp none wr) ∧ Hid (SawL t k lp) ∧ Hid (KK ga gb W1 wr)) (fun _ iv _ => n - (intOf iv).toNat)
    case atStart => exact ⟨0, 0, 0, none, [], [], Nat.zero_le _, rfl, rfl, Nat.le_refl _, rfl, Own.nil, rfl, HZ1, HZ2, ⟨by simp [Value.ownBlock], by simp [Value.ownBlock]⟩, HA0, .inl rfl, HK0⟩
    case round =>
      clear HA0 HZ1 HZ2 HK0
      obtain ⟨k, L, cc, B, us, lp, hk, rfl, rfl, hLk, HUL, HO, HT, HZ1, HZ2, HOB, HA, HSw, HK⟩ := hrel
      have hlow : Below w0.heap.size w0 wr := HK.out.low hB0 hga hgb hw01
      have hwsz := HK.out.size
      obtain ⟨p1, p2, p3, p4⟩ := HZ1.out.two
      obtain ⟨p5, p6, p7, p8⟩ := HZ2.out.two
      have pl1 := HZ1.out.lt
      have pl2 := HZ2.out.lt
      obtain ⟨hnl, hLc, hBs⟩ := HO.out.shape
      clear hnl
      by_cases hlt : k < n
      · obtain ⟨ad, a0, a1, a2, a3, a4, a5, rfl, hxk, hl⟩ := nd_in hx hlow hlt
        have HX := Lib.hid hxk
        obtain ⟨x0, x1, x2, x3, x4, x5, x6⟩ := hl wr (Below.refl _ _)
        have hAr := fun W => p_arity a0 W
        clear hxk hl
        by_cases hneg : arity a0 < 0
        · have HE : Hid (R = false) := by rw [← HRR.out]; exact tform_bad HT.out HX.out (.inl hneg)
          generalize arity a0 = ar at *
          go_wp2_with (go_at_call 25; (with_reducible refine (hAr _).mono ?_); rintro e w' ⟨rfl, rfl⟩)
          obtain ⟨r1, r2, r3, r4⟩ := ((HZ1.out.put2 (.int .i64 0) (.int .i64 0)).alloc (.cells #[.int .i64 a0, .string a1, .string a2, .string a3, .int .i64 a4, .int .i64 a5] 41)).two
          refine bodyPost_ret (v := .tuple #[.agg #[.int .i64 0, .int .i64 0], .bool false]) ?_ rfl ?_
          · simp [results, Tryz.results60, go_sem, r1, r2, r3, r4]
          · exact HPOST.out _ _ _ _ HE.out (((HK.out.set (p := ⟨W1.heap.size, 0, none⟩) (.inr (.inr (Nat.le_refl _))) _).set (p := ⟨W1.heap.size, 1, none⟩) (.inr (.inr (Nat.le_refl _))) _).below (b_alloc (Below.refl _ _) _)) (fun h => by cases h)
        · obtain ⟨m, hm⟩ : ∃ m : Nat, arity a0 = (m : Int) := ⟨(arity a0).toNat, by omega⟩
          rw [hm] at hAr
          by_cases hmL : L < m
          · have HE : Hid (R = false) := by rw [← HRR.out]; exact tform_bad HT.out HX.out (.inr (by rw [HUL.out, show arity (⟨a0, ⟨a1, a2⟩, a3, a4, a5⟩ : Nd).op = (m : Int) from hm]; omega))
            clear hneg hm
            go_wp2_with (go_at_call 25; (with_reducible refine (hAr _).mono ?_); rintro e w' ⟨rfl, rfl⟩)
            obtain ⟨r1, r2, r3, r4⟩ := ((HZ1.out.put2 (.int .i64 0) (.int .i64 0)).alloc (.cells #[.int .i64 a0, .string a1, .string a2, .string a3, .int .i64 a4, .int .i64 a5] 41)).two
            refine bodyPost_ret (v := .tuple #[.agg #[.int .i64 0, .int .i64 0], .bool false]) ?_ rfl ?_
            · simp [results, Tryz.results60, go_sem, r1, r2, r3, r4]
            · exact HPOST.out _ _ _ _ HE.out (((HK.out.set (p := ⟨W1.heap.size, 0, none⟩) (.inr (.inr (Nat.le_refl _))) _).set (p := ⟨W1.heap.size, 1, none⟩) (.inr (.inr (Nat.le_refl _))) _).below (b_alloc (Below.refl _ _) _)) (fun h => by cases h)
          · obtain ⟨q, rfl⟩ : ∃ q, L = q + m := ⟨L - m, by omega⟩
            have hm3 : m ≤ 3 := by have := arity_le a0; omega
            have HM := Lib.hid hm
            clear hneg hm hmL
            obtain ⟨Y, hY⟩ : ∃ Y, wr.alloc (.cells #[.int .i64 a0, .string a1, .string a2, .string a3, .int .i64 a4, .int .i64 a5] 41) = Y := ⟨_, rfl⟩
            have hYs : Y.heap.size = wr.heap.size + 1 := by rw [← hY]; simp
            have bx : Blk Y wr.heap.size 41 #[.int .i64 a0, .string a1, .string a2, .string a3, .int .i64 a4, .int .i64 a5] := by rw [← hY]; exact Blk.new _ _ _
            have hKY : KK ga gb W1 Y := by rw [← hY]; exact HK.out.below (b_alloc (Below.refl _ _) _)
            have hOY : Own pCs 2 86 Y W1.heap.size (.slice B (q + m) cc) (tspans us) := by rw [← hY]; exact HO.out.alloc _
            have hAY : ArgS ga gb (W1.heap.size + 2) k lp none Y := by rw [← hY]; exact HA.out.below (b_alloc (Below.refl _ _) _)
            have hZ1Y : Blk Y W1.heap.size 86 #[.int .i64 0, .int .i64 0] := by rw [← hY]; exact HZ1.out.alloc _
            have hZ2Y : Blk Y (W1.heap.size + 1) 86 #[.int .i64 0, .int .i64 0] := by rw [← hY]; exact HZ2.out.alloc _
            have hn1 : wr.heap.size ≠ ga := by omega
            have hn2 : wr.heap.size ≠ gb := by omega
            have z0 := fun (x : Kc (fun W => KK ga gb Y W)) (y : After x.W) => (nd_bx ((x.h.blk bx hn1 hn2).below y.h)).c0
            have z1 := fun (x : Kc (fun W => KK ga gb Y W)) (y : After x.W) => (nd_bx ((x.h.blk bx hn1 hn2).below y.h)).c1
            have z2 := fun (x : Kc (fun W => KK ga gb Y W)) (y : After x.W) => (nd_bx ((x.h.blk bx hn1 hn2).below y.h)).c2
            have z3 := fun (x : Kc (fun W => KK ga gb Y W)) (y : After x.W) => (nd_bx ((x.h.blk bx hn1 hn2).below y.h)).c3
            have z4 := fun (x : Kc (fun W => KK ga gb Y W)) (y : After x.W) => (nd_bx ((x.h.blk bx hn1 hn2).below y.h)).c4
            have z5 := fun (x : Kc (fun W => KK ga gb Y W)) (y : After x.W) => (nd_bx ((x.h.blk bx hn1 hn2).below y.h)).c5
            obtain ⟨B2, hB2, hRB⟩ : ∃ B2, (if cc = q then B else B.map (fun x : Addr => x.add (q * 2))) = B2 ∧ ∀ W, KK ga gb Y W → Rd pCs 2 W B2 m ((tspans us).drop q) := by
              refine ⟨_, rfl, fun W hW => ?_⟩
              have hr := (hW.own hOY l1 l2).rd_ pCs_length
              by_cases hc : cc = q
              · rw [if_pos hc]
                have hm0 : m = 0 := by omega
                subst hm0
                have : (tspans us).drop q = [] := List.drop_of_length_le (by rw [tspans_len, HUL.out]; omega)
                rw [this]; exact Rd.nil
              · rw [if_neg hc]
                rcases hBs with ⟨rfl, h1, h2⟩ | ⟨g, rfl⟩
                · omega
                · have := hr.from_ (q := q) (by omega)
                  rwa [show q + m - q = m by omega] at this
            obtain ⟨vs, sv1, sv2, sv3⟩ := span_step HT.out HX.out HM.out HUL.out
            obtain ⟨fr, hfr⟩ : ∃ fr, ((((tspans us).drop q)[0]?).map (·.1)).getD k = fr := ⟨_, rfl⟩
            rw [hfr] at sv3
            have hC := fun W (va : Value) (cq : Nat) (hW : KK ga gb Y W) (e1 : Blk W ga 84 #[va]) (e2 : Blk W gb 3 #[.int .i64 (k : Nat)]) => p_args1 (c := cq) (base := W1.heap.size + 2) ga gb k va W hne e1 e2 (hRB W hW) (by omega) (by omega) (by have := hW.size; omega) a0 a1 a2 a3 a4 a5
            rw [hfr] at hC
            have SV1 := Lib.hid sv1
            have SV2 := Lib.hid sv2
            have SV3 := Lib.hid sv3
            have hSaw : SawL t (k + 1) ((tspans us).drop q) := .inr ⟨us, q, m, _, HX.out, HT.out, HM.out, HUL.out, rfl⟩
            have HSAW := Lib.hid hSaw
            have hs1 : (B.map fun x : Addr => x.add 0) = B := add0 B
            have hCut := Lib.hid (hOY.cut pCs_length (k := q) (by rw [tspans_len, HUL.out]; omega))
            have hcl : ((tspans us).take q).length = q := by rw [List.length_take, tspans_len, HUL.out]; omega
            have HCL := Lib.hid hcl
            have HY := Lib.hid hY
            clear hRB hfr sv1 sv2 sv3 hSaw hcl hOY hY
            go_wp2_with (go_at_call 25; (with_reducible refine (hAr _).mono ?_); rintro e w' ⟨rfl, rfl⟩)
            rw [HY.out]
            refine wp_region_callbox Y.heap.size 8 12 13 44 11 (.tuple #[.agg #[.int .i64 (fr : Nat), .int .i64 ((k + 1 : Nat) : Int)], .bool true]) 86 #[.int .i64 0, .int .i64 0] #[.int .i64 (fr : Nat), .int .i64 ((k + 1 : Nat) : Int)] (fun W => KK ga gb Y W) (fun W => ArgS ga gb (W1.heap.size + 2) k lp none W) (fun og W => ArgS ga gb (W1.heap.size + 2) (k + 1) ((tspans us).drop q) og W ∧ ArgS ga gb (W1.heap.size + 2) (k + 1) ((tspans us).drop q) (Value.slice B q cc).ownBlock W) ?cbA (by kernel_rfl) (fun g => by kernel_rfl) (fun g x => ?cbH) ⟨fun W W' h hb => h.below hb, by kernel_rfl, by kernel_rfl, by decide, by decide, by decide, by kernel_rfl, by kernel_rfl, fun W h => h.size, fun W W' h hb => h.below hb, fun og W W' h hb => ⟨h.1.below hb, h.2.below hb⟩, fun W W' h hb => ⟨h.1.none_some hb, h.2.below hb⟩, ?cbC, ?cbAl, ?cbS, ?cbZ, ?cbQ⟩ (KK.refl _ _ _) hAY (by decide) (by decide) (by decide)
            case cbH =>
              simp only [cbl, List.modify_succ_cons, List.modify_zero_cons, repV]
              (have hxs := x.h.size)
              (repeat (first | go_big_quiet_skip | (go_big_quiet_want; go_big_quiet_op; first | go_big_quiet_on | (apply Exists.intro; refine ⟨fun _ => ?_, ?_⟩; (focus fail); go_big_quiet_on))))
              refine wpQuiet_nil ?_
              rfl
            case cbC =>
              intro g
              refine ⟨_, rfl, rfl, fun a W og hKW hS0 hog hgv => ?_⟩
              have g1 := (hgv 0 _ 36 rfl rfl (by kernel_rfl)).trans rfl
              have g2 := (hgv 1 _ 37 rfl rfl (by kernel_rfl)).trans rfl
              have g3 := (hgv 7 _ 43 rfl rfl (by kernel_rfl)).trans rfl
              obtain ⟨va, e1, e2, _⟩ := hS0.ex
              refine ⟨wanted_none rfl, wpOp_call rfl (wanted_none rfl) (by simp [execOp, go_sem, g1, g2, g3]) ((hC W va (cc - q) hKW e1 hS0.at_).mono fun e W' hh => ?_)⟩
              obtain ⟨he, hKK, hAr', v, hv, hob⟩ := hh
              refine ⟨_, he, rfl, hKW.then_ hKK, ?_, fun b hb => hKK.block b (hog b hb).1 (by have := (hog b hb).2; omega) (by have := (hog b hb).2; omega)⟩
              obtain ⟨v', f1, f2, _⟩ := hAr'.ex
              have hvv : v' = v := by have := (f1.cell 0).symm.trans hv; simpa using this
              subst hvv
              have hstk := hCut.out.lt
              have hKs := hKW.size
              exact ⟨⟨⟨v', f1, f2, fun b hb hb2 => by have := hob b hb2; have := (hog b hb).1; omega⟩, hAr'.at_⟩, ⟨⟨v', f1, f2, fun b hb hb2 => by have := hob b hb2; have := hstk b hb; omega⟩, hAr'.at_⟩⟩
            case cbAl => exact fun g => ⟨_, rfl, rfl, fun a W => ⟨wanted_none rfl, wpOp_val rfl (wanted_none rfl) (run_alloc_sp rfl) ⟨rfl, rfl⟩⟩⟩
            case cbS =>
              intro g
              refine ⟨_, rfl, rfl, fun a W hKW hS1 hbl hlo hgv => ?_⟩
              have g1 := (hgv 12 _ 11 rfl rfl (by kernel_rfl)).trans rfl
              have g2 := (hgv 10 _ 45 rfl rfl (by kernel_rfl)).trans rfl
              have hgl := hbl.lt
              have hga' : ga ≠ g := by omega
              have hgb' : gb ≠ g := by omega
              refine ⟨wanted_none rfl, wpOp_run rfl rfl (run_store_sp rfl g1 g2 hbl) ?_⟩
              refine ⟨rfl, (hKW.set (p := ⟨g, 0, none⟩) (.inr (.inr hlo)) _).set (p := ⟨g, 1, none⟩) (.inr (.inr hlo)) _, ⟨(hS1.1.set hga' hgb' _ _).set hga' hgb' _ _, ?_⟩, hbl.put2 _ _⟩
              have hstk := hCut.out.lt
              exact (hS1.2.setNe hga' hgb' (fun v hv => by obtain ⟨v2, f1, f2, f3⟩ := hS1.1.ex; have := (hv.cell 0).symm.trans (f1.cell 0); have : v = v2 := (by simpa using this); subst this; exact f3 g rfl) _ _).setNe hga' hgb' (fun v hv => by obtain ⟨v2, f1, f2, f3⟩ := (hS1.1.set hga' hgb' _ _).ex; have := (hv.cell 0).symm.trans (f1.cell 0); have : v = v2 := (by simpa using this); subst this; exact f3 g rfl) _ _
            case cbZ => exact fun g => by first | rfl | (simp; exact ⟨rfl, rfl⟩)
            case cbQ =>
              rintro g5 w5 hK5 hS5 hb5 hlo5
              have hl5 := hb5.lt
              have hKw5 : KK ga gb W1 w5 := hKY.then_ hK5
              have HC5 := Lib.hid (hK5.own hCut.out l1 l2)
              have HZ15 := Lib.hid (hK5.blk hZ1Y (by omega) (by omega))
              have HZ25 := Lib.hid (hK5.blk hZ2Y (by omega) (by omega))
              have HKW5 := Lib.hid hKw5
              have HS5 := Lib.hid hS5.2
              have hsz5 := hKw5.size
              have y0 := fun (x : After w5) (y : After x.W) => (hb5.below (b_then x.h y.h)).two.1
              have y1 := fun (x : After w5) (y : After x.W) => (hb5.below (b_then x.h y.h)).two.2.1
              have HB5 := Lib.hid hb5
              clear z0 z1 z2 z3 z4 z5 hK5 hS5 hb5 hKw5 bx hKY hAY hZ1Y hZ2Y
              (try dsimp only)
              go_wp2
              (refine wp_region_src 8 7 57 1 (fun B7 k7 W => Rd pCs 2 W B7 1 [(fr, k + 1)]) ?srcA6 (by kernel_rfl) (fun pp => by kernel_rfl) (fun pp x => ?srcH6) ⟨by kernel_rfl, by kernel_rfl, by decide, by decide, ?srcK6, fun B k W W' h hb => h.below hb, ?srcG6, ?srcQ6⟩; (case srcH6 => (simp only [srcl, List.modify_succ_cons, List.modify_zero_cons, repV, List.take_succ_cons, List.take_zero]; (have hxs := x.h.size); (try simp at hxs); (repeat (first | go_big_quiet_skip | (go_big_quiet_want; go_big_quiet_op; first | go_big_quiet_on | (apply Exists.intro; refine ⟨fun _ => ?_, ?_⟩; (focus (fail)); go_big_quiet_on)))); refine wpQuiet_nil ?_; rfl)); (case srcK6 => (intro pp; refine ⟨_, rfl, rfl, fun a W hW hgv => ?_⟩; have g := (hgv 6 _ 56 rfl rfl (by kernel_rfl)).trans rfl; exact src_built (b := .cells #[.int .i64 (fr : Nat), .int .i64 ((k + 1 : Nat) : Int)] 86) (k := 1) rfl rfl rfl (by simp [execOp, go_sem, g]) (Rd.made pCs_length _ 86 [(fr, k + 1)] (by simp) rfl rfl rfl))); (case srcG6 => (intro pp; first | rfl | (simp; exact ⟨rfl, rfl⟩))); rintro ⟨B6, k6⟩ w6 R6 hb6; (try dsimp only at R6); simp only [List.drop_succ_cons, List.drop_zero, Sl.v]; obtain ⟨hc6, hf6⟩ := bcell hb6; have hs6 := hb6.size; (try simp at hs6))
              have hown6 := Lib.hid (HC5.out.below hb6)
              have hHR6 := Lib.hid R6
              have hbs : W1.heap.size ≤ w6.heap.size := by omega
              have hby : (((tspans us).take q).length + 1) * 16 ≤ 140737488355328 ∧ ((tspans us).take q).length + 1 ≤ 140737488355328 := by rw [HCL.out]; omega
              go_wp2_with (at_builtin; refine wpList_appr (v := .slice B q cc) Tryz.elSp Tryz.elSp.und (by omega) pCs_length pCs_one rfl (.tmp 55) (.tmp 57) rfl rfl hown6.out B6 1 k6 [(fr, k + 1)] rfl hHR6.out hby.1 hby.2 hbs ?_; intro v7 w7 hown7 hg7 hat7)
              obtain ⟨A7, c7, hv7, hr7⟩ := hown7.rd pCs_length
              subst hv7
              have hl7 : ((tspans us).take q ++ [(fr, k + 1)]).length = q + 1 := by rw [List.length_append, HCL.out]; rfl
              have H7 := Lib.hid hown7
              have HL7 := Lib.hid hl7
              have HG7 := Lib.hid hg7
              have HAT7 := Lib.hid hat7
              have HB6 := Lib.hid hb6
              clear hown7 hr7 hl7 hg7 hat7
              go_roundw
              case rel =>
                have hne1 : (Value.slice B q cc).ownBlock ≠ some W1.heap.size := by have := HOB.out.1; cases B with | none => simp [Value.ownBlock] | some a => simpa [Value.ownBlock] using this
                have hne2 : (Value.slice B q cc).ownBlock ≠ some (W1.heap.size + 1) := by have := HOB.out.2; cases B with | none => simp [Value.ownBlock] | some a => simpa [Value.ownBlock] using this
                refine ⟨k + 1, q + 1, c7, A7, vs, (tspans us).drop q, by omega, by go_num, by rw [HL7.out], by omega, SV2, ?_, SV1, ((HZ15.out.below HB6.out).grown HG7.out hne1), ((HZ25.out.below HB6.out).grown HG7.out hne2), ?_, (HS5.out.below HB6.out).grown HG7.out (hown6.out.apart l1) (hown6.out.apart l2), HSAW, (HKW5.out.below HB6.out).frame hown6.out (Nat.le_refl _) HG7.out⟩
                · show Own pCs 2 86 w7 W1.heap.size (.slice A7 (q + 1) c7) (tspans vs)
                  rw [SV3.out]; have := H7.out; rw [HL7.out] at this; exact this
                · have hat := HAT7.out
                  rw [HL7.out] at hat
                  have hb6s := HB6.out.size
                  rcases hat with h | h
                  · rw [h]; exact ⟨hne1, hne2⟩
                  · rw [h]; exact ⟨fun e => by injection e; omega, fun e => by injection e; omega⟩
              case measure => simp [intOf]; omega
      · obtain rfl : k = n := by omega
        have hfin : R = (us.length == 1) := by rw [← HRR.out]; exact tform_fin (by have := HT.out; rwa [← HL.out] at this) (by rw [HL.out]; exact hn)
        rw [HUL.out] at hfin
        have HFIN := Lib.hid hfin
        have hk1 : KK ga gb W1 ((wr.setCell ⟨W1.heap.size, 0, none⟩ (.int .i64 0)).setCell ⟨W1.heap.size, 1, none⟩ (.int .i64 0)) := (HK.out.set (p := ⟨W1.heap.size, 0, none⟩) (.inr (.inr (Nat.le_refl _))) _).set (p := ⟨W1.heap.size, 1, none⟩) (.inr (.inr (Nat.le_refl _))) _
        have HK1 := Lib.hid hk1
        clear hfin hk1
        by_cases h1 : L = 1
        · subst h1
          have hR1 : R = true := HFIN.out.trans rfl
          have HR1 := Lib.hid hR1
          have hsaw : lp = tspans (targsP t) := saw_end (by rw [HRR.out]; exact hR1) (by rw [HL.out]; exact HSw.out)
          have HSAW := Lib.hid hsaw
          clear hR1 hsaw
          rcases hBs with ⟨_, h1, _⟩ | ⟨g, rfl⟩
          · omega
          obtain ⟨x, hst⟩ : ∃ x, tspans us = [x] := by
            have := HUL.out
            rw [← tspans_len] at this
            match h : tspans us, this with
            | [x], _ => exact ⟨x, rfl⟩
          have hO1 := HO.out
          rw [hst] at hO1
          obtain ⟨_, s, e, hs0, hcell⟩ := sp_in (hO1.rd_ pCs_length) (Below.refl _ _) (Nat.lt_succ_self 0)
          injection e with e
          subst e
          have hs : x = s := by simpa using hs0
          subst hs
          obtain ⟨hc0, hc1⟩ := hcell wr (Below.refl _ _)
          have ha : (⟨g, 0, none⟩ : Addr).add 0 = ⟨g, 0, none⟩ := by simp [Addr.add]
          have ha2 : (⟨g, 0, none⟩ : Addr).add (0 * 2) = ⟨g, 0, none⟩ := by simp [Addr.add]
          rw [ha2] at hc0 hc1
          simp only [Nat.zero_add] at hc1
          have HX := Lib.hid hst
          clear hcell hs0 ha ha2 hO1 hst
          go_wp2
          refine bodyPost_ret (v := .tuple #[.agg #[.int .i64 (x.1 : Nat), .int .i64 (x.2 : Nat)], .bool true]) ?_ rfl ?_
          · simp [results, Tryz.results60, go_sem, p1, p2, p3, p4, p5, p6, p7, p8]
          · refine HPOST.out _ _ _ _ HR1.out ((HK.out.set (p := ⟨W1.heap.size, 0, none⟩) (.inr (.inr (Nat.le_refl _))) _).set (p := ⟨W1.heap.size, 1, none⟩) (.inr (.inr (Nat.le_refl _))) _) fun _ => ?_
            obtain ⟨v, e1, e2, _⟩ := ((HA.out.setLo (g := W1.heap.size) (by omega) (by omega) (by omega) 0 _).setLo (g := W1.heap.size) (by omega) (by omega) (by omega) 1 _).ex
            rw [HSAW.out] at e2
            exact ⟨v, by have := e1.cell 0; simpa using this, e2⟩
        · have hne : ((L : Int) == 1) = false := by rw [beq_eq_false_iff_ne]; omega
          have hR1 : R = false := HFIN.out.trans (by rw [beq_eq_false_iff_ne]; exact h1)
          have HR1 := Lib.hid hR1
          clear hR1
          go_wp2
          refine bodyPost_ret (v := .tuple #[.agg #[.int .i64 0, .int .i64 0], .bool false]) ?_ rfl ?_
          · simp [results, Tryz.results60, go_sem, p1, p2, p3, p4, p5, p6, p7, p8]
          · exact HPOST.out _ _ _ _ HR1.out HK1.out (fun h => by cases h)
  · have hE : R = false := by
      rw [← HRR.out, ← Bool.not_eq_true]
      intro hf
      have := (tform_iff.1 hf).1
      omega
    have HE := Lib.hid hE
    have HK0 := Lib.hid hk0
    obtain ⟨p1, p2, p3, p4⟩ := bz1.two
    obtain ⟨p5, p6, p7, p8⟩ := bz2.two
    clear hE hk0 bz1 bz2
    go_enter Tryz.func60, Tryz.ntmps60
    go_wp2
    refine bodyPost_ret (v := .tuple #[.agg #[.int .i64 0, .int .i64 0], .bool false]) ?_ rfl ?_
    · simp [results, Tryz.results60, go_sem, p1, p2, p3, p4, p5, p6, p7, p8]
    · exact HPOST.out _ _ _ _ HE.out HK0.out (fun h => by cases h)
end Go.Proofs.YtjdofncognaaoaaGreatDoor

/- Walks: term.Args. -/
namespace Go.Proofs.YtjdofncognaaoaaGreatDoor
open Go.RowKit
set_option linter.unusedVariables false
set_option linter.unusedSimpArgs false

theorem span_part {t : List Nd} (hf : tform t = true) {k : Nat} (hk : k < (targsP t).length) :
    ∃ x, (targsP t)[k]? = some x ∧ tlen ((targsP t).take (k + 1)) = tlen ((targsP t).take k) + x.length ∧ tlen ((targsP t).take (k + 1)) < t.length ∧ (t.drop (tlen ((targsP t).take k))).take x.length = x ∧ 0 < x.length := by
  obtain ⟨s, nd, hsn⟩ : ∃ s nd, t = s ++ [nd] := by
    rcases List.eq_nil_or_concat t with h | ⟨s, nd, h⟩
    · rw [h] at hf; rw [tform_nil] at hf; cases hf
    · exact ⟨s, nd, by rw [h, List.concat_eq_append]⟩
  obtain ⟨l, e1, e2, e3, e4, e5⟩ := targs_of hf hsn
  rw [e1] at hk ⊢
  have hx : l[k]? = some l[k] := List.getElem?_eq_getElem hk
  have e : tlen (l.take (k + 1)) = tlen (l.take k) + (l[k]).length := by rw [List.take_add_one, hx]; exact (tlen_append _ _).trans (by rw [show (some l[k]).toList = [l[k]] from rfl, tlen_one])
  have hle : tlen (l.take (k + 1)) ≤ s.length := by
    rw [← e4]
    show ((l.take (k + 1)).flatten).length ≤ _
    exact flat_le _
  refine ⟨l[k], hx, e, by rw [hsn, List.length_append]; exact Nat.lt_succ_of_le hle, ?_, ?_⟩
  · have h1 := tpart hx
    rw [e4] at h1
    rw [hsn, List.drop_append_of_le_length (by omega), List.take_append_of_le_length (by rw [List.length_drop]; omega)]
    exact h1
  · rcases Nat.eq_zero_or_pos (l[k]).length with h | h
    · have h6 := e5 _ (List.mem_of_getElem? hx)
      rw [List.eq_nil_of_length_eq_zero h] at h6
      unfold Tm at h6
      simp [tfold] at h6
    · exact h
theorem targs3 (t : List Nd) : (targsP t).length ≤ 3 := by
  unfold targsP
  split
  next hf =>
    obtain ⟨s, nd, hsn⟩ : ∃ s nd, t = s ++ [nd] := by
      rcases List.eq_nil_or_concat t with h | ⟨s, nd, h⟩
      · rw [h] at hf; rw [tform_nil] at hf; cases hf
      · exact ⟨s, nd, by rw [h, List.concat_eq_append]⟩
    obtain ⟨l, e1, e2, e3, e4, _⟩ := targs_of hf hsn
    unfold targsP at e1
    rw [if_pos hf] at e1
    rw [e1]
    have := arity_le nd.op
    omega
  next => exact Nat.zero_le _
theorem cell_lt {w : World} {p : Addr} {v : Value} (h : w.cell? p = some v) : p.block < w.heap.size := by
  by_cases hp : p.block < w.heap.size
  · exact hp
  · have := Array.getElem?_eq_none (xs := w.heap) (i := p.block) (by omega)
    simp [World.cell?, this] at h
abbrev Sv.v (p : Sv) : Value := .slice p.1 p.2.1 p.2.2
/-- The parts that are out so far: each a slice of the call's own, in a block that is none of the list's. -/
structure OutS (w : World) (base : Nat) (v : Value) (ps : List Sv) (ts : List (List Nd)) : Prop where
  el : ∀ (i : Nat) (p : Sv), ps[i]? = some p → p.2.1 ≤ p.2.2 ∧ (∃ t, ts[i]? = some t ∧ Own Nd.cs 6 41 w base (Sv.v p) t) ∧ ((Sv.v p).ownBlock = none ∨ (Sv.v p).ownBlock ≠ v.ownBlock)
theorem OutS.below {w w' : World} {base : Nat} {v : Value} {ps : List Sv} {ts : List (List Nd)} (h : OutS w base v ps ts) (hb : Below w.heap.size w w') : OutS w' base v ps ts :=
  ⟨fun i p hp => by obtain ⟨h1, ⟨t, h2, h3⟩, h4⟩ := h.el i p hp; exact ⟨h1, ⟨t, h2, h3.below hb⟩, h4⟩⟩
theorem OutS.step {w w' : World} {base : Nat} {v v' : Value} {ps : List Sv} {ts : List (List Nd)} {p : Sv} {t : List Nd} (h : OutS w base v ps ts) (hc : p.2.1 ≤ p.2.2) (hp : Own Nd.cs 6 41 w base (Sv.v p) t) (ht : ts[ps.length]? = some t) (hn : (Sv.v p).ownBlock = none ∨ (Sv.v p).ownBlock ≠ v.ownBlock) (hg : w.grownBy w' v.ownBlock) (hv : v'.ownBlock = v.ownBlock ∨ v'.ownBlock = some w.heap.size) : OutS w' base v' (ps ++ [p]) ts := by
  have key : ∀ (x : Sv) (u : List Nd), Own Nd.cs 6 41 w base (Sv.v x) u → ((Sv.v x).ownBlock = none ∨ (Sv.v x).ownBlock ≠ v.ownBlock) → Own Nd.cs 6 41 w' base (Sv.v x) u ∧ ((Sv.v x).ownBlock = none ∨ (Sv.v x).ownBlock ≠ v'.ownBlock) := by
    intro x u hx hnx
    refine ⟨hx.grown hg hnx, ?_⟩
    rcases hnx with h0 | h0
    · exact .inl h0
    · rcases hv with e | e
      · rw [e]; exact .inr h0
      · refine .inr fun e' => ?_
        rw [e] at e'
        have := hx.lt _ e'
        omega
  refine ⟨fun i x hx => ?_⟩
  by_cases hi : i < ps.length
  · rw [List.getElem?_append_left hi] at hx
    obtain ⟨h1, ⟨u, h2, h3⟩, h4⟩ := h.el i x hx
    obtain ⟨k1, k2⟩ := key x u h3 h4
    exact ⟨h1, ⟨u, h2, k1⟩, k2⟩
  · by_cases hi2 : i = ps.length
    · subst hi2
      have : p = x := by simpa using hx
      subst this
      obtain ⟨k1, k2⟩ := key p t hp hn
      exact ⟨hc, ⟨t, ht, k1⟩, k2⟩
    · rw [List.getElem?_eq_none (by simp; omega)] at hx; cases hx
theorem OutS.tl {w : World} {base n : Nat} {A : Option Addr} {v : Value} {ps : List Sv} {ts : List (List Nd)} (h : OutS w base v ps ts) (hr : Rd vCs 1 w A n ps) (hl : ts.length = n) : TL w A n ts :=
  ⟨ps, hr, hl, fun i p hp => by
    obtain ⟨h1, ⟨t, h2, h3⟩, h4⟩ := h.el i p hp
    obtain ⟨A', c', e, hr'⟩ := h3.rd Nd.cs_length
    unfold Sv.v at e
    injection e with e1 e2 e3
    rw [← e2, ← e1] at hr'
    exact ⟨h1, t, h2, hr'⟩⟩
set_option maxRecDepth 100000 in
set_option maxHeartbeats 8000000 in
theorem p_args {A : Option Addr} {n c : Nat} {t : List Nd} (w : World) (hx : Rd Nd.cs 6 w A n t) (hnc : n ≤ c) :
    Calls Tryz.prog 23 #[.slice A n c] w fun e w' => ∃ B m k, e = .returned (.slice B m k) ∧ m ≤ k ∧ TL w' B m (targsP t) ∧ Below w.heap.size w w' := by
  have hbig := hx.big
  have hlen := hx.len
  have hW1 : Below w.heap.size w ((w.alloc (.cells #[.slice none 0 0] 84)).alloc (.cells #[.int .i64 0] 3)) := (by repeat (first | exact Below.refl _ _ | assumption | refine b_then ?_ (by assumption) | refine b_alloc ?_ _ | refine b_drewN ?_ _ | refine Below.drew ?_ | refine b_set ?_ (by first | exact Nat.le_refl _ | (simp; done) | (simp; omega) | omega) _))
  have ba : Blk ((w.alloc (.cells #[.slice none 0 0] 84)).alloc (.cells #[.int .i64 0] 3)) w.heap.size 84 #[.slice none 0 0] := (Blk.new _ _ _).alloc _
  have bb : Blk ((w.alloc (.cells #[.slice none 0 0] 84)).alloc (.cells #[.int .i64 0] 3)) (w.heap.size + 1) 3 #[.int .i64 0] := blk_newAt _ _ _ (by simp)
  have hFo := fold_sp (c := c) w.heap.size (w.heap.size + 1) w _ hx hW1 (Nat.le_refl _) (Nat.le_succ _) (by omega) ⟨⟨.slice none 0 0, ba, Own.nil, fun g h => by cases h⟩, bb⟩
  clear ba bb
  cases hf : tform t with
  | false =>
    have he : targsP t = [] := by unfold targsP; rw [hf]; rfl
    rw [he]
    unfold FoldSp at hFo
    rw [hf] at hFo
    have HFO := Lib.hid hFo
    clear hf he hFo hW1
    go_enter Tryz.func23, Tryz.ntmps23
    go_wp2_with (go_at_call 60; (with_reducible refine HFO.out.mono ?_); rintro e w2 ⟨x1, x2, rfl, hb2, _⟩)
    go_ret
    exact ⟨none, 0, 0, rfl, Nat.le_refl _, TL.nil, b_alloc hb2 _⟩
  | true =>
    have hsp : ∀ k, k < (targsP t).length → _ := fun k hk => span_part hf hk
    have h3 := targs3 t
    have htl : n ≤ 2000 := by rw [← hlen]; exact (tform_iff.1 hf).1
    have hnp : 0 < n := by
      rcases Nat.eq_zero_or_pos n with h | h
      · have : t = [] := List.eq_nil_of_length_eq_zero (by omega)
        rw [this, tform_nil] at hf; cases hf
      · exact h
    obtain ⟨adt, rfl, _⟩ := hx.cells hnp
    unfold FoldSp at hFo
    rw [hf] at hFo
    have HFO := Lib.hid hFo
    have HSP := Lib.hid hsp
    have HL := Lib.hid hlen
    obtain ⟨ts, hts⟩ : ∃ ts, targsP t = ts := ⟨_, rfl⟩
    rw [hts] at HFO HSP h3 ⊢
    obtain ⟨L, hL⟩ : ∃ L, ts.length = L := ⟨_, rfl⟩
    have HTL := Lib.hid hL
    rw [hL] at h3
    clear hf hFo hW1 hsp hlen hts hL
    go_enter Tryz.func23, Tryz.ntmps23
    go_wp2_with (go_at_call 60; (with_reducible refine HFO.out.mono ?_); rintro e w2 ⟨x1, x2, rfl, hb2, hpost⟩; obtain ⟨v, hcell, hown⟩ := hpost rfl; obtain ⟨S, sc, hv, hrs⟩ := hown.rd pCs_length; subst hv; (have hsl : (tspans ts).length = L := by rw [tspans_len, HTL.out]); rw [hsl] at hcell hrs; (have HRS := Lib.hid hrs); (have hs2 := hb2.size); (have hsc : w.heap.size < w2.heap.size := cell_lt hcell); clear hpost hown hrs hsl)
    have HC2 := Lib.hid hcell
    have HB2 := Lib.hid hb2
    clear hcell hb2
    have hO0 : Hid (OutS w2 w2.heap.size (.slice none 0 0) [] ts) := ⟨fun i p hp => by simp at hp⟩
    have hB20 : Below w2.heap.size w2 (w2.alloc (.cells #[.int .i64 x1, .int .i64 x2] 86)) := (by repeat (first | exact Below.refl _ _ | assumption | refine b_then ?_ (by assumption) | refine b_alloc ?_ _ | refine b_drewN ?_ _ | refine Below.drew ?_ | refine b_set ?_ (by first | exact Nat.le_refl _ | (simp; done) | (simp; omega) | omega) _))
    go_loopw [7, 20] (fun ov iv wr => ∃ (k oc : Nat) (O : Option Addr) (ps : List Sv), k ≤ L ∧ iv = .int .i64 k ∧ ov = .slice O k oc ∧ k ≤ oc ∧ Hid (ps.length = k) ∧ Hid (Own vCs 1 23 wr w2.heap.size (.slice O k oc) ps) ∧ Hid (OutS wr w2.heap.size (.slice O k oc) ps ts) ∧ Below w2.heap.size w2 wr) (fun _ iv _ => L - (intOf iv).toNat)
    case atStart => exact ⟨0, 0, none, [], Nat.zero_le _, rfl, rfl, Nat.le_refl _, rfl, Own.nil, OutS.below hO0.out hB20, hB20⟩
    case round =>
      obtain ⟨k, oc, O, ps, hk, rfl, rfl, hkc, HPL, HO, HS, hB⟩ := hrel
      have hbz := hB.size
      by_cases hlt : k < L
      · obtain ⟨ad, s, rfl, hs, hcs⟩ := sp_in HRS.out hB hlt
        obtain ⟨x, g1, g2, g3, g4, g5⟩ := HSP.out k (by rw [HTL.out]; exact hlt)
        rw [tspans_at (by rw [HTL.out]; exact hlt)] at hs
        injection hs with hs
        subst hs
        obtain ⟨fr, hfr⟩ : ∃ fr, tlen (ts.take k) = fr := ⟨_, rfl⟩
        obtain ⟨ed, hed⟩ : ∃ ed, tlen (ts.take (k + 1)) = ed := ⟨_, rfl⟩
        obtain ⟨xl, hxl⟩ : ∃ xl, x.length = xl := ⟨_, rfl⟩
        rw [hfr, hed, hxl] at g2
        rw [hed, HL.out] at g3
        rw [hfr, hxl] at g4
        obtain ⟨hc0, hc1⟩ := hcs wr (Below.refl _ _)
        dsimp only at hc0 hc1
        rw [hfr] at hc0
        rw [hed] at hc1
        have hed2 : ed = fr + xl := g2
        have hE1 : ((ed : Nat) : Int) = (fr : Int) + (xl : Int) := by omega
        have hE3 : Hid (fr + xl - fr = xl) := (by omega : fr + xl - fr = xl)
        have hcf : ¬ c = fr := by omega
        have hef : ¬ ed = fr := by omega
        have hef2 : ¬ xl = 0 := by omega
        have hb0 := HB2.out
        have hX1 : Rd Nd.cs 6 (wr.alloc (.cells #[.int .i64 (fr : Nat), .int .i64 ((fr : Int) + (xl : Int))] 86)) (some (adt.add (fr * 6))) (fr + xl - fr) x := by
          rw [hE3.out]
          have h1 := (hx.below (b_alloc (b_then hb0 hB) (.cells #[.int .i64 (fr : Nat), .int .i64 ((fr : Int) + (xl : Int))] 86))).from_ (q := fr) (by omega)
          have h2 := h1.pre (k := xl) (by omega)
          rwa [g4] at h2
        have HX1 := Lib.hid hX1
        have HXL := Lib.hid hxl
        have HG1 := Lib.hid g1
        have hx3 : xl ≤ 2000000000 := by omega
        have hy1 : (([] : List Nd).length + (fr + xl - fr)) * 72 ≤ 140737488355328 ∧ ([] : List Nd).length + (fr + xl - fr) ≤ 140737488355328 := by rw [List.length_nil]; omega
        have hb1 : wr.heap.size ≤ (wr.alloc (.cells #[.int .i64 (fr : Nat), .int .i64 ((fr : Int) + (xl : Int))] 86)).heap.size := (b_alloc (Below.refl _ _) _).size
        have hy2 : (ps.length + 1) * 24 ≤ 140737488355328 ∧ ps.length ≤ 140737488355328 := by rw [HPL.out]; omega
        clear hcs hX1 g1 g4 hxl
        go_wp2_with (first
          | (at_builtin; refine wpList_appr (v := .slice none 0 0) Tryz.elemNd Tryz.elemNd.und (by omega) Nd.cs_length Nd.cs_one rfl (.const (.slice none 0 0)) (.tmp 30) rfl rfl (Own.nil (base := wr.heap.size)) (some (adt.add (fr * 6))) (fr + xl - fr) (c - fr) x rfl HX1.out hy1.1 hy1.2 hb1 ?_; intro v2 w22 hown2 hg2 hat2; (have HF2 := Lib.hid (Own.frame (Own.nil (e := Nd.cs) (z := 6) (T := 41) (base := wr.heap.size)) (b_alloc (Below.refl _ _) _) (Nat.le_refl _) hg2)); (obtain ⟨A2, c2, hv2, hr2⟩ := hown2.rd Nd.cs_length); subst hv2; (have hl2 : ([] ++ x : List Nd).length = xl := HXL.out); rw [hl2] at hown2 hat2 ⊢; (have hxc : xl ≤ c2 := hown2.shape.2.1); (have HOX := Lib.hid ((HO.out.below HF2.out).alloc (.cells #[.slice A2 xl c2] 23))); (have HOW := Lib.hid hown2); (have HAT := Lib.hid hat2); (have hbs2 := HF2.out.size); (have hb3 : w2.heap.size ≤ (w22.alloc (.cells #[.slice A2 xl c2] 23)).heap.size := Nat.le_trans (Nat.le_trans hbz hbs2) (b_alloc (Below.refl _ _) _).size); clear hown2 hg2 hat2 hr2 hl2)
          | (at_builtin; refine wpList_app (v := .slice O k oc) Tryz.elTm (by omega) vCs_length vCs_one rfl (.tmp 24) (.tmp 32) rfl rfl HOX.out ⟨w22.heap.size, 0, none⟩ 1 (A2, xl, c2) rfl (new_cells _ _ _ _ rfl) hy2.1 hy2.2 hb3 ?_; intro v3 w33 hown3 hg3 hat3; (obtain ⟨O3, c3, hv3, hr3⟩ := hown3.rd vCs_length); subst hv3; (have hl3 : (ps ++ [(A2, xl, c2)] : List Sv).length = k + 1 := by rw [List.length_append, HPL.out]; rfl); rw [hl3] at hown3 hat3 ⊢; (have HL3 := Lib.hid hl3); (have HO3 := Lib.hid hown3); (have HG3 := Lib.hid hg3); (have HAT3 := Lib.hid hat3); (have hc3 : k + 1 ≤ c3 := hown3.shape.2.1); clear hown3 hg3 hat3 hr3 hl3))
        go_roundw
        case rel =>
          have hw22 : Below w2.heap.size w2 w22 := b_then hB HF2.out
          have hnew : (Sv.v (A2, xl, c2)).ownBlock = none ∨ (Sv.v (A2, xl, c2)).ownBlock ≠ (Value.slice O k oc).ownBlock := by
            rcases HAT.out with h | h
            · exact .inl h
            · refine .inr fun e => ?_
              have h2 : (Value.slice O k oc).ownBlock = some (wr.alloc (.cells #[.int .i64 (fr : Nat), .int .i64 ((fr : Int) + (xl : Int))] 86)).heap.size := e.symm.trans h
              have := HO.out.lt _ h2
              omega
          exact ⟨k + 1, c3, O3, ps ++ [(A2, xl, c2)], by omega, by go_num, rfl, hc3, HL3, HO3, OutS.step ((HS.out.below HF2.out).below (b_alloc (Below.refl _ _) (.cells #[.slice A2 xl c2] 23))) hxc ((HOW.out.lower hbz).alloc _) (by rw [HPL.out]; exact HG1.out) hnew HG3.out HAT3.out, Own.frame HOX.out (b_alloc hw22 _) (Nat.le_refl _) HG3.out⟩
        case measure => simp [intOf]; omega
      · obtain rfl : k = L := by omega
        have hTL := HS.out.tl (by obtain ⟨A', c', e, hr⟩ := HO.out.rd vCs_length; injection e with e1 e2 e3; rw [← e1, HPL.out] at hr; exact hr) HTL.out
        have HE := Lib.hid hTL
        clear hTL
        go_wp2
        go_ret
        exact ⟨O, k, oc, rfl, hkc, HE.out, (by repeat (first | exact Below.refl _ _ | assumption | refine b_then ?_ (by assumption) | refine b_alloc ?_ _ | refine b_drewN ?_ _ | refine Below.drew ?_ | refine b_set ?_ (by first | exact Nat.le_refl _ | (simp; done) | (simp; omega) | omega) _))⟩
end Go.Proofs.YtjdofncognaaoaaGreatDoor

/- The law's fixed calls of terms: what they come to; some. -/
namespace Go.Proofs.YtjdofncognaaoaaGreatDoor
open Go.RowKit
set_option linter.unusedVariables false
set_option linter.unusedSimpArgs false

set_option maxHeartbeats 800000 in
theorem r3_one (a : Int) (d : Nat) (w : World) (ha : -9223372036854775808 ≤ a) (ha' : a ≤ 9223372036854775807) (h0 : 0 < d) (hd : d ≤ 9223372036854775807) :
    Calls Tryz.prog 52 #[.int .i64 a, .int .i64 (d : Int)] w fun e w' => e = .returned (enc (mkRat a d)).v ∧ Below w.heap.size w w' := by
  have h1 := fun W => r2_of a W ha ha'
  have h2 := fun W => r2_of (d : Int) W (by omega) (by omega)
  rw [iS_nat] at h2
  have hM := fun W => r3_make a d W (by have := ndg_i64 (n := a.natAbs) (by omega); omega) (by have := ndg_i64 (n := d) (by omega); omega) h0
  simp only [enc_v] at hM ⊢
  generalize mkRat a d = z at *
  go_enter Tryz.func52, Tryz.ntmps52
  go_wp2_with (first | (go_at_call 79; (with_reducible refine (hM _).mono ?_); rintro e w3 ⟨rfl, hb3⟩; obtain ⟨hc3, hf3⟩ := bcell hb3; have hs3 := hb3.size; (try simp at hs3); have hv3 : w.heap.size < w3.heap.size := (by omega)) | (go_at_call 63; (with_reducible refine (h2 _).mono ?_); rintro e w2 ⟨rfl, hb2⟩; obtain ⟨hc2, hf2⟩ := bcell hb2; have hs2 := hb2.size; (try simp at hs2); have hv2 : w.heap.size < w2.heap.size := (by omega)) | (go_at_call 63; (with_reducible refine (h1 _).mono ?_); rintro e w1 ⟨rfl, hb1⟩; obtain ⟨hc1, hf1⟩ := bcell hb1; have hs1 := hb1.size; (try simp at hs1); have hv1 : w.heap.size < w1.heap.size := (by omega)))
  refine bodyPost_ret (v := .agg #[.string (iS z.num), .string (nS z.den)]) ?_ rfl ⟨rfl, (by repeat (first | exact Below.refl _ _ | assumption | refine b_then ?_ (by assumption) | refine b_alloc ?_ _ | refine b_drewN ?_ _ | refine Below.drew ?_ | refine b_set ?_ (by first | exact Nat.le_refl _ | (simp; done) | (simp; omega) | omega) _))⟩
  simp [results, Tryz.results52, go_sem, hc1, hf1, hc2, hf2, hc3, hf3, hv1, hv2, hv3]

abbrev fxN : ByteArray := ⟨#[120]⟩
def some10 : List Nd := [⟨1, ⟨⟨#[]⟩, ⟨#[]⟩⟩, ⟨#[120]⟩, 5, 0⟩, ⟨0, ⟨⟨#[51]⟩, ⟨#[50]⟩⟩, ⟨#[]⟩, 0, 0⟩, ⟨7, ⟨⟨#[]⟩, ⟨#[]⟩⟩, ⟨#[]⟩, 0, 0⟩]
def third10 : List Nd := [⟨0, ⟨⟨#[45, 49]⟩, ⟨#[51]⟩⟩, ⟨#[]⟩, 0, 0⟩]
def max10 : List Nd := some10 ++ (third10 ++ [nd0 10])
def avg10 : List Nd := [⟨2, ⟨⟨#[]⟩, ⟨#[]⟩⟩, ⟨#[120]⟩, 1, 3⟩]
def lo10 : List Nd := [⟨4, ⟨⟨#[]⟩, ⟨#[]⟩⟩, ⟨#[120]⟩, 0, 60⟩]
theorem f10_one : enc (mkRat 3 2) = ⟨⟨#[51]⟩, ⟨#[50]⟩⟩ := by decide +kernel
theorem f10_third : enc (mkRat (-1) 3) = ⟨⟨#[45, 49]⟩, ⟨#[51]⟩⟩ := by decide +kernel
theorem f10_a : tpr some10 = ⟨#[40, 112, 120, 40, 120, 44, 32, 53, 41, 32, 45, 32, 49, 46, 53, 41]⟩ := by decide +kernel
theorem f10_b : tpr max10 = ⟨#[109, 97, 120, 40, 40, 112, 120, 40, 120, 44, 32, 53, 41, 32, 45, 32, 49, 46, 53, 41, 44, 32, 110, 117, 109, 40, 45, 49, 44, 32, 51, 41, 41]⟩ := by decide +kernel
theorem f10_c : tchk max10 = 0 := by decide +kernel
theorem f10_d : tdeep max10 = 3 := by decide +kernel
theorem f10_e : targsP max10 = [some10, third10] := by decide +kernel
theorem f10_f : tchk [] = 100 := by decide +kernel
theorem f10_g : tchk (some10.take 2) = 100 := by decide +kernel
theorem f10_h : tpr avg10 = ⟨#[97, 118, 103, 40, 120, 44, 32, 49, 44, 32, 51, 41]⟩ := by decide +kernel
theorem f10_i : arity 12 = 3 := by decide +kernel
theorem f10_j : arity 13 = -1 := by decide +kernel
theorem f10_k : tchk lo10 = 100 := by decide +kernel
instance (x : Nd) : Decidable (nq x) := by unfold nq; infer_instance
theorem f10_q1 : ∀ x ∈ max10, nq x := by decide +kernel
theorem f10_q2 : ∀ x ∈ some10, nq x := by decide +kernel
theorem f10_q3 : ∀ x ∈ some10.take 2, nq x := by decide +kernel
theorem f10_q4 : ∀ x ∈ avg10, nq x := by decide +kernel
theorem f10_q5 : ∀ x ∈ lo10, nq x := by decide +kernel
set_option maxRecDepth 100000 in
set_option maxHeartbeats 4000000 in
theorem c_some (w : World) : Calls Tryz.prog 51 #[] w fun e w' => ∃ B, e = .returned (.slice B 3 3) ∧ Rd Nd.cs 6 w' B 3 some10 ∧ Below w.heap.size w w' := by
  have h1 : ∀ W, Calls Tryz.prog 52 #[.int .i64 3, .int .i64 2] W fun e w' => e = .returned (.agg #[.string ⟨#[51]⟩, .string ⟨#[50]⟩]) ∧ Below W.heap.size W w' := fun W => (r3_one 3 2 W (by omega) (by omega) (by omega) (by omega)).mono fun e w' he => by rw [f10_one] at he; exact he
  go_enter Tryz.func51, Tryz.ntmps51
  go_wp2_with (go_at_call 52; (with_reducible refine (h1 _).mono ?_); rintro e w1 ⟨rfl, hb1⟩; obtain ⟨hc1, hf1⟩ := bcell hb1; have hs1 := hb1.size; (try simp at hs1))
  go_ret
  exact ⟨_, rfl, Rd.made Nd.cs_length _ _ some10 (by decide) rfl (by simp) rfl, (by repeat (first | exact Below.refl _ _ | assumption | refine b_then ?_ (by assumption) | refine b_alloc ?_ _ | refine b_drewN ?_ _ | refine Below.drew ?_ | refine b_set ?_ (by first | exact Nat.le_refl _ | (simp; done) | (simp; omega) | omega) _))⟩
end Go.Proofs.YtjdofncognaaoaaGreatDoor

/- The law's fixed calls of terms: the walk. -/
namespace Go.Proofs.YtjdofncognaaoaaGreatDoor
open Go.RowKit
set_option linter.unusedVariables false
set_option linter.unusedSimpArgs false

theorem tl_made {W : World} {ps : List Sv} {ts : List (List Nd)} {g n : Nat} {arr : Array Value} (ha : arr = (ps.flatMap vCs).toArray) (hb : ps.length ≤ 9223372036854775807) (hg : g = W.heap.size) (hn : ps.length = n) (ht : ts.length = n)
    (h : ∀ (i : Nat) (p : Sv), ps[i]? = some p → p.2.1 ≤ p.2.2 ∧ ∃ t, ts[i]? = some t ∧ Rd Nd.cs 6 W p.1 p.2.1 t) : TL (W.alloc (.cells arr 23)) (some ⟨g, 0, none⟩) n ts :=
  ⟨ps, Rd.made vCs_length W 23 ps hb ha hg hn, ht, fun i p hp => by obtain ⟨h1, t, h2, h3⟩ := h i p hp; exact ⟨h1, t, h2, h3.below (b_alloc (Below.refl _ _) _)⟩⟩
theorem tl_one {W : World} {A : Option Addr} {m c g : Nat} {xs : List Nd} (hm : m ≤ c) (hx : Rd Nd.cs 6 W A m xs) (hg : g = W.heap.size) : TL (W.alloc (.cells #[.slice A m c] 23)) (some ⟨g, 0, none⟩) 1 [xs] :=
  tl_made (ps := [(A, m, c)]) rfl (by simp) hg rfl rfl fun i p hp => by
    match i, hp with
    | 0, hp => have e : (A, m, c) = p := by simpa using hp
               subst e; exact ⟨hm, xs, rfl, hx⟩
theorem tl_two {W : World} {A B : Option Addr} {m c n d g : Nat} {xs ys : List Nd} (hm : m ≤ c) (hn : n ≤ d) (hx : Rd Nd.cs 6 W A m xs) (hy : Rd Nd.cs 6 W B n ys) (hg : g = W.heap.size) : TL (W.alloc (.cells #[.slice A m c, .slice B n d] 23)) (some ⟨g, 0, none⟩) 2 [xs, ys] :=
  tl_made (ps := [(A, m, c), (B, n, d)]) rfl (by simp) hg rfl rfl fun i p hp => by
    match i, hp with
    | 0, hp => have e : (A, m, c) = p := by simpa using hp
               subst e; exact ⟨hm, xs, rfl, hx⟩
    | 1, hp => have e : (B, n, d) = p := by simpa using hp
               subst e; exact ⟨hn, ys, rfl, hy⟩
theorem tl_three {W : World} {A B C : Option Addr} {m c n d p q g : Nat} {xs ys zs : List Nd} (hm : m ≤ c) (hn : n ≤ d) (hp : p ≤ q) (hx : Rd Nd.cs 6 W A m xs) (hy : Rd Nd.cs 6 W B n ys) (hz : Rd Nd.cs 6 W C p zs) (hg : g = W.heap.size) : TL (W.alloc (.cells #[.slice A m c, .slice B n d, .slice C p q] 23)) (some ⟨g, 0, none⟩) 3 [xs, ys, zs] :=
  tl_made (ps := [(A, m, c), (B, n, d), (C, p, q)]) rfl (by simp) hg rfl rfl fun i s hs => by
    match i, hs with
    | 0, hs => have e : (A, m, c) = s := by simpa using hs
               subst e; exact ⟨hm, xs, rfl, hx⟩
    | 1, hs => have e : (B, n, d) = s := by simpa using hs
               subst e; exact ⟨hn, ys, rfl, hy⟩
    | 2, hs => have e : (C, p, q) = s := by simpa using hs
               subst e; exact ⟨hp, zs, rfl, hz⟩
/-- Join's answer, as a slice. -/
theorem j_join (op : Int) {A : Option Addr} {n c : Nat} {ts : List (List Nd)} {t : List Nd} {m : Nat} (w : World) (hx : TL w A n ts) (ht : ts.flatten ++ [nd0 op] = t) (hm : t.length = m) (hs : ts.flatten.length ≤ 1000000) :
    Calls Tryz.prog 28 #[.int .i64 op, .slice A n c] w fun e w' => ∃ B k, e = .returned (.slice B m k) ∧ (m ≤ k ∧ Rd Nd.cs 6 w' B m t) ∧ Below w.heap.size w w' :=
  (p_join op (c := c) w hx hs).mono fun e w' ⟨v, h1, h2, h3⟩ => by
    rw [ht] at h2
    obtain ⟨B, k, hv, hr⟩ := h2.rd Nd.cs_length
    subst hv
    rw [hm] at h1 h2 hr
    exact ⟨B, k, h1, ⟨h2.shape.2.1, hr⟩, h3⟩
def Fixed10Ok : Prop := ∀ w : World, Glob w → Calls Tryz.prog 15 #[] w fun e w' => e = .returned (.bool true) ∧ Below w.heap.size w w'
def len10 (i : Nat) : Nat := if i = 36 then 2 else if i = 42 then 1 else if i = 56 then 1 else 3
def lst10 (i : Nat) : List Nd := if i = 36 then some10.take 2 else if i = 42 then avg10 else if i = 56 then lo10 else some10
set_option maxRecDepth 100000 in
set_option maxHeartbeats 16000000 in
theorem p_fixed10 : Fixed10Ok := by
  intro w hg
  have h3 : ∀ W, Calls Tryz.prog 52 #[.int .i64 (-1), .int .i64 3] W fun e w' => e = .returned (.agg #[.string ⟨#[45, 49]⟩, .string ⟨#[51]⟩]) ∧ Below W.heap.size W w' := fun W => (r3_one (-1) 3 W (by omega) (by omega) (by omega) (by omega)).mono fun e w' he => by rw [f10_third] at he; exact he
  go_enter Tryz.func15, Tryz.ntmps15
  go_wp2_with (first
    | (go_at_call 51; (with_reducible refine (c_some _).mono ?_); rintro e w1 ⟨B1, rfl, R1, hb1⟩; obtain ⟨hc1, hf1⟩ := bcell hb1; have hs1 := hb1.size; (try simp at hs1); have HR1 := Lib.hid R1; clear R1)
    | (go_at_call 52; (with_reducible refine (h3 _).mono ?_); rintro e w2 ⟨rfl, hb2⟩; obtain ⟨hc2, hf2⟩ := bcell hb2; have hs2 := hb2.size; (try simp at hs2))
    | (go_at_call 28; (with_reducible refine (j_join 10 (m := 5) (ts := [some10, third10]) (t := max10) _ ?_ rfl rfl (by decide)).mono ?_); (· exact tl_two (by omega) (by omega) ((HR1.out.below hb2).below (b_alloc (Below.refl _ _) _)) (Rd.made Nd.cs_length w2 41 third10 (by decide) rfl rfl rfl) (by simp)); rintro e w3 ⟨M, mc, rfl, ⟨hmc, R3⟩, hb3⟩; (have hB3 : Below w.heap.size w w3 := b_then (b_alloc (b_alloc (b_then hb1 hb2) _) _) hb3); obtain ⟨hc3, hf3⟩ := bcell hb3; have hs3 := hb3.size; (try simp at hs3); have HR3 := Lib.hid R3; clear R3)
    | (go_at_call 23; (with_reducible refine (p_args _ HR3.out hmc).mono ?_); rintro e w4 ⟨LB, lm, lk, rfl, hlm, hTL, hb4⟩; rw [f10_e] at hTL; (have hl2 : lm = 2 := hTL.len.symm); subst hl2; (have HTL := Lib.hid hTL); (have HR4 := Lib.hid (HR3.out.below hb4)); (have hB4 : Below w.heap.size w w4 := b_then hB3 hb4); clear hTL))
  obtain ⟨ad, C, m, cc, t0, rfl, ht0, hmc0, hR0, hl0⟩ := tl_in HTL.out (Below.refl _ _) (show 0 < 2 by omega)
  have hs0 : some10 = t0 := Option.some.inj ht0
  subst hs0
  have hm3 : m = 3 := hR0.len.symm
  subst hm3
  have hadd : ad.add 0 = ad := by simp [Addr.add]
  rw [hadd] at hl0
  have x0 := fun (x : After w4) (y : After x.W) => hl0 y.W (b_then x.h y.h)
  have HR0 := Lib.hid hR0
  have KP : ∀ W, Below w4.heap.size w4 W → Calls Tryz.prog 18 #[.slice M 5 mc] W fun e w' => e = .returned (.string ⟨#[109, 97, 120, 40, 40, 112, 120, 40, 120, 44, 32, 53, 41, 32, 45, 32, 49, 46, 53, 41, 44, 32, 110, 117, 109, 40, 45, 49, 44, 32, 51, 41, 41]⟩) ∧ Below W.heap.size W w' := fun W h => (p_print W (hg.below (b_then hB4 h)) (HR4.out.below h) f10_q1).mono fun e w' he => by rw [f10_b] at he; exact he
  have KC : ∀ W, Below w4.heap.size w4 W → Calls Tryz.prog 16 #[.slice M 5 mc] W fun e w' => e = .returned (.int .i64 0) ∧ Below W.heap.size W w' := fun W h => (p_tcheck W (hg.below (b_then hB4 h)) (HR4.out.below h) f10_q1).mono fun e w' he => by rw [f10_c] at he; exact he
  have KD : ∀ W, Below w4.heap.size w4 W → Calls Tryz.prog 20 #[.slice M 5 mc] W fun e w' => e = .returned (.int .i64 3) ∧ Below W.heap.size W w' := fun W h => (p_depth W (HR4.out.below h)).mono fun e w' he => by rw [f10_d] at he; exact he
  have KN : ∀ W, Below w4.heap.size w4 W → Calls Tryz.prog 16 #[.slice none 0 0] W fun e w' => e = .returned (.int .i64 100) ∧ Below W.heap.size W w' := fun W h => (p_tcheck (t := []) W (hg.below (b_then hB4 h)) Rd.nil (fun x hx => by cases hx)).mono fun e w' he => by rw [f10_f] at he; exact he
  have KA : ∀ W, Calls Tryz.prog 25 #[.int .i64 12] W fun e w' => e = .returned (.int .i64 3) ∧ Below W.heap.size W w' := fun W => (p_arity 12 W).mono fun e w' ⟨h1, h2⟩ => by rw [f10_i] at h1; subst h2; exact ⟨h1, Below.refl _ _⟩
  have KB : ∀ W, Calls Tryz.prog 25 #[.int .i64 13] W fun e w' => e = .returned (.int .i64 (-1)) ∧ Below W.heap.size W w' := fun W => (p_arity 13 W).mono fun e w' ⟨h1, h2⟩ => by rw [f10_j] at h1; subst h2; exact ⟨h1, Below.refl _ _⟩
  have HB4 := Lib.hid hB4
  clear hl0 hR0 hadd hb1 hc1 hf1 hs1 hb2 hc2 hf2 hs2 hb3 hc3 hf3 hs3 hb4 hB3 ht0
  try go_wp2
  refine wp_region_multic [(0, 11, fun p => .slice p.1 3 3), (27, 38, fun p => .slice p.1 3 3), (35, 46, fun p => .slice p.1 3 3), (36, 47, fun p => .slice p.1 2 3), (42, 53, fun p => .slice p.1 1 1), (56, 67, fun p => .slice p.1 1 1)] [(1, 12, .string ⟨#[40, 112, 120, 40, 120, 44, 32, 53, 41, 32, 45, 32, 49, 46, 53, 41]⟩), (28, 39, .bool true), (37, 48, .int .i64 100), (43, 54, .string ⟨#[97, 118, 103, 40, 120, 44, 32, 49, 44, 32, 51, 41]⟩), (57, 68, .int .i64 100)] (fun i B k W => Rd Nd.cs 6 W B (len10 i) (lst10 i)) ?mA (by kernel_rfl) (fun p => by kernel_rfl) (fun p x => ?mH)
    ⟨by kernel_rfl, by kernel_rfl, by simp, by simp, ?mk, ?mt, fun i B k W W' h hb => h.below hb, ?mhA, ?mQ⟩
  case mH =>
    simp only [mods, mkS_V, List.map_cons, List.map_nil, List.append_eq, List.cons_append, List.nil_append, List.modify_succ_cons, List.modify_zero_cons, repV]
    have hxs := x.h.size
    have hs1 : ((p 35).1.map fun x : Addr => x.add 0) = (p 35).1 := add0 _
    (try simp at hxs)
    (repeat (first | go_big_quiet_skip | (go_big_quiet_want; go_big_quiet_op; first | go_big_quiet_on | (apply Exists.intro; refine ⟨fun _ => ?_, ?_⟩; (focus (first | (go_at_call 18; with_reducible exact Calls.after (KP _ (b_then x.h (After.h _)))) | (go_at_call 16; with_reducible exact Calls.after (KC _ (b_then x.h (After.h _)))) | (go_at_call 16; with_reducible exact Calls.after (KN _ (b_then x.h (After.h _)))) | (go_at_call 20; with_reducible exact Calls.after (KD _ (b_then x.h (After.h _)))) | (go_at_call 25; with_reducible exact Calls.after (KA _)) | (go_at_call 25; with_reducible exact Calls.after (KB _)))); go_big_quiet_on))))
    refine wpQuiet_nil ?_
    rfl
  case mk =>
    intro y hy p
    simp only [List.mem_cons, List.not_mem_nil, or_false] at hy
    rcases hy with rfl | rfl | rfl | rfl | rfl | rfl
    · refine ⟨_, rfl, rfl, fun a W hW hR hgv => ?_⟩
      exact mk_callV rfl rfl (wanted_none rfl) (by simp [execOp, go_sem]) ((c_some W).mono fun e w' ⟨B, h1, h2, h3⟩ => ⟨B, 3, h1, h2, h3⟩)
    · refine ⟨_, rfl, rfl, fun a W hW hR hgv => ?_⟩
      have g0 : a.tmps[34]? = some (.bool true) := (hgv 23 _ 34 rfl rfl (by kernel_rfl)).trans rfl
      exact mk_callV rfl rfl (by simp [Region.wanted, yielded, g0]) (by simp [execOp, go_sem]) ((c_some W).mono fun e w' ⟨B, h1, h2, h3⟩ => ⟨B, 3, h1, h2, h3⟩)
    · refine ⟨_, rfl, rfl, fun a W hW hR hgv => ?_⟩
      have g0 : a.tmps[45]? = some (.bool true) := (hgv 34 _ 45 rfl rfl (by kernel_rfl)).trans rfl
      exact mk_callV rfl rfl (by simp [Region.wanted, yielded, g0]) (by simp [execOp, go_sem]) ((c_some W).mono fun e w' ⟨B, h1, h2, h3⟩ => ⟨B, 3, h1, h2, h3⟩)
    · refine ⟨_, rfl, rfl, fun a W hW hR hgv => ?_⟩
      have g0 : a.tmps[45]? = some (.bool true) := (hgv 34 _ 45 rfl rfl (by kernel_rfl)).trans rfl
      have g1 := (hgv 35 _ 46 rfl rfl (by kernel_rfl)).trans rfl
      have r1 : Rd Nd.cs 6 W (p 35).1 3 some10 := hR _ (.tail _ (.tail _ (.head _))) (by kernel_rfl)
      have hs1 : ((p 35).1.map fun x : Addr => x.add 0) = (p 35).1 := add0 _
      exact ⟨by simp [Region.wanted, yielded, g0], wpOp_val rfl (by simp [Region.wanted, yielded, g0]) (v := .slice (p 35).1 2 3) (W' := W) (by simp [execOp, go_sem, g1, hs1]) ⟨(p 35).1, 3, rfl, r1.pre (k := 2) (by omega), Below.refl _ _⟩⟩
    · refine ⟨_, rfl, rfl, fun a W hW hR hgv => ?_⟩
      have g0 : a.tmps[51]? = some (.bool true) := (hgv 40 _ 51 rfl rfl (by kernel_rfl)).trans rfl
      have g1 := (hgv 41 _ 52 rfl rfl (by kernel_rfl)).trans rfl
      exact ⟨by simp [Region.wanted, yielded, g0], wpOp_val rfl (by simp [Region.wanted, yielded, g0]) (v := .slice (some ⟨W.heap.size, 0, none⟩) 1 1) (W' := W.alloc (.cells (Nd.cs (avg10.headD (nd0 0))).toArray 41)) (by simp [execOp, go_sem, g1]; rfl) ⟨some ⟨W.heap.size, 0, none⟩, 1, rfl, Rd.made Nd.cs_length W 41 avg10 (by decide) rfl rfl rfl, b_alloc (Below.refl _ _) _⟩⟩
    · refine ⟨_, rfl, rfl, fun a W hW hR hgv => ?_⟩
      have g0 : a.tmps[65]? = some (.bool true) := (hgv 54 _ 65 rfl rfl (by kernel_rfl)).trans rfl
      have g1 := (hgv 55 _ 66 rfl rfl (by kernel_rfl)).trans rfl
      exact ⟨by simp [Region.wanted, yielded, g0], wpOp_val rfl (by simp [Region.wanted, yielded, g0]) (v := .slice (some ⟨W.heap.size, 0, none⟩) 1 1) (W' := W.alloc (.cells (Nd.cs (lo10.headD (nd0 0))).toArray 41)) (by simp [execOp, go_sem, g1]; rfl) ⟨some ⟨W.heap.size, 0, none⟩, 1, rfl, Rd.made Nd.cs_length W 41 lo10 (by decide) rfl rfl rfl, b_alloc (Below.refl _ _) _⟩⟩
  case mt =>
    intro y hy p
    simp only [List.mem_cons, List.not_mem_nil, or_false] at hy
    rcases hy with rfl | rfl | rfl | rfl | rfl
    · refine ⟨_, rfl, rfl, fun a W hW hR hgv => ?_⟩
      have g1 := (hgv 0 _ 11 rfl rfl (by kernel_rfl)).trans rfl
      have r1 : Rd Nd.cs 6 W (p 0).1 3 some10 := hR _ (.head _) (by kernel_rfl)
      exact tk_call rfl rfl (wanted_none rfl) (by simp [execOp, go_sem, g1]) ((p_print (c := 3) W (hg.below (b_then HB4.out hW)) r1 f10_q2).mono fun e w' he => by rw [f10_a] at he; exact he)
    · refine ⟨_, rfl, rfl, fun a W hW hR hgv => ?_⟩
      have g0 : a.tmps[34]? = some (.bool true) := (hgv 23 _ 34 rfl rfl (by kernel_rfl)).trans rfl
      have g1 := (hgv 26 _ 37 rfl rfl (by kernel_rfl)).trans rfl
      have g2 := (hgv 27 _ 38 rfl rfl (by kernel_rfl)).trans rfl
      have r1 : Rd Nd.cs 6 W (p 27).1 3 some10 := hR _ (.tail _ (.head _)) (by kernel_rfl)
      exact tk_call rfl rfl (by simp [Region.wanted, yielded, g0]) (by simp [execOp, go_sem, g1, g2]) ((r10_same (c := cc) (d := 3) W (HR0.out.below hW) r1).mono fun e w' he => ⟨by rw [he.1]; simp, he.2⟩)
    · refine ⟨_, rfl, rfl, fun a W hW hR hgv => ?_⟩
      have g0 : a.tmps[45]? = some (.bool true) := (hgv 34 _ 45 rfl rfl (by kernel_rfl)).trans rfl
      have g1 := (hgv 36 _ 47 rfl rfl (by kernel_rfl)).trans rfl
      have r1 : Rd Nd.cs 6 W (p 36).1 2 (some10.take 2) := hR _ (.tail _ (.tail _ (.tail _ (.head _)))) (by kernel_rfl)
      exact tk_call rfl rfl (by simp [Region.wanted, yielded, g0]) (by simp [execOp, go_sem, g1]) ((p_tcheck (c := 3) W (hg.below (b_then HB4.out hW)) r1 f10_q3).mono fun e w' he => by rw [f10_g] at he; exact he)
    · refine ⟨_, rfl, rfl, fun a W hW hR hgv => ?_⟩
      have g0 : a.tmps[51]? = some (.bool true) := (hgv 40 _ 51 rfl rfl (by kernel_rfl)).trans rfl
      have g1 := (hgv 42 _ 53 rfl rfl (by kernel_rfl)).trans rfl
      have r1 : Rd Nd.cs 6 W (p 42).1 1 avg10 := hR _ (.tail _ (.tail _ (.tail _ (.tail _ (.head _))))) (by kernel_rfl)
      exact tk_call rfl rfl (by simp [Region.wanted, yielded, g0]) (by simp [execOp, go_sem, g1]) ((p_print (c := 1) W (hg.below (b_then HB4.out hW)) r1 f10_q4).mono fun e w' he => by rw [f10_h] at he; exact he)
    · refine ⟨_, rfl, rfl, fun a W hW hR hgv => ?_⟩
      have g0 : a.tmps[65]? = some (.bool true) := (hgv 54 _ 65 rfl rfl (by kernel_rfl)).trans rfl
      have g1 := (hgv 56 _ 67 rfl rfl (by kernel_rfl)).trans rfl
      have r1 : Rd Nd.cs 6 W (p 56).1 1 lo10 := hR _ (.tail _ (.tail _ (.tail _ (.tail _ (.tail _ (.head _)))))) (by kernel_rfl)
      exact tk_call rfl rfl (by simp [Region.wanted, yielded, g0]) (by simp [execOp, go_sem, g1]) ((p_tcheck (c := 1) W (hg.below (b_then HB4.out hW)) r1 f10_q5).mono fun e w' he => by rw [f10_k] at he; exact he)
  case mhA => exact fun p => rfl
  case mQ =>
    intro p w8 hb8 hR
    go_wp2
    go_ret
    exact ⟨by first | rfl | exact ret_bool (by simp), b_then HB4.out hb8⟩
end Go.Proofs.YtjdofncognaaoaaGreatDoor
