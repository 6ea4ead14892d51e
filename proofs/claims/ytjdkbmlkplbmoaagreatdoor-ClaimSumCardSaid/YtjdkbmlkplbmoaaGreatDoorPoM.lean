/- Maps from names to fractions: plain words, the laws at the operations. -/
import Derived.Test.YtjdkbmlkplbmoaaGreatDoorPoA
import Derived.Maps.RangeWalk
import Derived.Sort.MapsRangeIn
import Derived.Test.YtjdkbmlkplbmoaaGreatDoorBkJ
import Derived.Test.YtjdkbmlkplbmoaaGreatDoorGhost
namespace Go.Proofs.YtjdkbmlkplbmoaaGreatDoor
open Go.RowKit Go.Maps
set_option linter.unusedVariables false
set_option linter.unusedSimpArgs false

/-- How a fraction in a map reads: as its two texts. -/
def ratElem : Value → Option (DataW RT × List MemPlace)
  | .agg cs => match cs.toList with
    | [.string a, .string b] => some (.held ⟨a, b⟩, [])
    | _ => none
  | _ => none
theorem ratElem_mk (x : RT) : ratElem x.v = some (.held x, []) := rfl
theorem ratElem_inv {v : Value} {y : DataW RT × List MemPlace} (h : ratElem v = some y) : ∃ c : RT, v = c.v ∧ y = (.held c, []) := by
  unfold ratElem at h
  split at h
  · rename_i cs
    split at h
    · rename_i a b e
      cases h
      exact ⟨⟨a, b⟩, by unfold RT.v; rw [← Array.toArray_toList (xs := cs), e], rfl⟩
    · cases h
  · cases h
/-- A name as a key. -/
abbrev kst (s : ByteArray) : Lit := .string s.data.toList
theorem kst_key (s : ByteArray) : WideAt.IsKeyLit (kst s) := trivial
theorem kst_inj {s t : ByteArray} (h : kst s = kst t) : s = t := by
  injection h with e
  exact s_ext e
/-- What the sums' map holds behind k lines. -/
def MapIs (xs : List Ln) (k : Nat) (D : DataW RT) : Prop := IsMap D ∧ ∀ s : ByteArray, (Go.Maps.has D (kst s) = true → ∀ z, D.atKey (kst s) z = .held (enc (dtot (xs.take k) s))) ∧ (Go.Maps.has D (kst s) = (xs.take k).any fun x => x.asset.toList == s.toList)
theorem MapIs.zero (xs : List Ln) : MapIs xs 0 (.map []) := ⟨isMap_empty, fun s => ⟨fun h => by simp [Go.Maps.has] at h, by simp [Go.Maps.has]⟩⟩
theorem MapIs.step {xs : List Ln} {k : Nat} {D : DataW RT} {x : Ln} {q : Rat} (h : MapIs xs k D) (hx : xs[k]? = some x) (hq : dec x.q = q) : MapIs xs (k + 1) (D.put (kst x.asset) (.held (enc (dtot (xs.take k) x.asset + q)))) := by
  refine ⟨h.1.put _ _, fun s => ?_⟩
  have ha : (xs.take (k + 1)).any (fun y => y.asset.toList == s.toList) = ((xs.take k).any (fun y => y.asset.toList == s.toList) || (x.asset.toList == s.toList)) := by
    rw [List.take_add_one, hx, List.any_append]; simp
  by_cases e : s = x.asset
  · subst e
    refine ⟨fun _ z => ?_, ?_⟩
    · rw [atKey_put_same h.1 (kst_key _), dtot_take _ hx, if_pos rfl, hq]
    · rw [has_put_same h.1 (kst_key _), ha]; simp
  · have hne : kst s ≠ kst x.asset := fun e' => e (kst_inj e')
    refine ⟨fun hh z => ?_, ?_⟩
    · rw [has_put_other hne] at hh
      rw [atKey_put_other hne, (h.2 s).1 hh, dtot_take _ hx, if_neg e, Rat.add_zero]
    · rw [has_put_other hne, (h.2 s).2, ha]
      have : (x.asset.toList == s.toList) = false := by
        rw [beq_eq_false_iff_ne, tl, tl]
        exact fun e' => e (s_ext e').symm
      rw [this, Bool.or_false]
theorem dtot_none {l : List Ln} {s : ByteArray} (h : l.any (fun x => x.asset.toList == s.toList) = false) : dtot l s = 0 := by
  unfold dtot
  rw [List.filter_eq_nil_iff.2]
  · rfl
  · intro x hx
    have := List.any_eq_false.1 h x hx
    unfold ofAsset
    exact this
/-- The sum that the map gives. -/
theorem MapIs.zero_ {D : DataW RT} {s : ByteArray} {c : RT} (hs : Go.Maps.has D (kst s) = false) (h : D.atKey (kst s) (.held rzero) = .held c) : c = rzero := by
  rw [atKey_of_not_has hs] at h
  injection h with e
  exact e.symm
theorem own_below {P : Program} {k : TypeId} {R : Value → Option (DataW RT × List MemPlace)} {w w' : World} {b n : Nat} {D : DataW RT} (h : w.ownsMap P k R b n D) (hb : Below w.heap.size w w') : w'.ownsMap P k R b n D := h.kept (grown_of_below hb none) (by simp)
theorem MapIs.none {xs : List Ln} {k : Nat} {D : DataW RT} (h : MapIs xs k D) {s : ByteArray} (hs : Go.Maps.has D (kst s) = false) : dtot (xs.take k) s = 0 := dtot_none (by rw [← (h.2 s).2]; exact hs)
theorem MapIs.some {xs : List Ln} {k : Nat} {D : DataW RT} (h : MapIs xs k D) {s : ByteArray} {z : DataW RT} {c : RT} (hs : Go.Maps.has D (kst s) = true) (hc : D.atKey (kst s) z = .held c) : c = enc (dtot (xs.take k) s) := by
  rw [(h.2 s).1 hs] at hc
  injection hc with e
  exact e.symm
section
variable {P : Program} (w : World) {ops : Array Oper} {rest : List Oper} {o : Oper} {a : Act} {Q : Exit → Act → World → Prop}
/-- 'v, ok := m[k]'. -/
theorem wpList_lookup_rat (hg : o.guard = none) (m x : Operand) (t : TypeId) (hop : o.op = Op.lookup t m x true)
    (k e : TypeId) (hk : P.underlying k = some .string) (ht : P.underlying t = some (.map k e)) (hz : (zeroValue e).run P w = .ok rzero.v w) (b n : Nat) (D : DataW RT)
    (hm : a.eval m = .map (some b)) (hown : w.ownsMap P k ratElem b n D) (s : ByteArray) (hx : a.eval x = .string s) (hs : s.size ≤ maxLen) (bb : Bool) (hb : Go.Maps.has D (kst s) = bb) (p q : ByteArray) (hc : ∀ c : RT, D.atKey (kst s) (.held rzero) = .held c → c = ⟨p, q⟩)
    (hK : wpList P ops Q rest (a.put o.dst (.tuple #[.agg #[.string p, .string q], .bool bb])) w) :
    wpList P ops Q (o :: rest) a w :=
  wpList_lookup_own_ok w hg m x t hop k e (string_keyed hk) ht ratElem hz (.held rzero) [] (ratElem_mk rzero) b n D hm hown (.string s) (kst s) hx (WideMaps.keyOf_string_mk hk hs) (fun v ps hv => by
    obtain ⟨c, rfl, he⟩ := ratElem_inv hv
    rw [hb, hc c (congrArg Prod.fst he)]
    exact hK)
/-- 'm[k] = v'. -/
theorem wpList_mapUpdate_rat (hg : o.guard = none) (m x v : Operand) (t : TypeId) (hop : o.op = Op.mapUpdate t m x v)
    (k e : TypeId) (hk : P.underlying k = some .string) (ht : P.underlying t = some (.map k e)) (b n : Nat) (D : DataW RT)
    (hm : a.eval m = .map (some b)) (hown : w.ownsMap P k ratElem b n D) (hn : n < maxLen) (s : ByteArray) (hx : a.eval x = .string s) (hs : s.size ≤ maxLen) (c : RT) (hv : a.eval v = c.v)
    (hK : ∀ w', w'.ownsMap P k ratElem b (n + 1) (D.put (kst s) (.held c)) → w.grownBy w' (some b) → wpList P ops Q rest (a.put o.dst undef) w') :
    wpList P ops Q (o :: rest) a w :=
  wpList_mapUpdate_own w hg m x v t hop k e (string_keyed hk) ht ratElem b n D hm hown hn (.string s) c.v (kst s) hx hv (WideMaps.keyOf_string_mk hk hs) (.held c) [] (ratElem_mk c) hK
/-- A step of the range. -/
theorem wpList_next_rat (hg : o.guard = none) (it : Operand) (hop : o.op = Op.next it false) (k : TypeId) (hk : P.underlying k = some .string)
    (b r n : Nat) (D : DataW RT) (left : Lit → Bool) (cnt : Nat) (hit : a.eval it = .pointer (some ⟨r, 0, none⟩)) (h : w.ranges P k ratElem b r n D left cnt)
    (hDone : (∀ kl, left kl = false) → wpList P ops Q rest (a.put o.dst (.tuple #[.bool false])) w)
    (hMore : ∀ (s p q : ByteArray) (w' : World) (cnt' : Nat), left (kst s) = true → (∀ zd, D.atKey (kst s) zd = .held ⟨p, q⟩) → w'.ranges P k ratElem b r n D (fun z => left z && !z.sameKey (kst s)) cnt' → cnt' < cnt →
      w.grownBy w' (some r) → w'.heap.size = w.heap.size → (Instr.entry (.pointer (some ⟨r, 0, none⟩))).run P w' = .ok (.tuple #[.string s, .agg #[.string p, .string q]]) w' → wpList P ops Q rest (a.put o.dst (.tuple #[.bool true, .string s, .agg #[.string p, .string q]])) w') :
    wpList P ops Q (o :: rest) a w :=
  wpList_next_ranges w hg it hop k (string_keyed hk) ratElem Value.string RT.v (fun key kl hkey => Maps.keyOf_string_inv hk hkey) (fun v y hv => by obtain ⟨c, rfl, _⟩ := ratElem_inv hv; exact ⟨c, rfl⟩)
    b r n D left cnt hit h (fun _ => hDone) (fun s c kl y w' cnt' hkey hlk hv hat hrg hlt hgr hsz hen => by
      have hkl : kl = kst s := by
        have := hkey
        simp [keyOf, hk, mapKey] at this
        exact this.2.symm
      subst hkl
      obtain ⟨c', ec, hy⟩ := ratElem_inv hv
      have e2 := ratElem_mk c
      rw [hv] at e2
      injection e2 with e3
      exact hMore s c.num c.den w' cnt' hlk (fun zd => by rw [hat zd, e3]) hrg hlt hgr hsz hen)
end
/-- What has been looked at. -/
def Seen (xs : List Ln) (D : DataW RT) (left : Lit → Bool) : Prop := ∀ s : ByteArray, Go.Maps.has D (kst s) = true → left (kst s) = false → dtot xs s = 0
theorem Seen.zero (xs : List Ln) (D : DataW RT) : Seen xs D (Go.Maps.has D) := fun s h h' => by rw [h] at h'; cases h'
theorem Seen.step {xs : List Ln} {D : DataW RT} {left : Lit → Bool} (h : Seen xs D left) {s : ByteArray} (hs : dtot xs s = 0) : Seen xs D (fun z => left z && !z.sameKey (kst s)) := fun t ht hl => by
  by_cases e : t = s
  · rw [e]; exact hs
  · refine h t ht ?_
    have h0 : (kst t).sameKey (kst s) = false := sameKey_ne fun e' => e (kst_inj e')
    simp only [h0, Bool.not_false, Bool.and_true] at hl
    exact hl
theorem Seen.all {xs : List Ln} {D : DataW RT} {left : Lit → Bool} (h : Seen xs D left) (hD : MapIs xs xs.length D) (hl : ∀ kl, left kl = false) : xs.all (fun x => decide (dtot xs x.asset = 0)) = true := by
  rw [List.all_eq_true]
  intro x hx
  rw [decide_eq_true_eq]
  refine h x.asset ?_ (hl _)
  rw [(hD.2 x.asset).2, List.take_length, List.any_eq_true]
  exact ⟨x, hx, by simp⟩
theorem Maps.has_left {D : DataW RT} {s p q : ByteArray} (h : ∀ zd, D.atKey (kst s) zd = .held ⟨p, q⟩) : Go.Maps.has D (kst s) = true := has_true_of_atKey h
theorem MapIs.bad {xs : List Ln} {D : DataW RT} (hD : MapIs xs xs.length D) {s : ByteArray} (h : Go.Maps.has D (kst s) = true) (hs : dtot xs s ≠ 0) : lbal xs = false := by
  rw [(hD.2 s).2, List.take_length, List.any_eq_true] at h
  obtain ⟨x, hx, e⟩ := h
  have e' : x.asset = s := s_ext (by rw [← tl, ← tl]; exact beq_iff_eq.1 e)
  unfold lbal
  rw [Bool.and_eq_false_iff]
  right
  rw [← Bool.not_eq_true, List.all_eq_true]
  intro hh
  have := hh x hx
  rw [decide_eq_true_eq, e'] at this
  exact hs this
end Go.Proofs.YtjdkbmlkplbmoaaGreatDoor

/- Walk of post.Balanced. -/
namespace Go.Proofs.YtjdkbmlkplbmoaaGreatDoor
open Go.RowKit Go.Maps
set_option linter.unusedVariables false
set_option linter.unusedSimpArgs false

theorem lone_no {a0 a1 a2 a3 : ByteArray} (h : isName a0 = false ∨ isName a1 = false ∨ rmay ⟨a2, a3⟩ = false) : lone ⟨a0, a1, ⟨a2, a3⟩⟩ = false := by
  unfold lone
  dsimp only
  rcases h with h | h | h <;> rw [h] <;> simp
theorem lbal_lone_no {xs : List Ln} {k : Nat} {x : Ln} (hx : xs[k]? = some x) (h : lone x = false) : lbal xs = false := by
  unfold lbal; rw [all_bad hx h]; rfl
theorem zeroRat (w : World) : (zeroValue 35).run Tryz.prog w = .ok rzero.v w := by kernel_rfl
theorem Blk.aftr4 {w : World} {g : Nat} {t : TypeId} {a b c d : Value} (h : Blk w g t #[a, b, c, d]) : (∀ y : After w, y.W.cell? ⟨g, 1, none⟩ = some b) ∧ (∀ y : After w, y.W.cell? ⟨g, 2, none⟩ = some c) ∧ (∀ y : After w, y.W.cell? ⟨g, 3, none⟩ = some d) :=
  ⟨fun y => (h.below y.h).cell 1, fun y => (h.below y.h).cell 2, fun y => (h.below y.h).cell 3⟩
set_option maxRecDepth 100000 in
set_option maxHeartbeats 4000000 in
theorem p_balanced {A : Option Addr} {n c : Nat} {xs : List Ln} (w : World) (hg : Glob w) (hx : Rd Ln.cs 4 w A n xs) (hn : n ≤ 300) (hz : ∀ f ∈ xs, lnS f) :
    Calls Tryz.prog 76 #[.slice A n c] w fun e w' => e = .returned (.bool (lbal xs)) ∧ Below w.heap.size w w' := by
  have hxl := hx.len
  have hmm := @run_makeMap Tryz.prog
  have HXL := Lib.hid hxl
  have HZ := Lib.hid hz
  clear hxl hz
  go_enter Tryz.func76, Tryz.ntmps76
  go_wp2
  go_loopw [13] (fun i wr => ∃ (k : Nat) (D : DataW RT), k ≤ n ∧ i = .int .i64 (k : Nat) ∧ Hid ((xs.take k).all lone = true) ∧ Hid (MapIs xs k D) ∧ wr.ownsMap Tryz.prog 9 ratElem w.heap.size k D ∧ Below w.heap.size w wr) (fun i _ => n - (intOf i).toNat)
  case atStart => exact ⟨0, _, Nat.zero_le _, rfl, by simp [Hid], MapIs.zero xs, World.ownsMap_made _ _ _ _, b_alloc (Below.refl _ _) _⟩
  case round =>
    obtain ⟨k, D, hk, rfl, H, HD, hown, hB⟩ := hrel
    by_cases hlt : k < n
    · obtain ⟨ad, a0, a1, a2, a3, rfl, hxk, hl⟩ := ln_in hx hB hlt
      obtain ⟨z0, z1, z2, z3⟩ := HZ.out _ (List.mem_of_getElem? hxk)
      dsimp only at z0 z1 z2 z3
      have hN0 := fun W => p_name a0 W (by omega)
      have hN1 := fun W => p_name a1 W (by omega)
      have hR := fun W hg => p_rmay a2 a3 W hg (by omega) (by omega)
      have HX := Lib.hid hxk
      obtain ⟨hx0, hx1, hx2, hx3, hx4⟩ := hl wr (Below.refl _ _)
      clear hxk hl
      have hsw := hB.size
      cases n0 : isName a0 with
      | false =>
        rw [n0] at hN0
        have hbad : Hid (lbal xs = false) := lbal_lone_no HX.out (lone_no (.inl n0))
        clear n0
        go_wp2_with (go_at_call 82; (with_reducible refine (hN0 _).mono ?_); rintro e w1 ⟨rfl, hb1⟩; obtain ⟨hc1, hf1⟩ := bcell hb1; have hs1 := hb1.size; (try simp at hs1))
        go_ret
        exact ⟨ret_bool hbad.out.symm, (by repeat (first | exact Below.refl _ _ | assumption | refine b_then ?_ (by assumption) | refine b_alloc ?_ _ | refine b_drewN ?_ _ | refine Below.drew ?_ | refine b_set ?_ (by first | exact Nat.le_refl _ | (simp; done) | (simp; omega) | omega) _))⟩
      | true =>
      cases n1 : isName a1 with
      | false =>
        rw [n0] at hN0
        rw [n1] at hN1
        have hbad : Hid (lbal xs = false) := lbal_lone_no HX.out (lone_no (.inr (.inl n1)))
        clear n0 n1
        go_wp2_with (first | (go_at_call 82; (with_reducible refine (hN0 _).mono ?_); rintro e w1 ⟨rfl, hb1⟩; obtain ⟨hc1, hf1⟩ := bcell hb1; have hs1 := hb1.size; (try simp at hs1); have hq1 : wr.heap.size < w1.heap.size := (by omega)) | (go_at_call 82; (with_reducible refine (hN1 _).mono ?_); rintro e w2 ⟨rfl, hb2⟩; obtain ⟨hc2, hf2⟩ := bcell hb2; have hs2 := hb2.size; (try simp at hs2)))
        go_ret
        exact ⟨ret_bool hbad.out.symm, (by repeat (first | exact Below.refl _ _ | assumption | refine b_then ?_ (by assumption) | refine b_alloc ?_ _ | refine b_drewN ?_ _ | refine Below.drew ?_ | refine b_set ?_ (by first | exact Nat.le_refl _ | (simp; done) | (simp; omega) | omega) _))⟩
      | true =>
      cases n2 : rmay ⟨a2, a3⟩ with
      | false =>
        rw [n0] at hN0
        rw [n1] at hN1
        rw [n2] at hR
        have hbad : Hid (lbal xs = false) := lbal_lone_no HX.out (lone_no (.inr (.inr n2)))
        clear n0 n1 n2
        go_wp2_with (first | (go_at_call 82; (with_reducible refine (hN0 _).mono ?_); rintro e w1 ⟨rfl, hb1⟩; obtain ⟨hc1, hf1⟩ := bcell hb1; have hs1 := hb1.size; (try simp at hs1); have hq1 : wr.heap.size < w1.heap.size := (by omega)) | (go_at_call 82; (with_reducible refine (hN1 _).mono ?_); rintro e w2 ⟨rfl, hb2⟩; obtain ⟨hc2, hf2⟩ := bcell hb2; have hs2 := hb2.size; (try simp at hs2); have hq2 : wr.heap.size < w2.heap.size := (by omega)) | (go_at_call 83; (with_reducible refine (hR _ (hg.below (by repeat (first | exact Below.refl _ _ | assumption | refine b_then ?_ (by assumption) | refine b_alloc ?_ _ | refine b_drewN ?_ _ | refine Below.drew ?_ | refine b_set ?_ (by first | exact Nat.le_refl _ | (simp; done) | (simp; omega) | omega) _)))).mono ?_); rintro e w3 ⟨rfl, hb3⟩; obtain ⟨hc3, hf3⟩ := bcell hb3; have hs3 := hb3.size; (try simp at hs3)))
        go_ret
        exact ⟨ret_bool hbad.out.symm, (by repeat (first | exact Below.refl _ _ | assumption | refine b_then ?_ (by assumption) | refine b_alloc ?_ _ | refine b_drewN ?_ _ | refine Below.drew ?_ | refine b_set ?_ (by first | exact Nat.le_refl _ | (simp; done) | (simp; omega) | omega) _))⟩
      | true =>
        have hL : lone ⟨a0, a1, ⟨a2, a3⟩⟩ = true := by unfold lone; dsimp only; rw [n0, n1, n2]; rfl
        have HS := Lib.hid (all_step H.out HX.out hL)
        rw [n0] at hN0
        rw [n1] at hN1
        rw [n2] at hR
        have n2' := n2
        clear n0 n1 n2
        obtain ⟨q, hq, hqd, hqs⟩ := ln_rat (l := ⟨a0, a1, ⟨a2, a3⟩⟩) n2' (HZ.out _ (List.mem_of_getElem? HX.out))
        injection hq with q1 q2
        subst q1; subst q2
        have hDs : rsmall 400000000 (dtot (xs.take k) a1) := dtot_rs a1 (fun f hf => ⟨(lone_of (List.all_eq_true.1 H.out f hf)).2.2, HZ.out f (List.mem_of_mem_take hf)⟩) (by rw [List.length_take]; omega)
        have hA := fun W hg => p_radd (dtot (xs.take k) a1) q W hg (by exact hDs) (rsmall_mono hqs (by omega))
        simp only [enc_v] at hA
        have HM2 := Lib.hid (MapIs.step HD.out HX.out hqd)
        dsimp only at HM2
        obtain ⟨z, hz⟩ : ∃ z, dtot (xs.take k) a1 = z := ⟨_, rfl⟩
        obtain ⟨z', hz'⟩ : ∃ z', z + q = z' := ⟨_, rfl⟩
        rw [hz] at hA HM2
        rw [hz'] at hA HM2
        have HZ1 := Lib.hid hz
        clear hz hz' hqd hqs hDs
        have hO := fun W hg => p_rof 0 W hg (by omega) (by omega)
        simp only [enc_of, RT.v] at hO
        have hsz : a1.size ≤ maxLen := by simp only [maxLen]; omega
        have bx0 : Blk (wr.alloc (.cells #[.string a0, .string a1, .string (iS q.num), .string (nS q.den)] 46)) wr.heap.size 46 #[.string a0, .string a1, .string (iS q.num), .string (nS q.den)] := Blk.new wr _ _
        have hBa : Below w.heap.size w (wr.alloc (.cells #[.string a0, .string a1, .string (iS q.num), .string (nS q.den)] 46)) := b_alloc hB _
        have howna := hown.alloc (.cells #[.string a0, .string a1, .string (iS q.num), .string (nS q.den)] 46)
        cases hb : Go.Maps.has D (kst a1) with
        | true =>
          have hat := fun c => HD.out.some (c := c) (z := .held rzero) hb
          rw [HZ1.out] at hat
          have HAT := Lib.hid hat
          clear hat
          have HH := Lib.hid hb
          clear hb
          go_wp2_with (first
            | (go_at_call 82; (with_reducible refine (hN0 _).mono ?_); rintro e w1 ⟨rfl, hb1⟩; obtain ⟨hc1, hf1⟩ := bcell hb1; have hs1 := hb1.size; (try simp at hs1); have hq1 : wr.heap.size < w1.heap.size := (by omega))
            | (go_at_call 82; (with_reducible refine (hN1 _).mono ?_); rintro e w2 ⟨rfl, hb2⟩; obtain ⟨hc2, hf2⟩ := bcell hb2; have hs2 := hb2.size; (try simp at hs2); have hq2 : wr.heap.size < w2.heap.size := (by omega))
            | (go_at_call 83; (with_reducible refine (hR _ (hg.below (by repeat (first | exact Below.refl _ _ | assumption | refine b_then ?_ (by assumption) | refine b_alloc ?_ _ | refine b_drewN ?_ _ | refine Below.drew ?_ | refine b_set ?_ (by first | exact Nat.le_refl _ | (simp; done) | (simp; omega) | omega) _)))).mono ?_); rintro e w3 ⟨rfl, hb3⟩; obtain ⟨hc3, hf3⟩ := bcell hb3; have hs3 := hb3.size; (try simp at hs3); have hq3 : wr.heap.size < w3.heap.size := (by omega); have hB3 : Below w.heap.size w w3 := b_then (b_then (b_then hBa hb1) hb2) hb3; have hown3 := own_below (own_below (own_below howna hb1) hb2) hb3; have bx3 := ((bx0.below hb1).below hb2).below hb3)
            | (at_lookup; refine wpList_lookup_rat w3 rfl _ _ 103 rfl 9 35 Tryz.underlying9 Tryz.underlying103 (zeroRat _) w.heap.size k D rfl hown3 a1 rfl hsz true HH.out (iS z.num) (nS z.den) HAT.out ?_))
          have hB4 := b_alloc hB3 (.cells #[.string (iS z.num), .string (nS z.den)] 35)
          have bx4 := bx3.alloc (.cells #[.string (iS z.num), .string (nS z.den)] 35)
          have hown4 := hown3.alloc (.cells #[.string (iS z.num), .string (nS z.den)] 35)
          obtain ⟨y1, y2, y3⟩ := bx4.aftr4
          obtain ⟨v0, v1⟩ := (Blk.new w3 35 #[.string (iS z.num), .string (nS z.den)]).aftr
          have hg4 := hg.below hB4
          (refine wp_region_ahead 7 (by kernel_rfl) (by kernel_rfl) ?_; simp only [List.take_succ_cons, List.take_zero, List.drop_succ_cons, List.drop_zero]; (repeat (first | go_big_quiet_skip | (go_big_quiet_want; go_big_quiet_op; first | go_big_quiet_on | (apply Exists.intro; refine ⟨fun _ => ?_, ?_⟩; (focus ((go_at_call 68; with_reducible exact Calls.after (hA _ (hg4.below (After.h _)))))); go_big_quiet_on)))); refine wpQuiet_nil ?_; rintro ⟨w5, hb5⟩; (try dsimp only); obtain ⟨hc5, hf5⟩ := bcell hb5; have hs5 := hb5.size; (try simp at hs5))
          have hB5 := b_then hB4 hb5
          have hown5 := own_below hown4 hb5
          go_wp2_with (at_mapUpdate; refine wpList_mapUpdate_rat w5 rfl _ _ _ 103 rfl 9 35 Tryz.underlying9 Tryz.underlying103 w.heap.size k D rfl hown5 (by simp only [maxLen]; omega) a1 rfl hsz ⟨iS z'.num, nS z'.den⟩ rfl ?_; intro w6 hown6 hg6)
          go_roundw
          case rel => exact ⟨k + 1, _, by omega, by go_num, HS.out, HM2.out, hown6, hB5.grown hg6 hB5.size fun j hj => by cases hj; exact Nat.le_refl _⟩
          case measure => simp [intOf]; omega
        | false =>
          have hz0 : z = 0 := by rw [← HZ1.out, HD.out.none hb]
          have hat := fun c => MapIs.zero_ (c := c) hb
          have HAT := Lib.hid hat
          clear hat
          have HH := Lib.hid hb
          clear hb
          have e1 : iS z.num = iS 0 := by rw [hz0]; rfl
          have e2 : nS z.den = nS 1 := by rw [hz0]; rfl
          rw [e1, e2] at hA
          clear e1 e2 hz0
          go_wp2_with (first
            | (go_at_call 82; (with_reducible refine (hN0 _).mono ?_); rintro e w1 ⟨rfl, hb1⟩; obtain ⟨hc1, hf1⟩ := bcell hb1; have hs1 := hb1.size; (try simp at hs1); have hq1 : wr.heap.size < w1.heap.size := (by omega))
            | (go_at_call 82; (with_reducible refine (hN1 _).mono ?_); rintro e w2 ⟨rfl, hb2⟩; obtain ⟨hc2, hf2⟩ := bcell hb2; have hs2 := hb2.size; (try simp at hs2); have hq2 : wr.heap.size < w2.heap.size := (by omega))
            | (go_at_call 83; (with_reducible refine (hR _ (hg.below (by repeat (first | exact Below.refl _ _ | assumption | refine b_then ?_ (by assumption) | refine b_alloc ?_ _ | refine b_drewN ?_ _ | refine Below.drew ?_ | refine b_set ?_ (by first | exact Nat.le_refl _ | (simp; done) | (simp; omega) | omega) _)))).mono ?_); rintro e w3 ⟨rfl, hb3⟩; obtain ⟨hc3, hf3⟩ := bcell hb3; have hs3 := hb3.size; (try simp at hs3); have hq3 : wr.heap.size < w3.heap.size := (by omega); have hB3 : Below w.heap.size w w3 := b_then (b_then (b_then hBa hb1) hb2) hb3; have hown3 := own_below (own_below (own_below howna hb1) hb2) hb3; have bx3 := ((bx0.below hb1).below hb2).below hb3)
            | (at_lookup; refine wpList_lookup_rat w3 rfl _ _ 103 rfl 9 35 Tryz.underlying9 Tryz.underlying103 (zeroRat _) w.heap.size k D rfl hown3 a1 rfl hsz false HH.out ⟨#[]⟩ ⟨#[]⟩ HAT.out ?_)
            | (go_at_call 71; (with_reducible refine (hO _ (hg.below (by repeat (first | exact Below.refl _ _ | assumption | refine b_then ?_ (by assumption) | refine b_alloc ?_ _ | refine b_drewN ?_ _ | refine Below.drew ?_ | refine b_set ?_ (by first | exact Nat.le_refl _ | (simp; done) | (simp; omega) | omega) _)))).mono ?_); rintro e w4 ⟨rfl, hb4⟩; obtain ⟨hc4, hf4⟩ := bcell hb4; have hs4 := hb4.size; (try simp at hs4); have hq4 : w3.heap.size < w4.heap.size := (by omega)))
          have hB3a := b_alloc hB3 (.cells #[.string ⟨#[]⟩, .string ⟨#[]⟩] 35)
          have hB4 := b_then hB3a hb4
          have hsb := hB3.size
          have hB4' : Below w.heap.size w ((w4.setCell ⟨w3.heap.size, 0, none⟩ (.string (iS 0))).setCell ⟨w3.heap.size, 1, none⟩ (.string (nS 1))) := b_set (b_set hB4 (by simp; omega) _) (by simp; omega) _
          have D4 : Blk ((w4.setCell ⟨w3.heap.size, 0, none⟩ (.string (iS 0))).setCell ⟨w3.heap.size, 1, none⟩ (.string (nS 1))) w3.heap.size 35 #[.string (iS 0), .string (nS 1)] := ((Blk.new w3 35 #[.string ⟨#[]⟩, .string ⟨#[]⟩]).below hb4).put2 _ _
          have bx4 : Blk ((w4.setCell ⟨w3.heap.size, 0, none⟩ (.string (iS 0))).setCell ⟨w3.heap.size, 1, none⟩ (.string (nS 1))) wr.heap.size 46 #[.string a0, .string a1, .string (iS q.num), .string (nS q.den)] := (((bx3.alloc (.cells #[.string ⟨#[]⟩, .string ⟨#[]⟩] 35)).below hb4).far (by simp; omega) _).far (by simp; omega) _
          have hown4 : ((w4.setCell ⟨w3.heap.size, 0, none⟩ (.string (iS 0))).setCell ⟨w3.heap.size, 1, none⟩ (.string (nS 1))).ownsMap Tryz.prog 9 ratElem w.heap.size k D := ((own_below (hown3.alloc (.cells #[.string ⟨#[]⟩, .string ⟨#[]⟩] 35)) hb4).setCell (by simp; omega) _).setCell (by simp; omega) _
          obtain ⟨y1, y2, y3⟩ := bx4.aftr4
          obtain ⟨v0, v1⟩ := D4.aftr
          have hg4 := hg.below hB4'
          (refine wp_region_ahead 7 (by kernel_rfl) (by kernel_rfl) ?_; simp only [List.take_succ_cons, List.take_zero, List.drop_succ_cons, List.drop_zero]; (repeat (first | go_big_quiet_skip | (go_big_quiet_want; go_big_quiet_op; first | go_big_quiet_on | (apply Exists.intro; refine ⟨fun _ => ?_, ?_⟩; (focus ((go_at_call 68; with_reducible exact Calls.after (hA _ (hg4.below (After.h _)))))); go_big_quiet_on)))); refine wpQuiet_nil ?_; rintro ⟨w5, hb5⟩; (try dsimp only); obtain ⟨hc5, hf5⟩ := bcell hb5; have hs5 := hb5.size; (try simp at hs5))
          have hB5 := b_then hB4' hb5
          have hown5 := own_below hown4 hb5
          go_wp2_with (at_mapUpdate; refine wpList_mapUpdate_rat w5 rfl _ _ _ 103 rfl 9 35 Tryz.underlying9 Tryz.underlying103 w.heap.size k D rfl hown5 (by simp only [maxLen]; omega) a1 rfl hsz ⟨iS z'.num, nS z'.den⟩ rfl ?_; intro w6 hown6 hg6)
          go_roundw
          case rel => exact ⟨k + 1, _, by omega, by go_num, HS.out, HM2.out, hown6, hB5.grown hg6 hB5.size fun j hj => by cases hj; exact Nat.le_refl _⟩
          case measure => simp [intOf]; omega
    · obtain rfl : k = n := by omega
      have hall : xs.all lone = true := by have := H.out; rwa [← HXL.out, List.take_length] at this
      have HALL := Lib.hid hall
      have hD : MapIs xs xs.length D := by have := HD.out; rwa [← HXL.out] at this
      have HDD := Lib.hid hD
      have hmz : ∀ f ∈ xs, rmay f.q = true ∧ lnS f := fun f hf => ⟨(lone_of (List.all_eq_true.1 hall f hf)).2.2, HZ.out f hf⟩
      have HMZ := Lib.hid hmz
      clear hall hD hmz H HD
      go_wp2_with (at_range; refine wpList_range_own _ rfl _ 103 rfl 9 35 (string_keyed Tryz.underlying9) Tryz.underlying103 ratElem w.heap.size k D rfl hown ?_; intro w0 hrg0 hg0 hs0)
      go_frame
      have hBr : Below w.heap.size w w0 := hB.grown hg0 hB.size fun j hj => by cases hj
      have hsw := hB.size
      obtain ⟨r, hr⟩ : ∃ r, wr.heap.size = r := ⟨_, rfl⟩
      rw [hr] at hrg0 hsw ⊢
      clear hr
      go_loopw [54] (fun _ wr' => ∃ (left : Lit → Bool) (cnt : Nat), wr'.ranges Tryz.prog 9 ratElem w.heap.size r k D left cnt ∧ Hid (Seen xs D left) ∧ Below w.heap.size w wr') (fun _ wr' => wr'.rangeLeft w.heap.size r)
      case atStart => exact ⟨_, _, hrg0, Seen.zero xs D, hBr⟩
      case round =>
        obtain ⟨left, cnt, hrg, HSn, hB2⟩ := hrel
        clear hrg0 hg0 hs0 hBr
        go_wp2_with (at_next; refine wpList_next_rat _ rfl _ rfl 9 Tryz.underlying9 w.heap.size r k D left cnt rfl hrg ?_ ?_)
        · intro hl0
          have hok : Hid (lbal xs = true) := by
            unfold Hid lbal
            rw [HALL.out, HSn.out.all HDD.out hl0]; rfl
          clear hl0
          go_wp2
          go_ret
          exact ⟨ret_bool hok.out.symm, hB2⟩
        · intro s p q w1 cnt1 hls hat hrg1 hlt1 hg1 hs1 hen
          have hh := Maps.has_left hat
          have hc : (⟨p, q⟩ : RT) = enc (dtot xs s) := by
            have := HDD.out.some hh (hat (.held rzero))
            rwa [List.take_length] at this
          have hB3 : Below w.heap.size w w1 := hB2.grown hg1 hB2.size fun j hj => by cases hj; exact hsw
          obtain ⟨T, hT⟩ : ∃ T, dtot xs s = T := ⟨_, rfl⟩
          have hTs := dtot_rs s HMZ.out (by rw [HXL.out]; omega)
          have hbad0 : T ≠ 0 → lbal xs = false := fun h => HDD.out.bad hh (by rw [hT]; exact h)
          have hst : T = 0 → Seen xs D (fun z => left z && !z.sameKey (kst s)) := fun h => HSn.out.step (by rw [hT]; exact h)
          rw [hT] at hc hTs
          have hp : p = iS T.num := congrArg RT.num hc
          have hq : q = nS T.den := congrArg RT.den hc
          have hSg : ∀ W, Glob W → Calls Tryz.prog 48 #[.agg #[.string p, .string q]] W fun e w' => e = .returned (.int .i64 (rsign ⟨p, q⟩)) ∧ Below W.heap.size W w' := fun W hgw => p_rsign p q W hgw (by rw [hp]; have := iS_sz hTs.1; omega) (by rw [hq, nS_size]; have := hTs.2; omega)
          have hv0 : T = 0 → rsign ⟨p, q⟩ = 0 := fun h => by rw [hc, h, rsign_enc]; rfl
          have hv1 : T ≠ 0 → rsign ⟨p, q⟩ ≠ 0 := fun h => by rw [hc]; exact rsign_ne h
          obtain ⟨v, hv⟩ : ∃ v, rsign ⟨p, q⟩ = v := ⟨_, rfl⟩
          rw [hv] at hSg hv0 hv1
          clear hat hc hp hq hT hv hTs hls
          by_cases h0 : T = 0
          · have hz := hv0 h0
            have HS := Lib.hid (hst h0)
            subst hz
            clear h0 hv0 hv1 hbad0 hst
            go_wp2_with (go_at_call 48; (with_reducible refine (hSg _ (hg.below (b_alloc hB3 _))).mono ?_); rintro e w2 ⟨rfl, hb2⟩; obtain ⟨hc2, hf2⟩ := bcell hb2; have hs2 := hb2.size; (try simp at hs2))
            have hrg2 := (hrg1.alloc (.cells #[.string p, .string q] 35)).kept (grown_of_below hb2 none) (by simp) (by simp)
            go_roundw
            case rel => exact ⟨_, cnt1, hrg2, HS.out, b_then (b_alloc hB3 _) hb2⟩
            case measure => rw [hrg2.left_eq, hrg.left_eq]; exact hlt1
          · have hz : ¬ v = 0 := hv1 h0
            have hbad := Lib.hid (hbad0 h0)
            clear h0 hv0 hv1 hbad0 hst
            go_wp2_with (go_at_call 48; (with_reducible refine (hSg _ (hg.below (b_alloc hB3 _))).mono ?_); rintro e w2 ⟨rfl, hb2⟩; obtain ⟨hc2, hf2⟩ := bcell hb2; have hs2 := hb2.size; (try simp at hs2))
            go_ret
            exact ⟨ret_bool hbad.out.symm, b_then (b_alloc hB3 _) hb2⟩
end Go.Proofs.YtjdkbmlkplbmoaaGreatDoor
