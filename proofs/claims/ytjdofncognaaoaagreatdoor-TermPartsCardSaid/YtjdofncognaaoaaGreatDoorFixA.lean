/- Walks of book.Name, cmp.Or, fixing.compare, fixing.one. -/
import Derived.Test.YtjdofncognaaoaaGreatDoorRat
import Derived.Test.YtjdofncognaaoaaGreatDoorNames
namespace Go.Proofs.YtjdofncognaaoaaGreatDoor
open Go.RowKit
set_option linter.unusedVariables false
set_option linter.unusedSimpArgs false

def nmSet : List UInt8 := [97, 98, 99, 100, 101, 102, 103, 104, 105, 106, 107, 108, 109, 110, 111, 112, 113, 114, 115, 116, 117, 118, 119, 120, 121, 122, 48, 49, 50, 51, 52, 53, 54, 55, 56, 57]
set_option maxRecDepth 100000 in
theorem nmSet_nat : ∀ n, n < 256 → nmSet.contains (UInt8.ofNat n) = ((decide (97 ≤ n) && decide (n ≤ 122)) || (decide (48 ≤ n) && decide (n ≤ 57))) := by decide
theorem nmSet_c (c : UInt8) : nmSet.contains c = nmc c := by
  have := nmSet_nat c.toNat c.toNat_lt
  rw [show UInt8.ofNat c.toNat = c by simp] at this
  exact this
theorem dropW_nil {α : Type} (p : α → Bool) : ∀ l : List α, l.dropWhile p = [] ↔ ∀ x ∈ l, p x = true
  | [] => by simp
  | a :: l => by
    rw [List.dropWhile_cons]
    cases h : p a with
    | true => simp [dropW_nil p l, h]
    | false => simp [h]
theorem dropW_head {α : Type} (p : α → Bool) : ∀ (l : List α) (y : α) (r : List α), l.dropWhile p = y :: r → p y = false
  | [], _, _, h => by simp at h
  | a :: l, y, r, h => by
    rw [List.dropWhile_cons] at h
    cases hp : p a with
    | true => rw [hp] at h; exact dropW_head p l y r (by simpa using h)
    | false =>
      rw [hp] at h
      have : a = y := by simp at h; exact h.1
      rw [← this]; exact hp
theorem dropW_mem {α : Type} (p : α → Bool) : ∀ (l : List α) (x : α), x ∈ l.dropWhile p → x ∈ l
  | [], _, h => by simp at h
  | a :: l, x, h => by
    rw [List.dropWhile_cons] at h
    cases hp : p a with
    | true => rw [hp] at h; exact List.mem_cons_of_mem _ (dropW_mem p l x (by simpa using h))
    | false => rw [hp] at h; simpa using h
theorem trimS_nil (l cs : List UInt8) : Lib.trimS l cs = [] ↔ l.all (cs.contains ·) = true := by
  unfold Lib.trimS Lib.trimLeftS Lib.trimRightS
  rw [dropW_nil, List.all_eq_true]
  constructor
  · intro h x hx
    rcases hm : l.reverse.dropWhile (cs.contains ·) with _ | ⟨y, r⟩
    · exact (dropW_nil _ _).1 hm x (by simpa using hx)
    · have h1 := h y (by rw [hm]; simp)
      have h2 := dropW_head _ _ _ _ hm
      rw [h1] at h2; cases h2
  · intro h x hx
    have h1 := dropW_mem _ _ _ (List.mem_reverse.1 hx)
    exact h x (by simpa using h1)
theorem isName_prog (s : ByteArray) : isName s = (!(s.toList == []) && (decide (s.size ≤ 20) && ((mkS (Lib.trimS (Lib.trimPrefix s.data.toList [33]) nmSet)).toList == []))) := by
  have h1 : ((mkS (Lib.trimS (Lib.trimPrefix s.data.toList [33]) nmSet)).toList == []) = nmAll s.data.toList := by
    rw [tl, mkS_l, Bool.eq_iff_iff, beq_iff_eq, trimS_nil]
    have hc : (fun c => nmSet.contains c) = nmc := funext nmSet_c
    rw [hc]
    unfold Lib.trimPrefix Lib.hasPrefix
    cases hl : s.data.toList with
    | nil => simp [nmAll]
    | cons c t =>
      by_cases h33 : c = 33
      · subst h33; simp [nmAll, List.isPrefixOf]
      · have : ([33].isPrefixOf (c :: t)) = false := by simp [List.isPrefixOf]; exact fun e => h33 e.symm
        rw [this, if_neg (by simp), show nmAll (c :: t) = (c :: t).all nmc by unfold nmAll; split <;> simp_all]
  have h2 : decide (1 ≤ s.size) = !(s.toList == []) := by
    rw [tl, sz]
    cases s.data.toList <;> simp
  rw [h1, isName, h2]
  cases nmAll s.data.toList <;> cases (s.toList == []) <;> cases decide (s.size ≤ 20) <;> rfl
theorem mkS_nil (l : List UInt8) (h : l.length ≤ 9223372036854775807) : (mkS l).size ≤ 9223372036854775807 := by rw [mkS_size]; exact h
theorem trimPrefix_len (l p : List UInt8) : (Lib.trimPrefix l p).length ≤ l.length := by
  unfold Lib.trimPrefix; split
  · rw [List.length_drop]; omega
  · omega
theorem c_bang (s : ByteArray) (w : World) : Calls Tryz.prog 163 #[.string s, .string ⟨#[33]⟩] w fun e w' => e = .returned (.string (mkS (Lib.trimPrefix s.data.toList [33]))) ∧ w = w' := c_trimPrefix s ⟨#[33]⟩ w
theorem nmSet_small : ∀ (j : Nat) b, nmSet[j]? = some b → b.toNat < 128 := by
  intro j b hb
  have : ∀ b ∈ nmSet, b.toNat < 128 := by decide
  exact this b (List.mem_of_getElem? hb)
theorem c_trimNm (l : List UInt8) (w : World) (h : l.length ≤ 9223372036854775807) : Calls Tryz.prog 164 #[.string (mkS l), .string ⟨#[97, 98, 99, 100, 101, 102, 103, 104, 105, 106, 107, 108, 109, 110, 111, 112, 113, 114, 115, 116, 117, 118, 119, 120, 121, 122, 48, 49, 50, 51, 52, 53, 54, 55, 56, 57]⟩] w fun e w' => e = .returned (.string (mkS (Lib.trimS l nmSet))) ∧ Below w.heap.size w w' :=
  c_trim (mkS l) ⟨nmSet.toArray⟩ w (by rw [mkS_size]; exact h) (by decide) nmSet_small
set_option maxHeartbeats 800000 in
theorem p_name (s : ByteArray) (w : World) (hs : s.size ≤ 9223372036854775807) :
    Calls Tryz.prog 136 #[.string s] w fun e w' => e = .returned (.bool (isName s)) ∧ Below w.heap.size w w' := by
  rw [isName_prog]
  have hl := trimPrefix_len s.data.toList [33]
  rw [← sz] at hl
  obtain ⟨t, ht⟩ : ∃ t, Lib.trimPrefix s.data.toList [33] = t := ⟨_, rfl⟩
  have hb := c_bang s w
  rw [ht] at hl hb ⊢
  clear ht
  cases c1 : (s.toList == []) <;> cases c2 : ((mkS (Lib.trimS t nmSet)).toList == []) <;> by_cases c3 : s.size ≤ 20
  all_goals
    go_enter Tryz.func136, Tryz.ntmps136
    go_wp2_with (first | (go_at_call 163; (with_reducible refine (hb).mono ?_); rintro e w' ⟨rfl, rfl⟩) | (go_at_call 164; (with_reducible refine (c_trimNm t _ (by omega)).mono ?_); rintro e w1 ⟨rfl, hb1⟩; obtain ⟨hc1, hf1⟩ := bcell hb1; have hs1 := hb1.size; (try simp at hs1)))
    go_ret
    exact ⟨ret_bool (by simp [c3]), (by repeat (first | exact Below.refl _ _ | assumption | refine b_then ?_ (by assumption) | refine b_alloc ?_ _ | refine b_drewN ?_ _ | refine Below.drew ?_ | refine b_set ?_ (by first | exact Nat.le_refl _ | (simp; done) | (simp; omega) | omega) _))⟩
end Go.Proofs.YtjdofncognaaoaaGreatDoor

/- Walks of cmp.Or, fixing.compare, fixing.one. -/
namespace Go.Proofs.YtjdofncognaaoaaGreatDoor
open Go.RowKit
set_option linter.unusedVariables false
set_option linter.unusedSimpArgs false

def or2 (x y : Int) : Int := if x = 0 then y else x
set_option maxHeartbeats 400000 in
theorem c_or2 (g : Nat) (x y : Int) (w : World) (h0 : w.cell? ⟨g, 0, none⟩ = some (.int .i64 x)) (h1 : w.cell? ⟨g, 1, none⟩ = some (.int .i64 y)) :
    Calls Tryz.prog 137 #[.slice (some ⟨g, 0, none⟩) 2 2] w fun e w' => e = .returned (.int .i64 (or2 x y)) ∧ w = w' := by
  go_enter Tryz.func137, Tryz.ntmps137
  go_wp2
  go_loop [8] (fun i => ∃ k : Nat, k ≤ 2 ∧ i = .int .i64 k ∧ (1 ≤ k → x = 0) ∧ (2 ≤ k → y = 0)) (fun i => 2 - (intOf i).toNat)
  case atStart => exact ⟨0, by omega, rfl, fun h => by omega, fun h => by omega⟩
  case round =>
    obtain ⟨k, hk, rfl, hx, hy⟩ := hrel
    match k, hk with
    | 0, _ =>
      by_cases hx0 : x = 0
      · have hb : (x == 0) = true := by simpa using hx0
        go_wp2
        go_round
        case rel => exact ⟨1, by omega, rfl, fun _ => hx0, fun h => by omega⟩
        case measure => simp [intOf]
      · have hb : (x == 0) = false := by simpa using hx0
        go_wp2
        go_ret
        exact ⟨ret_int (by rw [or2, if_neg hx0]), rfl⟩
    | 1, _ =>
      have hx0 := hx (by omega)
      clear hx hy
      by_cases hy0 : y = 0
      · have hb : (y == 0) = true := by simpa using hy0
        go_wp2
        go_round
        case rel => exact ⟨2, by omega, rfl, fun _ => hx0, fun _ => hy0⟩
        case measure => simp [intOf]
      · have hb : (y == 0) = false := by simpa using hy0
        go_wp2
        go_ret
        exact ⟨ret_int (by simp [or2, hx0]), rfl⟩
    | 2, _ =>
      have hx0 := hx (by omega)
      have hy0 := hy (by omega)
      clear hx hy
      go_wp2
      go_ret
      exact ⟨ret_int (by simp [or2, hx0, hy0]), rfl⟩
theorem c_or2n (W : World) (g : Nat) (hg : W.heap.size = g) (x y : Int) :
    Calls Tryz.prog 137 #[.slice (some ⟨g, 0, none⟩) 2 2] (W.alloc (.cells #[.int .i64 x, .int .i64 y] 3)) fun e w' => e = .returned (.int .i64 (or2 x y)) ∧ (W.alloc (.cells #[.int .i64 x, .int .i64 y] 3)) = w' := by
  subst hg
  obtain ⟨h0, h1, _, _⟩ := Blk.two (Blk.new W 3 #[.int .i64 x, .int .i64 y])
  exact c_or2 _ x y _ h0 h1
/-- An order of prices. -/
def fcmp (a b : Fx) : Int := or2 (Lib.compareBytes a.asset.data.toList b.asset.data.toList) (Lib.compareInt a.day b.day)
theorem cmpB_spec (a b : List UInt8) : (Lib.compareBytes a b < 0 ↔ a < b) ∧ (Lib.compareBytes a b = 0 ↔ a = b) := by
  induction a generalizing b with
  | nil => cases b <;> simp [Lib.compareBytes]
  | cons x a ih =>
    cases b with
    | nil => simp [Lib.compareBytes]
    | cons y b =>
      obtain ⟨h1, h2⟩ := ih b
      simp only [Lib.compareBytes, List.cons_lt_cons_iff, List.cons.injEq]
      by_cases hxy : x < y
      · have hne : x ≠ y := fun e => by subst e; exact absurd hxy (by simp)
        simp [hxy, hne]
      · by_cases hyx : y < x
        · have hne : x ≠ y := fun e => by subst e; exact absurd hyx (by simp)
          simp [hxy, hyx, hne]
        · have he : x = y := by
            have h3 : ¬ x.toNat < y.toNat := fun h => hxy (UInt8.lt_iff_toNat_lt.2 h)
            have h4 : ¬ y.toNat < x.toNat := fun h => hyx (UInt8.lt_iff_toNat_lt.2 h)
            exact UInt8.toNat_inj.1 (by omega)
          subst he
          simp [h1, h2]
theorem fahead_fcmp (a b : Fx) : fahead a b = decide (fcmp a b < 0) := by
  obtain ⟨h1, h2⟩ := cmpB_spec a.asset.data.toList b.asset.data.toList
  unfold fahead slt fcmp or2
  rw [Bool.eq_iff_iff, Bool.or_eq_true, Bool.and_eq_true, bytesLess_iff, tl, tl, beq_iff_eq, decide_eq_true_eq, decide_eq_true_eq, ← h1, ← h2]
  have h3 : Lib.compareInt a.day b.day < 0 ↔ a.day < b.day := by unfold Lib.compareInt; split <;> (try split) <;> omega
  split
  · rename_i h; rw [h3]; omega
  · omega
theorem fcmp_zero (a b : Fx) : fcmp a b = 0 ↔ a.asset = b.asset ∧ a.day = b.day := by
  obtain ⟨h1, h2⟩ := cmpB_spec a.asset.data.toList b.asset.data.toList
  have h3 : Lib.compareInt a.day b.day = 0 ↔ a.day = b.day := by unfold Lib.compareInt; split <;> (try split) <;> omega
  have h4 : a.asset = b.asset ↔ a.asset.data.toList = b.asset.data.toList := ⟨fun e => by rw [e], s_ext⟩
  unfold fcmp or2
  rw [h4, ← h2]
  split
  · rename_i h; rw [h3]; exact ⟨fun e => ⟨h, e⟩, fun e => e.2⟩
  · rename_i h; exact ⟨fun e => absurd e h, fun e => absurd e.1 h⟩
theorem wp_one {P : Program} {c : Code} {Q : Exit → Act → World → Prop} {a : Act} {w : World} {a0 : Act} {w0 : World} (h : c.wp P (OneN a0 w0) a w) (hq : Q .normal a0 w0) : c.wp P Q a w := wp_mono h (OneN.to hq)
end Go.Proofs.YtjdofncognaaoaaGreatDoor

/- Tables of prices that rise: plain lemmas. -/
namespace Go.Proofs.YtjdofncognaaoaaGreatDoor
set_option linter.unusedVariables false
set_option linter.unusedSimpArgs false

/-- Where a search may end: what is ahead of it is lesser, what is there is not. -/
def bsI (xs : List Fx) (t : Fx) (lo hi : Nat) : Prop := lo ≤ hi ∧ hi ≤ xs.length ∧ (∀ a, 0 < lo → xs[lo - 1]? = some a → fcmp a t < 0) ∧ (∀ a, xs[hi]? = some a → 0 ≤ fcmp a t)
def fat (xs : List Fx) (t : Fx) (i : Nat) : Bool := match xs[i]? with | some a => decide (fcmp a t = 0) | none => false
theorem bsI_start (xs : List Fx) (t : Fx) : bsI xs t 0 xs.length := ⟨Nat.zero_le _, Nat.le_refl _, fun _ h => absurd h (by omega), fun a h => by simp at h⟩
theorem bsI_up {xs : List Fx} {t a : Fx} {lo hi m : Nat} (h : bsI xs t lo hi) (hm : m < hi) (ha : xs[m]? = some a) (hc : fcmp a t < 0) : bsI xs t (m + 1) hi :=
  ⟨hm, h.2.1, fun b _ hb => by rw [Nat.add_sub_cancel, ha] at hb; cases hb; exact hc, h.2.2.2⟩
theorem bsI_down {xs : List Fx} {t a : Fx} {lo hi m : Nat} (h : bsI xs t lo hi) (hl : lo ≤ m) (hm : m < hi) (ha : xs[m]? = some a) (hc : ¬ fcmp a t < 0) : bsI xs t lo m :=
  ⟨hl, by have := h.2.1; omega, h.2.2.1, fun b hb => by rw [ha] at hb; cases hb; omega⟩

theorem fahead_iff (a b : Fx) : fahead a b = true ↔ a.asset.data.toList < b.asset.data.toList ∨ (a.asset = b.asset ∧ a.day < b.day) := by
  unfold fahead slt
  rw [Bool.or_eq_true, Bool.and_eq_true, bytesLess_iff, tl, tl, beq_iff_eq, decide_eq_true_eq]
  exact ⟨fun h => h.imp id fun h => ⟨s_ext h.1, h.2⟩, fun h => h.imp id fun h => ⟨by rw [h.1], h.2⟩⟩
theorem fahead_trans {a b c : Fx} (h : fahead a b = true) (k : fahead b c = true) : fahead a c = true := by
  rw [fahead_iff] at h k ⊢
  rcases h with h | ⟨h, h'⟩ <;> rcases k with k | ⟨k, k'⟩
  · exact .inl (List.lt_trans h k)
  · exact .inl (by rw [← k]; exact h)
  · exact .inl (by rw [h]; exact k)
  · exact .inr ⟨h.trans k, by omega⟩
theorem fahead_irr (a : Fx) : fahead a a = false := by
  rw [← Bool.not_eq_true, fahead_iff]
  rintro (h | ⟨_, h⟩)
  · exact List.lt_irrefl _ h
  · omega
theorem blt_tri : ∀ a b : List UInt8, a < b ∨ a = b ∨ b < a
  | [], [] => .inr (.inl rfl)
  | [], _ :: _ => .inl (by simp)
  | _ :: _, [] => .inr (.inr (by simp))
  | x :: a, y :: b => by
    rw [List.cons_lt_cons_iff, List.cons_lt_cons_iff, List.cons.injEq]
    by_cases hxy : x < y
    · exact .inl (.inl hxy)
    · by_cases hyx : y < x
      · exact .inr (.inr (.inl hyx))
      · have he : x = y := by
          have h3 : ¬ x.toNat < y.toNat := fun h => hxy (UInt8.lt_iff_toNat_lt.2 h)
          have h4 : ¬ y.toNat < x.toNat := fun h => hyx (UInt8.lt_iff_toNat_lt.2 h)
          exact UInt8.toNat_inj.1 (by omega)
        subst he
        rcases blt_tri a b with h | h | h
        · exact .inl (.inr ⟨rfl, h⟩)
        · exact .inr (.inl ⟨rfl, h⟩)
        · exact .inr (.inr (.inr ⟨rfl, h⟩))
theorem fahead_tri (a b : Fx) : fahead a b = true ∨ fcmp a b = 0 ∨ fahead b a = true := by
  rw [fahead_iff, fcmp_zero, fahead_iff]
  rcases blt_tri a.asset.data.toList b.asset.data.toList with h | h | h
  · exact .inl (.inl h)
  · have e := s_ext h
    rcases Int.lt_trichotomy a.day b.day with h1 | h1 | h1
    · exact .inl (.inr ⟨e, h1⟩)
    · exact .inr (.inl ⟨e, h1⟩)
    · exact .inr (.inr (.inr ⟨e.symm, h1⟩))
  · exact .inr (.inr (.inl h))
theorem fahead_not_back {a b : Fx} (h : fahead a b = true) : fahead b a = false := by
  rw [← Bool.not_eq_true]; intro k
  have := fahead_trans h k
  rw [fahead_irr] at this; cases this
theorem fahead_lt (a b : Fx) : fahead a b = true ↔ fcmp a b < 0 := by rw [fahead_fcmp, decide_eq_true_eq]
theorem fahead_gt {a b : Fx} : fahead b a = true ↔ 0 < fcmp a b := by
  constructor
  · intro h
    have h1 := fahead_not_back h
    rw [fahead_fcmp, decide_eq_false_iff_not] at h1
    have h2 : ¬ fcmp a b = 0 := fun e => by
      have h3 := (fcmp_zero a b).1 e
      rw [fahead_iff, h3.1, h3.2] at h
      rcases h with h | ⟨_, h⟩
      · exact List.lt_irrefl _ h
      · omega
    omega
  · intro h
    rcases fahead_tri a b with h1 | h1 | h1
    · rw [fahead_lt] at h1; omega
    · omega
    · exact h1
theorem rises_pair {l : List Fx} (h : rises fahead l = true) : ∀ (d i : Nat) (a b : Fx), l[i]? = some a → l[i + (d + 1)]? = some b → fahead a b = true := by
  rw [rises_iff] at h
  intro d
  induction d with
  | zero => intro i a b ha hb; exact h i a b ha hb
  | succ d ih =>
    intro i a b ha hb
    have hl : i + (d + 1) < l.length := by have := (List.getElem?_eq_some_iff.1 hb).1; omega
    have hm : l[i + (d + 1)]? = some l[i + (d + 1)] := List.getElem?_eq_getElem hl
    exact fahead_trans (ih i a _ ha hm) (h (i + (d + 1)) _ b hm (by rw [← hb]; congr 1))
theorem rises_lt {l : List Fx} (h : rises fahead l = true) {i j : Nat} {a b : Fx} (hij : i < j) (ha : l[i]? = some a) (hb : l[j]? = some b) : fahead a b = true :=
  rises_pair h (j - i - 1) i a b ha (by rw [← hb]; congr 1; omega)
theorem bs_split {l : List Fx} {f : Fx} {i : Nat} (hs : rises fahead l = true) (h : bsI l f i i) {j : Nat} {a : Fx} (ha : l[j]? = some a) : (j < i → fahead a f = true) ∧ (i ≤ j → fahead a f = false) := by
  obtain ⟨_, h2, h3, h4⟩ := h
  constructor
  · intro hj
    have hl : i - 1 < l.length := by omega
    have hm : l[i - 1]? = some l[i - 1] := List.getElem?_eq_getElem hl
    have h5 := h3 _ (by omega) hm
    rw [← fahead_lt] at h5
    by_cases e : j = i - 1
    · subst e; rw [ha] at hm; cases hm; exact h5
    · exact fahead_trans (rises_lt hs (by omega) ha hm) h5
  · intro hj
    have hjl : j < l.length := (List.getElem?_eq_some_iff.1 ha).1
    have hm : l[i]? = some l[i] := List.getElem?_eq_getElem (by omega)
    have h5 := h4 _ hm
    rw [← Bool.not_eq_true]
    intro k
    by_cases e : j = i
    · subst e; rw [ha] at hm; cases hm; rw [fahead_lt] at k; omega
    · have := fahead_trans (rises_lt hs (by omega) hm ha) k
      rw [fahead_lt] at this; omega
theorem while_cut {α : Type} (p : α → Bool) : ∀ (l : List α) (i : Nat), i ≤ l.length → (∀ j a, j < i → l[j]? = some a → p a = true) → (∀ a, l[i]? = some a → p a = false) → l.takeWhile p = l.take i ∧ l.dropWhile p = l.drop i
  | [], i, hi, _, _ => by simp at hi; simp [hi]
  | x :: l, 0, _, _, h2 => by
    have := h2 x rfl
    simp [List.takeWhile_cons, List.dropWhile_cons, this]
  | x :: l, i + 1, hi, h1, h2 => by
    have hx := h1 0 x (by omega) rfl
    obtain ⟨e1, e2⟩ := while_cut p l i (by simpa using hi) (fun j a hj ha => h1 (j + 1) a (by omega) (by simpa using ha)) (fun a ha => h2 a (by simpa using ha))
    simp [List.takeWhile_cons, List.dropWhile_cons, hx, e1, e2]
theorem fins_cut {l : List Fx} {f : Fx} {i : Nat} (hs : rises fahead l = true) (h : bsI l f i i) : fins l f = l.take i ++ f :: l.drop i := by
  obtain ⟨e1, e2⟩ := while_cut (fahead · f) l i h.2.1 (fun j a hj ha => (bs_split hs h ha).1 hj) (fun a ha => (bs_split hs h ha).2 (Nat.le_refl _))
  rw [fins, e1, e2]
theorem rises_mid {α : Type} {lt : α → α → Bool} : ∀ (x : List α) (y : α) (z : List α), rises lt (x ++ y :: z) = (rises lt x && (rises lt z && (x.getLast?.all (lt · y) && z.head?.all (lt y ·))))
  | [], y, [] => by simp [rises]
  | [], y, b :: z => by simp [rises, Bool.and_comm]
  | [a], y, z => by
    have := rises_mid (lt := lt) [] y z
    simp only [List.nil_append, List.getLast?_nil, rises, Bool.true_and, Option.all_none] at this
    simp only [List.cons_append, List.nil_append, rises, this, List.getLast?_singleton, Bool.true_and, Option.all_some]
    cases lt a y <;> cases rises lt z <;> simp
  | a :: b :: x, y, z => by
    have := rises_mid (lt := lt) (b :: x) y z
    simp only [List.cons_append] at this
    simp only [List.cons_append, rises, this, List.getLast?_cons_cons, Bool.and_assoc]
theorem fmay_ins {l : List Fx} {f : Fx} {i : Nat} (hm : fmay l = true) (h : bsI l f i i) : fmay (fins l f) = (fone f && !(fat l f i)) := by
  rw [fmay, Bool.and_eq_true] at hm
  obtain ⟨h1, h2⟩ := hm
  have hil := h.2.1
  have hall : (l.take i ++ f :: l.drop i).all fone = fone f := by
    rw [List.all_append, List.all_cons]
    have e : l.all fone = ((l.take i).all fone && (l.drop i).all fone) := by rw [← List.all_append, List.take_append_drop]
    rw [h1] at e
    have e1 : (l.take i).all fone = true ∧ (l.drop i).all fone = true := by rw [← Bool.and_eq_true]; exact e.symm
    rw [e1.1, e1.2]; simp
  have hr : rises fahead (l.take i) = true ∧ rises fahead (l.drop i) = true := by
    rw [rises_iff] at h2
    constructor
    · rw [rises_iff]; intro k a b ha hb
      rw [List.getElem?_take] at ha hb
      split at ha <;> split at hb
      · exact h2 k a b ha hb
      all_goals first | cases ha | cases hb
    · rw [rises_iff]; intro k a b ha hb
      rw [List.getElem?_drop] at ha hb
      exact h2 (i + k) a b ha (by rw [← hb]; congr 1)
  rw [fins_cut h2 h, fmay, hall, rises_mid, hr.1, hr.2, Bool.true_and, Bool.true_and]
  have hlast : (l.take i).getLast?.all (fahead · f) = true := by
    rcases Nat.eq_zero_or_pos i with e | e
    · subst e; simp
    · have hm : l[i - 1]? = some l[i - 1] := List.getElem?_eq_getElem (by omega)
      have : (l.take i).getLast? = some l[i - 1] := by
        rw [List.getLast?_eq_getElem?, List.length_take, Nat.min_eq_left hil, List.getElem?_take, if_pos (by omega), hm]
      rw [this]
      exact (bs_split h2 h hm).1 (by omega)
  have hhead : (l.drop i).head?.all (fahead f ·) = !(fat l f i) := by
    rw [List.head?_drop]
    unfold fat
    cases hx : l[i]? with
    | none => rfl
    | some b =>
      have h5 := h.2.2.2 b hx
      rw [Option.all_some, Bool.eq_iff_iff, fahead_gt, Bool.not_eq_true', decide_eq_false_iff_not]
      omega
  rw [hlast, hhead, Bool.true_and]
theorem fset_cut {l : List Fx} {f : Fx} {i : Nat} (hm : fmay l = true) (h : bsI l f i i) : fset l f = if fone f && !(fat l f i) then some (l.take i ++ f :: l.drop i) else none := by
  have h2 : rises fahead l = true := by rw [fmay, Bool.and_eq_true] at hm; exact hm.2
  rw [fset, hm, fmay_ins hm h, fins_cut h2 h, Bool.true_and]
theorem fhit_cmp (a : ByteArray) (d : Int) (p : RT) (f : Fx) : fhit a d f = decide (fcmp f ⟨a, d, p⟩ = 0) := by
  rw [Bool.eq_iff_iff, decide_eq_true_eq, fcmp_zero]
  unfold fhit
  rw [Bool.and_eq_true, beq_iff_eq, beq_iff_eq, tl, tl]
  exact ⟨fun h => ⟨s_ext h.1, h.2⟩, fun h => ⟨by rw [h.1], h.2⟩⟩
theorem find_cut {α : Type} {p : α → Bool} {l : List α} {i : Nat} {a : α} (h1 : ∀ j b, j < i → l[j]? = some b → p b = false) (ha : l[i]? = some a) (hp : p a = true) : l.find? p = some a := by
  have : (l.take i).find? p = none := by
    rw [List.find?_eq_none]
    intro x hx
    obtain ⟨j, hj, rfl⟩ := List.mem_iff_getElem.1 hx
    rw [List.length_take] at hj
    have := h1 j l[j] (by omega) (List.getElem?_eq_getElem (by omega))
    rw [List.getElem_take]
    simp [this]
  exact find_hit this ha hp
theorem fget_cut {l : List Fx} {a : ByteArray} {d : Int} {p : RT} {i : Nat} (hm : fmay l = true) (h : bsI l ⟨a, d, p⟩ i i) : fget l a d = if fat l ⟨a, d, p⟩ i then (l[i]?).map Fx.p else none := by
  have h2 : rises fahead l = true := by rw [fmay, Bool.and_eq_true] at hm; exact hm.2
  rw [fget, if_pos hm]
  have hne : ∀ j b, j < i → l[j]? = some b → fhit a d b = false := fun j b hj hb => by
    have := (bs_split h2 h hb).1 hj
    rw [fahead_lt] at this
    rw [fhit_cmp a d p, decide_eq_false_iff_not]; omega
  cases hf : fat l ⟨a, d, p⟩ i with
  | true =>
    rw [if_pos rfl]
    unfold fat at hf
    cases hx : l[i]? with
    | none => rw [hx] at hf; cases hf
    | some b =>
      rw [hx] at hf
      rw [find_cut hne hx (by rw [fhit_cmp a d p]; exact hf)]
  | false =>
    rw [if_neg (by simp)]
    have : l.find? (fhit a d) = none := by
      rw [List.find?_eq_none]
      intro x hx
      obtain ⟨j, hj⟩ := List.mem_iff_getElem?.1 hx
      rw [Bool.not_eq_true]
      rcases Nat.lt_trichotomy j i with hji | hji | hji
      · exact hne j x hji hj
      · subst hji
        unfold fat at hf
        rw [hj] at hf
        rw [fhit_cmp a d p]; exact hf
      · have hil : i < l.length := by have := (List.getElem?_eq_some_iff.1 hj).1; omega
        have hm' : l[i]? = some l[i] := List.getElem?_eq_getElem hil
        have h5 := h.2.2.2 _ hm'
        have h6 := rises_lt h2 hji hm' hj
        rw [fhit_cmp a d p, decide_eq_false_iff_not]
        intro e
        have e1 := (fcmp_zero _ _).1 e
        rw [fahead_iff, e1.1, e1.2, ← fahead_iff l[i] ⟨a, d, p⟩, fahead_lt] at h6
        omega
    rw [this]; rfl
end Go.Proofs.YtjdofncognaaoaaGreatDoor

/- Books: plain words and laws, no program in sight. -/
namespace Go.Proofs.YtjdofncognaaoaaGreatDoor
open Go.RowKit
set_option linter.unusedVariables false
set_option linter.unusedSimpArgs false

/-- A line of a book. -/
structure Ln where
  acct : ByteArray
  asset : ByteArray
  q : RT
  deriving DecidableEq
def Ln.v (l : Ln) : Value := .agg #[.string l.acct, .string l.asset, .string l.q.num, .string l.q.den]
def Ln.cs (l : Ln) : List Value := [.string l.acct, .string l.asset, .string l.q.num, .string l.q.den]
def lahead (a b : Ln) : Bool := slt a.acct b.acct || (a.acct.toList == b.acct.toList && slt a.asset b.asset)
def lone (l : Ln) : Bool := isName l.acct && (isName l.asset && rmay l.q)
def rsign (x : RT) : Int := if rmay x then (rnum x).sign else 0
def lgood (l : Ln) : Bool := lone l && !(rsign l.q == 0)
def bmay (b : List Ln) : Bool := b.all lgood && rises lahead b
def lhit (s a : ByteArray) (l : Ln) : Bool := l.acct.toList == s.toList && l.asset.toList == a.toList
def radd (x y : RT) : RT := if rmay x && rmay y then enc (dec x + dec y) else rzero
def bgetL (b : List Ln) (s a : ByteArray) : RT := ((b.find? (lhit s a)).map Ln.q).getD (enc 0)
def bget (b : List Ln) (s a : ByteArray) : RT := if bmay b then bgetL b s a else rzero
/-- The lines, with a new one in its place; no other one of its names. -/
def bputR (l new : Ln) : Bool → List Ln → List Ln
  | laid, [] => if laid then [] else [new]
  | laid, x :: r => (if !laid && !lahead x l then [new] else []) ++ ((if lhit l.acct l.asset x then [] else [x]) ++ bputR l new (laid || !lahead x l) r)
def bput (b : List Ln) (l : Ln) : List Ln := bputR l ⟨l.acct, l.asset, radd (bgetL b l.acct l.asset) l.q⟩ (rsign (radd (bgetL b l.acct l.asset) l.q) == 0) b
def badd (b : List Ln) (l : Ln) : Option (List Ln) := if bmay b && lone l then some (bput b l) else none
def bholders (b : List Ln) (a : ByteArray) : List Ln := if bmay b then b.filter (fun l => l.asset.toList == a.toList) else []
def bsum (l : List Ln) : RT := l.foldl (fun s x => radd s x.q) (enc 0)
def btotal (b : List Ln) (a : ByteArray) : RT := if bmay b then bsum (bholders b a) else rzero

/-! ### Order -/
theorem slt_iff (a b : ByteArray) : slt a b = true ↔ a.data.toList < b.data.toList := by unfold slt; rw [bytesLess_iff, tl, tl]
theorem lahead_iff (a b : Ln) : lahead a b = true ↔ a.acct.data.toList < b.acct.data.toList ∨ (a.acct = b.acct ∧ a.asset.data.toList < b.asset.data.toList) := by
  unfold lahead
  rw [Bool.or_eq_true, Bool.and_eq_true, slt_iff, slt_iff, tl, tl, beq_iff_eq]
  exact ⟨fun h => h.imp id fun h => ⟨s_ext h.1, h.2⟩, fun h => h.imp id fun h => ⟨by rw [h.1], h.2⟩⟩
theorem lhit_iff {s a : ByteArray} {l : Ln} : lhit s a l = true ↔ l.acct = s ∧ l.asset = a := by
  unfold lhit
  rw [Bool.and_eq_true, tl, tl, tl, tl, beq_iff_eq, beq_iff_eq]
  exact ⟨fun h => ⟨s_ext h.1, s_ext h.2⟩, fun h => ⟨by rw [h.1], by rw [h.2]⟩⟩
theorem lahead_trans {a b c : Ln} (h : lahead a b = true) (k : lahead b c = true) : lahead a c = true := by
  rw [lahead_iff] at h k ⊢
  rcases h with h | ⟨h, h'⟩ <;> rcases k with k | ⟨k, k'⟩
  · exact .inl (List.lt_trans h k)
  · exact .inl (by rw [← k]; exact h)
  · exact .inl (by rw [h]; exact k)
  · exact .inr ⟨h.trans k, List.lt_trans h' k'⟩
theorem lahead_irr {a b : Ln} (h1 : a.acct = b.acct) (h2 : a.asset = b.asset) : lahead a b = false := by
  rw [← Bool.not_eq_true, lahead_iff, h1, h2]
  rintro (h | ⟨_, h⟩)
  · exact List.lt_irrefl _ h
  · exact List.lt_irrefl _ h
theorem lahead_tri (a b : Ln) : lahead a b = true ∨ lhit b.acct b.asset a = true ∨ lahead b a = true := by
  rw [lahead_iff, lhit_iff, lahead_iff]
  rcases blt_tri a.acct.data.toList b.acct.data.toList with h | h | h
  · exact .inl (.inl h)
  · have e := s_ext h
    rcases blt_tri a.asset.data.toList b.asset.data.toList with h1 | h1 | h1
    · exact .inl (.inr ⟨e, h1⟩)
    · exact .inr (.inl ⟨e, s_ext h1⟩)
    · exact .inr (.inr (.inr ⟨e.symm, h1⟩))
  · exact .inr (.inr (.inl h))
theorem lahead_not {a b : Ln} (h : lahead a b = true) : lahead b a = false := by
  rw [← Bool.not_eq_true]; intro k
  have := lahead_trans h k
  rw [lahead_irr rfl rfl] at this; cases this
theorem lahead_hit {a b : Ln} (h : lahead a b = true) : lhit b.acct b.asset a = false := by
  rw [← Bool.not_eq_true]; intro k
  obtain ⟨h1, h2⟩ := lhit_iff.1 k
  rw [lahead_irr h1 h2] at h; cases h
theorem lahead_hit' {a b : Ln} (h : lahead b a = true) : lhit b.acct b.asset a = false := by
  rw [← Bool.not_eq_true]; intro k
  obtain ⟨h1, h2⟩ := lhit_iff.1 k
  rw [lahead_irr h1.symm h2.symm] at h; cases h
theorem lahead_key {a b c : Ln} (h1 : b.acct = c.acct) (h2 : b.asset = c.asset) : lahead a b = lahead a c := by unfold lahead; rw [h1, h2]
theorem lahead_key' {a b c : Ln} (h1 : b.acct = c.acct) (h2 : b.asset = c.asset) : lahead b a = lahead c a := by unfold lahead; rw [h1, h2]
/-- Rising is: each one ahead of all behind it. -/
theorem rises_pw {l : List Ln} : rises lahead l = true ↔ l.Pairwise (fun a b => lahead a b = true) := by
  induction l with
  | nil => simp [rises]
  | cons a l ih =>
    rw [List.pairwise_cons, ← ih]
    cases l with
    | nil => simp [rises]
    | cons b l =>
      rw [rises, Bool.and_eq_true]
      constructor
      · rintro ⟨h1, h2⟩
        refine ⟨fun x hx => ?_, h2⟩
        rcases List.mem_cons.1 hx with rfl | hx
        · exact h1
        · exact lahead_trans h1 ((List.pairwise_cons.1 (ih.1 h2)).1 x hx)
      · rintro ⟨h1, h2⟩
        exact ⟨h1 b (by simp), h2⟩
/-- A book, cut at a line's place. -/
theorem bcut {b : List Ln} (h : rises lahead b = true) (l : Ln) : ∃ x m z, b = x ++ (m ++ z) ∧ (∀ e ∈ x, lahead e l = true) ∧ (∀ e ∈ z, lahead l e = true) ∧ (m = [] ∨ ∃ q, m = [⟨l.acct, l.asset, q⟩]) := by
  induction b with
  | nil => exact ⟨[], [], [], rfl, by simp, by simp, .inl rfl⟩
  | cons a b ih =>
    obtain ⟨h1, h2⟩ := List.pairwise_cons.1 (rises_pw.1 h)
    rcases lahead_tri a l with ha | ha | ha
    · obtain ⟨x, m, z, rfl, hx, hz, hm⟩ := ih (rises_pw.2 h2)
      refine ⟨a :: x, m, z, rfl, fun e he => ?_, hz, hm⟩
      rcases List.mem_cons.1 he with rfl | he
      · exact ha
      · exact hx e he
    · obtain ⟨e1, e2⟩ := lhit_iff.1 ha
      refine ⟨[], [a], b, rfl, by simp, fun e he => ?_, .inr ⟨a.q, ?_⟩⟩
      · rw [← lahead_key' (c := l) e1 e2]; exact h1 e he
      · cases a; dsimp only at e1 e2; rw [e1, e2]
    · refine ⟨[], [], a :: b, rfl, by simp, fun e he => ?_, .inl rfl⟩
      rcases List.mem_cons.1 he with rfl | he
      · exact ha
      · exact lahead_trans ha (h1 e he)
theorem bputR_x {l new : Ln} {laid : Bool} {x r : List Ln} (h : ∀ e ∈ x, lahead e l = true) : bputR l new laid (x ++ r) = x ++ bputR l new laid r := by
  induction x with
  | nil => rfl
  | cons a x ih =>
    have ha := h a (by simp)
    rw [List.cons_append, bputR, ha, lahead_hit ha]
    simp only [Bool.not_true, Bool.and_false, Bool.or_false, Bool.false_eq_true, if_false, List.nil_append]
    rw [ih fun e he => h e (List.mem_cons_of_mem _ he)]; rfl
theorem bputR_z {l new : Ln} {z : List Ln} (h : ∀ e ∈ z, lahead l e = true) : bputR l new true z = z := by
  induction z with
  | nil => rfl
  | cons a z ih =>
    have ha := h a (by simp)
    rw [bputR, lahead_hit' ha]
    simp only [Bool.not_true, Bool.false_and, Bool.true_or, Bool.false_eq_true, if_false, List.nil_append]
    rw [ih fun e he => h e (List.mem_cons_of_mem _ he)]; rfl
theorem bputR_new {l new : Ln} {z : List Ln} (h : ∀ e ∈ z, lahead l e = true) : bputR l new false z = new :: z := by
  cases z with
  | nil => rfl
  | cons a z =>
    have ha := h a (by simp)
    rw [bputR, lahead_hit' ha, lahead_not ha]
    simp only [Bool.not_false, Bool.and_true, Bool.or_true, Bool.false_eq_true, if_false, if_true]
    rw [bputR_z fun e he => h e (List.mem_cons_of_mem _ he)]; rfl
theorem bputR_cut {l new : Ln} {laid : Bool} {x m z : List Ln} (hx : ∀ e ∈ x, lahead e l = true) (hz : ∀ e ∈ z, lahead l e = true) (hm : m = [] ∨ ∃ q, m = [⟨l.acct, l.asset, q⟩]) :
    bputR l new laid (x ++ (m ++ z)) = x ++ ((if laid then [] else [new]) ++ z) := by
  rw [bputR_x hx]
  congr 1
  rcases hm with rfl | ⟨q, rfl⟩
  · cases laid with
    | true => exact bputR_z hz
    | false => exact bputR_new hz
  · have e1 : lahead ⟨l.acct, l.asset, q⟩ l = false := lahead_irr rfl rfl
    have e2 : lhit l.acct l.asset ⟨l.acct, l.asset, q⟩ = true := lhit_iff.2 ⟨rfl, rfl⟩
    rw [List.cons_append, List.nil_append, bputR, e1, e2]
    simp only [Bool.not_false, Bool.and_true, Bool.or_true, if_true, List.nil_append]
    rw [bputR_z hz]
    cases laid <;> rfl
theorem find_cutB {l : Ln} {x m z : List Ln} (hx : ∀ e ∈ x, lahead e l = true) (hz : ∀ e ∈ z, lahead l e = true) (hm : m = [] ∨ ∃ q, m = [⟨l.acct, l.asset, q⟩]) :
    (x ++ (m ++ z)).find? (lhit l.acct l.asset) = m.head? := by
  have h1 : x.find? (lhit l.acct l.asset) = none := List.find?_eq_none.2 fun e he => by rw [lahead_hit (hx e he)]; simp
  have h2 : z.find? (lhit l.acct l.asset) = none := List.find?_eq_none.2 fun e he => by rw [lahead_hit' (hz e he)]; simp
  rw [List.find?_append, h1, List.find?_append, h2]
  rcases hm with rfl | ⟨q, rfl⟩
  · rfl
  · rw [List.find?_cons, show lhit l.acct l.asset ⟨l.acct, l.asset, q⟩ = true from lhit_iff.2 ⟨rfl, rfl⟩]; rfl
end Go.Proofs.YtjdofncognaaoaaGreatDoor

/- Books: what is there, and the sum of it, behind a line that is put in. -/
namespace Go.Proofs.YtjdofncognaaoaaGreatDoor
open Go.RowKit
set_option linter.unusedVariables false
set_option linter.unusedSimpArgs false

theorem radd_enc (p q : Rat) : radd (enc p) (enc q) = enc (p + q) := by
  unfold radd
  rw [rmay_enc, rmay_enc, dec_enc, dec_enc]; rfl
theorem rsign_enc (q : Rat) : rsign (enc q) = q.num.sign := by
  unfold rsign
  rw [if_pos (rmay_enc q), show rnum (enc q) = q.num from ival_itx _]
theorem rsign_zero {x : RT} (h : rmay x = true) : rsign x = 0 ↔ x = enc 0 := by
  obtain ⟨q, rfl⟩ := rmay_of h
  rw [rsign_enc, Int.sign_eq_zero_iff_zero, Rat.num_eq_zero]
  exact ⟨fun e => by rw [e], fun e => enc_inj e⟩
theorem lgood_of {l : Ln} (h : lgood l = true) : isName l.acct = true ∧ isName l.asset = true ∧ rmay l.q = true ∧ l.q ≠ enc 0 := by
  unfold lgood lone at h
  simp only [Bool.and_eq_true, Bool.not_eq_true', beq_eq_false_iff_ne] at h
  obtain ⟨⟨h1, h2, h3⟩, h4⟩ := h
  exact ⟨h1, h2, h3, fun e => h4 ((rsign_zero h3).2 e)⟩
theorem lgood_mk {l : Ln} (h1 : isName l.acct = true) (h2 : isName l.asset = true) (h3 : rmay l.q = true) (h4 : l.q ≠ enc 0) : lgood l = true := by
  unfold lgood lone
  simp only [Bool.and_eq_true, Bool.not_eq_true', beq_eq_false_iff_ne]
  exact ⟨⟨h1, h2, h3⟩, fun e => h4 ((rsign_zero h3).1 e)⟩
theorem lone_of {l : Ln} (h : lone l = true) : isName l.acct = true ∧ isName l.asset = true ∧ rmay l.q = true := by
  unfold lone at h
  simp only [Bool.and_eq_true] at h; exact h
theorem bmay_all {b : List Ln} (h : bmay b = true) : ∀ x ∈ b, lgood x = true := by
  unfold bmay at h
  rw [Bool.and_eq_true, List.all_eq_true] at h; exact h.1
theorem bmay_rises {b : List Ln} (h : bmay b = true) : rises lahead b = true := by
  unfold bmay at h
  rw [Bool.and_eq_true] at h; exact h.2
theorem bmay_mk {b : List Ln} (h1 : ∀ x ∈ b, lgood x = true) (h2 : rises lahead b = true) : bmay b = true := by
  unfold bmay
  rw [Bool.and_eq_true, List.all_eq_true]; exact ⟨h1, h2⟩
theorem bget_some {b : List Ln} {s a : ByteArray} {x : Ln} (h : b.find? (lhit s a) = some x) : bgetL b s a = x.q := by unfold bgetL; rw [h]; rfl
theorem bget_none {b : List Ln} {s a : ByteArray} (h : b.find? (lhit s a) = none) : bgetL b s a = enc 0 := by unfold bgetL; rw [h]; rfl
theorem bget_mem {b : List Ln} (hm : bmay b = true) {x : Ln} (hx : x ∈ b) : bgetL b x.acct x.asset = x.q := by
  obtain ⟨u, m, z, rfl, hu, hz, hmm⟩ := bcut (bmay_rises hm) x
  have hf := find_cutB hu hz hmm
  have hxm : x ∈ m := by
    rcases List.mem_append.1 hx with h | h
    · have := hu x h; rw [lahead_irr rfl rfl] at this; cases this
    · rcases List.mem_append.1 h with h | h
      · exact h
      · have := hz x h; rw [lahead_irr rfl rfl] at this; cases this
  rcases hmm with rfl | ⟨q, rfl⟩
  · cases hxm
  · rw [← List.mem_singleton.1 hxm] at hf ⊢
    exact bget_some hf
theorem bget_may {b : List Ln} (hm : bmay b = true) (s a : ByteArray) : rmay (bgetL b s a) = true := by
  cases h : b.find? (lhit s a) with
  | none => rw [bget_none h]; exact rmay_enc 0
  | some x => rw [bget_some h]; exact (lgood_of (bmay_all hm x (List.mem_of_find?_eq_some h))).2.2.1
theorem bget_hit {b : List Ln} {s a : ByteArray} (h : bgetL b s a ≠ enc 0) : ∃ x ∈ b, x.acct = s ∧ x.asset = a ∧ x.q = bgetL b s a := by
  cases hf : b.find? (lhit s a) with
  | none => exact absurd (bget_none hf) h
  | some x =>
    obtain ⟨h1, h2⟩ := lhit_iff.1 (List.find?_some hf)
    exact ⟨x, List.mem_of_find?_eq_some hf, h1, h2, (bget_some hf).symm⟩
theorem pw_head {a : Ln} {l : List Ln} (h : rises lahead (a :: l) = true) : (∀ x ∈ l, lahead a x = true) ∧ rises lahead l = true := by
  obtain ⟨h1, h2⟩ := List.pairwise_cons.1 (rises_pw.1 h)
  exact ⟨h1, rises_pw.2 h2⟩
theorem lrises_ext : ∀ {l m : List Ln}, rises lahead l = true → rises lahead m = true → (∀ x, x ∈ l ↔ x ∈ m) → l = m
  | [], [], _, _, _ => rfl
  | [], b :: m, _, _, h => absurd ((h b).2 (by simp)) (by simp)
  | a :: l, [], _, _, h => absurd ((h a).1 (by simp)) (by simp)
  | a :: l, b :: m, hl, hm, h => by
    obtain ⟨h1, h2⟩ := pw_head hl
    obtain ⟨k1, k2⟩ := pw_head hm
    have hab : a = b := by
      rcases List.mem_cons.1 ((h a).1 (by simp)) with e | e
      · exact e
      · rcases List.mem_cons.1 ((h b).2 (by simp)) with e' | e'
        · exact e'.symm
        · have := lahead_trans (h1 b e') (k1 a e)
          rw [lahead_irr rfl rfl] at this; cases this
    subst hab
    refine congrArg _ (lrises_ext h2 k2 fun x => ⟨fun hx => ?_, fun hx => ?_⟩)
    · rcases List.mem_cons.1 ((h x).1 (List.mem_cons_of_mem _ hx)) with e | e
      · subst e; have := h1 x hx; rw [lahead_irr rfl rfl] at this; cases this
      · exact e
    · rcases List.mem_cons.1 ((h x).2 (List.mem_cons_of_mem _ hx)) with e | e
      · subst e; have := k1 x hx; rw [lahead_irr rfl rfl] at this; cases this
      · exact e
theorem bsub {b c : List Ln} (hb : bmay b = true) (h : ∀ s a, bgetL b s a = bgetL c s a) {x : Ln} (hx : x ∈ b) : x ∈ c := by
  have h1 := bget_mem hb hx
  have h2 := (lgood_of (bmay_all hb x hx)).2.2.2
  obtain ⟨y, hy, e1, e2, e3⟩ := bget_hit (b := c) (s := x.acct) (a := x.asset) (by rw [← h, h1]; exact h2)
  rw [← h, h1] at e3
  have : x = y := by cases x; cases y; dsimp only at e1 e2 e3; rw [e1, e2, e3]
  rw [this]; exact hy
/-- A book is what all have. -/
theorem bext {b c : List Ln} (hb : bmay b = true) (hc : bmay c = true) (h : ∀ s a, bgetL b s a = bgetL c s a) : b = c :=
  lrises_ext (bmay_rises hb) (bmay_rises hc) fun x => ⟨bsub hb h, bsub hc fun s a => (h s a).symm⟩
/-- What a line makes of a book. -/
theorem bput_cut {b : List Ln} (hb : bmay b = true) {l : Ln} (hl : lone l = true) : ∃ x m z, b = x ++ (m ++ z) ∧ (∀ e ∈ x, lahead e l = true) ∧ (∀ e ∈ z, lahead l e = true) ∧
    ((m = [] ∧ bgetL b l.acct l.asset = enc 0) ∨ m = [⟨l.acct, l.asset, bgetL b l.acct l.asset⟩]) ∧
    bput b l = x ++ ((if rsign (radd (bgetL b l.acct l.asset) l.q) = 0 then [] else [⟨l.acct, l.asset, radd (bgetL b l.acct l.asset) l.q⟩]) ++ z) := by
  obtain ⟨x, m, z, rfl, hx, hz, hm⟩ := bcut (bmay_rises hb) l
  have hf := find_cutB hx hz hm
  refine ⟨x, m, z, rfl, hx, hz, ?_, ?_⟩
  · rcases hm with rfl | ⟨q, rfl⟩
    · exact .inl ⟨rfl, bget_none hf⟩
    · right; rw [bget_some hf]
  · unfold bput
    rw [bputR_cut hx hz hm]
    by_cases h0 : rsign (radd (bgetL (x ++ (m ++ z)) l.acct l.asset) l.q) = 0
    · rw [h0]; rfl
    · rw [if_neg h0]
      rw [show (rsign (radd (bgetL (x ++ (m ++ z)) l.acct l.asset) l.q) == 0) = false by simpa using h0]; rfl
theorem radd_may {x y : RT} (hx : rmay x = true) (hy : rmay y = true) : rmay (radd x y) = true := by
  obtain ⟨p, rfl⟩ := rmay_of hx
  obtain ⟨q, rfl⟩ := rmay_of hy
  rw [radd_enc]; exact rmay_enc _
theorem new_may {v : RT} (h : rmay v = true) {l : Ln} (hl : lone l = true) : ∀ e ∈ (if rsign v = 0 then [] else [(⟨l.acct, l.asset, v⟩ : Ln)]), lgood e = true := by
  intro e he
  by_cases h0 : rsign v = 0
  · rw [if_pos h0] at he; cases he
  · rw [if_neg h0] at he
    rw [List.mem_singleton.1 he]
    obtain ⟨h1, h2, _⟩ := lone_of hl
    exact lgood_mk h1 h2 h fun k => h0 ((rsign_zero h).2 k)
theorem bput_may {b : List Ln} (hb : bmay b = true) {l : Ln} (hl : lone l = true) : bmay (bput b l) = true := by
  have hv := radd_may (bget_may hb l.acct l.asset) (lone_of hl).2.2
  obtain ⟨x, m, z, e, hx, hz, _, hp⟩ := bput_cut hb hl
  rw [hp]
  have hall := bmay_all hb
  have hpw := rises_pw.1 (bmay_rises hb)
  rw [e] at hall hpw
  have hn := new_may hv hl
  obtain ⟨p1, p2, p3⟩ := List.pairwise_append.1 hpw
  obtain ⟨p4, p5, p6⟩ := List.pairwise_append.1 p2
  refine bmay_mk (fun y hy => ?_) (rises_pw.2 (List.pairwise_append.2 ⟨p1, List.pairwise_append.2 ⟨?_, p5, ?_⟩, ?_⟩))
  · rcases List.mem_append.1 hy with h | h
    · exact hall y (List.mem_append_left _ h)
    · rcases List.mem_append.1 h with h | h
      · exact hn y h
      · exact hall y (List.mem_append_right _ (List.mem_append_right _ h))
  · split
    · exact List.Pairwise.nil
    · exact List.pairwise_singleton _ _
  · intro u hu v hv
    split at hu
    · cases hu
    · rw [List.mem_singleton.1 hu]; exact (lahead_key' (b := ⟨l.acct, l.asset, _⟩) (c := l) rfl rfl).trans (hz v hv)
  · intro u hu v hv
    rcases List.mem_append.1 hv with h | h
    · split at h
      · cases h
      · rw [List.mem_singleton.1 h]; exact (lahead_key (b := ⟨l.acct, l.asset, _⟩) (c := l) rfl rfl).trans (hx u hu)
    · exact p3 u hu v (List.mem_append_right _ h)
theorem find_none_key {l : Ln} {q : RT} {s a : ByteArray} (h : ¬ (s = l.acct ∧ a = l.asset)) : [(⟨l.acct, l.asset, q⟩ : Ln)].find? (lhit s a) = none := by
  rw [List.find?_eq_none]
  intro x hx
  rw [List.mem_singleton.1 hx, lhit_iff]
  exact fun k => h ⟨k.1.symm, k.2.symm⟩
/-- What is there, behind a line that is put in. -/
theorem bput_get {b : List Ln} (hb : bmay b = true) {l : Ln} (hl : lone l = true) (s a : ByteArray) :
    bgetL (bput b l) s a = if s = l.acct ∧ a = l.asset then radd (bgetL b s a) l.q else bgetL b s a := by
  have hv := radd_may (bget_may hb l.acct l.asset) (lone_of hl).2.2
  obtain ⟨x, m, z, e, hx, hz, hm, hp⟩ := bput_cut hb hl
  generalize hV : radd (bgetL b l.acct l.asset) l.q = V at *
  by_cases hk : s = l.acct ∧ a = l.asset
  · rw [if_pos hk]
    obtain ⟨rfl, rfl⟩ := hk
    rw [hV, hp]
    by_cases h0 : rsign V = 0
    · rw [if_pos h0]
      have hf := find_cutB (m := []) hx hz (.inl rfl)
      rw [bget_none hf, (rsign_zero hv).1 h0]
    · rw [if_neg h0]
      have hf := find_cutB (m := [⟨l.acct, l.asset, V⟩]) hx hz (.inr ⟨_, rfl⟩)
      rw [bget_some hf]
  · rw [if_neg hk, hp]
    have h1 : (if rsign V = 0 then [] else [(⟨l.acct, l.asset, V⟩ : Ln)]).find? (lhit s a) = none := by
      split
      · rfl
      · exact find_none_key hk
    have h2 : m.find? (lhit s a) = none := by
      rcases hm with ⟨rfl, _⟩ | rfl
      · rfl
      · exact find_none_key hk
    unfold bgetL
    rw [e, List.find?_append, List.find?_append, List.find?_append, List.find?_append, h1, h2]
/-- The sum, as a number. -/
def dsum (l : List Ln) : Rat := (l.map fun x => dec x.q).foldr (· + ·) 0
theorem dsum_nil : dsum [] = 0 := rfl
theorem dsum_cons (x : Ln) (l : List Ln) : dsum (x :: l) = dec x.q + dsum l := rfl
theorem dsum_append (l m : List Ln) : dsum (l ++ m) = dsum l + dsum m := by
  induction l with
  | nil => rw [List.nil_append, dsum_nil, Rat.zero_add]
  | cons x l ih => rw [List.cons_append, dsum_cons, dsum_cons, ih, Rat.add_assoc]
theorem bsum_from {l : List Ln} (h : ∀ x ∈ l, rmay x.q = true) (p : Rat) : l.foldl (fun s x => radd s x.q) (enc p) = enc (p + dsum l) := by
  induction l generalizing p with
  | nil => rw [dsum_nil, Rat.add_zero]; rfl
  | cons x l ih =>
    obtain ⟨q, hq⟩ := rmay_of (h x (by simp))
    rw [List.foldl_cons, hq, radd_enc, ih fun y hy => h y (List.mem_cons_of_mem _ hy), dsum_cons, hq, dec_enc, Rat.add_assoc]
theorem bsum_enc {l : List Ln} (h : ∀ x ∈ l, rmay x.q = true) : bsum l = enc (dsum l) := by
  unfold bsum; rw [bsum_from h, Rat.zero_add]
def ofAsset (a : ByteArray) (l : Ln) : Bool := l.asset.toList == a.toList
theorem ofAsset_iff {a : ByteArray} {l : Ln} : ofAsset a l = true ↔ l.asset = a := by
  unfold ofAsset
  rw [tl, tl, beq_iff_eq]
  exact ⟨fun h => s_ext h, fun h => by rw [h]⟩
/-- The total of an asset, as a number. -/
def dtot (b : List Ln) (a : ByteArray) : Rat := dsum (b.filter (ofAsset a))
theorem dtot_append (b c : List Ln) (a : ByteArray) : dtot (b ++ c) a = dtot b a + dtot c a := by unfold dtot; rw [List.filter_append, dsum_append]
theorem dtot_one (x : Ln) (a : ByteArray) : dtot [x] a = if a = x.asset then dec x.q else 0 := by
  unfold dtot
  by_cases h : a = x.asset
  · rw [if_pos h, List.filter_cons_of_pos (ofAsset_iff.2 h.symm)]; exact Rat.add_zero _
  · rw [if_neg h, List.filter_cons_of_neg (fun k => h (ofAsset_iff.1 k).symm)]; rfl
theorem dtot_nil (a : ByteArray) : dtot [] a = 0 := rfl
theorem bput_tot {b : List Ln} (hb : bmay b = true) {l : Ln} (hl : lone l = true) (a : ByteArray) : dtot (bput b l) a = dtot b a + dtot [l] a := by
  obtain ⟨p, hp⟩ := rmay_of (bget_may hb l.acct l.asset)
  obtain ⟨q, hq⟩ := rmay_of (lone_of hl).2.2
  obtain ⟨x, m, z, e, hx, hz, hm, hput⟩ := bput_cut hb hl
  have hbt : dtot b a = dtot x a + (dtot m a + dtot z a) := by rw [e, dtot_append, dtot_append]
  rw [hput, hp, hq, radd_enc, dtot_append, dtot_append, hbt]
  have h1 : dtot m a = if a = l.asset then p else 0 := by
    rcases hm with ⟨rfl, h0⟩ | rfl
    · rw [hp] at h0
      rw [dtot_nil, enc_inj h0]; split <;> rfl
    · rw [hp, dtot_one]
      show (if a = l.asset then dec (enc p) else 0) = _
      rw [dec_enc]
  have h2 : dtot (if rsign (enc (p + q)) = 0 then [] else [(⟨l.acct, l.asset, enc (p + q)⟩ : Ln)]) a = if a = l.asset then p + q else 0 := by
    by_cases h0 : rsign (enc (p + q)) = 0
    · rw [if_pos h0, dtot_nil]
      have := enc_inj ((rsign_zero (rmay_enc _)).1 h0)
      rw [this]; split <;> rfl
    · rw [if_neg h0, dtot_one]
      show (if a = l.asset then dec (enc (p + q)) else 0) = _
      rw [dec_enc]
  rw [h1, h2, dtot_one, hq, dec_enc]
  by_cases ha : a = l.asset
  · rw [if_pos ha, if_pos ha, if_pos ha, Rat.add_comm (p + q) (dtot z a), ← Rat.add_assoc, ← Rat.add_assoc, ← Rat.add_assoc]
    rw [Rat.add_assoc (dtot x a) (dtot z a) p, Rat.add_comm (dtot z a) p, ← Rat.add_assoc]
  · rw [if_neg ha, if_neg ha, if_neg ha, Rat.zero_add, Rat.add_zero]
theorem btotal_enc {b : List Ln} (hb : bmay b = true) (a : ByteArray) : btotal b a = enc (dtot b a) := by
  unfold btotal bholders
  rw [if_pos hb, if_pos hb, bsum_enc]
  · rfl
  · intro x hx
    exact (lgood_of (bmay_all hb x (List.mem_filter.1 hx).1)).2.2.1
end Go.Proofs.YtjdofncognaaoaaGreatDoor
