/- Slices of the call's own, cut; parts of slices that are read; lists of ints and of texts. -/
import Derived.Test.YtjdofncognaaoaaGreatDoorTmL
import Derived.Test.YtjdofncognaaoaaGreatDoorFixC
namespace Go.Proofs.YtjdofncognaaoaaGreatDoor
open Go.RowKit
set_option linter.unusedVariables false
set_option linter.unusedSimpArgs false

abbrev jCs (z : Int) : List Value := [.int .i64 z]
theorem jCs_length (z : Int) : (jCs z).length = 1 := rfl
theorem jCs_one (z : Int) : ∀ u ∈ jCs z, u.oneCell' = true := by
  intro u hu
  rw [List.mem_singleton.1 hu]; rfl
abbrev kCs (s : ByteArray) : List Value := [.string s]
theorem kCs_length (s : ByteArray) : (kCs s).length = 1 := rfl
theorem kCs_one (s : ByteArray) : ∀ u ∈ kCs s, u.oneCell' = true := by
  intro u hu
  rw [List.mem_singleton.1 hu]; rfl
section
variable {α : Type} {e : α → List Value} {z : Nat} {T : TypeId} {w w' : World} {base : Nat} {v : Value} {xs : List α}
/-- v[:k]. -/
theorem Own.cut (he : ∀ x, (e x).length = z) {A : Option Addr} {n c k : Nat} (h : Own e z T w base (.slice A n c) xs) (hk : k ≤ xs.length) : Own e z T w base (.slice A k c) (xs.take k) := by
  rcases h.row.2 with ⟨hv, h0⟩ | ⟨g, cap, cur, hv, hb, hh, hc, hm, hs, ht⟩
  · injection hv with h1 h2 h3
    subst h1; subst h3
    have : xs = [] := List.eq_nil_of_length_eq_zero h0
    subst this
    obtain rfl : k = 0 := by simpa using hk
    exact Own.nil
  · injection hv with h1 h2 h3
    subst h1; subst h3
    have hl : (xs.take k).length = k := by rw [List.length_take]; omega
    have := Own.of_ (T := T) (base := base) (xs := xs.take k) he hb hh (by omega) hm hs (by
      rw [hl, ← flat_take he, ← ht, List.take_take, Nat.min_eq_left (Nat.mul_le_mul_right _ hk)])
    rwa [hl] at this
/-- Its length and what it can hold. -/
theorem Own.shape {A : Option Addr} {n c : Nat} (h : Own e z T w base (.slice A n c) xs) : n = xs.length ∧ n ≤ c ∧ ((A = none ∧ n = 0 ∧ c = 0) ∨ ∃ g, A = some ⟨g, 0, none⟩) := by
  rcases h.row.2 with ⟨hv, h0⟩ | ⟨g, cap, cur, hv, hb, hh, hc, hm, hs, ht⟩
  · injection hv with h1 h2 h3
    exact ⟨by omega, by omega, .inl ⟨h1, h2, h3⟩⟩
  · injection hv with h1 h2 h3
    exact ⟨by omega, by omega, .inr ⟨g, h1⟩⟩
/-- v[q:]. -/
theorem Rd.from_ {ad : Addr} {n q : Nat} (h : Rd e z w (some ad) n xs) (hq : q ≤ n) : Rd e z w (some (ad.add (q * z))) (n - q) (xs.drop q) :=
  ⟨by rw [List.length_drop, h.len], by have := h.big; omega, fun h0 => by
    obtain ⟨ad', ha, hl, hc⟩ := h.cells (by omega)
    cases ha
    refine ⟨_, rfl, by rw [add_block]; exact hl, fun j x hj i u hu => ?_⟩
    rw [add_add]
    have := hc (q + j) x (by rwa [List.getElem?_drop] at hj) i u hu
    rwa [show q * z + (j * z + i) = (q + j) * z + i by rw [Nat.add_mul]; omega]⟩
theorem Rd.none_ {n : Nat} (h : Rd e z w none n xs) : n = 0 := by
  rcases Nat.eq_zero_or_pos n with h0 | h0
  · exact h0
  · obtain ⟨_, ha, _⟩ := h.cells h0; cases ha
theorem Rd.zero_ {A B : Option Addr} {n : Nat} (h : Rd e z w A n xs) (h0 : n = 0) : Rd e z w B 0 xs := by
  subst h0
  have : xs = [] := List.eq_nil_of_length_eq_zero h.len
  subst this
  exact Rd.nil
theorem Rd.pre {A : Option Addr} {n k : Nat} (h : Rd e z w A n xs) (hk : k ≤ n) : Rd e z w A k (xs.take k) :=
  ⟨by rw [List.length_take, h.len]; omega, by have := h.big; omega, fun h0 => by
    obtain ⟨ad, ha, hl, hc⟩ := h.cells (by omega)
    refine ⟨ad, ha, hl, fun j x hj i u hu => hc j x ?_ i u hu⟩
    rw [List.getElem?_take] at hj
    split at hj
    · exact hj
    · cases hj⟩
theorem Rd.made (he : ∀ x, (e x).length = z) (w : World) (T : TypeId) (xs : List α) (hb : xs.length ≤ 9223372036854775807) {arr : Array Value} (ha : arr = (xs.flatMap e).toArray) {g n : Nat} (hg : g = w.heap.size) (hn : xs.length = n) : Rd e z (w.alloc (.cells arr T)) (some ⟨g, 0, none⟩) n xs := by
  subst hg; subst hn
  exact ⟨rfl, hb, fun h0 => ⟨_, rfl, by simp, fun j x hj i u hu => new_cells w T arr _ ha (j * z + i) u (flat_get he xs j x hj i u hu)⟩⟩
end
theorem str_in {w wr : World} {A : Option Addr} {n : Nat} {ss : List ByteArray} (h : Rd kCs 1 w A n ss) (hB : Below w.heap.size w wr) {k : Nat} (hk : k < n) :
    ∃ ad s, A = some ad ∧ ss[k]? = some s ∧ ∀ w1, Below wr.heap.size wr w1 → w1.cell? (ad.add k) = some (.string s) := by
  obtain ⟨ad, s, e, hl, hs, hc⟩ := h.at_ hk
  refine ⟨ad, s, e, hs, fun w1 h1 => ?_⟩
  have h2 := b_then hB h1
  rw [h2.cell (by rw [add_block]; exact hl)]
  have := hc 0 _ rfl
  simpa using this
theorem jnt_in {w wr : World} {A : Option Addr} {n : Nat} {ss : List Int} (h : Rd jCs 1 w A n ss) (hB : Below w.heap.size w wr) {k : Nat} (hk : k < n) :
    ∃ ad s, A = some ad ∧ ss[k]? = some s ∧ ∀ w1, Below wr.heap.size wr w1 → w1.cell? (ad.add k) = some (.int .i64 s) := by
  obtain ⟨ad, s, e, hl, hs, hc⟩ := h.at_ hk
  refine ⟨ad, s, e, hs, fun w1 h1 => ?_⟩
  have h2 := b_then hB h1
  rw [h2.cell (by rw [add_block]; exact hl)]
  have := hc 0 _ rfl
  simpa using this
theorem app_types {P : Program} {w : World} {t t' e e' ty : TypeId} {s x : Value} (h : P.underlying t = some (.slice e)) (h' : P.underlying t' = some (.slice e')) : (Builtin.append_ #[t, t'] ty #[s, x]).run P w = (Builtin.append_ #[t, t] ty #[s, x]).run P w := by
  have u := fun w => run_underlying (P := P) (w := w) h
  have u' := fun w => run_underlying (P := P) (w := w) h'
  cases s
  case slice b n c => simp [Builtin.append_, Sem.run_bind, u, u']
  all_goals simp [Builtin.append_, Sem.run_bind, u]
theorem run_appnd_none {P : Program} {w : World} {α : Type} {e : α → List Value} {z bytes : Nat} {t t' T ty : TypeId} (E : Elem P t T z bytes) (hu : P.underlying t' = some (.slice T)) {base : Nat} {v : Value} {xs : List α} (hown : Own e z T w base v xs) (c : Nat) :
    (Builtin.append_ #[t, t'] ty #[v, .slice none 0 c]).run P w = .ok v w := by
  obtain ⟨zero, hi, hzs⟩ := E.inf
  obtain ⟨i0, hi0, hz0, hz1, hz2⟩ := info_parts hi
  rcases hown.row.2 with ⟨rfl, _⟩ | ⟨g, cap, cur, rfl, _, _, hnc, _⟩
  · simp [Builtin.append_, run_underlying E.und, run_underlying hu, sizeOf, typeInfo, hi0, Builtin.lenOf, Builtin.firstCells]
  · simp [Builtin.append_, run_underlying E.und, run_underlying hu, sizeOf, typeInfo, hi0, Builtin.lenOf, Builtin.firstCells, hnc, storeCells]
/-- append of a slice that is read, nil or not: of one's own type or of the plain one. -/
theorem wpList_appr {P : Program} {α : Type} {e : α → List Value} {z bytes : Nat} {t t' T : TypeId} (E : Elem P t T z bytes) (hu : P.underlying t' = some (.slice T)) (hz : 0 < z) (he : ∀ x, (e x).length = z) (h1 : ∀ x, ∀ u ∈ e x, u.oneCell' = true) {w : World} {ops : Array Oper} {rest : List Oper} {o : Oper} {a : Act} {Q : Exit → Act → World → Prop} (hgd : o.guard = none) (s x : Operand)
    (ho : o.op = .call { callee := .builtin .append, args := #[s, x], argTypes := #[t, t'] })
    {base : Nat} {v : Value} {xs : List α} (hs : a.eval s = v) (hown : Own e z T w base v xs)
    (A : Option Addr) (m c : Nat) (ys : List α) (hx : a.eval x = .slice A m c) (hr : Rd e z w A m ys)
    (hbytes : (xs.length + m) * bytes ≤ 140737488355328) (hbig : xs.length + m ≤ 140737488355328) (hbase : base ≤ w.heap.size)
    (h : ∀ v' w', Own e z T w' base v' (xs ++ ys) → w.grownBy w' v.ownBlock → (v'.ownBlock = v.ownBlock ∨ v'.ownBlock = some w.heap.size) → wpList P ops Q rest (a.put o.dst v') w') : wpList P ops Q (o :: rest) a w := by
  have hlen := hr.len
  cases A with
  | none =>
    have hm : m = 0 := hr.none_
    subst hm
    have hys : ys = [] := List.eq_nil_of_length_eq_zero hlen
    subst hys
    have hrun := run_appnd_none (ty := o.type) E hu hown c
    refine wpList_plain hgd fun K hK => ?_
    unfold Oper.wp execOp
    simp only [ho, resolve, invoke, builtin, Sem.run_bind, Sem.run_pure, Result.andThen_ok, List.map_toArray, List.map_cons, List.map_nil, hs, hx, hrun]
    exact hK _ _ (h v w (by rw [List.append_nil]; exact hown) (World.grownBy.refl w _) (.inl rfl))
  | some ad =>
    obtain ⟨zero, hi, hzs⟩ := E.inf
    obtain ⟨i0, hi0, hz0, hz1, hz2⟩ := info_parts hi
    have hfl : (ys.flatMap e).length = m * z := by rw [flat_len he, hlen]
    refine wpList_plain hgd fun K hK => ?_
    obtain ⟨v', w', hrun, g1, g2, _, g4⟩ := run_append_own_at (P := P) w base t o.type T i0 zero z bytes E.und hi0 hz0 hz1 hz2 hzs hz v xs.length (xs.flatMap e) hown.row ad m c (ys.flatMap e) hfl (Rd.flat hz he hr) (fun u hu => by
      obtain ⟨y, _, hy⟩ := List.mem_flatMap.1 hu
      exact h1 y u hy) (by simp only [maxLen]; omega) hbytes hbase
    rw [← app_types E.und hu] at hrun
    unfold Oper.wp execOp
    simp only [ho, resolve, invoke, builtin, Sem.run_bind, Sem.run_pure, Result.andThen_ok, List.map_toArray, List.map_cons, List.map_nil, hs, hx, hrun]
    refine hK _ _ (h v' w' ⟨?_⟩ g2 g4)
    rw [List.length_append, hlen, List.flatMap_append]
    exact g1
end Go.Proofs.YtjdofncognaaoaaGreatDoor
