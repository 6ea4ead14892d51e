/- PackLinear: the walk (given the fixed calls). -/
import Derived.Test.YtdkpbifpafaabaaGreatDoorPkT
import Derived.Test.YtdkpbifpafaabaaGreatDoorPkL
namespace Go.Proofs.YtdkpbifpafaabaaGreatDoor
open Go.RowKit
set_option linter.unusedVariables false
set_option linter.unusedSimpArgs false

theorem ptab_append : ∀ {l : List Pt} {m : List RT} (x : Pt) (q : RT), l.length = m.length → ptab (l ++ [x]) (m ++ [q]) = ptab l m ++ [⟨x.asset, 0, q⟩]
  | [], [], x, q, _ => by
    show ptab [x] [q] = _
    unfold ptab; unfold ptab; rfl
  | y :: l, r :: m, x, q, h => by
    show (⟨y.asset, 0, r⟩ : Fx) :: ptab (l ++ [x]) (m ++ [q]) = (⟨y.asset, 0, r⟩ : Fx) :: (ptab l m ++ [⟨x.asset, 0, q⟩])
    rw [ptab_append x q (by simpa using h)]
  | [], _ :: _, _, _, h => by simp at h
  | _ :: _, [], _, _, h => by simp at h
theorem ptab_snoc {l : List Pt} {m : List RT} {k : Nat} {x : Pt} {q : RT} (hx : l[k]? = some x) (hq : m[k]? = some q) : ptab (l.take (k + 1)) (m.take (k + 1)) = ptab (l.take k) (m.take k) ++ [⟨x.asset, 0, q⟩] := by
  have h1 := (List.getElem?_eq_some_iff.1 hx).1
  have h2 := (List.getElem?_eq_some_iff.1 hq).1
  rw [List.take_add_one, List.take_add_one, hx, hq]
  exact ptab_append x q (by simp; omega)
theorem rsmall_szL {k : Nat} {q : Rat} (h : rsmall k q) : (iS q.num).size ≤ k + 1 ∧ (nS q.den).size ≤ k := ⟨iS_sz h.1, by rw [nS_size]; exact h.2⟩
theorem dotq_small {K : Nat} : ∀ (l : List Pt) (m : List RT), (∀ x ∈ l, rsmall 1000 (dec x.ratio)) → (∀ q ∈ m, rsmall K (dec q)) → rsmall (1 + l.length * (1001 + K)) (dotq l m)
  | [], m, _, _ => by
    unfold dotq
    exact ⟨by show ndg (0 : Int).natAbs ≤ _; rw [show (0 : Int).natAbs = 0 from rfl, ndg_small (by omega)]; omega, by show ndg 1 ≤ _; rw [ndg_small (by omega)]; omega⟩
  | _ :: l, [], _, _ => by
    unfold dotq
    exact ⟨by show ndg (0 : Int).natAbs ≤ _; rw [show (0 : Int).natAbs = 0 from rfl, ndg_small (by omega)]; omega, by show ndg 1 ≤ _; rw [ndg_small (by omega)]; omega⟩
  | x :: l, q :: m, h1, h2 => by
    have ih := dotq_small l m (fun y hy => h1 y (by simp [hy])) (fun y hy => h2 y (by simp [hy]))
    refine rsmall_mono (rsmall_add (rsmall_mul (h1 x (by simp)) (h2 q (by simp))) ih) ?_
    rw [List.length_cons, Nat.succ_mul]; omega
/-- A fraction's cells in a list, at hand in every world behind. -/
structure RtAt (w : World) (a : Addr) (a0 a1 : ByteArray) : Prop where
  c0 : w.cell? a = some (.string a0)
  c1 : w.cell? ⟨a.block, a.off + 1, none⟩ = some (.string a1)
theorem rt_all {w : World} {A : Option Addr} {n : Nat} {xs : List RT} (h : Rd RT.cs 2 w A n xs) {k : Nat} (hk : k < n) :
    ∃ ad a b, A = some ad ∧ xs[k]? = some ⟨a, b⟩ ∧ ∀ w1, Below w.heap.size w w1 → RtAt w1 (ad.add (k * 2)) a b := by
  obtain ⟨ad, x, hA, hl, hx, hc⟩ := h.at_ hk
  obtain ⟨a, b⟩ := x
  refine ⟨ad, a, b, hA, hx, fun w1 h1 => ?_⟩
  have g : ∀ i u, (RT.cs ⟨a, b⟩)[i]? = some u → w1.cell? (ad.add (k * 2 + i)) = some u := fun i u hu => (h1.cell (by rw [add_block]; exact hl)).trans (hc i u hu)
  refine ⟨g 0 _ rfl, ?_⟩
  rw [← add_field _ _ 1 (by omega)]; exact g 1 _ rfl
theorem ap_new {α : Type} {e : α → List Value} {z : Nat} {T : TypeId} {w : World} {base : Nat} {u v v' : Value} {ys : List α} (hat : v'.ownBlock = v.ownBlock ∨ v'.ownBlock = some w.heap.size) (h : v.ownBlock ≠ u.ownBlock) (hu : Own e z T w base u ys) : v'.ownBlock ≠ u.ownBlock := by
  rcases hat with e1 | e1
  · rw [e1]; exact h
  · rw [e1]
    intro e2
    have := hu.lt _ e2.symm
    omega
/-- What the loop has seen: numbers that may be, of few digits. -/
def seen (la : List RT) (k : Nat) : Prop := ∀ q ∈ la.take k, rmay q = true ∧ q.num.size ≤ 40 ∧ q.den.size ≤ 40
theorem seen_zero (la : List RT) : seen la 0 := fun q hq => by simp at hq
theorem seen_succ {la : List RT} {k : Nat} {q : RT} (h : seen la k) (hq : la[k]? = some q) (h1 : rmay q = true) (h2 : q.num.size ≤ 40) (h3 : q.den.size ≤ 40) : seen la (k + 1) := by
  intro r hr
  rw [List.take_add_one, hq, List.mem_append] at hr
  rcases hr with hr | hr
  · exact h r hr
  · simp at hr; subst hr; exact ⟨h1, h2, h3⟩
theorem seen_small {la : List RT} {k : Nat} (h : seen la k) : ∀ q ∈ la.take k, rsmall 40 (dec q) := by
  intro q hq
  obtain ⟨h1, h2, h3⟩ := h q hq
  obtain ⟨r, rfl⟩ := rmay_of h1
  rw [dec_enc]
  exact rsmall_of h2 h3
theorem zip_small {la lb : List RT} {n : Nat} (ha : seen la n) (hb : seen lb n) : ∀ q ∈ (List.zipWith radd la lb).take n, rmay q = true ∧ rsmall 81 (dec q) := by
  intro q hq
  rw [List.take_zipWith] at hq
  obtain ⟨j, hj⟩ := List.mem_iff_getElem?.1 hq
  rw [List.getElem?_zipWith] at hj
  cases h1 : (la.take n)[j]? with
  | none => rw [h1] at hj; simp at hj
  | some x =>
    cases h2 : (lb.take n)[j]? with
    | none => rw [h1, h2] at hj; simp at hj
    | some y =>
      rw [h1, h2] at hj
      injection hj with hj
      have hx := ha x (List.mem_of_getElem? h1)
      have hy := hb y (List.mem_of_getElem? h2)
      have sx := seen_small ha x (List.mem_of_getElem? h1)
      have sy := seen_small hb y (List.mem_of_getElem? h2)
      obtain ⟨r, rfl⟩ := rmay_of hx.1
      obtain ⟨s, rfl⟩ := rmay_of hy.1
      rw [radd_enc] at hj
      rw [← hj, dec_enc]
      rw [dec_enc] at sx sy
      exact ⟨rmay_enc _, rsmall_add sx sy⟩
/-- A table of prices, in the law's words: its value, and what it is read by. -/
theorem tab_ok {xs : List Pt} {m : List RT} {cq : Rat} {K n : Nat} (hk : pkmay xs (enc cq) = true) (hxl : xs.length = n) (hml : m.length = n) (hm : ∀ q ∈ m, rmay q = true ∧ rsmall K (dec q)) (hz : ∀ x ∈ xs, x.asset.size ≤ 100) (hK : K ≤ 100) :
    (ptab xs m).length = n ∧ (∀ f ∈ ptab xs m, fxr 1000000 f) ∧ pval xs (enc cq) (ptab xs m) 0 = some (enc (cq + dotq xs m)) := by
  refine ⟨by rw [ptab_len (by omega)]; exact hxl, fun f hf => ?_, pval_tab hk (by omega) fun q hq => (hm q hq).1⟩
  obtain ⟨x, hx, q, hq, rfl⟩ := ptab_mem hf
  obtain ⟨h1, h2⟩ := hm q hq
  obtain ⟨r, rfl⟩ := rmay_of h1
  rw [dec_enc] at h2
  have := hz x hx
  obtain ⟨e1, e2⟩ := rsmall_szL h2
  exact ⟨by show x.asset.size ≤ _; omega, by show (iS r.num).size ≤ _; omega, by show (nS r.den).size ≤ _; omega⟩
set_option maxRecDepth 100000 in
set_option maxHeartbeats 16000000 in
theorem l_linear (HF : Fixed16Ok) {A A1 A2 : Option Addr} {n c n1 k1 n2 k2 : Nat} {xs : List Pt} {la lb : List RT} (c0 c1 : ByteArray) (w : World) (hg : Glob w) (hx : Rd Pt.cs 3 w A n xs) (hz : ∀ x ∈ xs, x.asset.size ≤ 9223372036854775807 ∧ x.ratio.num.size ≤ 9223372036854775807 ∧ x.ratio.den.size ≤ 9223372036854775807) (hc : c0.size ≤ 9223372036854775807 ∧ c1.size ≤ 9223372036854775807)
    (ha : Rd RT.cs 2 w A1 n1 la) (hza : ∀ q ∈ la, q.num.size ≤ 140737488351232 ∧ q.den.size ≤ 140737488351232) (hb : Rd RT.cs 2 w A2 n2 lb) (hzb : ∀ q ∈ lb, q.num.size ≤ 140737488351232 ∧ q.den.size ≤ 140737488351232) :
    Calls Tryz.prog 4 #[.agg #[.slice A n c, .string c0, .string c1], .slice A1 n1 k1, .slice A2 n2 k2] w fun e w' => e = .returned (.bool true) ∧ Below w.heap.size w w' := by
  have hF := fun W (h : Below w.heap.size w W) => HF W (hg.below h)
  have hxl := hx.len
  have hal := ha.len
  have hbl := hb.len
  have hbg := hx.big
  have hLi := fun W (h : Below w.heap.size w W) => r16_light (c := c) c0 c1 W (hx.below h) hz hc.1 hc.2
  cases d1 : pksm xs ⟨c0, c1⟩ with
  | false =>
    rw [d1] at hLi
    clear d1
    go_enter Tryz.func4, Tryz.ntmps4
    go_wp2_with (first | (go_at_call 16; (with_reducible refine (hF _ (by repeat (first | exact Below.refl _ _ | assumption | refine b_then ?_ (by assumption) | refine b_alloc ?_ _ | refine b_drewN ?_ _ | refine Below.drew ?_ | refine b_set ?_ (by first | exact Nat.le_refl _ | (simp; done) | (simp; omega) | omega) _))).mono ?_); rintro e w1 ⟨rfl, hb1⟩; obtain ⟨hc1', hf1'⟩ := bcell hb1; have hs1' := hb1.size; (try simp at hs1'); have hq1 : w.heap.size < w1.heap.size := (by omega)) | (go_at_call 14; (with_reducible refine (hLi _ (by repeat (first | exact Below.refl _ _ | assumption | refine b_then ?_ (by assumption) | refine b_alloc ?_ _ | refine b_drewN ?_ _ | refine Below.drew ?_ | refine b_set ?_ (by first | exact Nat.le_refl _ | (simp; done) | (simp; omega) | omega) _))).mono ?_); rintro e w2 ⟨rfl, hb2⟩; obtain ⟨hc2, hf2⟩ := bcell hb2; have hs2 := hb2.size; (try simp at hs2); have hq2 : w.heap.size < w2.heap.size := (by omega)))
    go_ret
    exact ⟨rfl, (by repeat (first | exact Below.refl _ _ | assumption | refine b_then ?_ (by assumption) | refine b_alloc ?_ _ | refine b_drewN ?_ _ | refine Below.drew ?_ | refine b_set ?_ (by first | exact Nat.le_refl _ | (simp; done) | (simp; omega) | omega) _))⟩
  | true =>
  rw [d1] at hLi
  obtain ⟨b1, b2, b3, b4⟩ := pksm_of d1
  have b5 : ∀ x ∈ xs, x.asset.size ≤ 100 := fun x hx => (ptsm_of (by unfold pksm at d1; rw [Bool.and_eq_true] at d1; exact List.all_eq_true.1 d1.1 x hx)).2.2
  dsimp only at b3 b4
  have hMy := fun W (h : Below w.heap.size w W) => r16_may (c := c) c0 c1 W (hx.below h) (fun x hx => ptq_up (b1 x hx) (by omega)) (by omega) (by omega)
  clear d1
  cases d2 : pkmay xs ⟨c0, c1⟩ with
  | false =>
    rw [d2] at hMy
    clear d2
    go_enter Tryz.func4, Tryz.ntmps4
    go_wp2_with (first | (go_at_call 16; (with_reducible refine (hF _ (by repeat (first | exact Below.refl _ _ | assumption | refine b_then ?_ (by assumption) | refine b_alloc ?_ _ | refine b_drewN ?_ _ | refine Below.drew ?_ | refine b_set ?_ (by first | exact Nat.le_refl _ | (simp; done) | (simp; omega) | omega) _))).mono ?_); rintro e w1 ⟨rfl, hb1⟩; obtain ⟨hc1', hf1'⟩ := bcell hb1; have hs1' := hb1.size; (try simp at hs1'); have hq1 : w.heap.size < w1.heap.size := (by omega)) | (go_at_call 14; (with_reducible refine (hLi _ (by repeat (first | exact Below.refl _ _ | assumption | refine b_then ?_ (by assumption) | refine b_alloc ?_ _ | refine b_drewN ?_ _ | refine Below.drew ?_ | refine b_set ?_ (by first | exact Nat.le_refl _ | (simp; done) | (simp; omega) | omega) _))).mono ?_); rintro e w2 ⟨rfl, hb2⟩; obtain ⟨hc2, hf2⟩ := bcell hb2; have hs2 := hb2.size; (try simp at hs2); have hq2 : w.heap.size < w2.heap.size := (by omega)) | (go_at_call 23; (with_reducible refine (hMy _ (by repeat (first | exact Below.refl _ _ | assumption | refine b_then ?_ (by assumption) | refine b_alloc ?_ _ | refine b_drewN ?_ _ | refine Below.drew ?_ | refine b_set ?_ (by first | exact Nat.le_refl _ | (simp; done) | (simp; omega) | omega) _))).mono ?_); rintro e w3 ⟨rfl, hb3⟩; obtain ⟨hc3, hf3⟩ := bcell hb3; have hs3 := hb3.size; (try simp at hs3); have hq3 : w.heap.size < w3.heap.size := (by omega)))
    go_ret
    exact ⟨rfl, (by repeat (first | exact Below.refl _ _ | assumption | refine b_then ?_ (by assumption) | refine b_alloc ?_ _ | refine b_drewN ?_ _ | refine Below.drew ?_ | refine b_set ?_ (by first | exact Nat.le_refl _ | (simp; done) | (simp; omega) | omega) _))⟩
  | true =>
  rw [d2] at hMy
  by_cases d3 : n ≤ n1
  case neg =>
    have hlt1 : n1 < n := by omega
    clear d2
    go_enter Tryz.func4, Tryz.ntmps4
    go_wp2_with (first | (go_at_call 16; (with_reducible refine (hF _ (by repeat (first | exact Below.refl _ _ | assumption | refine b_then ?_ (by assumption) | refine b_alloc ?_ _ | refine b_drewN ?_ _ | refine Below.drew ?_ | refine b_set ?_ (by first | exact Nat.le_refl _ | (simp; done) | (simp; omega) | omega) _))).mono ?_); rintro e w1 ⟨rfl, hb1⟩; obtain ⟨hc1', hf1'⟩ := bcell hb1; have hs1' := hb1.size; (try simp at hs1'); have hq1 : w.heap.size < w1.heap.size := (by omega)) | (go_at_call 14; (with_reducible refine (hLi _ (by repeat (first | exact Below.refl _ _ | assumption | refine b_then ?_ (by assumption) | refine b_alloc ?_ _ | refine b_drewN ?_ _ | refine Below.drew ?_ | refine b_set ?_ (by first | exact Nat.le_refl _ | (simp; done) | (simp; omega) | omega) _))).mono ?_); rintro e w2 ⟨rfl, hb2⟩; obtain ⟨hc2, hf2⟩ := bcell hb2; have hs2 := hb2.size; (try simp at hs2); have hq2 : w.heap.size < w2.heap.size := (by omega)) | (go_at_call 23; (with_reducible refine (hMy _ (by repeat (first | exact Below.refl _ _ | assumption | refine b_then ?_ (by assumption) | refine b_alloc ?_ _ | refine b_drewN ?_ _ | refine Below.drew ?_ | refine b_set ?_ (by first | exact Nat.le_refl _ | (simp; done) | (simp; omega) | omega) _))).mono ?_); rintro e w3 ⟨rfl, hb3⟩; obtain ⟨hc3, hf3⟩ := bcell hb3; have hs3 := hb3.size; (try simp at hs3); have hq3 : w.heap.size < w3.heap.size := (by omega)))
    go_ret
    exact ⟨rfl, (by repeat (first | exact Below.refl _ _ | assumption | refine b_then ?_ (by assumption) | refine b_alloc ?_ _ | refine b_drewN ?_ _ | refine Below.drew ?_ | refine b_set ?_ (by first | exact Nat.le_refl _ | (simp; done) | (simp; omega) | omega) _))⟩
  by_cases d4 : n ≤ n2
  case neg =>
    have hlt1 : ¬ n1 < n := by omega
    have hlt2 : n2 < n := by omega
    clear d2
    go_enter Tryz.func4, Tryz.ntmps4
    go_wp2_with (first | (go_at_call 16; (with_reducible refine (hF _ (by repeat (first | exact Below.refl _ _ | assumption | refine b_then ?_ (by assumption) | refine b_alloc ?_ _ | refine b_drewN ?_ _ | refine Below.drew ?_ | refine b_set ?_ (by first | exact Nat.le_refl _ | (simp; done) | (simp; omega) | omega) _))).mono ?_); rintro e w1 ⟨rfl, hb1⟩; obtain ⟨hc1', hf1'⟩ := bcell hb1; have hs1' := hb1.size; (try simp at hs1'); have hq1 : w.heap.size < w1.heap.size := (by omega)) | (go_at_call 14; (with_reducible refine (hLi _ (by repeat (first | exact Below.refl _ _ | assumption | refine b_then ?_ (by assumption) | refine b_alloc ?_ _ | refine b_drewN ?_ _ | refine Below.drew ?_ | refine b_set ?_ (by first | exact Nat.le_refl _ | (simp; done) | (simp; omega) | omega) _))).mono ?_); rintro e w2 ⟨rfl, hb2⟩; obtain ⟨hc2, hf2⟩ := bcell hb2; have hs2 := hb2.size; (try simp at hs2); have hq2 : w.heap.size < w2.heap.size := (by omega)) | (go_at_call 23; (with_reducible refine (hMy _ (by repeat (first | exact Below.refl _ _ | assumption | refine b_then ?_ (by assumption) | refine b_alloc ?_ _ | refine b_drewN ?_ _ | refine Below.drew ?_ | refine b_set ?_ (by first | exact Nat.le_refl _ | (simp; done) | (simp; omega) | omega) _))).mono ?_); rintro e w3 ⟨rfl, hb3⟩; obtain ⟨hc3, hf3⟩ := bcell hb3; have hs3 := hb3.size; (try simp at hs3); have hq3 : w.heap.size < w3.heap.size := (by omega)))
    go_ret
    exact ⟨rfl, (by repeat (first | exact Below.refl _ _ | assumption | refine b_then ?_ (by assumption) | refine b_alloc ?_ _ | refine b_drewN ?_ _ | refine Below.drew ?_ | refine b_set ?_ (by first | exact Nat.le_refl _ | (simp; done) | (simp; omega) | omega) _))⟩
  have hlt1 : ¬ n1 < n := by omega
  have hlt2 : ¬ n2 < n := by omega
  obtain ⟨cq, hqc⟩ := rmay_of (pkmay_of d2).2.2
  have hqs : rsmall 1000 cq := rsmall_of (by rw [← hqc]; show c0.size ≤ _; omega) (by rw [← hqc]; show c1.size ≤ _; omega)
  injection hqc with e1 e2
  subst e1; subst e2
  have M1' : ∀ x ∈ xs, pone x = true := by
    have d2' := d2
    unfold pkmay pparts at d2'
    simp only [Bool.and_eq_true, List.all_eq_true] at d2'
    exact d2'.1.1
  have hrs : ∀ x ∈ xs, rsmall 1000 (dec x.ratio) := fun x hx => by
    obtain ⟨a0, a1, a2⟩ := x
    obtain ⟨_, e2, e3⟩ := b1 _ hx
    obtain ⟨r, hr, hrr⟩ := pone_enc (M1' _ hx) (Nat.le_trans e2 (by omega)) (Nat.le_trans e3 (by omega))
    have e : (⟨a0, a1, a2⟩ : Pt).ratio = enc r := hr
    rw [e, dec_enc]; exact hrr
  have h0 : ∀ W, Calls Tryz.prog 28 #[.int .i64 0] W fun e w' => e = .returned (.agg #[.string ⟨#[48]⟩, .string ⟨#[49]⟩]) ∧ Below W.heap.size W w' := fun W => r3_of 0 W (by omega) (by omega)
  have D2 := Lib.hid d2
  have B1 := Lib.hid b1
  have B5 := Lib.hid b5
  have RS := Lib.hid hrs
  have ZA := Lib.hid hza
  have ZB := Lib.hid hzb
  have HX := Lib.hid hx
  have HA := Lib.hid ha
  have HB := Lib.hid hb
  clear d2 b1 b5 hrs hza hzb M1' hz
  go_enter Tryz.func4, Tryz.ntmps4
  have pb : Blk (WPk w A n c (iS cq.num) (nS cq.den)) w.heap.size 28 #[.slice A n c, .string (iS cq.num), .string (nS cq.den)] := Blk.new w _ _
  have PB := Lib.hid pb
  clear pb
  go_wp2_with (first | (go_at_call 16; (with_reducible refine (hF _ (by repeat (first | exact Below.refl _ _ | assumption | refine b_then ?_ (by assumption) | refine b_alloc ?_ _ | refine b_drewN ?_ _ | refine Below.drew ?_ | refine b_set ?_ (by first | exact Nat.le_refl _ | (simp; done) | (simp; omega) | omega) _))).mono ?_); rintro e w1 ⟨rfl, hb1⟩; obtain ⟨hc1', hf1'⟩ := bcell hb1; have hs1' := hb1.size; (try simp at hs1'); have hq1 : w.heap.size < w1.heap.size := (by omega)) | (go_at_call 14; (with_reducible refine (hLi _ (by repeat (first | exact Below.refl _ _ | assumption | refine b_then ?_ (by assumption) | refine b_alloc ?_ _ | refine b_drewN ?_ _ | refine Below.drew ?_ | refine b_set ?_ (by first | exact Nat.le_refl _ | (simp; done) | (simp; omega) | omega) _))).mono ?_); rintro e w2 ⟨rfl, hb2⟩; obtain ⟨hc2, hf2⟩ := bcell hb2; have hs2 := hb2.size; (try simp at hs2); have hq2 : w.heap.size < w2.heap.size := (by omega)) | (go_at_call 23; (with_reducible refine (hMy _ (by repeat (first | exact Below.refl _ _ | assumption | refine b_then ?_ (by assumption) | refine b_alloc ?_ _ | refine b_drewN ?_ _ | refine Below.drew ?_ | refine b_set ?_ (by first | exact Nat.le_refl _ | (simp; done) | (simp; omega) | omega) _))).mono ?_); rintro e w3 ⟨rfl, hb3⟩; obtain ⟨hc3, hf3⟩ := bcell hb3; have hs3 := hb3.size; (try simp at hs3); have hq3 : w.heap.size < w3.heap.size := (by omega)))
  have hB3 : Below w.heap.size w w3 := b_then (b_then (b_then (b_alloc (Below.refl _ _) _) hb1) hb2) hb3
  have pb3 := ((PB.out.below hb1).below hb2).below hb3
  have PB3 := Lib.hid pb3
  have hl3 := pb3.lt
  clear hb1 hb2 hb3 hc1' hf1' hs1' hq1 hc2 hf2 hs2 hq2 hc3 hf3 hs3 hq3 PB pb3 hF hLi hMy hx ha hb
  go_loopw [7, 8, 9, 10, 11] (fun x y z t i wr => ∃ k : Nat, k ≤ n ∧ i = .int .i64 k ∧ Hid (seen la k) ∧ Hid (seen lb k)
    ∧ Hid (Own Fx.cs 4 47 wr w3.heap.size x (ptab (xs.take k) (la.take k))) ∧ Hid (Own Fx.cs 4 47 wr w3.heap.size y (ptab (xs.take k) (lb.take k))) ∧ Hid (Own Fx.cs 4 47 wr w3.heap.size z (ptab (xs.take k) ((List.zipWith radd la lb).take k))) ∧ Hid (Own Fx.cs 4 47 wr w3.heap.size t (ptab (xs.take k) ((List.replicate n (enc 0)).take k)))
    ∧ Hid (x.ownBlock ≠ y.ownBlock ∧ x.ownBlock ≠ z.ownBlock ∧ x.ownBlock ≠ t.ownBlock ∧ y.ownBlock ≠ z.ownBlock ∧ y.ownBlock ≠ t.ownBlock ∧ z.ownBlock ≠ t.ownBlock) ∧ Hid (Below w3.heap.size w3 wr)) (fun _ _ _ _ i _ => n - (intOf i).toNat)
  case atStart =>
    have t0 : ∀ m : List RT, ptab (xs.take 0) (m.take 0) = [] := fun m => by rw [List.take_zero]; unfold ptab; rfl
    refine ⟨0, Nat.zero_le _, rfl, seen_zero _, seen_zero _, ?_, ?_, ?_, ?_, ?_, b_alloc (b_alloc (b_alloc (b_alloc (Below.refl _ _) _) _) _) _⟩
    · show Own _ _ _ _ _ _ _
      rw [t0]; exact (((Own.made0 (Nat.le_refl _)).alloc _).alloc _).alloc _
    · show Own _ _ _ _ _ _ _
      rw [t0]; simpa using (((Own.made0 (w := w3.alloc (.cells #[] 47)) (by simp)).alloc _).alloc _)
    · show Own _ _ _ _ _ _ _
      rw [t0]; simpa using ((Own.made0 (w := (w3.alloc (.cells #[] 47)).alloc (.cells #[] 47)) (by simp; omega)).alloc _)
    · show Own _ _ _ _ _ _ _
      rw [t0]; simpa using (Own.made0 (w := ((w3.alloc (.cells #[] 47)).alloc (.cells #[] 47)).alloc (.cells #[] 47)) (by simp; omega))
    · show _ ∧ _ ∧ _ ∧ _ ∧ _ ∧ _
      simp [Value.ownBlock]
      omega
  case round =>
    obtain ⟨k, hk, rfl, SA, SB, o1, o2, o3, o4, dd, HBw⟩ := hrel
    have hBw3 := HBw.out
    have hBw := b_then hB3 hBw3
    have pr := PB3.out.below hBw3
    have c0c := pr.cell 0
    simp at c0c
    have hsl := pr.lt
    by_cases hlt : k < n
    · obtain ⟨ad, p0, p1, p2, rfl, hxk, hl⟩ := pt_in HX.out (Below.refl _ _) hlt
      have hk1 : k < n1 := by omega
      have hk2 : k < n2 := by omega
      obtain ⟨ad1, q0, q1, rfl, hak, hl1⟩ := rt_all HA.out hk1
      obtain ⟨ad2, r0, r1, rfl, hbk, hl2⟩ := rt_all HB.out hk2
      obtain ⟨z1, z2⟩ := ZA.out _ (List.mem_of_getElem? hak)
      obtain ⟨z3, z4⟩ := ZB.out _ (List.mem_of_getElem? hbk)
      dsimp only at z1 z2 z3 z4
      have y1 := fun (x : After wr) (y : After x.W) => (hl1 y.W (b_then hBw (b_then x.h y.h))).c0
      have y1b := fun (y : After wr) => (hl1 y.W (b_then hBw y.h)).c0
      have y2 := fun (x : After wr) (y : After x.W) => (hl1 y.W (b_then hBw (b_then x.h y.h))).c1
      have y2b := fun (y : After wr) => (hl1 y.W (b_then hBw y.h)).c1
      have y3 := fun (x : After wr) (y : After x.W) => (hl2 y.W (b_then hBw (b_then x.h y.h))).c0
      have y3b := fun (y : After wr) => (hl2 y.W (b_then hBw y.h)).c0
      have y4 := fun (x : After wr) (y : After x.W) => (hl2 y.W (b_then hBw (b_then x.h y.h))).c1
      have y4b := fun (y : After wr) => (hl2 y.W (b_then hBw y.h)).c1
      have e1 : Value.int .i64 (wrap64 ((q0.size : Int) + (q1.size : Int))) = Value.int .i64 ((q0.size : Int) + (q1.size : Int)) := by congr 1; unfold wrap64; omega
      have e2 : Value.int .i64 (wrap64 ((q0.size : Int) + (q1.size : Int) + (r0.size : Int))) = Value.int .i64 ((q0.size : Int) + (q1.size : Int) + (r0.size : Int)) := by congr 1; unfold wrap64; omega
      have e3 : Value.int .i64 (wrap64 ((q0.size : Int) + (q1.size : Int) + (r0.size : Int) + (r1.size : Int))) = Value.int .i64 ((q0.size : Int) + (q1.size : Int) + (r0.size : Int) + (r1.size : Int)) := by congr 1; unfold wrap64; omega
      by_cases hsum : 40 < q0.size + q1.size + r0.size + r1.size
      · have hs' : (40 : Int) < (q0.size : Int) + (q1.size : Int) + (r0.size : Int) + (r1.size : Int) := by omega
        go_wp2
        (refine wp_region_after (by kernel_rfl) (by kernel_rfl) ?_; (repeat (first | go_big_quiet_skip | (go_big_quiet_want; go_big_quiet_op; first | go_big_quiet_on | (apply Exists.intro; refine ⟨fun _ => ?_, ?_⟩; (focus (fail)); go_big_quiet_on)))); refine wpQuiet_nil ?_; rintro w21 ⟨⟨_, hb21⟩, rfl⟩; (try dsimp only); obtain ⟨hc21, hf21⟩ := bcell hb21; have hs21 := hb21.size; (try simp at hs21))
        go_wp2
        go_ret
        exact ⟨rfl, b_then hBw hb21⟩
      · have hs' : Value.bool (decide ((40 : Int) < (q0.size : Int) + (q1.size : Int) + (r0.size : Int) + (r1.size : Int))) = Value.bool false := by rw [decide_eq_false (by omega)]
        have hMa := fun W => r3_may q0 q1 W (by omega) (by omega)
        have hMb := fun W => r3_may r0 r1 W (by omega) (by omega)
        cases ma : rmay ⟨q0, q1⟩ with
        | false =>
          rw [ma] at hMa
          clear ma
          go_wp2
          (refine wp_region_after (by kernel_rfl) (by kernel_rfl) ?_; (repeat (first | go_big_quiet_skip | (go_big_quiet_want; go_big_quiet_op; first | go_big_quiet_on | (apply Exists.intro; refine ⟨fun _ => ?_, ?_⟩; (focus ((go_at_call 26; with_reducible exact Calls.after (hMa _)))); go_big_quiet_on)))); refine wpQuiet_nil ?_; rintro w21 ⟨⟨_, hb21⟩, rfl⟩; (try dsimp only); obtain ⟨hc21, hf21⟩ := bcell hb21; have hs21 := hb21.size; (try simp at hs21))
          go_wp2
          go_ret
          exact ⟨rfl, b_then hBw hb21⟩
        | true =>
        rw [ma] at hMa
        cases mb : rmay ⟨r0, r1⟩ with
        | false =>
          rw [mb] at hMb
          clear ma mb
          go_wp2
          (refine wp_region_after (by kernel_rfl) (by kernel_rfl) ?_; (repeat (first | go_big_quiet_skip | (go_big_quiet_want; go_big_quiet_op; first | go_big_quiet_on | (apply Exists.intro; refine ⟨fun _ => ?_, ?_⟩; (focus (first | (go_at_call 26; with_reducible exact Calls.after (hMa _)) | (go_at_call 26; with_reducible exact Calls.after (hMb _)))); go_big_quiet_on)))); refine wpQuiet_nil ?_; rintro w21 ⟨⟨_, hb21⟩, rfl⟩; (try dsimp only); obtain ⟨hc21, hf21⟩ := bcell hb21; have hs21 := hb21.size; (try simp at hs21))
          go_wp2
          go_ret
          exact ⟨rfl, b_then hBw hb21⟩
        | true =>
        rw [mb] at hMb
        have SA2 : Hid (seen la (k + 1)) := seen_succ SA.out hak ma (by show q0.size ≤ 40; omega) (by show q1.size ≤ 40; omega)
        have SB2 : Hid (seen lb (k + 1)) := seen_succ SB.out hbk mb (by show r0.size ≤ 40; omega) (by show r1.size ≤ 40; omega)
        obtain ⟨qa, ea⟩ := rmay_of ma
        obtain ⟨qb, eb⟩ := rmay_of mb
        injection ea with g1 g2
        injection eb with g3 g4
        subst g1; subst g2; subst g3; subst g4
        have hAd := fun W => r3_add qa qb W (rsmall_mono (rsmall_of (k := 40) (show (iS qa.num).size ≤ 40 by omega) (show (nS qa.den).size ≤ 40 by omega)) (by omega)) (rsmall_mono (rsmall_of (k := 40) (show (iS qb.num).size ≤ 40 by omega) (show (nS qb.den).size ≤ 40 by omega)) (by omega))
        simp only [enc_v] at hAd
        have T1 := Lib.hid (ptab_snoc hxk hak)
        have T2 := Lib.hid (ptab_snoc hxk hbk)
        have T3 := Lib.hid (ptab_snoc (m := List.zipWith radd la lb) (q := enc (qa + qb)) hxk (by rw [List.getElem?_zipWith, hak, hbk]; show some (radd (enc qa) (enc qb)) = _; rw [radd_enc]))
        have T4 := Lib.hid (ptab_snoc (m := List.replicate n (enc 0)) (q := enc 0) hxk (by simp [hlt]))
        have L1 : (ptab (xs.take k) (la.take k)).length = k := by rw [ptab_len (by simp; omega)]; simp; omega
        have L2 : (ptab (xs.take k) (lb.take k)).length = k := by rw [ptab_len (by simp; omega)]; simp; omega
        have L3 : (ptab (xs.take k) ((List.zipWith radd la lb).take k)).length = k := by rw [ptab_len (by simp; omega)]; simp; omega
        have L4 : (ptab (xs.take k) ((List.replicate n (enc 0)).take k)).length = k := by rw [ptab_len (by simp; omega)]; simp; omega
        clear hxk hak hbk ma mb z1 z2 z3 z4 hsum
        go_wp2
        (refine wp_region_after (by kernel_rfl) (by kernel_rfl) ?_; (repeat (first | go_big_quiet_skip | (go_big_quiet_want; go_big_quiet_op; first | go_big_quiet_on | (apply Exists.intro; refine ⟨fun _ => ?_, ?_⟩; (focus (first | (go_at_call 26; with_reducible exact Calls.after (hMa _)) | (go_at_call 26; with_reducible exact Calls.after (hMb _)))); go_big_quiet_on)))); refine wpQuiet_nil ?_; rintro w21 ⟨⟨_, hb21⟩, rfl⟩; (try dsimp only); obtain ⟨hc21, hf21⟩ := bcell hb21; have hs21 := hb21.size; (try simp at hs21))
        clear hc21 hf21 hs21
        have hB21 := b_then hBw3 hb21
        have o1x := o1.out.below hb21
        have o2x := o2.out.below hb21
        have o3x := o3.out.below hb21
        have o4x := o4.out.below hb21
        have c0d := (PB3.out.below hB21).cell 0
        simp at c0d
        have hs21 := (PB3.out.below hB21).lt
        have f0 := (hl w21 (b_then hB3 hB21)).c0
        have f1 := (hl1 w21 (b_then hB3 hB21)).c0
        have f2 := (hl1 w21 (b_then hB3 hB21)).c1
        have hz21 := hB21.size
        clear y1 y2 y3 y4 y1b y2b y3b y4b c0c hb21
        go_wp2_with (first
          | (at_builtin; refine wpList_app (v := u7) Tryz.elemFix (by omega) Fx.cs_length Fx.cs_one rfl (.tmp 111) (.tmp 118) rfl rfl (o1x.alloc _) ⟨w21.heap.size, 0, none⟩ 1 ⟨p0, 0, ⟨iS qa.num, nS qa.den⟩⟩ rfl (new_cells _ _ _ _ rfl) (by first | omega | (simp; omega)) (by first | omega | (simp; omega)) (by first | omega | (simp; omega)) ?_; intro v1 w22 o1n hg1 hat1; have hB22 : Below w3.heap.size w3 w22 := (o1x.alloc _).frame (b_alloc hB21 _) (Nat.le_refl _) hg1; have hz22 := hB22.size; have f3 := (hl2 w22 (b_then hB3 hB22)).c0; have f4 := (hl2 w22 (b_then hB3 hB22)).c1; have o2y := (o2x.alloc _).grown hg1 (.inr (Ne.symm dd.out.1)))
          | (at_builtin; refine wpList_app (v := u8) Tryz.elemFix (by omega) Fx.cs_length Fx.cs_one rfl (.tmp 120) (.tmp 127) rfl rfl (o2y.alloc _) ⟨w22.heap.size, 0, none⟩ 1 ⟨p0, 0, ⟨iS qb.num, nS qb.den⟩⟩ rfl (new_cells _ _ _ _ rfl) (by first | omega | (simp; omega)) (by first | omega | (simp; omega)) (by first | omega | (simp; omega)) ?_; intro v2 w23 o2n hg2 hat2))
        obtain ⟨d12, d13, d14, d23, d24, d34⟩ := dd.out
        have hB23 : Below w3.heap.size w3 w23 := (o2y.alloc _).frame (b_alloc hB22 _) (Nat.le_refl _) hg2
        have m12 := ap_new hat1 d12 (o2x.alloc _)
        have m13 := ap_new hat1 d13 (o3x.alloc _)
        have m14 := ap_new hat1 d14 (o4x.alloc _)
        have o3y := (o3x.alloc _).grown hg1 (.inr (Ne.symm d13))
        have o4y := (o4x.alloc _).grown hg1 (.inr (Ne.symm d14))
        have m21 := ap_new hat2 (Ne.symm m12) (o1n.alloc _)
        have m23 := ap_new hat2 d23 (o3y.alloc _)
        have m24 := ap_new hat2 d24 (o4y.alloc _)
        have o1z := (o1n.alloc _).grown hg2 (.inr m12)
        have o3z := (o3y.alloc _).grown hg2 (.inr (Ne.symm d23))
        have o4z := (o4y.alloc _).grown hg2 (.inr (Ne.symm d24))
        have y1 := fun (x : After w23) (y : After x.W) => (hl1 y.W (b_then (b_then hB3 hB23) (b_then x.h y.h))).c0
        have y1b := fun (y : After w23) => (hl1 y.W (b_then (b_then hB3 hB23) y.h)).c0
        have y2 := fun (x : After w23) (y : After x.W) => (hl1 y.W (b_then (b_then hB3 hB23) (b_then x.h y.h))).c1
        have y2b := fun (y : After w23) => (hl1 y.W (b_then (b_then hB3 hB23) y.h)).c1
        have y3 := fun (x : After w23) (y : After x.W) => (hl2 y.W (b_then (b_then hB3 hB23) (b_then x.h y.h))).c0
        have y3b := fun (y : After w23) => (hl2 y.W (b_then (b_then hB3 hB23) y.h)).c0
        have y4 := fun (x : After w23) (y : After x.W) => (hl2 y.W (b_then (b_then hB3 hB23) (b_then x.h y.h))).c1
        have y4b := fun (y : After w23) => (hl2 y.W (b_then (b_then hB3 hB23) y.h)).c1
        clear f0 f1 f2 f3 f4 c0d hs21
        (refine wp_region_src 13 12 141 1 (fun B k W => Rd Fx.cs 4 W B 1 [⟨p0, 0, ⟨iS (qa + qb).num, nS (qa + qb).den⟩⟩]) ?srcA24 (by kernel_rfl) (fun pp => by kernel_rfl) (fun pp x => ?srcH24) ⟨by kernel_rfl, by kernel_rfl, by decide, by decide, ?srcK24, fun B k W W' h hb => h.below hb, ?srcG24, ?srcQ24⟩; (case srcH24 => (simp only [srcl, List.modify_succ_cons, List.modify_zero_cons, repV, List.take_succ_cons, List.take_zero]; (have hxs := x.h.size); (try simp at hxs); (repeat (first | go_big_quiet_skip | (go_big_quiet_want; go_big_quiet_op; first | go_big_quiet_on | (apply Exists.intro; refine ⟨fun _ => ?_, ?_⟩; (focus ((go_at_call 27; with_reducible exact Calls.after (hAd _)))); go_big_quiet_on)))); refine wpQuiet_nil ?_; rfl)); (case srcK24 => (intro pp; refine ⟨_, rfl, rfl, fun a W hW hgv => ?_⟩; have g := (hgv 11 _ 140 rfl rfl (by kernel_rfl)).trans rfl; exact src_built (b := .cells #[.string p0, .int .i64 0, .string (iS (qa + qb).num), .string (nS (qa + qb).den)] 47) (k := 1) rfl rfl rfl (by simp [execOp, go_sem, g]) (rd_blk (z := 4) (n := 1) (l := [⟨p0, 0, ⟨iS (qa + qb).num, nS (qa + qb).den⟩⟩]) (by omega) Fx.cs_length (Blk.new W _ _) rfl rfl (by omega)))); (case srcG24 => (intro pp; first | rfl | (simp; exact ⟨rfl, rfl⟩))); rintro ⟨B24, k24⟩ w24 R24 hb24; (try dsimp only at R24); simp only [List.drop_succ_cons, List.drop_zero, Sl.v]; obtain ⟨hc24, hf24⟩ := bcell hb24; have hs24 := hb24.size; (try simp at hs24))
        obtain ⟨a24, e24, l24, x24⟩ := R24.cells (by omega)
        subst e24
        have n24x : ∀ i u, (Fx.cs ⟨p0, 0, ⟨iS (qa + qb).num, nS (qa + qb).den⟩⟩)[i]? = some u → w24.cell? (a24.add i) = some u := fun i u h => by have := x24 0 _ rfl i u h; simpa using this
        clear hc24 hf24 hs24
        have hB24 := b_then hB23 hb24
        have o3w := o3z.below hb24
        have hz24 := hB24.size
        go_wp2_with (first
          | (at_builtin; refine wpList_app (v := u9) Tryz.elemFix (by omega) Fx.cs_length Fx.cs_one rfl (.tmp 129) (.tmp 141) rfl rfl o3w a24 k24 ⟨p0, 0, ⟨iS (qa + qb).num, nS (qa + qb).den⟩⟩ rfl n24x (by first | omega | (simp; omega)) (by first | omega | (simp; omega)) (by first | omega | (simp; omega)) ?_; intro v3 w25 o3n hg3 hat3; have o4v := (o4z.below hb24).grown hg3 (.inr (Ne.symm d34)); have hB25 : Below w3.heap.size w3 w25 := o3w.frame hB24 (Nat.le_refl _) hg3)
          | (go_at_call 28; (with_reducible refine (h0 _).mono ?_); rintro e w26 ⟨rfl, hb26⟩; have o4w := o4v.below hb26; have hB26 := b_then hB25 hb26; have hz26 := hB26.size)
          | (at_builtin; refine wpList_app (v := u10) Tryz.elemFix (by omega) Fx.cs_length Fx.cs_one rfl (.tmp 143) (.tmp 147) rfl rfl (o4w.alloc _) ⟨w26.heap.size, 0, none⟩ 1 ⟨p0, 0, ⟨⟨#[48]⟩, ⟨#[49]⟩⟩⟩ rfl (new_cells _ _ _ _ rfl) (by first | omega | (simp; omega)) (by first | omega | (simp; omega)) (by first | omega | (simp; omega)) ?_; intro v4 w27 o4n hg4 hat4))
        have hB27 : Below w3.heap.size w3 w27 := (o4w.alloc _).frame (b_alloc hB26 _) (Nat.le_refl _) hg4
        have o1a := o1z.below hb24
        have o2a := o2n.below hb24
        have o4a := o4z.below hb24
        have l13 := ap_new hat3 (Ne.symm m13) o1a
        have l23 := ap_new hat3 (Ne.symm m23) o2a
        have l34 := ap_new hat3 d34 o4a
        have o1b := ((o1a.grown hg3 (.inr m13)).below hb26).alloc (.cells #[.string p0, .int .i64 0, .string ⟨#[48]⟩, .string ⟨#[49]⟩] 47)
        have o2b := ((o2a.grown hg3 (.inr m23)).below hb26).alloc (.cells #[.string p0, .int .i64 0, .string ⟨#[48]⟩, .string ⟨#[49]⟩] 47)
        have o3b := (o3n.below hb26).alloc (.cells #[.string p0, .int .i64 0, .string ⟨#[48]⟩, .string ⟨#[49]⟩] 47)
        have n14 := ap_new hat4 (Ne.symm m14) o1b
        have n24 := ap_new hat4 (Ne.symm m24) o2b
        have n34 := ap_new hat4 (Ne.symm l34) o3b
        have F1 := o1b.grown hg4 (.inr m14)
        have F2 := o2b.grown hg4 (.inr m24)
        have F3 := o3b.grown hg4 (.inr l34)
        have E1 := T1.out
        have E2 := T2.out
        have E3 := T3.out
        have E4 := T4.out
        go_roundw
        case rel =>
          refine ⟨k + 1, by omega, by go_num, SA2, SB2, ?_, ?_, ?_, ?_, ?_, hB27⟩
          · show Own _ _ _ _ _ _ _
            rw [E1]; exact F1
          · show Own _ _ _ _ _ _ _
            rw [E2]; exact F2
          · show Own _ _ _ _ _ _ _
            rw [E3]; exact F3
          · show Own _ _ _ _ _ _ _
            rw [E4]; exact o4n
          · exact ⟨Ne.symm m21, Ne.symm l13, Ne.symm n14, Ne.symm l23, Ne.symm n24, Ne.symm n34⟩
        case measure => simp [intOf]; omega
    · obtain rfl : n = k := by omega
      have D := D2.out
      obtain ⟨j1, j2, j3⟩ := tab_ok (m := la.take n) (K := 40) D hxl (by simp; omega) (fun q hq => ⟨(SA.out q hq).1, seen_small SA.out q hq⟩) B5.out (by omega)
      obtain ⟨j4, j5, j6⟩ := tab_ok (m := lb.take n) (K := 40) D hxl (by simp; omega) (fun q hq => ⟨(SB.out q hq).1, seen_small SB.out q hq⟩) B5.out (by omega)
      obtain ⟨j7, j8, j9⟩ := tab_ok (m := (List.zipWith radd la lb).take n) (K := 81) D hxl (by simp; omega) (zip_small SA.out SB.out) B5.out (by omega)
      have hrep : (List.replicate n (enc 0)).take n = List.replicate n (enc 0) := List.take_of_length_le (by simp)
      obtain ⟨j10, j11, j12⟩ := tab_ok (m := List.replicate n (enc 0)) (K := 1) D hxl (by simp) (fun q hq => by rw [List.eq_of_mem_replicate hq, dec_enc]; exact ⟨rmay_enc 0, by show ndg (0 : Int).natAbs ≤ _; rw [show (0 : Int).natAbs = 0 from rfl, ndg_small (by omega)]; omega, by show ndg 1 ≤ _; rw [ndg_small (by omega)]; omega⟩) B5.out (by omega)
      rw [dotq_zero, show cq + 0 = cq by grind] at j12
      have hdz : dotq xs ((List.zipWith radd la lb).take n) = dotq xs (la.take n) + dotq xs (lb.take n) := by
        rw [List.take_zipWith]
        exact dotq_add xs _ _ (by simp; omega) (by simp; omega) (fun q hq => (SA.out q hq).1) (fun q hq => (SB.out q hq).1)
      rw [hdz] at j9
      have sA := dotq_small xs (la.take n) RS.out (seen_small SA.out)
      have sB := dotq_small xs (lb.take n) RS.out (seen_small SB.out)
      have hx4 : xs.length * (1001 + 40) ≤ 4 * 1041 := by rw [hxl]; omega
      obtain ⟨R1, R2, R3', R4⟩ := (⟨o1.out, o2.out, o3.out, o4.out⟩ : Own Fx.cs 4 47 wr w3.heap.size u7 _ ∧ Own Fx.cs 4 47 wr w3.heap.size u8 _ ∧ Own Fx.cs 4 47 wr w3.heap.size u9 _ ∧ Own Fx.cs 4 47 wr w3.heap.size u10 _)
      rw [hrep] at R4
      have htk : xs.take n = xs := List.take_of_length_le (by omega)
      rw [htk] at R1 R2 R3' R4
      obtain ⟨A5, k5, hv5, X5⟩ := R1.rd Fx.cs_length
      obtain ⟨A6, k6, hv6, X6⟩ := R2.rd Fx.cs_length
      obtain ⟨A7, k7, hv7, X7⟩ := R3'.rd Fx.cs_length
      obtain ⟨A8, k8, hv8, X8⟩ := R4.rd Fx.cs_length
      rw [j1] at hv5 X5
      rw [j4] at hv6 X6
      rw [j7] at hv7 X7
      rw [j10] at hv8 X8
      subst hv5; subst hv6; subst hv7; subst hv8
      have sq : rsmall 20 cq := rsmall_of b3 b4
      generalize dotq xs (la.take n) = ua at *
      generalize dotq xs (lb.take n) = ub at *
      have sU : rsmall 10000 (cq + ua) := rsmall_mono (rsmall_add sq sA) (by omega)
      have sV : rsmall 10000 (cq + ub) := rsmall_mono (rsmall_add sq sB) (by omega)
      have sS : rsmall 20000 (cq + (ua + ub)) := rsmall_mono (rsmall_add sq (rsmall_add sA sB)) (by omega)
      have hS1 := fun W => r3_add (cq + (ua + ub)) cq W (rsmall_mono sS (by omega)) (rsmall_mono sq (by omega))
      have hS2 := fun W => r3_add (cq + ua) (cq + ub) W (rsmall_mono sU (by omega)) (rsmall_mono sV (by omega))
      rw [show cq + (ua + ub) + cq = cq + ua + (cq + ub) by grind] at hS1
      simp only [enc_v] at hS1 hS2
      have hV := fun (fs : List Fx) (Af : Option Addr) (cf : Nat) (hfs : ∀ f ∈ fs, fxr 1000000 f) W (h : Below wr.heap.size wr W) (hr : Rd Fx.cs 4 wr Af n fs) => p_value (c := c) (cf := cf) (iS cq.num) (nS cq.den) 0 W (hg.below (b_then hBw h)) (HX.out.below (b_then hBw h)) (by omega) (fun x hx => ptq_up (B1.out x hx) (by omega)) (by omega) (by omega) (hr.below h) (by omega) hfs
      have V1 := fun W h => hV _ A5 k5 j2 W h X5
      have V2 := fun W h => hV _ A6 k6 j5 W h X6
      have V3 := fun W h => hV _ A7 k7 j8 W h X7
      have V4 := fun W h => hV _ A8 k8 j11 W h X8
      have hce : (⟨iS cq.num, nS cq.den⟩ : RT) = enc cq := rfl
      rw [hce, j3] at V1
      rw [hce, j6] at V2
      rw [hce, j9] at V3
      rw [hce, j12] at V4
      simp only [optR_enc] at V1 V2 V3 V4
      have heq := eqRat
      generalize cq + ua = qu at *
      generalize cq + ub = qv at *
      generalize cq + (ua + ub) = qs at *
      have c1c := pr.cell 1
      have c2c := pr.cell 2
      simp at c1c c2c
      have BPr := Lib.hid pr
      clear pr X5 X6 X7 X8 hV j1 j2 j3 j4 j5 j6 j7 j8 j9 j10 j11 j12 hrep hdz sA sB sU sV sS sq D R1 R2 R3' R4 o1 o2 o3 o4 dd hx4 hce SA SB
      go_wp2_with (first
        | (go_at_call 17; (with_reducible refine (V4 _ (b_then (b_alloc (b_then (b_alloc (b_then (b_alloc hb31 _) hb32) _) hb33) _) (Below.refl _ _))).mono ?_); rintro e w34 ⟨rfl, hb34⟩; obtain ⟨hc34, hf34⟩ := bcell hb34; have hs34 := hb34.size; (try simp at hs34); have hq34 : w.heap.size < w34.heap.size := (by omega); revert hb34)
        | (go_at_call 17; (with_reducible refine (V1 _ (Below.refl _ _)).mono ?_); rintro e w31 ⟨rfl, hb31⟩; obtain ⟨hc31, hf31⟩ := bcell hb31; have hs31 := hb31.size; (try simp at hs31); have hq31 : w.heap.size < w31.heap.size := (by omega))
        | (go_at_call 17; (with_reducible refine (V2 _ (b_alloc hb31 _)).mono ?_); rintro e w32 ⟨rfl, hb32⟩; obtain ⟨hc32, hf32⟩ := bcell hb32; have hs32 := hb32.size; (try simp at hs32); have hq32 : w.heap.size < w32.heap.size := (by omega))
        | (go_at_call 17; (with_reducible refine (V3 _ (b_alloc (b_then (b_alloc hb31 _) hb32) _)).mono ?_); rintro e w33 ⟨rfl, hb33⟩; obtain ⟨hc33, hf33⟩ := bcell hb33; have hs33 := hb33.size; (try simp at hs33); have hq33 : w.heap.size < w33.heap.size := (by omega)))
      intro hb34x
      have hb34 : Below (w33.alloc (.cells #[.string (iS qs.num), .string (nS qs.den)] 23)).heap.size (w33.alloc (.cells #[.string (iS qs.num), .string (nS qs.den)] 23)) w34 := by simpa using hb34x
      have bu := ((((Blk.new w31 23 #[.string (iS qu.num), .string (nS qu.den)]).below hb32).alloc (.cells #[.string (iS qv.num), .string (nS qv.den)] 23)).below hb33).alloc (.cells #[.string (iS qs.num), .string (nS qs.den)] 23) |>.below hb34 |>.alloc (.cells #[.string (iS cq.num), .string (nS cq.den)] 23)
      have bv := ((Blk.new w32 23 #[.string (iS qv.num), .string (nS qv.den)]).below hb33).alloc (.cells #[.string (iS qs.num), .string (nS qs.den)] 23) |>.below hb34 |>.alloc (.cells #[.string (iS cq.num), .string (nS cq.den)] 23)
      have bsX := (Blk.new w33 23 #[.string (iS qs.num), .string (nS qs.den)]).below hb34 |>.alloc (.cells #[.string (iS cq.num), .string (nS cq.den)] 23)
      have bt := Blk.new w34 23 #[.string (iS cq.num), .string (nS cq.den)]
      have hB34 : Below wr.heap.size wr w34 := b_then (b_alloc (b_then (b_alloc (b_then (b_alloc hb31 _) hb32) _) hb33) _) hb34
      have bp := (BPr.out.below hB34).alloc (.cells #[.string (iS cq.num), .string (nS cq.den)] 23)
      have hB35 : Below w.heap.size w (w34.alloc (.cells #[.string (iS cq.num), .string (nS cq.den)] 23)) := b_alloc (b_then hBw hB34) _
      clear hb31 hc31 hf31 hs31 hb32 hc32 hf32 hs32 hb33 hc33 hf33 hs33 hb34x hb34 hc34 hf34 hs34 c0c c1c c2c hsl
      go_wp2
      refine hide3 (K := fun W' => _) (fun W' => Below w.heap.size w W' ∧ Blk W' w.heap.size 28 #[.slice A n c, .string (iS cq.num), .string (nS cq.den)] ∧ Blk W' w31.heap.size 23 #[.string (iS qu.num), .string (nS qu.den)] ∧ Blk W' w32.heap.size 23 #[.string (iS qv.num), .string (nS qv.den)] ∧ Blk W' w33.heap.size 23 #[.string (iS qs.num), .string (nS qs.den)] ∧ Blk W' w34.heap.size 23 #[.string (iS cq.num), .string (nS cq.den)]) ⟨hB35, bp, bu, bv, bsX, bt⟩ ?_
      rintro T ⟨hBT, bP, bU, bV, bS, bT⟩
      clear hB35 bp bu bv bsX bt
      have yp1 := fun (y : After T) => (bP.below y.h).cell 1
      have yp2 := fun (y : After T) => (bP.below y.h).cell 2
      have yu0 := fun (y : After T) => (bU.below y.h).cell 0
      have yu1 := fun (y : After T) => (bU.below y.h).cell 1
      have yv0 := fun (y : After T) => (bV.below y.h).cell 0
      have yv1 := fun (y : After T) => (bV.below y.h).cell 1
      have ys0 := fun (y : After T) => (bS.below y.h).cell 0
      have ys1 := fun (y : After T) => (bS.below y.h).cell 1
      have yt0 := fun (y : After T) => (bT.below y.h).cell 0
      have yt1 := fun (y : After T) => (bT.below y.h).cell 1
      simp at yp1 yp2 yu0 yu1 yv0 yv1 ys0 ys1 yt0 yt1
      go_wp2
      (refine wp_region_after (by kernel_rfl) (by kernel_rfl) ?_; (repeat (first | go_big_quiet_skip | (go_big_quiet_want; go_big_quiet_op; first | go_big_quiet_on | (apply Exists.intro; refine ⟨fun _ => ?_, ?_⟩; (focus (first | (go_at_call 27; with_reducible exact Calls.after (hS1 _)) | (go_at_call 27; with_reducible exact Calls.after (hS2 _)))); go_big_quiet_on)))); refine wpQuiet_nil ?_; rintro w41 ⟨⟨_, hb41⟩, rfl⟩; (try dsimp only); obtain ⟨hc41, hf41⟩ := bcell hb41; have hs41 := hb41.size; (try simp at hs41))
      go_wp2
      go_ret
      exact ⟨ret_bool (by simp), b_then hBT hb41⟩
end Go.Proofs.YtdkpbifpafaabaaGreatDoor
