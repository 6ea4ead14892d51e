/- Claims: R20.Effective. -/
import Derived.Test.YtjdkbmlkplbmoaaGreatDoorClB
import Derived.Test.YtjdkbmlkplbmoaaGreatDoorGhB
namespace Go.Proofs.YtjdkbmlkplbmoaaGreatDoor
open Go.RowKit
set_option linter.unusedVariables false
set_option linter.unusedSimpArgs false

theorem r6_put {bs : List Ln} {mm kk : Nat} {B : Option Addr} {a0 a1 a2 a3 : ByteArray} (W : World) (hb : bmay bs = true) (hl : bs.length ≤ 1000) (hz : ∀ f ∈ bs, lnB 1000000 f) (hf : lone ⟨a0, a1, ⟨a2, a3⟩⟩ = true) (hfB : lnB 1000000 ⟨a0, a1, ⟨a2, a3⟩⟩) (hr : Rd Ln.cs 4 W B mm bs) :
    Calls Tryz.prog 27 #[.slice B mm kk, .agg #[.string a0, .string a1, .string a2, .string a3]] W fun e w' => ∃ B m k, e = .returned (.tuple #[.slice B m k, .bool true]) ∧ Rd Ln.cs 4 w' B m (bput bs ⟨a0, a1, ⟨a2, a3⟩⟩) ∧ Below W.heap.size W w' := by
  have h2 := hr.len
  refine (r6_add (c := kk) a0 a1 a2 a3 W hr (by omega) (fun f hf => lnB_q (hz f hf) (by omega)) (lnB_q hfB (by omega))).mono fun e w' h => ?_
  obtain ⟨B, m, k, e1, e2, e3, _⟩ := h.put hb hf
  exact ⟨B, m, k, e1, e2, e3⟩
/-- A book that is small enough to add to. -/
structure CbOk (b : List Ln) : Prop where
  may : bmay b = true
  len : b.length ≤ 1000
  B : ∀ f ∈ b, lnB 1000000 f
/-- The book of the first k lines of an asset. -/
def cb1 (xs : List Ln) (s : ByteArray) (k : Nat) : List Ln := bposts [] ((xs.take k).filter (ofAsset s))
theorem cb1_ok {xs : List Ln} (s : ByteArray) (hb : bmay xs = true) (hn : xs.length ≤ 100) (hz : ∀ f ∈ xs, lnB 1000 f) (k : Nat) : bmay (cb1 xs s k) = true ∧ (cb1 xs s k).length ≤ 100 ∧ ∀ f ∈ cb1 xs s k, lnB 101000 f := by
  have hm : ∀ f ∈ (xs.take k).filter (ofAsset s), f ∈ xs := fun f hf => List.mem_of_mem_take (List.mem_filter.1 hf).1
  have hlo : ∀ f ∈ (xs.take k).filter (ofAsset s), lone f = true := fun f hf => lgood_lone (bmay_all hb f (hm f hf))
  have hlen : ((xs.take k).filter (ofAsset s)).length ≤ 100 := by have := List.length_filter_le (ofAsset s) (xs.take k); have h2 := List.length_take_le' k xs; omega
  refine ⟨posts_may bmay_nil hlo, by have := posts_len (l := (xs.take k).filter (ofAsset s)) bmay_nil hlo; simp only [List.length_nil] at this; unfold cb1; omega, fun f hf => ?_⟩
  refine lnB_mono (posts_B (j := 1) (k := 1000) (l := (xs.take k).filter (ofAsset s)) bmay_nil hlo (fun f hf => by cases hf) (by omega) (fun f hf => hz f (hm f hf)) f hf) ?_
  have : ((xs.take k).filter (ofAsset s)).length * 1002 ≤ 100 * 1002 := Nat.mul_le_mul_right _ hlen
  omega
theorem cb1_yes {xs : List Ln} {s : ByteArray} {k : Nat} {x : Ln} (hx : xs[k]? = some x) (h : ofAsset s x = true) : cb1 xs s (k + 1) = bput (cb1 xs s k) x := by
  unfold cb1
  rw [List.take_add_one, hx, List.filter_append, posts_append]
  show bposts _ ([x].filter _) = _
  rw [List.filter_cons_of_pos h]
  rfl
theorem cb1_no {xs : List Ln} {s : ByteArray} {k : Nat} {x : Ln} (hx : xs[k]? = some x) (h : ofAsset s x = false) : cb1 xs s (k + 1) = cb1 xs s k := by
  unfold cb1
  rw [List.take_add_one, hx, List.filter_append]
  show bposts _ (_ ++ [x].filter _) = _
  rw [List.filter_cons_of_neg (by rw [h]; simp), List.filter_nil, List.append_nil]
/-- .. and of the first k instructions. -/
def cb2 (xs : List Ln) (ls : List In) (s : ByteArray) (ex : Int) (k : Nat) : List Ln := bposts (cb1 xs s xs.length) ((ls.take k).flatMap (clines s ex))
theorem clines_len (s : ByteArray) (ex : Int) : ∀ l : List In, (l.flatMap (clines s ex)).length ≤ 2 * l.length
  | [] => by simp
  | x :: l => by
    rw [List.flatMap_cons, List.length_append, List.length_cons]
    have := clines_len s ex l
    have h2 : (clines s ex x).length ≤ 2 := by unfold clines; split <;> simp
    omega
theorem clines_B {s : ByteArray} {ex : Int} {l : List In} (hl : imay l = true) (hz : ∀ x ∈ l, inB 1000 x) : ∀ f ∈ l.flatMap (clines s ex), lnB 1001 f := by
  intro f hf
  obtain ⟨x, hx, hf⟩ := List.mem_flatMap.1 hf
  have o := ione_of (imay_all hl x hx)
  obtain ⟨z0, z1, z2, z3, z4, _, _⟩ := hz x hx
  obtain ⟨q, hq, hqd, hqs⟩ := rat_of o.mayq z3 z4
  have e1 := enc_size (rsmall_neg hqs)
  unfold clines at hf
  split at hf
  · rename_i hc
    obtain ⟨rfl, _⟩ := icum_iff.1 hc
    rw [hqd] at hf
    simp only [List.mem_cons, List.not_mem_nil, or_false] at hf
    rcases hf with rfl | rfl
    · exact ⟨z0, z2, by dsimp only; omega, by dsimp only; omega⟩
    · exact ⟨z1, z2, by dsimp only; omega, by dsimp only; omega⟩
  · cases hf
theorem cb2_ok {xs : List Ln} {ls : List In} (s : ByteArray) (ex : Int) (hb : bmay xs = true) (hn : xs.length ≤ 100) (hz : ∀ f ∈ xs, lnB 1000 f) (hl : imay ls = true) (hln : ls.length ≤ 100) (hlz : ∀ x ∈ ls, inB 1000 x) (k : Nat) : CbOk (cb2 xs ls s ex k) := by
  obtain ⟨h1, h2, h3⟩ := cb1_ok s hb hn hz xs.length
  have hlk : imay (ls.take k) = true := imay_sub hl (List.take_sublist _ _)
  have hlo := clines_lone (s := s) (ex := ex) hlk
  have h4 := clines_len s ex (ls.take k)
  have h5 := List.length_take_le' k ls
  have h6 := clines_B (s := s) (ex := ex) hlk fun x hx => hlz x (List.mem_of_mem_take hx)
  have h7 := posts_len (l := (ls.take k).flatMap (clines s ex)) h1 hlo
  refine ⟨posts_may h1 hlo, by unfold cb2; omega, fun f hf => lnB_mono (posts_B (j := 101000) (k := 1001) h1 hlo h3 (by omega) h6 f hf) ?_⟩
  have : ((ls.take k).flatMap (clines s ex)).length * 1003 ≤ 200 * 1003 := Nat.mul_le_mul_right _ (by omega)
  omega
theorem cb2_zero (xs : List Ln) (ls : List In) (s : ByteArray) (ex : Int) : cb2 xs ls s ex 0 = cb1 xs s xs.length := by unfold cb2; rw [List.take_zero]; rfl
theorem cb2_all (xs : List Ln) (ls : List In) (s : ByteArray) (ex : Int) : cb2 xs ls s ex ls.length = call xs ls s ex := by unfold cb2 cb1 call; rw [List.take_length, List.take_length]
theorem cb2_no {xs : List Ln} {ls : List In} {s : ByteArray} {ex : Int} {k : Nat} {x : In} (hx : ls[k]? = some x) (h : icum s ex x = false) : cb2 xs ls s ex (k + 1) = cb2 xs ls s ex k := by
  unfold cb2
  rw [List.take_add_one, hx, List.flatMap_append]
  show bposts _ (_ ++ ([x].flatMap _)) = _
  rw [List.flatMap_cons, List.flatMap_nil, List.append_nil]
  unfold clines
  rw [h]
  simp
theorem cb2_yes {xs : List Ln} {ls : List In} {s : ByteArray} {ex : Int} {k : Nat} {x : In} {q : Rat} (hx : ls[k]? = some x) (h : icum s ex x = true) (hq : dec x.q = q) : cb2 xs ls s ex (k + 1) = bput (bput (cb2 xs ls s ex k) ⟨x.src, s, enc (-q)⟩) ⟨x.dst, s, x.q⟩ := by
  unfold cb2
  rw [List.take_add_one, hx, List.flatMap_append, posts_append]
  show bposts _ ([x].flatMap _) = _
  rw [List.flatMap_cons, List.flatMap_nil, List.append_nil]
  unfold clines
  rw [h, hq]
  rfl
theorem CbOk.put {b : List Ln} {x : Ln} {j : Nat} (h : CbOk b) (hl : lone x = true) (hx : lnB 1000 x ∨ lnB 1001 x) (h1 : b.length ≤ 900) (h2 : ∀ f ∈ b, lnB j f) (hj1 : 1 ≤ j) (hj : j ≤ 900000) : CbOk (bput b x) := by
  have hx' : lnB 1001 x := by rcases hx with hx | hx; exact lnB_mono hx (by omega); exact hx
  refine ⟨bput_may h.may hl, ?_, fun f hf => ?_⟩
  · have := posts_len (l := [x]) h.may (fun y hy => by rw [List.mem_singleton.1 hy]; exact hl)
    have e : bposts b [x] = bput b x := rfl
    rw [e] at this
    simp only [List.length_singleton] at this
    omega
  · have := posts_B (j := j) (k := 1001) (l := [x]) h.may (fun y hy => by rw [List.mem_singleton.1 hy]; exact hl) h2 hj1 (fun y hy => by rw [List.mem_singleton.1 hy]; exact hx') f hf
    exact lnB_mono this (by simp only [List.length_singleton]; omega)
theorem cb2_len {xs : List Ln} {ls : List In} (s : ByteArray) (ex : Int) (hb : bmay xs = true) (hn : xs.length ≤ 100) (hz : ∀ f ∈ xs, lnB 1000 f) (hl : imay ls = true) (hln : ls.length ≤ 100) (hlz : ∀ x ∈ ls, inB 1000 x) (k : Nat) : (cb2 xs ls s ex k).length ≤ 300 ∧ ∀ f ∈ cb2 xs ls s ex k, lnB 310000 f := by
  obtain ⟨h1, h2, h3⟩ := cb1_ok s hb hn hz xs.length
  have hlk : imay (ls.take k) = true := imay_sub hl (List.take_sublist _ _)
  have hlo := clines_lone (s := s) (ex := ex) hlk
  have h4 := clines_len s ex (ls.take k)
  have h5 := List.length_take_le' k ls
  have h6 := clines_B (s := s) (ex := ex) hlk fun x hx => hlz x (List.mem_of_mem_take hx)
  have h7 := posts_len (l := (ls.take k).flatMap (clines s ex)) h1 hlo
  refine ⟨by unfold cb2; omega, fun f hf => lnB_mono (posts_B (j := 101000) (k := 1001) h1 hlo h3 (by omega) h6 f hf) ?_⟩
  have : ((ls.take k).flatMap (clines s ex)).length * 1003 ≤ 200 * 1003 := Nat.mul_le_mul_right _ (by omega)
  omega
theorem ceff_no {b : List Ln} {l : List In} {s : ByteArray} {ex : Int} (h : bmay b = false ∨ imay l = false) : ceff b l s ex = [] := by
  unfold ceff
  rcases h with h | h <;> rw [h] <;> simp
set_option maxRecDepth 100000 in
set_option maxHeartbeats 8000000 in
theorem r20_eff {A A2 : Option Addr} {n c n2 c2 : Nat} {xs : List Ln} {ls : List In} (s : ByteArray) (ex : Int) (w : World) (hx : Rd Ln.cs 4 w A n xs) (hn : n ≤ 100) (hz : ∀ f ∈ xs, lnB 1000 f) (hy : Rd In.cs 10 w A2 n2 ls) (hn2 : n2 ≤ 100) (hzl : ∀ x ∈ ls, inB 1000 x) :
    Calls Tryz.prog 37 #[.slice A n c, .slice A2 n2 c2, .string s, .int .i64 ex] w fun e w' => LinesIs (ceff xs ls s ex) w e w' := by
  have hxl := hx.len
  have hyl := hy.len
  have hM := fun W (h : Below w.heap.size w W) => r6_may (c := c) W (hx.below h) (fun f hf => lnB_q (hz f hf) (by omega))
  have hM2 := fun W (h : Below w.heap.size w W) => r8_may (c := c2) W (hy.below h) (by omega) (fun x h => inB_mono (hzl x h) (by omega))
  cases c0 : bmay xs with
  | false =>
    have hf : Hid (ceff xs ls s ex = []) := ceff_no (.inl c0)
    rw [c0] at hM
    clear hM2
    go_enter Tryz.func37, Tryz.ntmps37
    go_wp2_with (go_at_call 26; (with_reducible refine (hM w (Below.refl _ _)).mono ?_); rintro e w1 ⟨rfl, hb1⟩; obtain ⟨hc1, hf1⟩ := bcell hb1; have hs1 := hb1.size; (try simp at hs1))
    go_ret
    rw [hf.out]
    exact LinesIs.nil hb1
  | true =>
  rw [c0] at hM
  cases c1 : imay ls with
  | false =>
    have hf : Hid (ceff xs ls s ex = []) := ceff_no (.inr c1)
    rw [c1] at hM2
    go_enter Tryz.func37, Tryz.ntmps37
    go_wp2_with (first | (go_at_call 26; (with_reducible refine (hM w (Below.refl _ _)).mono ?_); rintro e w1 ⟨rfl, hb1⟩; obtain ⟨hc1, hf1⟩ := bcell hb1; have hs1 := hb1.size; (try simp at hs1)) | (go_at_call 21; (with_reducible refine (hM2 w1 hb1).mono ?_); rintro e w2 ⟨rfl, hb2⟩; obtain ⟨hc2, hf2⟩ := bcell hb2; have hs2 := hb2.size; (try simp at hs2)))
    go_ret
    rw [hf.out]
    exact LinesIs.nil (b_then hb1 hb2)
  | true =>
  rw [c1] at hM2
  have HXL := Lib.hid hxl
  have HYL := Lib.hid hyl
  have H1 := Lib.hid (cb1_ok s c0 (by omega) hz)
  have H2 := Lib.hid (cb2_ok s ex c0 (by omega) hz c1 (by omega) hzl)
  have H3 := Lib.hid (cb2_len s ex c0 (by omega) hz c1 (by omega) hzl)
  have HZ := Lib.hid hz
  have HZL := Lib.hid hzl
  have C0 := Lib.hid c0
  have C1 := Lib.hid c1
  clear hxl hyl hz hzl c0 c1
  go_enter Tryz.func37, Tryz.ntmps37
  go_wp2_with (first | (go_at_call 26; (with_reducible refine (hM w (Below.refl _ _)).mono ?_); rintro e w1 ⟨rfl, hb1⟩; obtain ⟨hc1, hf1⟩ := bcell hb1; have hs1 := hb1.size; (try simp at hs1)) | (go_at_call 21; (with_reducible refine (hM2 w1 hb1).mono ?_); rintro e w2 ⟨rfl, hb2⟩; obtain ⟨hc2, hf2⟩ := bcell hb2; have hs2 := hb2.size; (try simp at hs2)))
  have hB2 := b_then hb1 hb2
  have hB2a := b_alloc hB2 (.cells #[] 46)
  have R0 : Rd Ln.cs 4 (w2.alloc (.cells #[] 46)) (some ⟨w2.heap.size, 0, none⟩) 0 (cb1 xs s 0) := by
    unfold cb1; rw [List.take_zero]; exact Rd.nil
  clear hb1 hc1 hf1 hs1 hb2 hc2 hf2 hs2 hM hM2
  go_loopw [9, 10] (fun bv iv wr => ∃ (k : Nat) (B : Option Addr) (mm kk : Nat), k ≤ n ∧ iv = .int .i64 (k : Nat) ∧ bv = .slice B mm kk ∧ Rd Ln.cs 4 wr B mm (cb1 xs s k) ∧ Below w.heap.size w wr) (fun _ i _ => n - (intOf i).toNat)
  case atStart => exact ⟨0, _, _, _, Nat.zero_le _, rfl, rfl, R0, hB2a⟩
  case round =>
    clear R0 hB2a hB2
    obtain ⟨k, B, mm, kk, hk, rfl, rfl, RB, hB⟩ := hrel
    by_cases hlt : k < n
    · obtain ⟨ad, a0, a1, a2, a3, rfl, hxk, hl⟩ := ln_in hx hB hlt
      have hmem := List.mem_of_getElem? hxk
      obtain ⟨hx0, hx1, hx2, hx3, hx4⟩ := hl wr (Below.refl _ _)
      cases d1 : (a1.toList == s.toList) with
      | true =>
        have HN := Lib.hid (cb1_yes hxk (s := s) (by unfold ofAsset; exact d1))
        have KA := Lib.hid (r6_put (kk := kk) wr (H1.out k).1 (by have := (H1.out k).2.1; omega) (fun f hf => lnB_mono ((H1.out k).2.2 f hf) (by omega)) (lgood_lone (bmay_all C0.out _ hmem)) (lnB_mono (HZ.out _ hmem) (by omega)) RB)
        clear hl hxk hmem
        go_wp2_with (go_at_call 27; (with_reducible refine (KA.out).mono ?_); rintro e w3 ⟨B3, m3, k3, rfl, R3, hb3⟩)
        go_roundw
        case rel => exact ⟨k + 1, B3, m3, k3, by omega, by go_num, rfl, by rw [HN.out]; exact R3, b_then hB hb3⟩
        case measure => simp [intOf]; omega
      | false =>
        have HN := Lib.hid (cb1_no hxk (s := s) (by unfold ofAsset; exact d1))
        clear hl hxk hmem
        go_wp2
        go_roundw
        case rel => exact ⟨k + 1, B, mm, kk, by omega, by go_num, rfl, by rw [HN.out]; exact RB, hB⟩
        case measure => simp [intOf]; omega
    · obtain rfl : k = n := by omega
      have R0 : Rd Ln.cs 4 wr B mm (cb2 xs ls s ex 0) := by rw [cb2_zero, HXL.out]; exact RB
      clear RB
      go_wp2
      go_loopw [9, 13] (fun bv iv wr' => ∃ (j : Nat) (B : Option Addr) (mm kk : Nat), j ≤ n2 ∧ iv = .int .i64 (j : Nat) ∧ bv = .slice B mm kk ∧ Rd Ln.cs 4 wr' B mm (cb2 xs ls s ex j) ∧ Below w.heap.size w wr') (fun _ i _ => n2 - (intOf i).toNat)
      case atStart => exact ⟨0, _, _, _, Nat.zero_le _, rfl, rfl, R0, hB⟩
      case round =>
        clear R0 hB
        obtain ⟨j, B, mm, kk, hj, rfl, rfl, RB, hB⟩ := hrel
        by_cases hlt2 : j < n2
        · obtain ⟨ad, a0, a1, a2, a3, a4, a5, a6, a7, a8, a9, rfl, hxk, hl⟩ := in_in hy hB hlt2
          have hmem := List.mem_of_getElem? hxk
          obtain ⟨z0, z1, z2, z3, z4, z5, z6⟩ := HZL.out _ hmem
          dsimp only at z0 z1 z2 z3 z4 z5 z6
          have o := ione_of (imay_all C1.out _ hmem)
          obtain ⟨q, hq, hqd, hqs⟩ := rat_of (x := ⟨a6, a7⟩) o.mayq z3 z4
          injection hq with q1 q2
          subst q1; subst q2
          obtain ⟨y0, y1, y2, y3, y4, y5, y6, y7, y8, y9, y10, y11⟩ := hl wr (Below.refl _ _)
          cases d1 : (a5.toList == s.toList) with
          | false =>
            have HN := Lib.hid (cb2_no (xs := xs) (s := s) (ex := ex) hxk (by unfold icum; dsimp only; rw [d1]; rfl))
            clear hl hxk hmem o hqd hqs z0 z1 z2 z3 z4 z5 z6
            go_wp2
            go_roundw
            case rel => exact ⟨j + 1, B, mm, kk, by omega, by go_num, rfl, by rw [HN.out]; exact RB, hB⟩
            case measure => simp [intOf]; omega
          | true =>
          by_cases d2 : a1 < ex
          case neg =>
            have HN := Lib.hid (cb2_no (xs := xs) (s := s) (ex := ex) hxk (by unfold icum; dsimp only; rw [decide_eq_false d2, Bool.and_false]))
            clear hl hxk hmem o hqd hqs z0 z1 z2 z3 z4 z5 z6
            go_wp2
            go_roundw
            case rel => exact ⟨j + 1, B, mm, kk, by omega, by go_num, rfl, by rw [HN.out]; exact RB, hB⟩
            case measure => simp [intOf]; omega
          case pos =>
          have hcu : icum s ex ⟨a0, a1, a2, a3, a4, a5, ⟨iS q.num, nS q.den⟩, ⟨a8, a9⟩⟩ = true := by unfold icum; dsimp only; rw [decide_eq_true d2, d1]; rfl
          have HN := Lib.hid (cb2_yes (xs := xs) (s := s) (ex := ex) hxk hcu hqd)
          dsimp only at HN
          obtain ⟨u, hu⟩ : ∃ u, iS (-q).num = u := ⟨_, rfl⟩
          obtain ⟨v, hv⟩ : ∃ v, nS (-q).den = v := ⟨_, rfl⟩
          have he : enc (-q) = ⟨u, v⟩ := by rw [← hu, ← hv]; rfl
          have hnq : ∀ W, Calls Tryz.prog 34 #[.agg #[.string (iS q.num), .string (nS q.den)]] W fun e w' => e = .returned (.agg #[.string u, .string v]) ∧ Below W.heap.size W w' := fun W => by
            have := r3_neg q W (rsmall_mono hqs (by omega))
            rw [he] at this
            exact this
          rw [he] at HN
          have hsa : a5 = s := s_eq.2 (beq_iff_eq.1 d1)
          have e1 := enc_size (rsmall_neg hqs)
          rw [he] at e1
          have hl1 : lone ⟨a3, s, ⟨u, v⟩⟩ = true := by rw [← hsa, ← he]; exact lone_mk o.src o.asset (rmay_enc _)
          have hl2 : lone ⟨a4, s, ⟨iS q.num, nS q.den⟩⟩ = true := by rw [← hsa]; exact lone_mk o.dst o.asset o.mayq
          have hz1 : lnB 1001 ⟨a3, s, ⟨u, v⟩⟩ := ⟨z0, by rw [← hsa]; exact z2, e1.1, e1.2⟩
          have hz2 : lnB 1001 ⟨a4, s, ⟨iS q.num, nS q.den⟩⟩ := ⟨z1, by rw [← hsa]; exact z2, by dsimp only; omega, by dsimp only; omega⟩
          have hok := H2.out j
          obtain ⟨hol, hoB⟩ := H3.out j
          have hok2 := hok.put hl1 (.inr hz1) (by omega) hoB (by omega) (by omega)
          obtain ⟨m6, hm6⟩ : ∃ m6, (bput (cb2 xs ls s ex j) ⟨a3, s, ⟨u, v⟩⟩).length = m6 := ⟨_, rfl⟩
          obtain ⟨m8, hm8⟩ : ∃ m8, (bput (bput (cb2 xs ls s ex j) ⟨a3, s, ⟨u, v⟩⟩) ⟨a4, s, ⟨iS q.num, nS q.den⟩⟩).length = m8 := ⟨_, rfl⟩
          have K1 : ∀ (kk : Nat) W, Rd Ln.cs 4 W B mm (cb2 xs ls s ex j) → Calls Tryz.prog 27 #[.slice B mm kk, .agg #[.string a3, .string s, .string u, .string v]] W fun e w' => ∃ B k, e = .returned (.tuple #[.slice B m6 k, .bool true]) ∧ Rd Ln.cs 4 w' B m6 (bput (cb2 xs ls s ex j) ⟨a3, s, ⟨u, v⟩⟩) ∧ Below W.heap.size W w' := fun kk W hr => (r6_put (kk := kk) W hok.may hok.len hok.B hl1 (lnB_mono hz1 (by omega)) hr).mono fun e w' h => by
            obtain ⟨B, m, k, e1, e2, e3⟩ := h
            obtain rfl : m = m6 := by have := e2.len; omega
            exact ⟨B, k, e1, e2, e3⟩
          have K2 : ∀ (B : Option Addr) (kk : Nat) W, Rd Ln.cs 4 W B m6 (bput (cb2 xs ls s ex j) ⟨a3, s, ⟨u, v⟩⟩) → Calls Tryz.prog 27 #[.slice B m6 kk, .agg #[.string a4, .string s, .string (iS q.num), .string (nS q.den)]] W fun e w' => ∃ B k, e = .returned (.tuple #[.slice B m8 k, .bool true]) ∧ Rd Ln.cs 4 w' B m8 (bput (bput (cb2 xs ls s ex j) ⟨a3, s, ⟨u, v⟩⟩) ⟨a4, s, ⟨iS q.num, nS q.den⟩⟩) ∧ Below W.heap.size W w' := fun B kk W hr => (r6_put (kk := kk) W hok2.may hok2.len hok2.B hl2 (lnB_mono hz2 (by omega)) hr).mono fun e w' h => by
            obtain ⟨B, m, k, e1, e2, e3⟩ := h
            obtain rfl : m = m8 := by have := e2.len; omega
            exact ⟨B, k, e1, e2, e3⟩
          have x3 := fun (x : After wr) (y : After x.W) => (hl y.W (b_then x.h y.h)).c3
          have x6 := fun (x : After wr) (y : After x.W) => (hl y.W (b_then x.h y.h)).c6
          have x7 := fun (x : After wr) (y : After x.W) => (hl y.W (b_then x.h y.h)).d7
          have HL := Lib.hid hl
          clear hl hxk hmem o hqd hqs z0 z1 z2 z3 z4 z5 z6 hcu hu hv he hsa e1 hl1 hl2 hz1 hz2 hok hok2 hol hoB hm6 hm8
          clear y4 y6 y7
          go_wp2
          (refine wp_region_res 14 15 16 18 89 74 90 14 m6 (fun B k W => Rd Ln.cs 4 W B m6 (bput (cb2 xs ls s ex j) ⟨a3, s, ⟨u, v⟩⟩)) ?resA6 (by kernel_rfl) (fun pp => by kernel_rfl) (fun pp x => ?resH6) ⟨by kernel_rfl, by kernel_rfl, by decide, by decide, by decide, by decide, by decide, by decide, by kernel_rfl, by kernel_rfl, by kernel_rfl, ?resK6, ⟨_, rfl, rfl, rfl, rfl⟩, ⟨_, rfl, rfl, rfl, rfl⟩, ⟨_, rfl, rfl, rfl, rfl⟩, ?resx6, ?resy6, ?resz6, fun B k W W' h hb => h.below hb, ?resG6, ?resQ6⟩ (by decide) (by decide) (by decide) (by decide); (case resH6 => (simp only [resl, List.modify_succ_cons, List.modify_zero_cons, repV]; (have hxs := x.h.size); (try simp at hxs); (repeat (first | go_big_quiet_skip | (go_big_quiet_want; go_big_quiet_op; first | go_big_quiet_on | (apply Exists.intro; refine ⟨fun _ => ?_, ?_⟩; (focus ((go_at_call 34; with_reducible exact Calls.after (hnq _)))); go_big_quiet_on)))); refine wpQuiet_nil ?_; rfl)); (case resK6 => (intro pp; refine ⟨_, rfl, rfl, fun a W hW hgv => ?_⟩; have g1 := (hgv 0 _ 75 rfl rfl (by kernel_rfl)).trans rfl; have g2 := (hgv 13 _ 88 rfl rfl (by kernel_rfl)).trans rfl; exact res_call rfl rfl rfl (by simp [execOp, go_sem, g1, g2]) (K1 kk W (RB.below hW)))); (case resx6 => (intro pp; first | rfl | (simp [Sl.t]; done))); (case resy6 => (intro pp; first | rfl | (simp [Sl.t]; done))); (case resz6 => (intro pp; first | rfl | (simp [Sl.v]; done))); (case resG6 => (intro pp; first | rfl | (simp; exact ⟨rfl, rfl⟩))); rintro ⟨B6, k6⟩ w6 R6 hb6; (try dsimp only at R6); (try dsimp only); (try simp only [Sl.v, Sl.t]); obtain ⟨hc6, hf6⟩ := bcell hb6; have hs6 := hb6.size; (try simp at hs6))
          have y4 := fun (x : After w6) (y : After x.W) => (HL.out y.W (b_then hb6 (b_then x.h y.h))).c4
          have y6 := fun (x : After w6) (y : After x.W) => (HL.out y.W (b_then hb6 (b_then x.h y.h))).c6
          have y7 := fun (x : After w6) (y : After x.W) => (HL.out y.W (b_then hb6 (b_then x.h y.h))).d7
          go_wp2
          (refine wp_region_res 13 14 15 17 106 92 107 16 m8 (fun B k W => Rd Ln.cs 4 W B m8 (bput (bput (cb2 xs ls s ex j) ⟨a3, s, ⟨u, v⟩⟩) ⟨a4, s, ⟨iS q.num, nS q.den⟩⟩)) ?resA8 (by kernel_rfl) (fun pp => by kernel_rfl) (fun pp x => ?resH8) ⟨by kernel_rfl, by kernel_rfl, by decide, by decide, by decide, by decide, by decide, by decide, by kernel_rfl, by kernel_rfl, by kernel_rfl, ?resK8, ⟨_, rfl, rfl, rfl, rfl⟩, ⟨_, rfl, rfl, rfl, rfl⟩, ⟨_, rfl, rfl, rfl, rfl⟩, ?resx8, ?resy8, ?resz8, fun B k W W' h hb => h.below hb, ?resG8, ?resQ8⟩ (by decide) (by decide) (by decide) (by decide); (case resH8 => (simp only [resl, List.modify_succ_cons, List.modify_zero_cons, repV]; (have hxs := x.h.size); (try simp at hxs); (repeat (first | go_big_quiet_skip | (go_big_quiet_want; go_big_quiet_op; first | go_big_quiet_on | (apply Exists.intro; refine ⟨fun _ => ?_, ?_⟩; (focus (fail)); go_big_quiet_on)))); refine wpQuiet_nil ?_; rfl)); (case resK8 => (intro pp; refine ⟨_, rfl, rfl, fun a W hW hgv => ?_⟩; have g1 := (hgv 0 _ 93 rfl rfl (by kernel_rfl)).trans rfl; have g2 := (hgv 12 _ 105 rfl rfl (by kernel_rfl)).trans rfl; exact res_call rfl rfl rfl (by simp [execOp, go_sem, g1, g2]) (K2 B6 k6 W (R6.below hW)))); (case resx8 => (intro pp; first | rfl | (simp [Sl.t]; done))); (case resy8 => (intro pp; first | rfl | (simp [Sl.t]; done))); (case resz8 => (intro pp; first | rfl | (simp [Sl.v]; done))); (case resG8 => (intro pp; first | rfl | (simp; exact ⟨rfl, rfl⟩))); rintro ⟨B8, k8⟩ w8 R8 hb8; (try dsimp only at R8); (try dsimp only); (try simp only [Sl.v, Sl.t]); obtain ⟨hc8, hf8⟩ := bcell hb8; have hs8 := hb8.size; (try simp at hs8))
          go_wp2
          go_roundw
          case rel => exact ⟨j + 1, B8, m8, k8, by omega, by go_num, rfl, by rw [HN.out]; exact R8, b_then hB (b_then hb6 hb8)⟩
          case measure => simp [intOf]; omega
        · obtain rfl : j = n2 := by omega
          have hE : cb2 xs ls s ex j = call xs ls s ex := by rw [← HYL.out]; exact cb2_all xs ls s ex
          have hfin : Hid (ceff xs ls s ex = (call xs ls s ex).filter cfree) := ceff_yes C0.out C1.out
          have hem := call_may s ex C0.out C1.out
          rw [hE] at RB
          obtain ⟨E, hEE⟩ : ∃ E, call xs ls s ex = E := ⟨_, rfl⟩
          have hel := (H3.out j).1
          rw [hE] at hel
          rw [hEE] at hfin RB hem hel
          have hrl := RB.len
          have hm3 : mm ≤ 300 := by omega
          have HRL := Lib.hid hrl
          have HEM := Lib.hid hem
          clear hE hEE hem hel hrl
          have o0 : Own Ln.cs 4 46 (wr.alloc (.cells #[] 46)) wr.heap.size (.slice (some ⟨wr.heap.size, 0, none⟩) 0 0) ((E.take 0).filter cfree) := by
            rw [List.take_zero]; exact Own.made0 (Nat.le_refl _)
          have hB0 := b_alloc (Below.refl wr.heap.size wr) (.cells #[] 46)
          go_wp2
          go_loopw [18, 19] (fun ov iv wr' => ∃ k : Nat, k ≤ mm ∧ iv = .int .i64 (k : Nat) ∧ Own Ln.cs 4 46 wr' wr.heap.size ov ((E.take k).filter cfree) ∧ Below wr.heap.size wr wr') (fun _ i _ => mm - (intOf i).toNat)
          case atStart => exact ⟨0, Nat.zero_le _, rfl, o0, hB0⟩
          case round =>
            clear o0 hB0
            obtain ⟨k, hk, rfl, hown, hBo⟩ := hrel
            have hsz := hBo.size
            have hflen : ((E.take k).filter cfree).length ≤ 300 := by have h1 := List.length_filter_le cfree (E.take k); have h2 := List.length_take_le' k E; have h3 := HRL.out; omega
            by_cases hlt3 : k < mm
            · obtain ⟨ad, a0, a1, a2, a3, rfl, hxk, hl⟩ := ln_in RB hBo hlt3
              have hmem := List.mem_of_getElem? hxk
              have hnm := (isName_size (lgood_of (bmay_all HEM.out _ hmem)).1).1
              dsimp only at hnm
              have hfp := pfree_pos hnm
              obtain ⟨hx0, hx1, hx2, hx3, hx4⟩ := hl wr (Below.refl _ _)
              cases hpf : pfree a0 with
              | true =>
                have HN := Lib.hid (filter_take_no (p := cfree) hxk (by unfold cfree; dsimp only; rw [hpf]; rfl))
                rw [hpf] at hfp
                have hf33 : a0[0] = 33 := by simpa using hfp.symm
                clear hl hxk hmem hpf hfp
                go_wp2
                go_roundw
                case rel => exact ⟨k + 1, by omega, by go_num, by rw [HN.out]; exact hown, hBo⟩
                case measure => simp [intOf]; omega
              | false =>
                have HN := Lib.hid (filter_take_yes (p := cfree) hxk (by unfold cfree; dsimp only; rw [hpf]; rfl))
                rw [hpf] at hfp
                have hf33 : ¬ a0[0] = 33 := by simpa using hfp.symm
                obtain ⟨bv, hbv⟩ : ∃ v : UInt8, a0[0] = v := ⟨_, rfl⟩
                rw [hbv] at hf33
                have hf34 : ((bv.toNat : Int) == 33) = false := by
                  rw [beq_eq_false_iff_ne]
                  intro e
                  exact hf33 (UInt8.toNat_inj.1 (by show bv.toNat = 33; omega))
                have hf35 : ((bv.toNat : Int) != 33) = true := by rw [bne, hf34]; rfl
                have hf36 : ¬ (bv.toNat : Int) = 33 := by simpa using hf34
                clear hl hxk hmem hpf hfp hf33
                go_wp2_with (at_builtin; refine wpList_apps0 (v := u18) Tryz.elemLines (by omega) Ln.cs_length Ln.cs_one rfl (.tmp 124) (.tmp 129) rfl rfl (hown.alloc _) (some ⟨wr.heap.size, 0, none⟩) 1 1 [⟨a0, a1, ⟨a2, a3⟩⟩] rfl (Rd.of_newAt Ln.cs_length wr 46 [⟨a0, a1, ⟨a2, a3⟩⟩] (by simp) rfl rfl rfl) (by omega) (by omega) (by simp; omega) ?_; intro v5 w5 hown5 hg5 hat5)
                go_roundw
                case rel => exact ⟨k + 1, by omega, by go_num, by rw [HN.out]; exact hown5, (hown.alloc _).frame (b_alloc hBo _) (Nat.le_refl _) hg5⟩
                case measure => simp [intOf]; omega
            · obtain rfl : k = mm := by omega
              have hall : Hid ((E.take k).filter cfree = E.filter cfree) := by unfold Hid; rw [← HRL.out, List.take_length]
              go_wp2
              go_ret
              rw [hfin.out, ← hall.out]
              exact LinesIs.own hown (b_then hB hBo)
end Go.Proofs.YtjdkbmlkplbmoaaGreatDoor
