/- Claims: claim.Effective. -/
import Derived.Test.YtjdkbmlkplbmoaaGreatDoorClB
import Derived.Test.YtjdkbmlkplbmoaaGreatDoorClC
import Derived.Test.YtjdkbmlkplbmoaaGreatDoorClD
namespace Go.Proofs.YtjdkbmlkplbmoaaGreatDoor
open Go.RowKit
set_option linter.unusedVariables false
set_option linter.unusedSimpArgs false

theorem Tryz.elemStr : Elem Tryz.prog 59 9 1 16 := ⟨Tryz.underlying59, ⟨.string ⟨#[]⟩, by kernel_rfl, rfl⟩⟩
theorem sCs_one (s : ByteArray) : ∀ u ∈ sCs s, u.oneCell' = true := by
  intro u hu
  simp only [List.mem_cons, List.not_mem_nil, or_false] at hu
  subst hu; rfl
theorem dpd_rs {a s : ByteArray} {ex : Int} {x : In} (h : rsmall 1000 (dec x.q)) : rsmall 2001 (dpd a s ex x) := by
  unfold dpd
  split
  · refine rsmall_mono (rsmall_add (j := 1000) (k := 1000) ?_ ?_) (by omega)
    · split
      · exact h
      · exact rsmall_zero _ (by omega)
    · split
      · exact rsmall_neg h
      · exact rsmall_zero _ (by omega)
  · exact rsmall_zero _ (by omega)
theorem dpend_rs {a s : ByteArray} {ex : Int} : ∀ {l : List In}, (∀ x ∈ l, rsmall 1000 (dec x.q)) → rsmall (1 + l.length * 2002) (dpend l a s ex)
  | [], _ => rsmall_zero _ (by omega)
  | x :: l, h => by
    rw [dpend_cons]
    refine rsmall_mono (rsmall_add (dpd_rs (h x (by simp))) (dpend_rs fun y hy => h y (by simp [hy]))) ?_
    rw [List.length_cons]; omega
def cfr (s : ByteArray) (ex : Int) (x : In) : List ByteArray := if icum s ex x then [x.src, x.dst] else []
theorem caccts_eq (b : List Ln) (l : List In) (s : ByteArray) (ex : Int) : caccts b l s ex = (bholders b s).map Ln.acct ++ l.flatMap (cfr s ex) := rfl
theorem cfr_yes {ls : List In} {s : ByteArray} {ex : Int} {k : Nat} {x : In} (hx : ls[k]? = some x) (h : icum s ex x = true) : (ls.take (k + 1)).flatMap (cfr s ex) = (ls.take k).flatMap (cfr s ex) ++ [x.src, x.dst] := by
  rw [List.take_add_one, hx, List.flatMap_append]
  show _ ++ ([x].flatMap _) = _
  rw [List.flatMap_cons, List.flatMap_nil, List.append_nil]
  unfold cfr
  rw [if_pos h]
theorem cfr_no {ls : List In} {s : ByteArray} {ex : Int} {k : Nat} {x : In} (hx : ls[k]? = some x) (h : icum s ex x = false) : (ls.take (k + 1)).flatMap (cfr s ex) = (ls.take k).flatMap (cfr s ex) := by
  rw [List.take_add_one, hx, List.flatMap_append]
  show _ ++ ([x].flatMap _) = _
  rw [List.flatMap_cons, List.flatMap_nil, List.append_nil]
  unfold cfr
  rw [h]
  simp
theorem cfr_len (s : ByteArray) (ex : Int) : ∀ l : List In, (l.flatMap (cfr s ex)).length ≤ 2 * l.length
  | [] => by simp
  | x :: l => by
    rw [List.flatMap_cons, List.length_append, List.length_cons]
    have := cfr_len s ex l
    have h2 : (cfr s ex x).length ≤ 2 := by unfold cfr; split <;> simp
    omega
theorem cdist_len (ss : List ByteArray) : (cdist ss).length ≤ ss.length := by
  have hle : (Lib.compact (csort ss)).length ≤ (csort ss).length := by
    unfold Lib.compact Lib.compactUpTo
    rw [List.length_map]
    have := List.length_filter_le (Lib.keeps (csort ss).toArray) (List.range (csort ss).length)
    simpa using this
  unfold cdist
  rw [List.length_map]
  rw [csort_len] at hle
  exact hle
theorem fmap_some {α β : Type} {f : α → Option β} {l : List α} {k : Nat} {x : α} {y : β} (hx : l[k]? = some x) (h : f x = some y) : (l.take (k + 1)).filterMap f = (l.take k).filterMap f ++ [y] := by
  rw [List.take_add_one, hx, List.filterMap_append]
  show _ ++ ([x].filterMap f) = _
  rw [List.filterMap_cons, h]; rfl
theorem fmap_none {α β : Type} {f : α → Option β} {l : List α} {k : Nat} {x : α} (hx : l[k]? = some x) (h : f x = none) : (l.take (k + 1)).filterMap f = (l.take k).filterMap f := by
  rw [List.take_add_one, hx, List.filterMap_append]
  show _ ++ ([x].filterMap f) = _
  rw [List.filterMap_cons, h]; simp
set_option maxRecDepth 100000 in
set_option maxHeartbeats 8000000 in
theorem p_eff {A A2 : Option Addr} {n c n2 c2 : Nat} {xs : List Ln} {ls : List In} (s : ByteArray) (ex : Int) (w : World) (hg : Glob w) (hx : Rd Ln.cs 4 w A n xs) (hn : n ≤ 100) (hz : ∀ f ∈ xs, lnB 1000 f) (hy : Rd In.cs 10 w A2 n2 ls) (hn2 : n2 ≤ 100) (hzl : ∀ x ∈ ls, inB 1000 x) :
    Calls Tryz.prog 36 #[.slice A n c, .slice A2 n2 c2, .string s, .int .i64 ex] w fun e w' => LinesIs (ceff xs ls s ex) w e w' := by
  have hxl := hx.len
  have hyl := hy.len
  have hM := fun W (h : Below w.heap.size w W) => b_may (c := c) W (hg.below h) (hx.below h) (fun f hf => lnB_q (hz f hf) (by omega))
  have hM2 := fun W (h : Below w.heap.size w W) => p_imay (c := c2) W (hg.below h) (hy.below h) (by omega) (fun x h => inB_mono (hzl x h) (by omega))
  cases c0 : bmay xs with
  | false =>
    have hf : Hid (ceff xs ls s ex = []) := ceff_no (.inl c0)
    rw [c0] at hM
    clear hM2
    go_enter Tryz.func36, Tryz.ntmps36
    go_wp2_with (go_at_call 42; (with_reducible refine (hM w (Below.refl _ _)).mono ?_); rintro e w1 ⟨rfl, hb1⟩; obtain ⟨hc1, hf1⟩ := bcell hb1; have hs1 := hb1.size; (try simp at hs1))
    go_ret
    rw [hf.out]
    exact LinesIs.nil hb1
  | true =>
  rw [c0] at hM
  cases c1 : imay ls with
  | false =>
    have hf : Hid (ceff xs ls s ex = []) := ceff_no (.inr c1)
    rw [c1] at hM2
    go_enter Tryz.func36, Tryz.ntmps36
    go_wp2_with (first | (go_at_call 42; (with_reducible refine (hM w (Below.refl _ _)).mono ?_); rintro e w1 ⟨rfl, hb1⟩; obtain ⟨hc1, hf1⟩ := bcell hb1; have hs1 := hb1.size; (try simp at hs1)) | (go_at_call 20; (with_reducible refine (hM2 w1 hb1).mono ?_); rintro e w2 ⟨rfl, hb2⟩; obtain ⟨hc2, hf2⟩ := bcell hb2; have hs2 := hb2.size; (try simp at hs2)))
    go_ret
    rw [hf.out]
    exact LinesIs.nil (b_then hb1 hb2)
  | true =>
  rw [c1] at hM2
  obtain ⟨hs, hhs⟩ : ∃ hs, bholders xs s = hs := ⟨_, rfl⟩
  obtain ⟨m, hm⟩ : ∃ m, hs.length = m := ⟨_, rfl⟩
  have hlen := hold_len xs s
  rw [hhs, hm] at hlen
  have hm100 : m ≤ 100 := by omega
  have hH := fun W (h : Below w.heap.size w W) => (b_holders (c := c) s W (hg.below h) (hx.below h) (by omega) (fun f hf => lnB_q (hz f hf) (by omega))).mono fun e w' he => he.is_ hhs hm
  have hsm : ∀ x ∈ ls, rsmall 1000 (dec x.q) := fun x hx => by
    obtain ⟨q, hq, hqd, hqs⟩ := rat_of (ione_of (imay_all c1 x hx)).mayq (hzl x hx).2.2.2.1 (hzl x hx).2.2.2.2.1
    rw [hqd]; exact hqs
  have HXL := Lib.hid hxl
  have HYL := Lib.hid hyl
  have HM := Lib.hid hm
  have HSM := Lib.hid hsm
  have HZ := Lib.hid hz
  have HZL := Lib.hid hzl
  have C0 := Lib.hid c0
  have C1 := Lib.hid c1
  have HHS := Lib.hid hhs
  clear hxl hyl hz hzl c0 c1 hsm hlen hhs hm
  go_enter Tryz.func36, Tryz.ntmps36
  go_wp2_with (first
    | (go_at_call 42; (with_reducible refine (hM w (Below.refl _ _)).mono ?_); rintro e w1 ⟨rfl, hb1⟩; obtain ⟨hc1, hf1⟩ := bcell hb1; have hs1 := hb1.size; (try simp at hs1))
    | (go_at_call 20; (with_reducible refine (hM2 w1 hb1).mono ?_); rintro e w2 ⟨rfl, hb2⟩; obtain ⟨hc2, hf2⟩ := bcell hb2; have hs2 := hb2.size; (try simp at hs2))
    | (go_at_call 64; (with_reducible refine (hH w2 (b_then hb1 hb2)).mono ?_); rintro e w3 ⟨B3, k3, rfl, R3, hb3⟩))
  have hB3 := b_then (b_then hb1 hb2) hb3
  have o0 : Own sCs 1 9 w3 w3.heap.size (.slice none 0 0) ((hs.take 0).map Ln.acct) := Own.nil
  clear hb1 hc1 hf1 hs1 hb2 hc2 hf2 hs2 hM hM2 hH
  go_loopw [9, 30] (fun av iv wr => ∃ k : Nat, k ≤ m ∧ iv = .int .i64 (k : Nat) ∧ Own sCs 1 9 wr w3.heap.size av ((hs.take k).map Ln.acct) ∧ Below w3.heap.size w3 wr) (fun _ i _ => m - (intOf i).toNat)
  case atStart => exact ⟨0, Nat.zero_le _, rfl, o0, Below.refl _ _⟩
  case round =>
    clear o0
    obtain ⟨k, hk, rfl, hown, hB⟩ := hrel
    have hsz := hB.size
    have hol : ((hs.take k).map Ln.acct).length ≤ 100 := by rw [List.length_map]; have := List.length_take_le k hs; omega
    by_cases hlt : k < m
    · obtain ⟨ad, a0, a1, a2, a3, rfl, hxk, hl⟩ := ln_in R3 hB hlt
      have HN := Lib.hid (map_take_succ Ln.acct hxk)
      dsimp only at HN
      obtain ⟨hx0, hx1, hx2, hx3, hx4⟩ := hl wr (Below.refl _ _)
      have hown2 := (hown.alloc (.cells #[.string a0, .string a1, .string a2, .string a3] 46)).alloc (.cells #[.string a0] 9)
      have hB2 := b_alloc (b_alloc hB (.cells #[.string a0, .string a1, .string a2, .string a3] 46)) (.cells #[.string a0] 9)
      have hr2 : Rd sCs 1 ((wr.alloc (.cells #[.string a0, .string a1, .string a2, .string a3] 46)).alloc (.cells #[.string a0] 9)) (some ⟨wr.heap.size + 1, 0, none⟩) 1 [a0] := Rd.of_newAt sCs_length _ 9 [a0] (by simp) rfl (by rw [World.size_alloc]) rfl
      clear hl hxk
      go_wp2_with (at_builtin; refine wpList_apps0 (v := u9) Tryz.elemStr (by omega) sCs_length sCs_one rfl (.tmp 34) (.tmp 37) rfl rfl hown2 (some ⟨wr.heap.size + 1, 0, none⟩) 1 1 [a0] rfl hr2 (by omega) (by omega) (by simp; omega) ?_; intro v5 w5 hown5 hg5 hat5)
      go_roundw
      case rel => exact ⟨k + 1, by omega, by go_num, by rw [HN.out]; exact hown5, hown2.frame hB2 (Nat.le_refl _) hg5⟩
      case measure => simp [intOf]; omega
    · obtain rfl : k = m := by omega
      have o1 : Own sCs 1 9 wr w3.heap.size u9 (hs.map Ln.acct ++ (ls.take 0).flatMap (cfr s ex)) := by
        have h := hown
        rw [← HM.out, List.take_length] at h
        rw [List.take_zero, List.flatMap_nil, List.append_nil]; exact h
      clear hown hol
      go_wp2
      go_loopw [9, 42] (fun av iv wr' => ∃ j : Nat, j ≤ n2 ∧ iv = .int .i64 (j : Nat) ∧ Own sCs 1 9 wr' w3.heap.size av (hs.map Ln.acct ++ (ls.take j).flatMap (cfr s ex)) ∧ Below w3.heap.size w3 wr') (fun _ i _ => n2 - (intOf i).toNat)
      case atStart => exact ⟨0, Nat.zero_le _, rfl, o1, hB⟩
      case round =>
        clear o1 hB hsz
        obtain ⟨j, hj, rfl, hown, hB⟩ := hrel
        have hsz := hB.size
        have hol : (hs.map Ln.acct ++ (ls.take j).flatMap (cfr s ex)).length ≤ 300 := by
          rw [List.length_append, List.length_map]
          have h1 := cfr_len s ex (ls.take j)
          have h2 := List.length_take_le j ls
          have h3 := HM.out
          omega
        by_cases hlt2 : j < n2
        · obtain ⟨ad, a0, a1, a2, a3, a4, a5, a6, a7, a8, a9, rfl, hxk, hl⟩ := in_in hy (b_then hB3 hB) hlt2
          have hC := fun W => p_cum a0 a1 a2 a3 a4 a5 a6 a7 a8 a9 s ex W
          obtain ⟨y0, y1, y2, y3, y4, y5, y6, y7, y8, y9, y10, y11⟩ := hl wr (Below.refl _ _)
          have hBa := b_alloc hB (.cells #[.int .i64 a0, .int .i64 a1, .int .i64 a2, .string a3, .string a4, .string a5, .string a6, .string a7, .string a8, .string a9] 37)
          have X := Blk.new wr 37 #[.int .i64 a0, .int .i64 a1, .int .i64 a2, .string a3, .string a4, .string a5, .string a6, .string a7, .string a8, .string a9]
          cases hc : icum s ex ⟨a0, a1, a2, a3, a4, a5, ⟨a6, a7⟩, ⟨a8, a9⟩⟩ with
          | false =>
            have HN := Lib.hid (cfr_no hxk hc)
            rw [hc] at hC
            clear hl hxk hc
            go_wp2_with (go_at_call 65; (with_reducible refine (hC _).mono ?_); rintro e w4 ⟨rfl, hb4⟩; obtain ⟨hc4, hf4⟩ := bcell hb4; have hs4 := hb4.size; (try simp at hs4))
            go_roundw
            case rel => exact ⟨j + 1, by omega, by go_num, by rw [HN.out]; exact (hown.alloc _).below hb4, b_then hBa hb4⟩
            case measure => simp [intOf]; omega
          | true =>
            have HN := Lib.hid (cfr_yes hxk hc)
            dsimp only at HN
            rw [hc] at hC
            clear hl hxk hc
            go_wp2_with (first
              | (go_at_call 65; (with_reducible refine (hC _).mono ?_); rintro e w4 ⟨rfl, hb4⟩; obtain ⟨hc4, hf4⟩ := bcell hb4; have hs4 := hb4.size; (try simp at hs4); have hq4 : wr.heap.size < w4.heap.size := (by omega); have hown4 := ((hown.alloc (.cells #[.int .i64 a0, .int .i64 a1, .int .i64 a2, .string a3, .string a4, .string a5, .string a6, .string a7, .string a8, .string a9] 37)).below hb4).alloc (.cells #[.string a3, .string a4] 9); have hB4 := b_alloc (b_then hBa hb4) (.cells #[.string a3, .string a4] 9); have hr4 : Rd sCs 1 (w4.alloc (.cells #[.string a3, .string a4] 9)) (some ⟨w4.heap.size, 0, none⟩) 2 [a3, a4] := Rd.of_newAt sCs_length _ 9 [a3, a4] (by simp) rfl rfl rfl)
              | (at_builtin; refine wpList_apps0 (v := u9) Tryz.elemStr (by omega) sCs_length sCs_one rfl (.tmp 50) (.tmp 55) rfl rfl hown4 (some ⟨w4.heap.size, 0, none⟩) 2 2 [a3, a4] rfl hr4 (by omega) (by omega) (by simp; omega) ?_; intro v5 w5 hown5 hg5 hat5))
            go_roundw
            case rel => exact ⟨j + 1, by omega, by go_num, by rw [HN.out, ← List.append_assoc]; exact hown5, hown4.frame hB4 (Nat.le_refl _) hg5⟩
            case measure => simp [intOf]; omega
        · obtain rfl : j = n2 := by omega
          have hall : hs.map Ln.acct ++ (ls.take j).flatMap (cfr s ex) = caccts xs ls s ex := by rw [← HYL.out, List.take_length, caccts_eq, HHS.out]
          rw [hall] at hown hol
          obtain ⟨cs, hcs⟩ : ∃ cs, cdist (caccts xs ls s ex) = cs := ⟨_, rfl⟩
          obtain ⟨mc, hmc⟩ : ∃ mc, cs.length = mc := ⟨_, rfl⟩
          have hfin : Hid (cs.filterMap (cone xs ls s ex) = ceff xs ls s ex) := cone_all C0.out C1.out (by rw [← hcs]; exact cdist_pw _) (fun a => by rw [← hcs]; exact cdist_mem _ a)
          have hcl := cdist_len (caccts xs ls s ex)
          rw [hcs, hmc] at hcl
          have hmc3 : mc ≤ 300 := by omega
          have KS := Lib.hid (c_sort hown (by omega))
          have KC := Lib.hid (fun W (v : Value) (h : Own sCs 1 9 W w3.heap.size v ((csort (caccts xs ls s ex)).map mkS)) => c_compact h (by omega))
          rw [hcs, hmc] at KC
          have HMC := Lib.hid hmc
          clear hall hol hcs hmc hcl
          go_wp2_with (first
            | (go_at_call 66; (with_reducible refine (KS.out).mono ?_); rintro e w5 ⟨rfl, ho5, hg5⟩; have hB5 := hown.frame hB (Nat.le_refl _) hg5)
            | (go_at_call 67; (with_reducible refine (KC.out w5 _ ho5).mono ?_); rintro e w6 ⟨A6, c6, rfl, R6, hg6⟩; have hB6 := ho5.frame hB5 (Nat.le_refl _) hg6))
          have hBw := b_then hB3 hB6
          have o2 : Own Ln.cs 4 46 w6 w6.heap.size (.slice none 0 0) ((cs.take 0).filterMap (cone xs ls s ex)) := Own.nil
          clear KS KC hown hB hsz ho5 hg5 hB5 hg6 hB6 R3
          go_loopw [14, 63] (fun ov iv wr' => ∃ k : Nat, k ≤ mc ∧ iv = .int .i64 (k : Nat) ∧ Own Ln.cs 4 46 wr' w6.heap.size ov ((cs.take k).filterMap (cone xs ls s ex)) ∧ Below w6.heap.size w6 wr') (fun _ i _ => mc - (intOf i).toNat)
          case atStart => exact ⟨0, Nat.zero_le _, rfl, o2, Below.refl _ _⟩
          case round =>
            clear o2
            obtain ⟨k, hk, rfl, hown, hBo⟩ := hrel
            have hsz := hBo.size
            have hol : ((cs.take k).filterMap (cone xs ls s ex)).length ≤ 300 := by
              have h1 := List.length_filterMap_le (cone xs ls s ex) (cs.take k)
              have h2 := List.length_take_le k cs
              have h3 := HMC.out
              omega
            by_cases hlt3 : k < mc
            · obtain ⟨ad, a, rfl, hak, hl⟩ := nm_in R6 hBo hlt3
              have hl0 := hl wr (Below.refl _ _)
              obtain ⟨p, hp, hps⟩ := get_rat HZ.out (by omega) C0.out a s
              have hzr := dpend_rs (a := a) (s := s) (ex := ex) HSM.out
              have hcn : cone xs ls s ex a = if pfree a = false ∧ p + dpend ls a s ex ≠ 0 then some ⟨a, s, enc (p + dpend ls a s ex)⟩ else none := by unfold cone; rw [hp, dec_enc]
              have hyl2 := HYL.out
              have KG : ∀ W, Below w.heap.size w W → Calls Tryz.prog 69 #[.slice A n c, .string a, .string s] W fun e w' => e = .returned (.agg #[.string (iS p.num), .string (nS p.den)]) ∧ Below W.heap.size W w' := fun W hW => by
                have := b_get (c := c) a s W (hg.below hW) (hx.below hW) (by omega) (fun f hf => lnB_q (HZ.out f hf) (by omega))
                rw [bget_yes C0.out, hp] at this
                exact this
              have KP : ∀ W, Below w.heap.size w W → Calls Tryz.prog 38 #[.slice A2 j c2, .string a, .string s, .int .i64 ex] W fun e w' => e = .returned (.agg #[.string (iS (dpend ls a s ex).num), .string (nS (dpend ls a s ex).den)]) ∧ Below W.heap.size W w' := fun W hW => by
                have := p_pend (c := c2) a s ex W (hg.below hW) (hy.below hW) (by omega) HZL.out
                unfold ipend at this
                rw [if_pos C1.out] at this
                exact this
              have hzr' : rsmall 300000 (dpend ls a s ex) := rsmall_mono hzr (by rw [hyl2]; omega)
              have hA := fun W hg => p_radd p (dpend ls a s ex) W hg (rsmall_mono hps (by omega)) (rsmall_mono hzr' (by omega))
              have hyr := rsmall_add hps hzr'
              simp only [enc_v] at hA
              generalize p + dpend ls a s ex = y at *
              obtain ⟨t2, ht2⟩ : ∃ t, iS (dpend ls a s ex).num = t := ⟨_, rfl⟩
              obtain ⟨t3, ht3⟩ : ∃ t, nS (dpend ls a s ex).den = t := ⟨_, rfl⟩
              rw [ht2, ht3] at KP hA
              have hSg := fun W hg => p_rsign (iS y.num) (nS y.den) W hg (by have := iS_sz hyr.1; omega) (by rw [nS_size]; have := hyr.2; omega)
              rw [show rsign ⟨iS y.num, nS y.den⟩ = y.num.sign from rsign_enc y] at hSg
              have hy0 : y.num.sign = 0 ↔ y = 0 := by rw [Int.sign_eq_zero_iff_zero, Rat.num_eq_zero]
              rw [show enc y = ⟨iS y.num, nS y.den⟩ from rfl] at hcn
              obtain ⟨t0, ht0⟩ : ∃ t, iS y.num = t := ⟨_, rfl⟩
              obtain ⟨t1, ht1⟩ : ∃ t, nS y.den = t := ⟨_, rfl⟩
              rw [ht0, ht1] at hA hSg hcn
              have hF := fun W => p_free a W
              clear hp hps hzr hzr' hyl2 ht2 ht3 ht0 ht1 hyr hl
              have hBw1 := b_then hBw hBo
              cases hpf : pfree a with
              | true =>
                have HN := Lib.hid (fmap_none (f := cone xs ls s ex) hak (by rw [hcn, hpf]; simp))
                rw [hpf] at hF
                clear hcn hak hpf hSg hy0
                go_wp2_with (first
                  | (go_at_call 69; (with_reducible refine (KG wr hBw1).mono ?_); rintro e w7 ⟨rfl, hb7⟩)
                  | (go_at_call 38; (with_reducible refine (KP w7 (b_then hBw1 hb7)).mono ?_); rintro e w8 ⟨rfl, hb8⟩)
                  | (go_at_call 68; (with_reducible refine (hA w8 (hg.below (b_then (b_then hBw1 hb7) hb8))).mono ?_); rintro e w9 ⟨rfl, hb9⟩)
                  | (go_at_call 70; (with_reducible refine (hF _).mono ?_); rintro e w' ⟨rfl, rfl⟩))
                go_roundw
                case rel => exact ⟨k + 1, by omega, by go_num, by rw [HN.out]; exact (((hown.below hb7).below hb8).below hb9).alloc _, b_alloc (b_then (b_then (b_then hBo hb7) hb8) hb9) _⟩
                case measure => simp [intOf]; omega
              | false =>
                rw [hpf] at hF
                by_cases hyz : y = 0
                · have HN := Lib.hid (fmap_none (f := cone xs ls s ex) hak (by rw [hcn, hpf, hyz]; simp))
                  rw [hy0.2 hyz] at hSg
                  clear hcn hak hpf hy0 hyz
                  go_wp2_with (first
                    | (go_at_call 69; (with_reducible refine (KG wr hBw1).mono ?_); rintro e w7 ⟨rfl, hb7⟩)
                    | (go_at_call 38; (with_reducible refine (KP w7 (b_then hBw1 hb7)).mono ?_); rintro e w8 ⟨rfl, hb8⟩)
                    | (go_at_call 68; (with_reducible refine (hA w8 (hg.below (b_then (b_then hBw1 hb7) hb8))).mono ?_); rintro e w9 ⟨rfl, hb9⟩; have hB9 := b_alloc (b_then (b_then (b_then hBo hb7) hb8) hb9) (.cells #[.string t0, .string t1] 35))
                    | (go_at_call 70; (with_reducible refine (hF _).mono ?_); rintro e w' ⟨rfl, rfl⟩)
                    | (go_at_call 48; (with_reducible refine (hSg _ (hg.below (b_then hBw hB9))).mono ?_); rintro e w10 ⟨rfl, hb10⟩))
                  go_roundw
                  case rel => exact ⟨k + 1, by omega, by go_num, by rw [HN.out]; exact ((((hown.below hb7).below hb8).below hb9).alloc _).below hb10, b_then hB9 hb10⟩
                  case measure => simp [intOf]; omega
                · have HN := Lib.hid (fmap_some (f := cone xs ls s ex) hak (by rw [hcn, hpf, if_pos ⟨rfl, hyz⟩]))
                  have hsn : ¬ y.num.sign = 0 := fun e => hyz (hy0.1 e)
                  obtain ⟨sg, hsg⟩ : ∃ sg, y.num.sign = sg := ⟨_, rfl⟩
                  rw [hsg] at hSg hsn
                  have hsn2 : (sg == 0) = false := by rw [beq_eq_false_iff_ne]; exact hsn
                  clear hcn hak hpf hy0 hyz hsg
                  go_wp2_with (first
                    | (go_at_call 69; (with_reducible refine (KG wr hBw1).mono ?_); rintro e w7 ⟨rfl, hb7⟩)
                    | (go_at_call 38; (with_reducible refine (KP w7 (b_then hBw1 hb7)).mono ?_); rintro e w8 ⟨rfl, hb8⟩)
                    | (go_at_call 68; (with_reducible refine (hA w8 (hg.below (b_then (b_then hBw1 hb7) hb8))).mono ?_); rintro e w9 ⟨rfl, hb9⟩; have hB9 := b_alloc (b_then (b_then (b_then hBo hb7) hb8) hb9) (.cells #[.string t0, .string t1] 35); have o9 := (((hown.below hb7).below hb8).below hb9).alloc (.cells #[.string t0, .string t1] 35); have D9 := Blk.new w9 35 #[.string t0, .string t1])
                    | (go_at_call 70; (with_reducible refine (hF _).mono ?_); rintro e w' ⟨rfl, rfl⟩)
                    | (go_at_call 48; (with_reducible refine (hSg _ (hg.below (b_then hBw hB9))).mono ?_); rintro e w10 ⟨rfl, hb10⟩; obtain ⟨d0, d1, d2, d3⟩ := (D9.below hb10).two; have o10 := (o9.below hb10).alloc (.cells #[.string a, .string s, .string t0, .string t1] 46); have hB10 := b_alloc (b_then hB9 hb10) (.cells #[.string a, .string s, .string t0, .string t1] 46); have hz10 := (b_then hB9 hb10).size)
                    | (at_builtin; refine wpList_apps0 (v := u14) Tryz.elemLines (by omega) Ln.cs_length Ln.cs_one rfl (.tmp 85) (.tmp 90) rfl rfl o10 (some ⟨w10.heap.size, 0, none⟩) 1 1 [⟨a, s, ⟨t0, t1⟩⟩] rfl (Rd.of_newAt Ln.cs_length w10 46 [⟨a, s, ⟨t0, t1⟩⟩] (by simp) rfl rfl rfl) (by omega) (by omega) (by simp; omega) ?_; intro v12 w12 hown12 hg12 hat12))
                  go_roundw
                  case rel => exact ⟨k + 1, by omega, by go_num, by rw [HN.out]; exact hown12, o10.frame hB10 (Nat.le_refl _) hg12⟩
                  case measure => simp [intOf]; omega
            · obtain rfl : k = mc := by omega
              have hall : Hid ((cs.take k).filterMap (cone xs ls s ex) = ceff xs ls s ex) := by unfold Hid; rw [← HMC.out, List.take_length]; exact hfin.out
              go_wp2
              go_ret
              rw [← hall.out]
              exact LinesIs.own hown (b_then hBw hBo)
end Go.Proofs.YtjdkbmlkplbmoaaGreatDoor
