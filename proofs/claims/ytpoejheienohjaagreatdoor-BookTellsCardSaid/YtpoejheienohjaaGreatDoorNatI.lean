/- Walks of nat: div, joined. -/
import Derived.Test.YtpoejheienohjaaGreatDoorNatH
import Derived.Deep.LoopGhost
namespace Go.Proofs.YtpoejheienohjaaGreatDoor
open Go.RowKit
set_option linter.unusedVariables false
set_option linter.unusedSimpArgs false

set_option maxRecDepth 100000 in
set_option maxHeartbeats 4000000 in
theorem n_div (A B : Option Addr) (n m c d : Nat) (x y : Nat) (w : World) (ha : Ls w A n (lim x)) (hb : Ls w B m (lim y)) (hy : 0 < y) (hn : n ≤ 900000000) :
    Calls Tryz.prog 151 #[.slice A n c, .slice B m d] w fun e w' => RetQR w (x / y) (x % y) e w' := by
  have hna := ha.len
  have hnb := hb.len
  go_enter Tryz.func151, Tryz.ntmps151
  by_cases hlt : x < y
  · have hc := cmpN_lt hlt
    go_wp2_with (go_at_call 171; (with_reducible refine (n_cmp _ _ _ _ _ _ _ _ _ ha hb).mono ?_); rintro e w1 ⟨rfl, hb1⟩; obtain ⟨hc1, hf1⟩ := bcell hb1; have hs1 := hb1.size; (try simp at hs1))
    go_ret2
    have h1 : x / y = 0 := Nat.div_eq_of_lt hlt
    have h2 : x % y = x := Nat.mod_eq_of_lt hlt
    rw [h1, h2]
    refine ⟨none, 0, A, c, ?_, ?_, ?_, hb1⟩
    · rw [lim_zero, hna]; rfl
    · rw [lim_zero]; exact Ls.nil
    · rw [hna]; exact ha.below hb1
  · have hc := cmpN_ge (Nat.le_of_not_lt hlt)
    by_cases hm : m = 1
    · subst hm
      obtain ⟨hl1, hy1⟩ := lim_small hy hnb
      obtain ⟨bb, ob, rfl, hbb, hcb⟩ := hb.at_ (k := 0) (by omega)
      simp only [hl1, List.getElem_cons_zero, Nat.add_zero] at hcb
      go_wp2_with (first | (go_at_call 171; (with_reducible refine (n_cmp _ _ _ _ _ _ _ _ _ ha hb).mono ?_); rintro e w1 ⟨rfl, hb1⟩; obtain ⟨hc1, hf1⟩ := bcell hb1; have hs1 := hb1.size; (try simp at hs1)) | (go_at_call 172; (with_reducible refine (n_short _ _ _ (lim x) y w1 (ha.below hb1) (isL_lim x) hy (by omega)).mono ?_); rintro e w2 ⟨A2, c2, B2, d2, rfl, hq2, hr2, hb2⟩))
      go_ret2
      rw [lv_lim] at hq2 hr2 ⊢
      exact ⟨_, _, _, _, rfl, hq2, hr2, b_then hb1 hb2⟩
    · have hm0 : m ≠ 0 := fun e => by have := lim_len_zero (n := y); omega
      have hm2 : m - 1 < m := by omega
      obtain ⟨bb, ob, rfl, hbb, hcb⟩ := hb.at_ hm2
      have hxt : (lim y)[m - 1]'(by omega) < 10000 := isL_get (isL_lim y) _
      obtain ⟨xt, hxte⟩ : ∃ xt, (lim y)[m - 1]'(by omega) = xt := ⟨_, rfl⟩
      rw [hxte] at hxt hcb
      obtain ⟨s, hs⟩ : ∃ s, 10000 / (xt + 1) = s := ⟨_, rfl⟩
      have hs0 : 0 < s := by rw [← hs]; exact Nat.div_pos (by omega) (by omega)
      have hxt0 : xt ≠ 0 := by
        refine lim_last y xt ?_
        rw [List.getLast?_eq_getElem?, List.getElem?_eq_getElem (by omega), ← hxte]
        simp only [hnb]
      clear hxte
      have hs9 : s < 10000 := by rw [← hs]; exact Nat.div_lt_self (by omega) (by omega)
      have hsI : (10000 : Int) / ((xt : Int) + 1) = (s : Int) := by rw [← hs]; push_cast; rfl
      have hLx : (lim (x * s)).length ≤ n + 1 := lim_len_le (by
        rw [Nat.pow_succ, ← hna]
        exact Nat.lt_of_lt_of_le (Nat.mul_lt_mul_of_pos_right (lim_lt x) hs0) (Nat.mul_le_mul_left _ (by omega)))
      have hLxy : (lim (y * s)).length ≤ (lim (x * s)).length := lim_len_mono (Nat.mul_le_mul_right _ (by omega))
      have hLy : m ≤ (lim (y * s)).length := by rw [← hnb]; exact lim_len_mono (Nat.le_mul_of_pos_right _ hs0)
      have hmn : m ≤ n := by rw [← hna, ← hnb]; exact lim_len_mono (by omega)
      obtain ⟨l, hl⟩ : ∃ l, (lim (x * s)).length = l := ⟨_, rfl⟩
      obtain ⟨nn, hnn⟩ : ∃ nn, (lim (y * s)).length = nn := ⟨_, rfl⟩
      rw [hl] at hLx hLxy
      rw [hnn] at hLxy hLy
      obtain ⟨L, hL⟩ : ∃ L, l + 2 = L := ⟨_, rfl⟩
      have hUL : (lim (x * s) ++ [0, 0]).length = L := by rw [List.length_append, hl, ← hL]; rfl
      have hmk : ∀ w : World, (Instr.makeSlice 126 (.int .i64 ((L : Int) - (nn : Int))) (.int .i64 ((L : Int) - (nn : Int)))).run Tryz.prog w = .ok (.slice (some ⟨w.heap.size, 0, none⟩) (L - nn) (L - nn)) (w.alloc (.cells (madeCells #[.int .i64 0] (L - nn)) 3)) := fun w => by
        have := make_limbs (L - nn) (by omega) w
        rwa [show ((L - nn : Nat) : Int) = (L : Int) - (nn : Int) by omega] at this
      go_wp2_with (first
        | (go_at_call 171; (with_reducible refine (n_cmp _ _ _ _ _ _ _ _ _ ha hb).mono ?_); rintro e w1 ⟨rfl, hb1⟩; obtain ⟨hc1, hf1⟩ := bcell hb1; have hs1 := hb1.size; (try simp at hs1))
        | (go_at_call 143; (with_reducible refine (n_scale A n c w1.heap.size x s l _ ((ha.below hb1).below (b_alloc (Below.refl _ _) _)) (ls_one w1 s) hs9 hn hl (by omega)).mono ?_); rintro e w2 ⟨g2, c2, rfl, hm2, hg21, hg22, hb2⟩)
        | (at_builtin
           have hsw := hb2.size
           simp only [World.size_alloc] at hsw hg21
           have hmw := hm2.lower (b := w.heap.size) (by simp; omega)
           refine wpList_apps (v := .slice (some ⟨g2, 0, none⟩) l c2) E_limbs (by omega) ie_length ie_one rfl (.tmp 43) (.tmp 44) rfl rfl (hmw.alloc _) ⟨w2.heap.size, 0, none⟩ 2 2 [0, 0] rfl rfl (new_cells _ _ _ _ rfl) (by omega) (by omega) (by simp; omega) ?_
           intro v3 w3 hu3 hg3 hat3
           have hB2 : Below w.heap.size w (w2.alloc (.cells #[.int .i64 0, .int .i64 0] 3)) := b_alloc (b_then (b_alloc hb1 _) hb2) _
           have hB3 : Below w.heap.size w w3 := (hmw.alloc _).frame hB2 (Nat.le_refl _) hg3
           have hne3 : (Value.slice (some ⟨g2, 0, none⟩) l c2).ownBlock ≠ some w1.heap.size := by simp [Value.ownBlock]; omega
           have hls3 : Ls w3 (some ⟨w1.heap.size, 0, none⟩) 1 [s] := ((((ls_one w1 s).below hb2).below (b_alloc (Below.refl _ _) _)).grownR hg3 (fun ad e => by injection e with e; subst e; exact hne3))
           obtain ⟨gu, cu, he3, hgu1, hgu2⟩ := Mu.block hu3 (by rw [hUL]; omega)
           rw [hUL] at he3
           subst he3
           have hgu3 : w1.heap.size < gu := by
             rcases hat3 with h | h <;> simp [Value.ownBlock] at h <;> omega
           clear hat3 hg3 hne3 hB2)
        | (go_at_call 143; (with_reducible refine (n_scale (some ⟨bb, ob, none⟩) m d w1.heap.size y s nn w3 (hb.below hB3) hls3 hs9 (by omega) hnn (by omega)).mono ?_); rintro e w4 ⟨g4, c4, rfl, hm4, hg41, hg42, hb4⟩))
      obtain ⟨V, hV⟩ : ∃ V, lim (y * s) = V := ⟨_, rfl⟩
      obtain ⟨U0, hU0⟩ : ∃ U0, lim (x * s) ++ [0, 0] = U0 := ⟨_, rfl⟩
      have hVL : isL V := by rw [← hV]; exact isL_lim _
      have hVt : ∀ z, V.getLast? = some z → z ≠ 0 := by rw [← hV]; exact lim_last _
      have hVv : lv V = y * s := by rw [← hV]; exact lv_lim _
      have hUv : lv U0 = x * s := by rw [← hU0, lv_append, lv_lim]; simp [lv]
      have hvn0 : nn - 1 < V.length := by rw [← hV, hnn]; omega
      have hv1 : V[nn - 1]'hvn0 ≠ 0 := by
        refine hVt _ ?_
        rw [List.getLast?_eq_getElem?, List.getElem?_eq_getElem (by rw [← hV, hnn]; omega)]
        simp only [← hV, hnn]
      have hvnn : V.length = nn := by rw [← hV, hnn]
      obtain ⟨p, hp⟩ : ∃ p, nn = p + 2 := ⟨nn - 2, by omega⟩
      have HD : Hid (dvI U0 V L nn (L - nn) U0 (List.replicate (L - nn) 0)) := by
        have := dvI.start (n := p + 1) (isL_lim (x * s)) hVL (by rw [← hV]; omega) (by
          have : nn - 1 = p + 1 := by omega
          simp only [this] at hv1
          omega) (by omega)
        rw [hU0, hl, hL, show p + 1 + 1 = nn by omega] at this
        exact this
      rw [hV] at hm4
      rw [hU0] at hu3
      have hU1 := (hu3.below hb4).alloc (.cells (madeCells #[.int .i64 0] (L - nn)) 3)
      have hV1 := (hm4.lower (b := w.heap.size) hB3.size).alloc (.cells (madeCells #[.int .i64 0] (L - nn)) 3)
      have hO1 := Mu.made (w := w4) (base := w.heap.size) (by have := hb4.size; have := hB3.size; omega) (L - nn) (by omega)
      have hS1 := (hls3.below hb4).below (b_alloc (Below.refl _ _) (.cells (madeCells #[.int .i64 0] (L - nn)) 3))
      have hBW : Below w.heap.size w (w4.alloc (.cells (madeCells #[.int .i64 0] (L - nn)) 3)) := b_alloc (b_then hB3 hb4) _
      have hgo : g4 < w4.heap.size ∧ gu < g4 ∧ w1.heap.size < gu := by omega
      obtain ⟨go, hgo0⟩ : ∃ go, w4.heap.size = go := ⟨_, rfl⟩
      obtain ⟨g1, hg10⟩ : ∃ g1, w1.heap.size = g1 := ⟨_, rfl⟩
      rw [hgo0] at hgo hO1 ⊢
      rw [hg10] at hgo hS1 ⊢
      obtain ⟨W0, hW0⟩ : ∃ W0, w4.alloc (.cells (madeCells #[.int .i64 0] (L - nn)) 3) = W0 := ⟨_, rfl⟩
      rw [hW0] at hU1 hV1 hO1 hS1 hBW ⊢
      clear hp
      have HS1 : DSt w gu g4 go g1 L nn cu c4 s V U0 (List.replicate (L - nn) 0) W0 :=
        ⟨hU1, hV1, hO1, hS1, hBW, (by omega : gu ≠ g4), (by omega : gu ≠ go), (by omega : g4 ≠ go), (by omega : g1 ≠ gu), (by omega : g1 ≠ go)⟩
      clear hU1 hV1 hO1 hS1 hBW
      clear hW0 hgo0 hg10 hls3 hu3 hm4 hb4 hB3 hm2 hmw hsw hb2 hg21 hg22 hg41 hg42 hgu1 hgu2 hgu3 hmk hs1 hf1 hc1 hb1
      go_loopw [11] (fun i wr => ∃ (k : Nat) (u o : List Nat), i = .int .i64 ((k : Nat) - 1 : Int) ∧ k ≤ L - nn ∧ Hid (dvI U0 V L nn k u o) ∧ DSt w gu g4 go g1 L nn cu c4 s V u o wr) (fun i _ => (intOf i + 1).toNat)
      case atStart => exact ⟨L - nn, U0, _, int_eq (by omega), Nat.le_refl _, HD, HS1⟩
      case round =>
        clear HS1 HD
        obtain ⟨k, u, o, rfl, hk, H, HS⟩ := hrel
        by_cases hk0 : 0 < k
        · obtain ⟨j, rfl⟩ : ∃ j, k = j + 1 := ⟨k - 1, by omega⟩
          have hji : (((j + 1 : Nat) : Int) - 1) = (j : Int) := by omega
          rw [hji]
          go_wp2
          refine div_scope (w0 := w) (by omega) (by omega) (by omega) H.out hVL hvnn (by rw [getD_at hvn0]; exact hv1) HS ?_ _ (by kernel_rfl)
          intro u' o' a' w' ha hdv HS'
          obtain ⟨f, hf⟩ : ∃ f : Nat → Value, ∀ k, a'.tmps.getD k undef = f k := ⟨_, fun _ => rfl⟩
          simp only [hf] at ha
          clear hf
          subst ha
          have HDV := Lib.hid hdv
          clear hdv
          go_wp2
          go_roundw
          case rel => exact ⟨j, u', o', int_eq (by omega), by omega, HDV.out, HS'⟩
          case measure => (simp [intOf]; try omega)
        · obtain rfl : k = 0 := by omega
          obtain ⟨hq, hr⟩ := dvI.done H.out hs0 hUv hVv hy
          have hul : u.length = L := H.out.2.2.1
          have hol : o.length = L - nn := H.out.2.2.2.1
          have huL : isL u := H.out.1
          have hoL : isL o := H.out.2.1
          obtain ⟨A5, c5, e5, hlu, hc51, hc52⟩ := Mu.ls HS.hU (by omega)
          rw [hul] at e5 hlu hc51
          injection e5 with e51 _ e52
          subst e51; subst e52
          obtain ⟨A6, c6, e6, hlo, hc61, hc62⟩ := Mu.ls HS.hO (by omega)
          rw [hol] at e6 hlo hc61
          injection e6 with e61 _ e62
          subst e61; subst e62
          have HLa : Ls wr.drew (some ⟨gu, 0, none⟩) L u := hlu.draw 1
          have hcS := HS.hS.at_ (k := 0) (by omega)
          obtain ⟨bs, os, ebs, hbs, hcs⟩ := hcS
          injection ebs with ebs
          injection ebs with eb1 eb2
          subst eb1; subst eb2
          simp only [List.getElem_cons_zero, Nat.add_zero] at hcs
          have hmx : Tryz.prog.follows .mixedOrders = true := by kernel_rfl
          have hSB := HS.hB
          have HQ1 := Lib.hid hq
          have HR1 := Lib.hid hr
          clear hq hr
          have HLc := HLa.cut huL
          have hLl := isL_lim (lv u)
          have hs9' : s ≤ 10000 := by omega
          clear ha hb hna hnb hlt hc hm hm0 hcb hxt hs hsI hLx hLy hLxy hnn hl hUL hmn
          go_wp2
          go_region_with (first
            | (go_at_call 161; (with_reducible refine (n_trim _ _ _ _ _ HLa huL hc51 hc52).mono ?_); rintro e w' ⟨rfl, rfl⟩)
            | (go_at_call 172; (with_reducible refine (n_short (some ⟨gu, 0, none⟩) (lim (lv u)).length cu (lim (lv u)) s _ HLc hLl hs0 hs9').mono ?_); rintro e w5 ⟨A7, c7, B7, d7, rfl, hq7, hr7, hb7⟩))
          all_goals (
            have hlo5 := (hlo.draw 1).below hb7
            go_wp2_with (go_at_call 161; (with_reducible refine (n_trim _ _ _ _ _ hlo5 hoL hc61 hc62).mono ?_); rintro e w' ⟨rfl, rfl⟩)
            go_ret2
            have hlc := hlo5.cut hoL
            rw [lv_lim] at hq7
            rw [← HQ1.out, ← HR1.out]
            refine ⟨some ⟨go, 0, none⟩, L - nn, A7, c7, ?_, hlc, hq7, ?_⟩
            · show Ending.returned (Value.tuple #[.slice (some ⟨go, 0, none⟩) (lim (lv o)).length (L - nn), .slice A7 (lim (lv (lim (lv u)) / s)).length c7]) = _
              rw [lv_lim]
            · exact b_then (b_drewN hSB 1) hb7)
end Go.Proofs.YtpoejheienohjaaGreatDoor

/- Walks of nat: Gcd. -/
namespace Go.Proofs.YtpoejheienohjaaGreatDoor
open Go.RowKit
set_option linter.unusedVariables false
set_option linter.unusedSimpArgs false

def gcdI (a b m n : Nat) : Prop := Nat.gcd m n = Nat.gcd a b ∧ m ≤ max a b ∧ n ≤ max a b
theorem gcdI_step {a b m n : Nat} (h : gcdI a b m n) (hn : 0 < n) : gcdI a b n (m % n) := by
  obtain ⟨h1, h2, h3⟩ := h
  refine ⟨?_, h3, Nat.le_trans (Nat.mod_le _ _) h2⟩
  rw [← h1, Nat.gcd_comm m n, Nat.gcd_rec n m, Nat.gcd_comm]
theorem gcdI_len {a b m : Nat} (h : m ≤ max a b) (ha : ndg a ≤ 890000000) (hb : ndg b ≤ 890000000) : (lim m).length ≤ 890000000 := by
  rcases Nat.le_total a b with h1 | h1
  · rw [Nat.max_eq_right h1] at h
    exact Nat.le_trans (lim_len_mono h) (Nat.le_trans (lim_len_ndg b) hb)
  · rw [Nat.max_eq_left h1] at h
    exact Nat.le_trans (lim_len_mono h) (Nat.le_trans (lim_len_ndg a) ha)
theorem ndg_max {a b m : Nat} (h : m ≤ max a b) (ha : ndg a ≤ 890000000) (hb : ndg b ≤ 890000000) : ndg m ≤ 890000000 := by
  rcases Nat.le_total a b with h1 | h1
  · rw [Nat.max_eq_right h1] at h
    exact Nat.le_trans (ndg_mono h) hb
  · rw [Nat.max_eq_left h1] at h
    exact Nat.le_trans (ndg_mono h) ha
set_option maxHeartbeats 1000000 in
theorem n_gcd (a b : Nat) (w : World) (hg : Glob w) (ha : ndg a ≤ 890000000) (hb : ndg b ≤ 890000000) :
    Calls Tryz.prog 129 #[.string (nS a), .string (nS b)] w fun e w' => e = .returned (.string (nS (Nat.gcd a b))) ∧ Below w.heap.size w w' := by
  go_enter Tryz.func129, Tryz.ntmps129
  go_wp2_with (go_at_call 142; (with_reducible refine (n_both a b w (by omega) (by omega)).mono ?_); rintro e w1 ⟨A, c, B, d, rfl, hm1, hm2, hb1⟩)
  obtain ⟨A', c', e1, hls1, _, _⟩ := Mu.ls hm1 (by have := gcdI_len (Nat.le_max_left a b) ha hb; omega)
  injection e1 with e11 _ e12
  subst e11; subst e12
  obtain ⟨B', d', e2, hls2, _, _⟩ := Mu.ls hm2 (by have := gcdI_len (Nat.le_max_right a b) ha hb; omega)
  injection e2 with e21 _ e22
  subst e21; subst e22
  clear hm1 hm2
  have HI : Hid (gcdI a b a b) := ⟨rfl, Nat.le_max_left _ _, Nat.le_max_right _ _⟩
  go_loopg [5, 6] b (fun kx x y wr => ∃ (m n M N : Nat) (A B : Option Addr) (c d : Nat), x = .slice A M c ∧ y = .slice B N d ∧ Ls wr A M (lim m) ∧ Ls wr B N (lim n) ∧ Hid (gcdI a b m n) ∧ Hid (n ≤ kx) ∧ Below w.heap.size w wr)
  case atStart => exact ⟨a, b, _, _, _, _, _, _, rfl, rfl, hls1, hls2, HI, Nat.le_refl _, hb1⟩
  case round =>
    obtain ⟨m, n, M, N, A, B, c, d, rfl, rfl, hA, hB, H, hk, hbw⟩ := hrel
    have hlM := gcdI_len H.out.2.1 ha hb
    have hlN := gcdI_len H.out.2.2 ha hb
    rw [hA.len] at hlM
    rw [hB.len] at hlN
    by_cases hN : 0 < N
    · have hn0 : 0 < n := Nat.pos_of_ne_zero fun e => by have := hB.len; rw [lim_len_zero.2 e] at this; omega
      go_wp2_with (go_at_call 151; (with_reducible refine (n_div A B M N c d m n wr hA hB hn0 (by omega)).mono ?_); rintro e w2 ⟨A2, c2, B2, d2, rfl, hq2, hr2, hb2⟩)
      go_roundg (m % n)
      case measure => exact Nat.lt_of_lt_of_le (Nat.mod_lt _ hn0) hk.out
      case rel => exact ⟨n, m % n, N, _, B, B2, d, d2, rfl, rfl, hB.below hb2, hr2, gcdI_step H.out hn0, Nat.le_refl _, b_then hbw hb2⟩
    · have hn0 : n = 0 := lim_len_zero.1 (by have := hB.len; omega)
      subst hn0
      have hgm : m = Nat.gcd a b := by have := H.out.1; rwa [Nat.gcd_zero_right] at this
      have hdm := ndg_max H.out.2.1 ha hb
      have hG := hg.below hbw
      have HM := Lib.hid hgm
      clear hgm
      go_wp2_with (go_at_call 144; (with_reducible refine (n_text A m M c wr hG hA.len hA (by omega)).mono ?_); rintro e w3 ⟨rfl, hb3⟩; obtain ⟨hc3, hf3⟩ := bcell hb3; have hs3 := hb3.size; (try simp at hs3))
      go_ret
      exact ⟨by rw [← HM.out]; rfl, b_then hbw hb3⟩
end Go.Proofs.YtpoejheienohjaaGreatDoor
