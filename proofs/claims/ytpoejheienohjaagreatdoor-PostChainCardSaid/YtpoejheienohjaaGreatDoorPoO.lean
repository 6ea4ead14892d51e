/- PostChain: the walk (given the fixed calls). -/
import Derived.Test.YtpoejheienohjaaGreatDoorPoN
import Derived.IntWalk
namespace Go.Proofs.YtpoejheienohjaaGreatDoor
open Go.RowKit
set_option linter.unusedVariables false
set_option linter.unusedSimpArgs false

abbrev sCs (s : ByteArray) : List Value := [.string s]
theorem sCs_length (s : ByteArray) : (sCs s).length = 1 := rfl
theorem nm_in {w wr : World} {A : Option Addr} {n : Nat} {ss : List ByteArray} (h : Rd sCs 1 w A n ss) (hB : Below w.heap.size w wr) {k : Nat} (hk : k < n) :
    ∃ ad s, A = some ad ∧ ss[k]? = some s ∧ ∀ w1, Below wr.heap.size wr w1 → w1.cell? (ad.add k) = some (.string s) := by
  obtain ⟨ad, s, e, hl, hs, hc⟩ := h.at_ hk
  refine ⟨ad, s, e, hs, fun w1 h1 => ?_⟩
  have h2 := b_then hB h1
  rw [h2.cell (by rw [add_block]; exact hl)]
  have := hc 0 _ rfl
  simpa using this
/-- The lines of a chain, so far. -/
def chain (ss : List ByteArray) (z : Int) : Nat → List Ln
  | 0 => []
  | k + 1 => chain ss z k ++ [⟨ss.getD k ⟨#[]⟩, sX, ⟨iS (-z), nS 1⟩⟩, ⟨ss.getD ((k + 1) % ss.length) ⟨#[]⟩, sX, ⟨iS z, nS 1⟩⟩]
theorem chain_len (ss : List ByteArray) (z : Int) : ∀ k, (chain ss z k).length = 2 * k
  | 0 => rfl
  | k + 1 => by unfold chain; rw [List.length_append, chain_len ss z k]; simp; omega
theorem iS_enc (z : Int) : (⟨iS z, nS 1⟩ : RT) = enc (z : Rat) := rfl
theorem sX_name : isName sX = true := by decide +kernel
theorem chain_mem {ss : List ByteArray} {z : Int} (hl : 0 < ss.length) : ∀ {k}, k ≤ ss.length → ∀ x ∈ chain ss z k, x.acct ∈ ss ∧ x.asset = sX ∧ (x.q = ⟨iS (-z), nS 1⟩ ∨ x.q = ⟨iS z, nS 1⟩)
  | 0, _, x, hx => by cases hx
  | k + 1, hk, x, hx => by
    unfold chain at hx
    rcases List.mem_append.1 hx with h | h
    · exact chain_mem hl (by omega) x h
    · have hm : (k + 1) % ss.length < ss.length := Nat.mod_lt _ hl
      simp only [List.mem_cons, List.not_mem_nil, or_false] at h
      rcases h with rfl | rfl
      · exact ⟨by simp only; rw [List.getD_eq_getElem?_getD, List.getElem?_eq_getElem (show k < ss.length by omega)]; exact List.getElem_mem _, rfl, .inl rfl⟩
      · exact ⟨by simp only; rw [List.getD_eq_getElem?_getD, List.getElem?_eq_getElem hm]; exact List.getElem_mem _, rfl, .inr rfl⟩
theorem chain_lone {ss : List ByteArray} {z : Int} (hl : 0 < ss.length) (hn : ∀ s ∈ ss, isName s = true) : ∀ x ∈ chain ss z ss.length, lone x = true := fun x hx => by
  obtain ⟨h1, h2, h3⟩ := chain_mem hl (Nat.le_refl _) x hx
  unfold lone
  rw [hn _ h1, h2, sX_name]
  rcases h3 with h | h <;> rw [h, iS_enc, rmay_enc] <;> rfl
theorem dec_iS (z : Int) : dec ⟨iS z, nS 1⟩ = (z : Rat) := by rw [iS_enc, dec_enc]
theorem neg_cast (z : Int) : ((-z : Int) : Rat) = -(z : Rat) := by simp
theorem chain_tot (ss : List ByteArray) (z : Int) (a : ByteArray) : ∀ k, dtot (chain ss z k) a = 0
  | 0 => rfl
  | k + 1 => by
    unfold chain
    rw [dtot_append, chain_tot ss z a k, show ∀ x y : Ln, [x, y] = [x] ++ [y] from fun _ _ => rfl, dtot_append, dtot_one, dtot_one, dec_iS, dec_iS, neg_cast]
    dsimp only
    split <;> grind
def atN (ss : List ByteArray) (s : ByteArray) (k : Nat) : Rat := if s = ss.getD k ⟨#[]⟩ then 1 else 0
theorem chain_post {ss : List ByteArray} (z : Int) (s a : ByteArray) (hl : 0 < ss.length) : ∀ {k}, k ≤ ss.length → dpost (chain ss z k) s a = if a = sX then (z : Rat) * (atN ss s (k % ss.length) - atN ss s 0) else 0
  | 0, _ => by
    rw [Nat.zero_mod]
    show dpost [] s a = _
    rw [dpost_nil]
    split <;> grind
  | k + 1, hk => by
    have hkm : k % ss.length = k := Nat.mod_eq_of_lt (by omega)
    unfold chain
    rw [dpost_append, chain_post z s a hl (by omega), dpost_cons, dpost_cons, dpost_nil, dec_iS, dec_iS, neg_cast, hkm]
    dsimp only
    unfold atN
    by_cases ha : a = sX
    · simp only [ha, and_true, if_true]
      by_cases h1 : s = ss.getD k ⟨#[]⟩ <;> by_cases h2 : s = ss.getD ((k + 1) % ss.length) ⟨#[]⟩ <;> by_cases h3 : s = ss.getD 0 ⟨#[]⟩ <;> simp only [h1, h2, h3, if_true, if_false] <;> grind
    · simp only [ha, and_false, if_false]
      grind
theorem chain_none {ss : List ByteArray} (z : Int) (s a : ByteArray) (hl : 0 < ss.length) : dpost (chain ss z ss.length) s a = 0 := by
  rw [chain_post z s a hl (Nat.le_refl _), Nat.mod_self]
  split
  · grind
  · rfl
/-- Where nothing changes, nobody goes short. -/
theorem papply_same {xs ls : List Ln} (hm : bmay xs = true) (hb : lbal ls = true) (h : bposts xs ls = xs) (cov : Bool) : papply xs ls cov = (xs, 0) := by
  unfold papply
  rw [if_pos hm, if_pos hb, h]
  rw [if_neg]
  intro hc
  rw [Bool.and_eq_true, List.any_eq_true] at hc
  obtain ⟨_, x, _, hx⟩ := hc
  unfold pshort at hx
  simp only [Bool.and_eq_true, decide_eq_true_eq] at hx
  exact Rat.lt_irrefl hx.2.2
theorem chain_apply {xs : List Ln} {ss : List ByteArray} (z : Int) (hm : bmay xs = true) (hl : 0 < ss.length) (hn : ∀ s ∈ ss, isName s = true) (cov : Bool) : papply xs (chain ss z ss.length) cov = (xs, 0) :=
  papply_same hm (lbal_mk (chain_lone hl hn) fun a => chain_tot ss z a _) (posts_same hm (chain_lone hl hn) fun s a => chain_none z s a hl) cov
theorem none_apply {xs : List Ln} (hm : bmay xs = true) (cov : Bool) : papply xs [] cov = (xs, 0) := papply_same hm rfl rfl cov
theorem all_names {ss : List ByteArray} {k : Nat} {s : ByteArray} (h : ∀ x ∈ ss.take k, isName x = true) (hs : ss[k]? = some s) (hn : isName s = true) : ∀ x ∈ ss.take (k + 1), isName x = true := by
  intro x hx
  rw [List.take_add_one, hs] at hx
  rcases List.mem_append.1 hx with h' | h'
  · exact h x h'
  · simp at h'; rw [h']; exact hn
set_option maxRecDepth 100000 in
set_option maxHeartbeats 4000000 in
theorem l_chain (HF : Fixed7Ok) {A A2 : Option Addr} {n c n2 c2 : Nat} {xs : List Ln} {ss : List ByteArray} (z : Int) (w : World) (hg : Glob w) (hx : Rd Ln.cs 4 w A n xs) (hy : Rd sCs 1 w A2 n2 ss) (hz : ∀ f ∈ xs, lnok f) (hzs : ∀ s ∈ ss, s.size ≤ 9223372036854775807) (hz0 : -9223372036854775808 ≤ z) (hz1 : z ≤ 9223372036854775807) :
    Calls Tryz.prog 14 #[.slice A n c, .slice A2 n2 c2, .int .i64 z] w fun e w' => e = .returned (.bool true) ∧ Below w.heap.size w w' := by
  have HFX := Lib.hid HF
  clear HF
  have hbig := hy.big
  have hS := fun W (h : Below w.heap.size w W) => r6_small (c := c) W (hx.below h) hz
  cases d1 : lsmall xs with
  | false =>
    rw [d1] at hS
    go_enter Tryz.func14, Tryz.ntmps14
    go_wp2_with (first | (go_at_call 46; (with_reducible refine (HFX.out w hg).mono ?_); rintro e w1 ⟨rfl, hb1⟩; obtain ⟨hc1, hf1⟩ := bcell hb1; have hs1 := hb1.size; (try simp at hs1)) | (go_at_call 28; (with_reducible refine (hS _ hb1).mono ?_); rintro e w2 ⟨rfl, hb2⟩; obtain ⟨hc2, hf2⟩ := bcell hb2; have hs2 := hb2.size; (try simp at hs2)) | (go_at_call 46; (with_reducible refine (HFX.out w2 (hg.below (by repeat (first | exact Below.refl _ _ | assumption | refine b_then ?_ (by assumption) | refine b_alloc ?_ _ | refine b_drewN ?_ _ | refine Below.drew ?_ | refine b_set ?_ (by first | exact Nat.le_refl _ | (simp; done) | (simp; omega) | omega) _)))).mono ?_); rintro e w3 ⟨rfl, hb3⟩; obtain ⟨hc3, hf3⟩ := bcell hb3; have hs3 := hb3.size; (try simp at hs3)))
    go_ret
    exact ⟨rfl, (by repeat (first | exact Below.refl _ _ | assumption | refine b_then ?_ (by assumption) | refine b_alloc ?_ _ | refine b_drewN ?_ _ | refine Below.drew ?_ | refine b_set ?_ (by first | exact Nat.le_refl _ | (simp; done) | (simp; omega) | omega) _))⟩
  | true =>
  rw [d1] at hS
  obtain ⟨hxB, hxn⟩ := lsmall_B d1
  have hM := fun W (h : Below w.heap.size w W) => r6_may (c := c) W (hx.below h) (fun f hf => lnB_q (hxB f hf) (by omega))
  cases d4 : bmay xs with
  | false =>
    rw [d4] at hM
    clear d1 hxB hxn d4
    go_enter Tryz.func14, Tryz.ntmps14
    go_wp2_with (first | (go_at_call 46; (with_reducible refine (HFX.out w hg).mono ?_); rintro e w1 ⟨rfl, hb1⟩; obtain ⟨hc1, hf1⟩ := bcell hb1; have hs1 := hb1.size; (try simp at hs1)) | (go_at_call 28; (with_reducible refine (hS _ hb1).mono ?_); rintro e w2 ⟨rfl, hb2⟩; obtain ⟨hc2, hf2⟩ := bcell hb2; have hs2 := hb2.size; (try simp at hs2)) | (go_at_call 34; (with_reducible refine (hM w2 (b_then hb1 hb2)).mono ?_); rintro e w3 ⟨rfl, hb3⟩; obtain ⟨hc3, hf3⟩ := bcell hb3; have hs3 := hb3.size; (try simp at hs3)) | (go_at_call 46; (with_reducible refine (HFX.out w3 (hg.below (by repeat (first | exact Below.refl _ _ | assumption | refine b_then ?_ (by assumption) | refine b_alloc ?_ _ | refine b_drewN ?_ _ | refine Below.drew ?_ | refine b_set ?_ (by first | exact Nat.le_refl _ | (simp; done) | (simp; omega) | omega) _)))).mono ?_); rintro e w4 ⟨rfl, hb4⟩; obtain ⟨hc4, hf4⟩ := bcell hb4; have hs4 := hb4.size; (try simp at hs4)))
    go_ret
    exact ⟨rfl, (by repeat (first | exact Below.refl _ _ | assumption | refine b_then ?_ (by assumption) | refine b_alloc ?_ _ | refine b_drewN ?_ _ | refine Below.drew ?_ | refine b_set ?_ (by first | exact Nat.le_refl _ | (simp; done) | (simp; omega) | omega) _))⟩
  | true =>
  rw [d4] at hM
  by_cases hc : n2 < 1 ∨ 10 < n2 ∨ z < 1 ∨ 1000 < z
  · have hxl := hx.len
    have hc' : (n2 < 1) ∨ (¬ n2 < 1 ∧ 10 < n2) ∨ (¬ n2 < 1 ∧ ¬ 10 < n2 ∧ z < 1) ∨ (¬ n2 < 1 ∧ ¬ 10 < n2 ∧ ¬ z < 1 ∧ 1000 < z) := by omega
    clear hc d1 hxB hxn d4 hxl
    rcases hc' with h1 | ⟨h0, h1⟩ | ⟨h0, h1, h2⟩ | ⟨h0, h1, h2, h3⟩
    all_goals
      go_enter Tryz.func14, Tryz.ntmps14
      go_wp2_with (first | (go_at_call 46; (with_reducible refine (HFX.out w hg).mono ?_); rintro e w1 ⟨rfl, hb1⟩; obtain ⟨hc1, hf1⟩ := bcell hb1; have hs1 := hb1.size; (try simp at hs1)) | (go_at_call 28; (with_reducible refine (hS _ hb1).mono ?_); rintro e w2 ⟨rfl, hb2⟩; obtain ⟨hc2, hf2⟩ := bcell hb2; have hs2 := hb2.size; (try simp at hs2)) | (go_at_call 34; (with_reducible refine (hM w2 (b_then hb1 hb2)).mono ?_); rintro e w3 ⟨rfl, hb3⟩; obtain ⟨hc3, hf3⟩ := bcell hb3; have hs3 := hb3.size; (try simp at hs3)) | (go_at_call 46; (with_reducible refine (HFX.out w3 (hg.below (by repeat (first | exact Below.refl _ _ | assumption | refine b_then ?_ (by assumption) | refine b_alloc ?_ _ | refine b_drewN ?_ _ | refine Below.drew ?_ | refine b_set ?_ (by first | exact Nat.le_refl _ | (simp; done) | (simp; omega) | omega) _)))).mono ?_); rintro e w4 ⟨rfl, hb4⟩; obtain ⟨hc4, hf4⟩ := bcell hb4; have hs4 := hb4.size; (try simp at hs4)))
      go_ret
      exact ⟨rfl, (by repeat (first | exact Below.refl _ _ | assumption | refine b_then ?_ (by assumption) | refine b_alloc ?_ _ | refine b_drewN ?_ _ | refine Below.drew ?_ | refine b_set ?_ (by first | exact Nat.le_refl _ | (simp; done) | (simp; omega) | omega) _))⟩
  · have h0 : ¬ n2 < 1 := by omega
    have h1 : ¬ 10 < n2 := by omega
    have h2 : ¬ z < 1 := by omega
    have h3 : ¬ 1000 < z := by omega
    have hxl := hx.len
    have hyl := hy.len
    have hn10 : n2 ≤ 10 := by omega
    have hn40 : n ≤ 40 := by omega
    have hsl : 0 < ss.length := by omega
    have hMv := fun W s t => l7_move s t z W (by omega) (by omega)
    have KMv := Lib.hid hMv
    have hzz : ndg z.natAbs ≤ 19 := ndg_i64 (by omega)
    have KA : ∀ {ts : List Ln} {C : Option Addr} {e e' : Nat} W, Below w.heap.size w W → Rd Ln.cs 4 W C e ts → e ≤ 200 → (∀ f ∈ ts, lnB 200 f) → papply xs ts true = (xs, 0) → Calls Tryz.prog 47 #[.slice A n c, .slice C e e', .bool true] W fun e w' => ∃ B k, e = .returned (.tuple #[.slice B n k, .int .i64 0]) ∧ Rd Ln.cs 4 w' B n xs ∧ Below W.heap.size W w' := fun W hW ht he h2 hp => (p_apply true W (hg.below hW) (hx.below hW) (by omega) (fun f hf => lnB_mono (hxB f hf) (by omega)) ht he h2).mono fun e w' h => h.of hp hxl
    have KN := Lib.hid (fun W (hW : Below w.heap.size w W) {e' : Nat} => (KA W hW Rd.nil (by omega) (fun f hf => by cases hf) (none_apply d4 true) : Calls Tryz.prog 47 #[.slice A n c, .slice none 0 e', .bool true] W fun e w' => ∃ B k, e = .returned (.tuple #[.slice B n k, .int .i64 0]) ∧ Rd Ln.cs 4 w' B n xs ∧ Below W.heap.size W w'))
    have KC := Lib.hid (fun W (hn : ∀ s ∈ ss, isName s = true) (hW : Below w.heap.size w W) {C : Option Addr} {e' : Nat} (hr : Rd Ln.cs 4 W C (2 * n2) (chain ss z n2)) => (KA W hW hr (by omega) (fun f hf => by
        rw [← hyl] at hf
        obtain ⟨e1, e2, e3⟩ := chain_mem hsl (Nat.le_refl _) f hf
        have e4 := (isName_size (hn _ e1)).2
        have e5 := iS_sz (z := z) hzz
        have e6 := iS_sz (z := -z) (k := 19) (by rw [Int.natAbs_neg]; exact hzz)
        have e7 : (nS 1).size = 1 := rfl
        rcases e3 with e3 | e3 <;> exact ⟨by omega, by rw [e2]; decide +kernel, by rw [e3]; dsimp only; omega, by rw [e3]; dsimp only; omega⟩) (by rw [← hyl]; exact chain_apply z d4 hsl hn true) : Calls Tryz.prog 47 #[.slice A n c, .slice C (2 * n2) e', .bool true] W fun e w' => ∃ B k, e = .returned (.tuple #[.slice B n k, .int .i64 0]) ∧ Rd Ln.cs 4 w' B n xs ∧ Below W.heap.size W w'))
    have hHO : ∀ W : World, Own Ln.cs 4 43 (W.alloc (.cells #[] 43)) W.heap.size (.slice (some ⟨W.heap.size, 0, none⟩) 0 0) ([] : List Ln) := fun W => Own.made0 (Nat.le_refl _)
    have KHO := Lib.hid hHO
    have HYL := Lib.hid hyl
    have HZS := Lib.hid hzs
    clear hc d1 hxB hxn d4 hxl hyl hMv hHO KA hzz hz hzs
    go_enter Tryz.func14, Tryz.ntmps14
    go_wp2_with (first | (go_at_call 46; (with_reducible refine (HFX.out w hg).mono ?_); rintro e w1 ⟨rfl, hb1⟩; obtain ⟨hc1, hf1⟩ := bcell hb1; have hs1 := hb1.size; (try simp at hs1)) | (go_at_call 28; (with_reducible refine (hS _ hb1).mono ?_); rintro e w2 ⟨rfl, hb2⟩; obtain ⟨hc2, hf2⟩ := bcell hb2; have hs2 := hb2.size; (try simp at hs2)) | (go_at_call 34; (with_reducible refine (hM w2 (b_then hb1 hb2)).mono ?_); rintro e w3 ⟨rfl, hb3⟩; obtain ⟨hc3, hf3⟩ := bcell hb3; have hs3 := hb3.size; (try simp at hs3)))
    have hB3 := b_then (b_then hb1 hb2) hb3
    have ho3 := KHO.out w3
    have h3a : Below w3.heap.size w3 (w3.alloc (.cells #[] 43)) := b_alloc (Below.refl _ _) _
    have hsz3 := hB3.size
    clear hb1 hb2 hb3 hc1 hc2 hc3 hf1 hf2 hf3 hs1 hs2 hs3 hS hM
    go_loopw [7, 8] (fun ov iv wr => ∃ k : Nat, k ≤ n2 ∧ iv = .int .i64 (k : Nat) ∧ Own Ln.cs 4 43 wr w3.heap.size ov (chain ss z k) ∧ Hid (∀ s ∈ ss.take k, isName s = true) ∧ Below w3.heap.size w3 wr) (fun _ i _ => n2 - (intOf i).toNat)
    case atStart => exact ⟨0, Nat.zero_le _, rfl, ho3, by simp [Hid], h3a⟩
    case round =>
      clear ho3 h3a
      obtain ⟨k, hk, rfl, hown, HN, hB⟩ := hrel
      have hBw := b_then hB3 hB
      have hsw := hB.size
      by_cases hlt : k < n2
      · obtain ⟨ad, s, rfl, hs, hl⟩ := nm_in hy hBw hlt
        have hms := HZS.out s (List.mem_of_getElem? hs)
        have hNm := fun W => r6_name s W hms
        have hl0 := hl wr (Below.refl _ _)
        have HX := Lib.hid hs
        cases d5 : isName s with
        | false =>
          rw [d5] at hNm
          clear d5 hs hl
          go_wp2_with (go_at_call 36; (with_reducible refine (hNm _).mono ?_); rintro e w' ⟨rfl, rfl⟩)
          go_ret
          exact ⟨rfl, hBw⟩
        | true =>
          rw [d5] at hNm
          have HN2 := Lib.hid (all_names HN.out HX.out d5)
          obtain ⟨j, hj⟩ : ∃ j, (k + 1) % n2 = j := ⟨_, rfl⟩
          have hjl : j < n2 := by rw [← hj]; exact Nat.mod_lt _ (by omega)
          obtain ⟨ad2, t, e2, ht, hlt2⟩ := nm_in hy hBw hjl
          injection e2 with e2
          subst e2
          have HS : Hid (chain ss z (k + 1) = chain ss z k ++ [⟨s, sX, ⟨iS (-z), nS 1⟩⟩, ⟨t, sX, ⟨iS z, nS 1⟩⟩]) := by
            unfold Hid
            show chain ss z k ++ _ = _
            rw [HYL.out, hj, List.getD_eq_getElem?_getD, List.getD_eq_getElem?_getD, hs, ht]; rfl
          have hw1 : IntKind.i64.wrap ((k : Int) + 1) = (k : Int) + 1 := IntWalk.i64_in _ (by omega)
          have hm1 : ((k : Int) + 1).tmod (n2 : Int) = (j : Int) := by rw [← hj]; rfl
          have hcl := chain_len ss z k
          have hlen : (chain ss z k).length ≤ 20 := by omega
          have hx0 := fun (x : After wr) (y : After x.W) => hl y.W (b_then x.h y.h)
          have hx1 := fun (x : After wr) (y : After x.W) => hlt2 y.W (b_then x.h y.h)
          clear d5 hs hl ht hlt2 hcl hms hj
          go_wp2_with (go_at_call 36; (with_reducible refine (hNm _).mono ?_); rintro e w' ⟨rfl, rfl⟩)
          (refine wp_region_src 15 14 71 2 (fun B W => Rd Ln.cs 4 W B 2 [⟨s, sX, ⟨iS (-z), nS 1⟩⟩, ⟨t, sX, ⟨iS z, nS 1⟩⟩]) ?srcA9 (by kernel_rfl) (fun p => by kernel_rfl) (fun p x => ?srcH9) ⟨by kernel_rfl, by kernel_rfl, by decide, by decide, ?srcK9, fun B W W' h hb => h.below hb, ?srcG9, ?srcQ9⟩; (case srcH9 => (simp only [srcl, List.modify_succ_cons, List.modify_zero_cons, repV, List.take_succ_cons, List.take_zero]; (have hxs := x.h.size); (try simp at hxs); (repeat (first | go_big_quiet_skip | (go_big_quiet_want; go_big_quiet_op; first | go_big_quiet_on | (apply Exists.intro; refine ⟨fun _ => ?_, ?_⟩; (focus (fail)); go_big_quiet_on)))); refine wpQuiet_nil ?_; rfl)); (case srcK9 => (intro p; refine ⟨_, rfl, rfl, fun a W hW hgv => ?_⟩; have g1 := (hgv 4 _ 61 rfl rfl (by kernel_rfl)).trans rfl; have g2 := (hgv 12 _ 69 rfl rfl (by kernel_rfl)).trans rfl; have g3 := (hgv 13 _ 70 rfl rfl (by kernel_rfl)).trans rfl; exact src_call rfl rfl rfl (by simp [execOp, go_sem, g1, g2, g3]) ((KMv.out W s t).mono fun e w' ⟨g, he, hr, hb⟩ => ⟨_, _, he, hr, hb⟩))); (case srcG9 => (intro p; first | rfl | (simp; exact ⟨rfl, rfl⟩))); rintro ⟨B9, k9⟩ w9 R9 hb9; (try dsimp only at R9); simp only [List.drop_succ_cons, List.drop_zero, Sl.v]; obtain ⟨hc9, hf9⟩ := bcell hb9; have hs9 := hb9.size; (try simp at hs9))
          have hown9 := hown.below hb9
          have hB9 := b_then hB hb9
          go_wp2_with (at_builtin; refine wpList_apps0 (v := u7) Tryz.elemLines (by omega) Ln.cs_length Ln.cs_one rfl (.tmp 57) (.tmp 71) rfl rfl hown9 B9 2 k9 [⟨s, sX, ⟨iS (-z), nS 1⟩⟩, ⟨t, sX, ⟨iS z, nS 1⟩⟩] rfl R9 (by omega) (by omega) (by omega) ?_; intro v10 w10 hown10 hg10 hat10)
          go_roundw
          case rel => exact ⟨k + 1, by omega, by go_num, by rw [HS.out]; exact hown10, HN2.out, hown9.frame hB9 (Nat.le_refl _) hg10⟩
          case measure => simp [intOf]; omega
      · obtain rfl : k = n2 := by omega
        have hns : ∀ s ∈ ss, isName s = true := by have := HN.out; rwa [← HYL.out, List.take_length] at this
        obtain ⟨C, k', hv', hr⟩ := hown.rd Ln.cs_length
        rw [chain_len] at hv' hr
        subst hv'
        have HNS := Lib.hid hns
        clear hns hown HN
        go_wp2_with (first
          | (go_at_call 47; (with_reducible refine (KC.out wr HNS.out hBw hr).mono ?_); rintro e w10 ⟨B10, k10, rfl, R10, hb10⟩; have hB10 := b_then hBw hb10)
          | (go_at_call 47; (with_reducible refine (KN.out w10 hB10).mono ?_); rintro e w11 ⟨B11, k11, rfl, R11, hb11⟩; have hB11 := b_then hB10 hb11)
          | (go_at_call 32; (with_reducible refine (r6_same w11 (R10.below hb11) (hx.below hB11)).mono ?_); rintro e w12 ⟨rfl, hb12⟩)
          | (go_at_call 32; (with_reducible refine (r6_same w12 (R11.below hb12) (hx.below (b_then hB11 hb12))).mono ?_); rintro e w13 ⟨rfl, hb13⟩))
        go_ret
        exact ⟨ret_bool (by simp), b_then (b_then hB11 hb12) hb13⟩
end Go.Proofs.YtpoejheienohjaaGreatDoor
