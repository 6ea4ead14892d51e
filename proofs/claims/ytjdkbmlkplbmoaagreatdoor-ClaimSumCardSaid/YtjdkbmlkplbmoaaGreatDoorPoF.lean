/- R3.Sub, R3.Cmp. -/
import Derived.Test.YtjdkbmlkplbmoaaGreatDoorRatP
import Derived.Test.YtjdkbmlkplbmoaaGreatDoorGhost
import Derived.Test.YtjdkbmlkplbmoaaGreatDoorPoA
namespace Go.Proofs.YtjdkbmlkplbmoaaGreatDoor
open Go.RowKit
set_option linter.unusedVariables false
set_option linter.unusedSimpArgs false

set_option maxHeartbeats 1000000 in
theorem r3_sub (x y : Rat) (w : World) (hx : rsmall 400000000 x) (hy : rsmall 400000000 y) :
    Calls Tryz.prog 73 #[.agg #[.string (iS x.num), .string (nS x.den)], .agg #[.string (iS y.num), .string (nS y.den)]] w fun e w' => e = .returned (enc (x + -y)).v ∧ Below w.heap.size w w' := by
  obtain ⟨u, hu⟩ : ∃ u, iS (-y).num = u := ⟨_, rfl⟩
  obtain ⟨v, hv⟩ : ∃ v, nS (-y).den = v := ⟨_, rfl⟩
  have hN : ∀ W, Calls Tryz.prog 34 #[.agg #[.string (iS y.num), .string (nS y.den)]] W fun e w' => e = .returned (.agg #[.string u, .string v]) ∧ Below W.heap.size W w' := fun W => by
    have := r3_neg y W (rsmall_mono hy (by omega)); rw [← hu, ← hv]; exact this
  obtain ⟨g, hg⟩ : ∃ g, iS (x + -y).num = g := ⟨_, rfl⟩
  obtain ⟨h, hh⟩ : ∃ h, nS (x + -y).den = h := ⟨_, rfl⟩
  have hA : ∀ W, Calls Tryz.prog 33 #[.agg #[.string (iS x.num), .string (nS x.den)], .agg #[.string u, .string v]] W fun e w' => e = .returned (.agg #[.string g, .string h]) ∧ Below W.heap.size W w' := fun W => by
    have := r3_add x (-y) W hx (rsmall_neg hy); rw [← hu, ← hv, ← hg, ← hh]; exact this
  have he : Hid ((enc (x + -y)).v = .agg #[.string g, .string h]) := by unfold Hid; rw [← hg, ← hh]; rfl
  clear hu hv hg hh
  rw [he.out]
  have bx : Blk (((w.alloc (.cells #[.string (iS x.num), .string (nS x.den)] 35)).alloc (.cells #[.string (iS y.num), .string (nS y.den)] 35)).alloc (.cells #[.string ⟨#[]⟩, .string ⟨#[]⟩] 35)) w.heap.size 35 #[.string (iS x.num), .string (nS x.den)] := ((Blk.new w _ _).alloc _).alloc _
  have bz : Blk (((w.alloc (.cells #[.string (iS x.num), .string (nS x.den)] 35)).alloc (.cells #[.string (iS y.num), .string (nS y.den)] 35)).alloc (.cells #[.string ⟨#[]⟩, .string ⟨#[]⟩] 35)) (w.heap.size + 1) 35 #[.string (iS y.num), .string (nS y.den)] := by
    have := Blk.new (w.alloc (.cells #[.string (iS x.num), .string (nS x.den)] 35)) 35 #[.string (iS y.num), .string (nS y.den)]
    rw [World.size_alloc] at this
    exact this.alloc _
  obtain ⟨x0, x1⟩ := bx.aftr
  obtain ⟨y0, y1⟩ := bz.aftr
  have hq1 := bx.lt
  have hq2 := bz.lt
  have bR : Blk (((w.alloc (.cells #[.string (iS x.num), .string (nS x.den)] 35)).alloc (.cells #[.string (iS y.num), .string (nS y.den)] 35)).alloc (.cells #[.string ⟨#[]⟩, .string ⟨#[]⟩] 35)) (w.heap.size + 2) 35 #[.string ⟨#[]⟩, .string ⟨#[]⟩] := by
    have := Blk.new ((w.alloc (.cells #[.string (iS x.num), .string (nS x.den)] 35)).alloc (.cells #[.string (iS y.num), .string (nS y.den)] 35)) 35 #[.string ⟨#[]⟩, .string ⟨#[]⟩]
    rwa [World.size_alloc, World.size_alloc] at this
  go_enter Tryz.func73, Tryz.ntmps73
  go_wp2
  (refine wp_region_ahead 4 (by kernel_rfl) (by kernel_rfl) ?_; simp only [List.take_succ_cons, List.take_zero, List.drop_succ_cons, List.drop_zero]; (repeat (first | go_big_quiet_skip | (go_big_quiet_want; go_big_quiet_op; first | go_big_quiet_on | (apply Exists.intro; refine ⟨fun _ => ?_, ?_⟩; (focus (first | (go_at_call 34; with_reducible exact Calls.after (hN _)) | (go_at_call 33; with_reducible exact Calls.after (hA _)))); go_big_quiet_on)))); refine wpQuiet_nil ?_; rintro ⟨w2, hb2⟩; (try dsimp only); obtain ⟨hc2, hf2⟩ := bcell hb2; have hs2 := hb2.size; (try simp at hs2))
  obtain ⟨p0, p1, p2, p3⟩ := (bR.below hb2).two
  have hq3 := (bR.below hb2).lt
  go_wp2
  refine bodyPost_ret (v := .agg #[.string g, .string h]) ?_ rfl ⟨rfl, (by repeat (first | exact Below.refl _ _ | assumption | refine b_then ?_ (by assumption) | refine b_alloc ?_ _ | refine b_drewN ?_ _ | refine Below.drew ?_ | refine b_set ?_ (by first | exact Nat.le_refl _ | (simp; done) | (simp; omega) | omega) _))⟩
  simp [results, Tryz.results73, go_sem, p0, p1, p2, p3]
set_option maxHeartbeats 1000000 in
theorem r3_cmp (x y : Rat) (w : World) (hx : rsmall 400000000 x) (hy : rsmall 400000000 y) :
    Calls Tryz.prog 81 #[.agg #[.string (iS x.num), .string (nS x.den)], .agg #[.string (iS y.num), .string (nS y.den)]] w fun e w' => e = .returned (.int .i64 (x + -y).num.sign) ∧ Below w.heap.size w w' := by
  obtain ⟨g, hg⟩ : ∃ g, iS (x + -y).num = g := ⟨_, rfl⟩
  obtain ⟨h, hh⟩ : ∃ h, nS (x + -y).den = h := ⟨_, rfl⟩
  obtain ⟨z, hz⟩ : ∃ z, (x + -y).num.sign = z := ⟨_, rfl⟩
  have hS : ∀ W, Calls Tryz.prog 73 #[.agg #[.string (iS x.num), .string (nS x.den)], .agg #[.string (iS y.num), .string (nS y.den)]] W fun e w' => e = .returned (.agg #[.string g, .string h]) ∧ Below W.heap.size W w' := fun W => by
    have := r3_sub x y W hx hy; rw [← hg, ← hh]; exact this
  have hs := rsmall_add hx (rsmall_neg hy)
  have hG : ∀ W, Calls Tryz.prog 28 #[.agg #[.string g, .string h]] W fun e w' => e = .returned (.int .i64 z) ∧ Below W.heap.size W w' := fun W => by
    have := r3_sign g h W (by rw [← hg]; have := iS_sz hs.1; omega) (by rw [← hh, nS_size]; have := hs.2; omega)
    rw [show (⟨g, h⟩ : RT) = enc (x + -y) by rw [← hg, ← hh]; rfl, rsign_enc, hz] at this
    exact this
  rw [hz]
  clear hg hh hz hs
  go_enter Tryz.func81, Tryz.ntmps81
  go_wp2_with (first | (go_at_call 73; (with_reducible refine (hS _).mono ?_); rintro e w1 ⟨rfl, hb1⟩; obtain ⟨hc1, hf1⟩ := bcell hb1; have hs1 := hb1.size; (try simp at hs1)) | (go_at_call 28; (with_reducible refine (hG _).mono ?_); rintro e w2 ⟨rfl, hb2⟩; obtain ⟨hc2, hf2⟩ := bcell hb2; have hs2 := hb2.size; (try simp at hs2)))
  go_ret
  exact ⟨rfl, (by repeat (first | exact Below.refl _ _ | assumption | refine b_then ?_ (by assumption) | refine b_alloc ?_ _ | refine b_drewN ?_ _ | refine Below.drew ?_ | refine b_set ?_ (by first | exact Nat.le_refl _ | (simp; done) | (simp; omega) | omega) _))⟩
end Go.Proofs.YtjdkbmlkplbmoaaGreatDoor

/- debentureref07.Apply. -/
namespace Go.Proofs.YtjdkbmlkplbmoaaGreatDoor
open Go.RowKit
set_option linter.unusedVariables false
set_option linter.unusedSimpArgs false

/-- What Apply gives, in our words. -/
def Newer (n : Nat) (B : Option Addr) : Prop := ∀ ad, B = some ad → n ≤ ad.block
theorem newer_none {n : Nat} : Newer n none := fun _ h => by cases h
theorem Newer.mono {m n : Nat} {B : Option Addr} (h : Newer n B) (hm : m ≤ n) : Newer m B := fun ad e => Nat.le_trans hm (h ad e)
/-- What Apply gives: a book that is new, or the one that came in (A), and an error's number. -/
def ApplyIs (p : List Ln × Int) (A : Option Addr) (n : Nat) (w : World) (e : Ending) (w' : World) : Prop := ∃ B m k, e = .returned (.tuple #[.slice B m k, .int .i64 p.2]) ∧ Rd Ln.cs 4 w' B m p.1 ∧ Below w.heap.size w w' ∧ (Newer w.heap.size B ∨ (B = A ∧ m = n))
theorem Own.rdn {α : Type} {e : α → List Value} {z : Nat} {T : TypeId} {w : World} {base : Nat} {v : Value} {xs : List α} (h : Own e z T w base v xs) (he : ∀ x, (e x).length = z) : ∃ A c, v = .slice A xs.length c ∧ Rd e z w A xs.length xs ∧ Newer base A := by
  obtain ⟨A, c, hv, hr⟩ := h.rd he
  refine ⟨A, c, hv, hr, fun ad e => ?_⟩
  subst e
  rcases h.row.2 with ⟨h1, _⟩ | ⟨g, cap, cur, h1, hb, _⟩
  · rw [hv] at h1; cases h1
  · rw [hv] at h1
    cases h1
    exact hb
theorem AddPost.put {xs : List Ln} {f : Ln} {w w' : World} {e : Ending} (h : AddPost xs f w e w') (hx : bmay xs = true) (hf : lone f = true) : ∃ B m k, e = .returned (.tuple #[.slice B m k, .bool true]) ∧ Rd Ln.cs 4 w' B m (bput xs f) ∧ Below w.heap.size w w' ∧ Newer w.heap.size B := by
  obtain ⟨v, he, ho, hB⟩ := h
  rw [badd_yes hx hf] at he ho
  obtain ⟨B, k, hv, hr, hn⟩ := ho.rdn Ln.cs_length
  subst hv
  exact ⟨B, _, k, he, hr, hB, hn⟩
theorem sg_neg (p : Rat) : p.num.sign < 0 ↔ p < 0 := by
  have h := Rat.num_nonneg (q := p)
  have h2 : p.num.sign < 0 ↔ p.num < 0 := Int.sign_neg_iff
  rw [h2, ← Rat.not_le, ← h]
  omega
theorem sg_cmp (p q : Rat) : (p + -q).num.sign < 0 ↔ p < q := by
  rw [sg_neg]
  grind
theorem pshort_eq {xs os : List Ln} {a0 a1 : ByteArray} {r : RT} {p q : Rat} (hp : bgetL os a0 a1 = enc p) (hq : bgetL xs a0 a1 = enc q) : pshort xs os ⟨a0, a1, r⟩ = (!(pfree a0) && (decide (p < 0) && decide (p < q))) := by
  unfold pshort
  dsimp only
  rw [hp, hq, dec_enc, dec_enc]
theorem any_step {α : Type} {f : α → Bool} {xs : List α} {k : Nat} {x : α} (h : (xs.take k).any f = false) (hx : xs[k]? = some x) (hp : f x = false) : (xs.take (k + 1)).any f = false := by
  rw [List.take_add_one, hx, List.any_append, h]
  simp [hp]
theorem any_hit {α : Type} {f : α → Bool} {xs : List α} {k : Nat} {x : α} (hx : xs[k]? = some x) (hp : f x = true) : xs.any f = true :=
  List.any_eq_true.2 ⟨x, List.mem_of_getElem? hx, hp⟩
set_option maxRecDepth 100000 in
set_option maxHeartbeats 4000000 in
theorem r7_apply {A A2 : Option Addr} {n c n2 c2 : Nat} {xs ls : List Ln} (cov : Bool) (w : World) (hx : Rd Ln.cs 4 w A n xs) (hn : n ≤ 100000) (hzb : ∀ f ∈ xs, lnB 900000 f) (hy : Rd Ln.cs 4 w A2 n2 ls) (hn2 : n2 ≤ 200) (hzl : ∀ f ∈ ls, lnB 200 f) :
    Calls Tryz.prog 45 #[.slice A n c, .slice A2 n2 c2, .bool cov] w fun e w' => ApplyIs (papply xs ls cov) A n w e w' := by
  have hxl := hx.len
  have hyl := hy.len
  have hzq : ∀ f ∈ xs, lnq f := fun f h => lnB_q (hzb f h) (by omega)
  have hM := fun W (hW : Below w.heap.size w W) => r6_may (c := c) W (hx.below hW) hzq
  have hBl := fun W (hW : Below w.heap.size w W) => r7_balanced (c := c2) W (hy.below hW) (by omega) (fun f h => lnB_S (hzl f h) (by omega))
  cases c1 : bmay xs with
  | false =>
    have hp : Hid (papply xs ls cov = ([], 1)) := by unfold Hid papply; rw [c1]; rfl
    rw [c1] at hM
    clear hBl
    go_enter Tryz.func45, Tryz.ntmps45
    go_wp2_with (go_at_call 26; (with_reducible refine (hM w (Below.refl _ _)).mono ?_); rintro e w1 ⟨rfl, hb1⟩; obtain ⟨hc1, hf1⟩ := bcell hb1; have hs1 := hb1.size; (try simp at hs1))
    go_ret2
    rw [hp.out]
    exact ⟨none, 0, 0, rfl, Rd.nil, hb1, .inl newer_none⟩
  | true =>
  rw [c1] at hM
  cases c2' : lbal ls with
  | false =>
    have hp : Hid (papply xs ls cov = ([], 70)) := by unfold Hid papply; rw [c1, c2']; rfl
    rw [c2'] at hBl
    go_enter Tryz.func45, Tryz.ntmps45
    go_wp2_with (first | (go_at_call 26; (with_reducible refine (hM w (Below.refl _ _)).mono ?_); rintro e w1 ⟨rfl, hb1⟩; obtain ⟨hc1, hf1⟩ := bcell hb1; have hs1 := hb1.size; (try simp at hs1)) | (go_at_call 79; (with_reducible refine (hBl w1 hb1).mono ?_); rintro e w2 ⟨rfl, hb2⟩; obtain ⟨hc2, hf2⟩ := bcell hb2; have hs2 := hb2.size; (try simp at hs2)))
    go_ret2
    rw [hp.out]
    exact ⟨none, 0, 0, rfl, Rd.nil, b_then hb1 hb2, .inl newer_none⟩
  | true =>
  rw [c2'] at hBl
  have hl1 := lbal_lone c2'
  have htk : ∀ k, ∀ x ∈ ls.take k, lone x = true := fun k x h => hl1 x (List.mem_of_mem_take h)
  have HM1 := Lib.hid (fun k => posts_may (l := ls.take k) c1 (htk k))
  have HL1 := Lib.hid (fun k => posts_len (l := ls.take k) c1 (htk k))
  have HB1 := Lib.hid (fun k => posts_B (k := 200) (l := ls.take k) c1 (htk k) hzb (by omega) fun x h => hzl x (List.mem_of_mem_take h))
  have HXL := Lib.hid hxl
  have HYL := Lib.hid hyl
  have HLO := Lib.hid hl1
  have HZL := Lib.hid hzl
  have HZB := Lib.hid hzb
  have hAd : ∀ (j : Nat) (B : Option Addr) (mm kk : Nat) (a0 a1 a2 a3 : ByteArray) W, ls[j]? = some ⟨a0, a1, ⟨a2, a3⟩⟩ → Rd Ln.cs 4 W B mm (bposts xs (ls.take j)) → Calls Tryz.prog 27 #[.slice B mm kk, .agg #[.string a0, .string a1, .string a2, .string a3]] W fun e w' => ∃ B m k, e = .returned (.tuple #[.slice B m k, .bool true]) ∧ Rd Ln.cs 4 w' B m (bposts xs (ls.take (j + 1))) ∧ Below W.heap.size W w' ∧ Newer W.heap.size B := fun j B mm kk a0 a1 a2 a3 W hj hr => by
    have hmem := List.mem_of_getElem? hj
    have h1 := HL1.out j
    have h2 := hr.len
    have h3 : (ls.take j).length ≤ 200 := by rw [List.length_take]; omega
    rw [posts_take hj]
    exact (r6_add (c := kk) a0 a1 a2 a3 W hr (by omega) (fun f hf => lnB_q (HB1.out j f hf) (by have : (ls.take j).length * 202 ≤ 200 * 202 := Nat.mul_le_mul_right _ h3; omega)) (lnB_q (hzl _ hmem) (by omega))).mono fun e w' h => h.put (HM1.out j) (hl1 _ hmem)
  have KAD := Lib.hid hAd
  clear hAd hzq hzb hzl hl1 htk hxl hyl
  have HC1 := Lib.hid c1
  have HC2 := Lib.hid c2'
  clear c1 c2'
  go_enter Tryz.func45, Tryz.ntmps45
  go_wp2_with (first | (go_at_call 26; (with_reducible refine (hM w (Below.refl _ _)).mono ?_); rintro e w1 ⟨rfl, hb1⟩; obtain ⟨hc1, hf1⟩ := bcell hb1; have hs1 := hb1.size; (try simp at hs1)) | (go_at_call 79; (with_reducible refine (hBl w1 hb1).mono ?_); rintro e w2 ⟨rfl, hb2⟩; obtain ⟨hc2, hf2⟩ := bcell hb2; have hs2 := hb2.size; (try simp at hs2)))
  have hB2 := b_then hb1 hb2
  have R2 : Rd Ln.cs 4 w2 A n (bposts xs (ls.take 0)) := by rw [List.take_zero, posts_nil]; exact hx.below hB2
  go_loopw [8, 9] (fun ov iv wr => ∃ (k : Nat) (B : Option Addr) (mm kk : Nat), k ≤ n2 ∧ iv = .int .i64 (k : Nat) ∧ ov = .slice B mm kk ∧ Rd Ln.cs 4 wr B mm (bposts xs (ls.take k)) ∧ Below w.heap.size w wr ∧ (Newer w.heap.size B ∨ (B = A ∧ mm = n))) (fun _ i _ => n2 - (intOf i).toNat)
  case atStart => exact ⟨0, A, n, c, Nat.zero_le _, rfl, rfl, R2, hB2, .inr ⟨rfl, rfl⟩⟩
  case round =>
    obtain ⟨k, B, mm, kk, hk, rfl, rfl, RB, hB, hNw⟩ := hrel
    by_cases hlt : k < n2
    · obtain ⟨ad, a0, a1, a2, a3, rfl, hxk, hl⟩ := ln_in hy hB hlt
      have HX := Lib.hid hxk
      obtain ⟨hx0, hx1, hx2, hx3, hx4⟩ := hl wr (Below.refl _ _)
      clear hxk hl
      go_wp2_with (go_at_call 27; (with_reducible refine (KAD.out k B mm kk a0 a1 a2 a3 wr HX.out RB).mono ?_); rintro e w3 ⟨B3, m3, k3, rfl, rd3, hb3, nw3⟩)
      go_roundw
      case rel => exact ⟨k + 1, B3, m3, k3, by omega, by go_num, rfl, rd3, b_then hB hb3, .inl (nw3.mono hB.size)⟩
      case measure => simp [intOf]; omega
    · obtain rfl : k = n2 := by omega
      have hls : ls.take k = ls := by rw [← HYL.out, List.take_length]
      obtain ⟨os, hos⟩ : ∃ os, bposts xs ls = os := ⟨_, rfl⟩
      have hom := HM1.out k
      have hol := HL1.out k
      have hob := HB1.out k
      rw [hls, hos] at RB hom hol hob
      have hlk : ls.length ≤ 200 := by rw [HYL.out]; omega
      have hoq : ∀ f ∈ os, lnB 1000000 f := fun f hf => lnB_mono (hob f hf) (by have : ls.length * 202 ≤ 200 * 202 := Nat.mul_le_mul_right _ hlk; omega)
      have HOM := Lib.hid hom
      have HOQ := Lib.hid hoq
      have HOS := Lib.hid hos
      clear hom hol hob hls hos hlk hoq
      have hfin : Hid (∀ b : Bool, (cov = true → ls.any (pshort xs os) = b) → papply xs ls cov = if cov && b then ([], 71) else (os, 0)) := by
        intro b hb
        unfold papply
        rw [HC1.out, HC2.out, HOS.out]
        cases cov with
        | false => rfl
        | true => rw [hb rfl]; rfl
      go_wp2
      go_loopw [12] (fun iv wr' => ∃ j : Nat, j ≤ k ∧ iv = .int .i64 (j : Nat) ∧ Hid (cov = true → (ls.take j).any (pshort xs os) = false) ∧ Below wr.heap.size wr wr') (fun i _ => k - (intOf i).toNat)
      case atStart => exact ⟨0, Nat.zero_le _, rfl, by simp [Hid], Below.refl _ _⟩
      case round =>
        obtain ⟨j, hj, rfl, H, hB2⟩ := hrel
        by_cases hlt2 : j < k
        · cases cov with
          | false =>
            have hf : Hid (papply xs ls false = (os, 0)) := hfin.out false (fun h => by cases h)
            go_wp2
            go_ret2
            rw [hf.out]
            exact ⟨B, mm, kk, rfl, RB.below hB2, b_then hB hB2, hNw⟩
          | true =>
            obtain ⟨ad, a0, a1, a2, a3, rfl, hxk, hl⟩ := ln_in hy (b_then hB hB2) hlt2
            obtain ⟨p, hp, hps⟩ := get_rat HOQ.out (by omega) HOM.out a0 a1
            obtain ⟨q, hq, hqs⟩ := get_rat HZB.out (by omega) HC1.out a0 a1
            have RB2 := RB.below hB2
            have hGo : ∀ W, Below wr.heap.size wr W → Calls Tryz.prog 29 #[.slice B mm kk, .string a0, .string a1] W fun e w' => e = .returned (.agg #[.string (iS p.num), .string (nS p.den)]) ∧ Below W.heap.size W w' := fun W hW => by
              have := r6_get (c := kk) a0 a1 W (RB2.below hW) (fun f hf => lnB_q (HOQ.out f hf) (by omega))
              rw [bget_yes HOM.out, hp] at this
              exact this
            have hGb : ∀ W, Below w.heap.size w W → Calls Tryz.prog 29 #[.slice A n c, .string a0, .string a1] W fun e w' => e = .returned (.agg #[.string (iS q.num), .string (nS q.den)]) ∧ Below W.heap.size W w' := fun W hW => by
              have := r6_get (c := c) a0 a1 W (hx.below hW) (fun f hf => lnB_q (HZB.out f hf) (by omega))
              rw [bget_yes HC1.out, hq] at this
              exact this
            have HX := Lib.hid hxk
            have hy0 := fun (x : After _) (y : After x.W) => (hl y.W (b_then x.h y.h)).c0
            have hy1 := fun (x : After _) (y : After x.W) => (hl y.W (b_then x.h y.h)).c1
            have hBw := b_then hB hB2
            clear hxk
            go_wp2
            (refine wp_region_two (T := 35) (A := ?boxA9) (u1 := .string ?boxU9) (u2 := .string ?boxV9) (v1 := .string ?boxX9) (v2 := .string ?boxY9) (z1 := .string ⟨#[]⟩) (z2 := .string ⟨#[]⟩) 24 25 26 27 11 23 13 14 58 70 (by kernel_rfl) (fun p => by kernel_rfl) (fun p x => ?boxH9) ⟨by kernel_rfl, by kernel_rfl, ⟨_, rfl, rfl, rfl, fun a W => run_alloc_rat rfl⟩, ⟨_, rfl, rfl, rfl, fun a W => run_alloc_rat rfl⟩, ⟨_, rfl, rfl, rfl, fun a W g h1 h2 hB => run_store_rat rfl h1 h2 hB⟩, ⟨_, rfl, rfl, rfl, fun a W g h1 h2 hB => run_store_rat rfl h1 h2 hB⟩, ⟨_, rfl, rfl⟩, ⟨_, rfl, rfl⟩, by kernel_rfl, by kernel_rfl, by kernel_rfl, by kernel_rfl, by decide, by decide, by decide, by decide, by decide, by decide, ?box19, ?box29, ?box2b9, by decide, ?box39, ?box3b9, ?box49⟩ (by decide) (by decide) (by decide) (by decide); (case boxH9 => (simp only [twol, List.modify_succ_cons, List.modify_zero_cons, repA, repS]; (have hxs := x.h.size); (try simp at hxs); (repeat (first | go_big_quiet_skip | (go_big_quiet_want; go_big_quiet_op; first | go_big_quiet_on | (apply Exists.intro; refine ⟨fun _ => ?_, ?_⟩; (focus (first | (go_at_call 29; with_reducible exact Calls.after (hGo _ (b_then x.h (After.h _)))) | (go_at_call 29; with_reducible exact Calls.after (hGb _ (b_then hBw (b_then x.h (After.h _))))))); go_big_quiet_on)))); refine wpQuiet_nil ?_; rfl)); (case box19 => exact fun g h => rfl); (case box29 => first | decide | simp); (case box2b9 => first | decide | simp); (case box39 => intro p; first | rfl | (simp only [List.getElem?_toArray, List.getElem?_cons_succ, List.getElem?_cons_zero]; rfl) | (simp; exact ⟨rfl, rfl⟩)); (case box3b9 => intro p; first | rfl | (simp only [List.getElem?_toArray, List.getElem?_cons_succ, List.getElem?_cons_zero]; rfl) | (simp; exact ⟨rfl, rfl⟩)); rintro g9 h9 w9 hg9 hh9 hb9 D9 E9; (try dsimp only); obtain ⟨hc9, hf9⟩ := bcell hb9; have hs9 := hb9.size; (try simp at hs9))
            obtain ⟨d0, d1, d2, d3⟩ := D9.two
            obtain ⟨e0, e1, e2, e3⟩ := E9.two
            have q9 := D9.lt
            have r9 := E9.lt
            have hBn := b_then hBw hb9
            have l0 := (hl w9 hb9).c0
            have hpe := pshort_eq (r := ⟨a2, a3⟩) hp hq
            have hms := (HZL.out _ (List.mem_of_getElem? HX.out)).1
            have hF := fun W => r7_free a0 W (by dsimp only at hms; omega)
            have hrs : rsign ⟨iS p.num, nS p.den⟩ = p.num.sign := rsign_enc p
            have hS := fun W => r3_sign (iS p.num) (nS p.den) W (by have := iS_sz hps.1; omega) (by rw [nS_size]; have := hps.2; omega)
            have hC := fun W => r3_cmp p q W (rsmall_mono hps (by omega)) (rsmall_mono hqs (by omega))
            rw [hrs] at hS
            have hsn := sg_neg p
            have hcn := sg_cmp p q
            obtain ⟨s, hs⟩ : ∃ s, p.num.sign = s := ⟨_, rfl⟩
            obtain ⟨c9, hc9'⟩ : ∃ s, (p + -q).num.sign = s := ⟨_, rfl⟩
            rw [hs] at hsn hS
            rw [hc9'] at hcn hC
            have HPE := Lib.hid hpe
            clear hpe hp hq hl hms hrs hGo hGb hy0 hy1 hs hc9' hps hqs
            cases f0 : pfree a0 with
            | true =>
              have HS : Hid (true = true → (ls.take (j + 1)).any (pshort xs os) = false) := fun _ => any_step (H.out (by trivial)) HX.out (by rw [HPE.out, f0]; rfl)
              rw [f0] at hF
              clear f0 hsn hcn
              go_wp2_with (go_at_call 80; (with_reducible refine (hF _).mono ?_); rintro e w' ⟨rfl, rfl⟩)
              go_roundw
              case rel => exact ⟨j + 1, by omega, by go_num, HS.out, b_then hB2 hb9⟩
              case measure => simp [intOf]; omega
            | false =>
              by_cases hp0 : p < 0
              · have hs0 : s < 0 := hsn.2 hp0
                by_cases hpq : p < q
                · have hc0 : c9 < 0 := hcn.2 hpq
                  have hbad : Hid (papply xs ls true = ([], 71)) := by
                    have := hfin.out true (fun _ => any_hit HX.out (by rw [HPE.out, f0]; simp [hp0, hpq]))
                    exact this
                  rw [f0] at hF
                  clear f0 hsn hcn hp0 hpq
                  go_wp2_with (first | (go_at_call 80; (with_reducible refine (hF _).mono ?_); rintro e w' ⟨rfl, rfl⟩) | (go_at_call 28; (with_reducible refine (hS _).mono ?_); rintro e w10 ⟨rfl, hb10⟩; obtain ⟨hc10, hf10⟩ := bcell hb10; have hs10 := hb10.size; (try simp at hs10)) | (go_at_call 81; (with_reducible refine (hC _).mono ?_); rintro e w11 ⟨rfl, hb11⟩; obtain ⟨hc11, hf11⟩ := bcell hb11; have hs11 := hb11.size; (try simp at hs11)))
                  go_ret2
                  rw [hbad.out]
                  exact ⟨none, 0, 0, rfl, Rd.nil, b_then hBn (b_then hb10 hb11), .inl newer_none⟩
                · have hc0 : ¬ c9 < 0 := fun e => hpq (hcn.1 e)
                  have HS : Hid (true = true → (ls.take (j + 1)).any (pshort xs os) = false) := fun _ => any_step (H.out (by trivial)) HX.out (by rw [HPE.out, f0]; simp [hpq])
                  rw [f0] at hF
                  clear f0 hsn hcn hp0 hpq
                  go_wp2_with (first | (go_at_call 80; (with_reducible refine (hF _).mono ?_); rintro e w' ⟨rfl, rfl⟩) | (go_at_call 28; (with_reducible refine (hS _).mono ?_); rintro e w10 ⟨rfl, hb10⟩; obtain ⟨hc10, hf10⟩ := bcell hb10; have hs10 := hb10.size; (try simp at hs10)) | (go_at_call 81; (with_reducible refine (hC _).mono ?_); rintro e w11 ⟨rfl, hb11⟩; obtain ⟨hc11, hf11⟩ := bcell hb11; have hs11 := hb11.size; (try simp at hs11)))
                  go_roundw
                  case rel => exact ⟨j + 1, by omega, by go_num, HS.out, b_then hB2 (b_then hb9 (b_then hb10 hb11))⟩
                  case measure => simp [intOf]; omega
              · have hs0 : ¬ s < 0 := fun e => hp0 (hsn.1 e)
                have HS : Hid (true = true → (ls.take (j + 1)).any (pshort xs os) = false) := fun _ => any_step (H.out (by trivial)) HX.out (by rw [HPE.out, f0]; simp [hp0])
                rw [f0] at hF
                clear f0 hsn hcn hp0
                go_wp2_with (first | (go_at_call 80; (with_reducible refine (hF _).mono ?_); rintro e w' ⟨rfl, rfl⟩) | (go_at_call 28; (with_reducible refine (hS _).mono ?_); rintro e w10 ⟨rfl, hb10⟩; obtain ⟨hc10, hf10⟩ := bcell hb10; have hs10 := hb10.size; (try simp at hs10)))
                go_roundw
                case rel => exact ⟨j + 1, by omega, by go_num, HS.out, b_then hB2 (b_then hb9 hb10)⟩
                case measure => simp [intOf]; omega
        · obtain rfl : j = k := by omega
          have hf : Hid (papply xs ls cov = (os, 0)) := by
            unfold Hid
            rw [hfin.out false (fun h => by have := H.out h; rwa [← HYL.out, List.take_length] at this), Bool.and_false]
            rfl
          go_wp2
          go_ret2
          rw [hf.out]
          exact ⟨B, mm, kk, rfl, RB.below hB2, b_then hB hB2, hNw⟩
end Go.Proofs.YtjdkbmlkplbmoaaGreatDoor
