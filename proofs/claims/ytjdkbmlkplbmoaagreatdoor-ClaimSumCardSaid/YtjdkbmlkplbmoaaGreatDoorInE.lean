/- Walks of a day's run, both sides. -/
import Derived.Test.YtjdkbmlkplbmoaaGreatDoorInD
namespace Go.Proofs.YtjdkbmlkplbmoaaGreatDoor
open Go.RowKit
set_option linter.unusedVariables false
set_option linter.unusedSimpArgs false

abbrev iCs (z : Int) : List Value := [.int .i64 z]
theorem iCs_length (z : Int) : (iCs z).length = 1 := rfl
theorem iCs_one (z : Int) : ∀ u ∈ iCs z, u.oneCell' = true := by
  intro u hu
  simp only [iCs, List.mem_cons, List.not_mem_nil, or_false] at hu
  subst hu; rfl
theorem Tryz.elemInt : Elem Tryz.prog 28 3 1 8 := ⟨Tryz.underlying28, ⟨.int .i64 0, by kernel_rfl, rfl⟩⟩
theorem results_tmp4 {fn : Func} {t u v x : Tmp} (h : fn.results = #[.tmp t, .tmp u, .tmp v, .tmp x]) (tmps : Array Value) (P : Program) (w : World) :
    (results fn tmps).run P w = .ok (.tuple #[tmps.getD t undef, tmps.getD u undef, tmps.getD v undef, tmps.getD x undef]) w := by
  simp [results, h]
theorem cell_block {w w' : World} {p : Addr} (h : w'.heap[p.block]? = w.heap[p.block]?) : w'.cell? p = w.cell? p := by
  unfold World.cell?; rw [h]
theorem Rd.grown {α : Type} {e : α → List Value} {z : Nat} {w w' : World} {A : Option Addr} {n : Nat} {xs : List α} {row : Option Nat} (h : Rd e z w A n xs) (hg : w.grownBy w' row) (ha : 0 < n → ∀ ad, A = some ad → row ≠ some ad.block) : Rd e z w' A n xs :=
  ⟨h.len, h.big, fun hn => by
    obtain ⟨ad, e1, hl, hc⟩ := h.cells hn
    refine ⟨ad, e1, Nat.lt_of_lt_of_le hl hg.size, fun j x hj i u hu => ?_⟩
    rw [← hc j x hj i u hu]
    exact cell_block (hg.block _ (by rw [add_block]; exact hl) (by rw [add_block]; exact (ha hn ad e1).symm))⟩
/-- Two slices of the call's own that lie apart; a slice that is read, and one of the call's own. -/
def Apt (u v : Value) : Prop := ∀ g, u.ownBlock = some g → v.ownBlock ≠ some g
theorem Apt.symm {u v : Value} (h : Apt u v) : Apt v u := fun g e e' => h g e' e
def ApB (m : Nat) (B : Option Addr) (v : Value) : Prop := 0 < m → ∀ ad, B = some ad → v.ownBlock ≠ some ad.block
theorem app_apart {α β γ : Type} {e : α → List Value} {z : Nat} {T : TypeId} {us : List α} {e' : β → List Value} {z' : Nat} {T' : TypeId} {vs : List β} {f : γ → List Value} {y : Nat} {bs : List γ} {u v u' : Value} {w W w' : World} {base m : Nat} {B : Option Addr}
    (hu : Own e z T W base u us) (hv : Own e' z' T' W base v vs) (ha : Apt u v) (hr : Rd f y W B m bs) (hb : ApB m B u) (hB : Below w.heap.size w W) (hbase : w.heap.size ≤ base)
    (hg : W.grownBy w' u.ownBlock) (hat : u'.ownBlock = u.ownBlock ∨ u'.ownBlock = some W.heap.size) : Own e' z' T' w' base v vs ∧ Apt u' v ∧ Rd f y w' B m bs ∧ ApB m B u' ∧ Below w.heap.size w w' := by
  refine ⟨hv.grown hg ?_, fun g e1 e2 => ?_, hr.grown hg fun h0 ad e1 => hb h0 ad e1, fun h0 ad e1 e2 => ?_, hu.frame hB hbase hg⟩
  · cases hvb : v.ownBlock with
    | none => exact .inl rfl
    | some g => exact .inr fun e1 => ha g e1.symm hvb
  · rcases hat with h | h
    · exact ha g (h ▸ e1) e2
    · rw [h] at e1
      injection e1 with e1
      have := hv.lt g e2
      omega
  · rcases hat with h | h
    · exact hb h0 ad e1 (h ▸ e2)
    · rw [h] at e2
      injection e2 with e2
      obtain ⟨ad', e3, hl, _⟩ := hr.cells h0
      rw [e1] at e3
      injection e3 with e3
      subst e3
      omega
theorem apB_new {α : Type} {e : α → List Value} {z : Nat} {T : TypeId} {us : List α} {W : World} {base m m' : Nat} {B B' : Option Addr} {u : Value} (hu : Own e z T W base u us) (hb : ApB m B u) (hn : Newer W.heap.size B' ∨ (B' = B ∧ m' = m)) : ApB m' B' u := by
  intro h0 ad e1 e2
  rcases hn with h | ⟨h1, h2⟩
  · have h3 := h ad e1
    have h4 := hu.lt _ e2
    omega
  · subst h1; subst h2
    exact hb h0 ad e1 e2
/-- What Run gives. -/
def RunIs (p : (List Ln × List In × List Int) × Int) (w : World) (e : Ending) (w' : World) : Prop :=
  ∃ B m c R r c2 D d c3, e = .returned (.tuple #[.slice B m c, .slice R r c2, .slice D d c3, .int .i64 p.2]) ∧ Rd Ln.cs 4 w' B m p.1.1 ∧ Rd In.cs 10 w' R r p.1.2.1 ∧ Rd iCs 1 w' D d p.1.2.2 ∧ Below w.heap.size w w'
theorem RunIs.no {w w' : World} (h : Below w.heap.size w w') : RunIs (([], [], []), 1) w (.returned (.tuple #[.slice none 0 0, .slice none 0 0, .slice none 0 0, .int .i64 1])) w' := ⟨_, _, _, _, _, _, _, _, _, rfl, Rd.nil, Rd.nil, Rd.nil, h⟩
theorem RunIs.yes {s : List Ln × List In × List Int} {w w' : World} {B : Option Addr} {m c base : Nat} {rv dv : Value} (hr : Rd Ln.cs 4 w' B m s.1) (h1 : Own In.cs 10 37 w' base rv s.2.1) (h2 : Own iCs 1 3 w' base dv s.2.2) (h : Below w.heap.size w w') : RunIs (s, 0) w (.returned (.tuple #[.slice B m c, rv, dv, .int .i64 0])) w' := by
  obtain ⟨R, c2, e1, r1⟩ := h1.rd In.cs_length
  obtain ⟨D, c3, e2, r2⟩ := h2.rd iCs_length
  subst e1; subst e2
  exact ⟨_, _, _, _, _, _, _, _, _, rfl, hr, r1, r2, h⟩
theorem iRun_no {b : List Ln} {l : List In} {day : Int} (h : bmay b = false ∨ imay l = false) : iRun b l day = (([], [], []), 1) := by
  unfold iRun
  rcases h with h | h <;> rw [h] <;> simp
theorem iRun_yes {b : List Ln} {l : List In} {day : Int} (h1 : bmay b = true) (h2 : imay l = true) : iRun b l day = (irun b l day, 0) := by
  unfold iRun
  rw [h1, h2]; rfl
theorem In.own1 {a0 a1 a2 : Int} {a3 a4 a5 a6 a7 a8 a9 : ByteArray} (W : World) : Rd In.cs 10 (W.alloc (.cells #[.int .i64 a0, .int .i64 a1, .int .i64 a2, .string a3, .string a4, .string a5, .string a6, .string a7, .string a8, .string a9] 37)) (some ⟨W.heap.size, 0, none⟩) 1 [⟨a0, a1, a2, a3, a4, a5, ⟨a6, a7⟩, ⟨a8, a9⟩⟩] := Rd.of_new In.cs_length W 37 [⟨a0, a1, a2, a3, a4, a5, ⟨a6, a7⟩, ⟨a8, a9⟩⟩] (by simp) rfl
theorem int_own1 (z : Int) (W : World) : Rd iCs 1 (W.alloc (.cells #[.int .i64 z] 3)) (some ⟨W.heap.size, 0, none⟩) 1 [z] := Rd.of_new iCs_length W 3 [z] (by simp) rfl
set_option maxRecDepth 100000 in
set_option maxHeartbeats 8000000 in
theorem r8_run {A A2 : Option Addr} {n c n2 c2 : Nat} {xs : List Ln} {ls : List In} (day : Int) (w : World) (hx : Rd Ln.cs 4 w A n xs) (hn : n ≤ 10000) (hzb : ∀ f ∈ xs, lnB 100000 f) (hy : Rd In.cs 10 w A2 n2 ls) (hn2 : n2 ≤ 100) (hzl : ∀ x ∈ ls, inB 199 x) :
    Calls Tryz.prog 16 #[.slice A n c, .slice A2 n2 c2, .int .i64 day] w fun e w' => RunIs (iRun xs ls day) w e w' := by
  have hxl := hx.len
  have hyl := hy.len
  have hM := r6_may (c := c) w hx (fun f hf => lnB_q (hzb f hf) (by omega))
  have hI := fun W (hW : Below w.heap.size w W) => r8_may (c := c2) W (hy.below hW) (by omega) (fun x hx => inB_mono (hzl x hx) (by omega))
  cases c1 : bmay xs with
  | false =>
    have hp := Lib.hid (iRun_no (l := ls) (day := day) (.inl c1))
    rw [c1] at hM
    clear hI
    go_enter Tryz.func16, Tryz.ntmps16
    go_wp2_with (go_at_call 26; (with_reducible refine (hM).mono ?_); rintro e w1 ⟨rfl, hb1⟩; obtain ⟨hc1, hf1⟩ := bcell hb1; have hs1 := hb1.size; (try simp at hs1))
    (try simp only [Exit.inBlock, Exit.then]); refine bodyPost_ret (results_tmp4 rfl _ _ _) rfl ?_
    rw [hp.out]
    exact RunIs.no hb1
  | true =>
  rw [c1] at hM
  cases c2' : imay ls with
  | false =>
    have hp := Lib.hid (iRun_no (b := xs) (day := day) (.inr c2'))
    rw [c2'] at hI
    go_enter Tryz.func16, Tryz.ntmps16
    go_wp2_with (first | (go_at_call 26; (with_reducible refine (hM).mono ?_); rintro e w1 ⟨rfl, hb1⟩; obtain ⟨hc1, hf1⟩ := bcell hb1; have hs1 := hb1.size; (try simp at hs1)) | (go_at_call 21; (with_reducible refine (hI w1 hb1).mono ?_); rintro e w2 ⟨rfl, hb2⟩; obtain ⟨hc2, hf2⟩ := bcell hb2; have hs2 := hb2.size; (try simp at hs2)))
    (try simp only [Exit.inBlock, Exit.then]); refine bodyPost_ret (results_tmp4 rfl _ _ _) rfl ?_
    rw [hp.out]
    exact RunIs.no (b_then hb1 hb2)
  | true =>
  rw [c2'] at hI
  have HP := Lib.hid (iRun_yes (day := day) c1 c2')
  have HOK := Lib.hid (fun k => run_ok (day := day) (J := 100000) c1 (Nat.le_of_eq hxl) hzb (by omega) (l := ls.take k) (fun x hx => inB_mono (hzl x (List.mem_of_mem_take hx)) (by omega)))
  have HYL := Lib.hid hyl
  have HZL := Lib.hid hzl
  have HR : ∀ W : World, Own In.cs 10 37 (W.alloc (.cells #[] 37)) W.heap.size (.slice (some ⟨W.heap.size, 0, none⟩) 0 0) ([] : List In) := fun W => Own.made0 (Nat.le_refl _)
  have HD : ∀ W : World, Own iCs 1 3 (W.alloc (.cells #[] 3)) W.heap.size (.slice (some ⟨W.heap.size, 0, none⟩) 0 0) ([] : List Int) := fun W => Own.made0 (Nat.le_refl _)
  have KR := Lib.hid HR
  have KD := Lib.hid HD
  have hn10 : n ≤ 10000 := hn
  clear hxl hyl hzl hzb c1 c2' HR HD
  go_enter Tryz.func16, Tryz.ntmps16
  go_wp2_with (first | (go_at_call 26; (with_reducible refine (hM).mono ?_); rintro e w1 ⟨rfl, hb1⟩; obtain ⟨hc1, hf1⟩ := bcell hb1; have hs1 := hb1.size; (try simp at hs1)) | (go_at_call 21; (with_reducible refine (hI w1 hb1).mono ?_); rintro e w2 ⟨rfl, hb2⟩; obtain ⟨hc2, hf2⟩ := bcell hb2; have hs2 := hb2.size; (try simp at hs2)))
  have hB2 := b_then hb1 hb2
  have hz2 := hB2.size
  have o1 := ((KR.out w2).lower hz2).alloc (.cells #[] 3)
  have o2 := (KD.out (w2.alloc (.cells #[] 37))).lower (b := w.heap.size) (by simp; omega)
  have hBa : Below w.heap.size w ((w2.alloc (.cells #[] 37)).alloc (.cells #[] 3)) := b_alloc (b_alloc hB2 _) _
  have Ra := hx.below hBa
  have ap0 : Apt (.slice (some ⟨w2.heap.size, 0, none⟩) 0 0) (.slice (some ⟨(w2.alloc (.cells #[] 37)).heap.size, 0, none⟩) 0 0) := fun g e1 e2 => by
    simp [Value.ownBlock] at e1 e2
    omega
  have ab1 : ApB n A (.slice (some ⟨w2.heap.size, 0, none⟩) 0 0) := fun h0 ad e1 e2 => by
    obtain ⟨ad', e3, hl, _⟩ := hx.cells h0
    rw [e1] at e3
    injection e3 with e3
    subst e3
    simp [Value.ownBlock] at e2
    omega
  have ab2 : ApB n A (.slice (some ⟨(w2.alloc (.cells #[] 37)).heap.size, 0, none⟩) 0 0) := fun h0 ad e1 e2 => by
    obtain ⟨ad', e3, hl, _⟩ := hx.cells h0
    rw [e1] at e3
    injection e3 with e3
    subst e3
    simp [Value.ownBlock] at e2
    omega
  simp only [World.size_alloc] at o2 ap0 ab2
  clear hb1 hc1 hf1 hs1 hb2 hc2 hf2 hs2 hM hI
  go_loopw [0, 10, 11, 12] (fun bv rv dv iv wr => ∃ (k : Nat) (B : Option Addr) (m c' : Nat) (s : List Ln × List In × List Int), k ≤ n2 ∧ iv = .int .i64 (k : Nat) ∧ bv = .slice B m c' ∧ Hid (irun xs (ls.take k) day = s) ∧ Rd Ln.cs 4 wr B m s.1 ∧ Own In.cs 10 37 wr w.heap.size rv s.2.1 ∧ Own iCs 1 3 wr w.heap.size dv s.2.2 ∧ Apt rv dv ∧ ApB m B rv ∧ ApB m B dv ∧ Below w.heap.size w wr) (fun _ _ _ i _ => n2 - (intOf i).toNat)
  case atStart => exact ⟨0, A, n, c, (xs, [], []), Nat.zero_le _, rfl, rfl, rfl, Ra, o1, o2, ap0, ab1, ab2, hBa⟩
  case round =>
    clear o1 o2 hBa Ra ap0 ab1 ab2
    obtain ⟨k, B, m, c', s, hk, rfl, rfl, H, RB, o1, o2, ap, ab1, ab2, hB⟩ := hrel
    have hok := HOK.out k
    rw [H.out] at hok
    obtain ⟨hmy, hlen, hcnt, hzB⟩ := hok
    have hml := RB.len
    have htk : (ls.take k).length = k := by rw [List.length_take, HYL.out]; omega
    rw [htk] at hlen hcnt hzB
    have hm20 : m ≤ 20000 := by omega
    have hs21 : s.2.1.length ≤ 100 := by omega
    have hs22 : s.2.2.length ≤ 100 := by omega
    by_cases hlt : k < n2
    · obtain ⟨ad, a0, a1, a2, a3, a4, a5, a6, a7, a8, a9, rfl, hxk, hl⟩ := in_in hy hB hlt
      have hmem := List.mem_of_getElem? hxk
      have hzz := HZL.out _ hmem
      obtain ⟨z0, z1, z2, z3, z4, z5, z6⟩ := hzz
      dsimp only at z0 z1 z2 z3 z4 z5 z6
      have hLi := fun W => r8_lines a0 a1 a2 a3 a4 a5 a6 a7 a8 a9 W (by omega) (by omega) (by omega) (by omega) (by omega) (by omega) (by omega)
      have hlb := ilines_B (HZL.out _ hmem)
      have hll := ilines_len (⟨a0, a1, a2, a3, a4, a5, ⟨a6, a7⟩, ⟨a8, a9⟩⟩ : In)
      have HT := Lib.hid (irun_take (b := xs) (day := day) hxk)
      rw [H.out] at HT
      have HL := Lib.hid hl
      have HPL := papply_lines (⟨a0, a1, a2, a3, a4, a5, ⟨a6, a7⟩, ⟨a8, a9⟩⟩ : In) hmy
      have HHMY := Lib.hid hmy
      have hAp : ∀ (z : Int) (ys : List Ln) W (C : Option Addr) (m' c'' : Nat), Below w.heap.size w W → Rd Ln.cs 4 W B m s.1 → Rd Ln.cs 4 W C m' (ilines ⟨a0, a1, a2, a3, a4, a5, ⟨a6, a7⟩, ⟨a8, a9⟩⟩) → papply s.1 (ilines ⟨a0, a1, a2, a3, a4, a5, ⟨a6, a7⟩, ⟨a8, a9⟩⟩) true = (ys, z) → Calls Tryz.prog 45 #[.slice B m c', .slice C m' c'', .bool true] W fun e w' => ∃ B2 m2 k2, e = .returned (.tuple #[.slice B2 m2 k2, .int .i64 z]) ∧ Rd Ln.cs 4 w' B2 m2 ys ∧ Below W.heap.size W w' ∧ (Newer W.heap.size B2 ∨ (B2 = B ∧ m2 = m)) := fun z ys W C m' c'' hW hb hc hp => by
        have hcl := hc.len
        exact (r7_apply (c := c') (c2 := c'') true W hb (by omega) (fun f hf => lnB_mono (hzB f hf) (by omega)) hc (by omega) (fun f hf => lnB_mono (hlb f hf) (by omega))).mono fun e w' ⟨B2, m2, k2, he, h1, h2, h3⟩ => ⟨B2, m2, k2, by rw [he, hp], by rw [hp] at h1; exact h1, h2, h3⟩
      obtain ⟨y0, y1, y2, y3, y4, y5, y6, y7, y8, y9, y10, y11⟩ := hl wr (Below.refl _ _)
      have KAp := Lib.hid hAp
      clear hxk hmem hlb hl hAp hzB hmy hml htk hlen hcnt z0 z1 z2 z3 z4 z5 z6 hll
      rcases HPL with hpl | hpl <;> have HPL := Lib.hid hpl <;> clear hpl <;> by_cases hdue : a2 ≤ day
      · have HS := Lib.hid (istep_due (s := s) (x := ⟨a0, a1, a2, a3, a4, a5, ⟨a6, a7⟩, ⟨a8, a9⟩⟩) hdue HPL.out)
        go_wp2_with (first
          | (go_at_call 19; (with_reducible refine (hLi _).mono ?_); rintro e w3 ⟨C3, m3, k3, rfl, R3, hb3⟩; have hB3 := b_then hB hb3)
          | (go_at_call 45; (with_reducible refine (KAp.out _ _ w3 C3 m3 k3 hB3 (RB.below hb3) R3 HPL.out).mono ?_); rintro e w4 ⟨B4, m4, k4, rfl, R4, hb4, hn4⟩; have hB4 := b_then hB3 hb4; have hb34 := b_then hb3 hb4; obtain ⟨y0, y1, y2, y3, y4, y5, y6, y7, y8, y9, y10, y11⟩ := HL.out w4 hb34; have RB4 := RB.below hb34; have o14 := o1.below hb34; have o24 := o2.below hb34; have hz4 := hB4.size)
          | (at_builtin; refine wpList_apps0 (v := u11) Tryz.elemInt (by omega) iCs_length iCs_one rfl (.tmp 53) (.tmp 59) rfl rfl (o24.alloc _) (some ⟨w4.heap.size, 0, none⟩) 1 1 [a0] rfl (int_own1 a0 w4) (by omega) (by omega) (by simp; omega) ?_; intro v5 w5 hown5 hg5 hat5))
        obtain ⟨p1, p2, p3, p4, p5⟩ := app_apart (o24.alloc (.cells #[.int .i64 a0] 3)) (o14.alloc (.cells #[.int .i64 a0] 3)) ap.symm (R4.below (b_alloc (Below.refl _ _) (.cells #[.int .i64 a0] 3))) (apB_new (o2.below hb3) ab2 hn4) (b_alloc hB4 (.cells #[.int .i64 a0] 3)) (Nat.le_refl _) hg5 hat5
        have pb : ApB m4 B4 u10 := apB_new (o1.below hb3) ab1 hn4
        go_roundw
        case rel => exact ⟨k + 1, B4, m4, k4, (bposts s.1 (ilines ⟨a0, a1, a2, a3, a4, a5, ⟨a6, a7⟩, ⟨a8, a9⟩⟩), s.2.1, s.2.2 ++ [a0]), by omega, by go_num, rfl, HT.out.trans HS.out, p3, p1, hown5, p2.symm, pb, p4, p5⟩
        case measure => simp [intOf]; omega
      · have HS := Lib.hid (istep_late (s := s) (x := ⟨a0, a1, a2, a3, a4, a5, ⟨a6, a7⟩, ⟨a8, a9⟩⟩) hdue)
        go_wp2_with (first
          | (go_at_call 19; (with_reducible refine (hLi _).mono ?_); rintro e w3 ⟨C3, m3, k3, rfl, R3, hb3⟩; have hB3 := b_then hB hb3)
          | (go_at_call 45; (with_reducible refine (KAp.out _ _ w3 C3 m3 k3 hB3 (RB.below hb3) R3 HPL.out).mono ?_); rintro e w4 ⟨B4, m4, k4, rfl, R4, hb4, hn4⟩; have hB4 := b_then hB3 hb4; have hb34 := b_then hb3 hb4; obtain ⟨y0, y1, y2, y3, y4, y5, y6, y7, y8, y9, y10, y11⟩ := HL.out w4 hb34; have RB4 := RB.below hb34; have o14 := o1.below hb34; have o24 := o2.below hb34; have hz4 := hB4.size)
          | (at_builtin; refine wpList_apps0 (v := u10) Tryz.elemIn (by omega) In.cs_length In.cs_one rfl (.tmp 61) (.tmp 66) rfl rfl (o14.alloc _) (some ⟨w4.heap.size, 0, none⟩) 1 1 [⟨a0, a1, a2, a3, a4, a5, ⟨a6, a7⟩, ⟨a8, a9⟩⟩] rfl (In.own1 w4) (by omega) (by omega) (by simp; omega) ?_; intro v5 w5 hown5 hg5 hat5))
        obtain ⟨p1, p2, p3, p4, p5⟩ := app_apart (o14.alloc (.cells #[.int .i64 a0, .int .i64 a1, .int .i64 a2, .string a3, .string a4, .string a5, .string a6, .string a7, .string a8, .string a9] 37)) (o24.alloc (.cells #[.int .i64 a0, .int .i64 a1, .int .i64 a2, .string a3, .string a4, .string a5, .string a6, .string a7, .string a8, .string a9] 37)) ap (RB4.below (b_alloc (Below.refl _ _) (.cells #[.int .i64 a0, .int .i64 a1, .int .i64 a2, .string a3, .string a4, .string a5, .string a6, .string a7, .string a8, .string a9] 37))) ab1 (b_alloc hB4 (.cells #[.int .i64 a0, .int .i64 a1, .int .i64 a2, .string a3, .string a4, .string a5, .string a6, .string a7, .string a8, .string a9] 37)) (Nat.le_refl _) hg5 hat5
        have pb : ApB m B u11 := ab2
        go_roundw
        case rel => exact ⟨k + 1, B, m, c', (s.1, s.2.1 ++ [⟨a0, a1, a2, a3, a4, a5, ⟨a6, a7⟩, ⟨a8, a9⟩⟩], s.2.2), by omega, by go_num, rfl, HT.out.trans HS.out, p3, hown5, p1, p2, p4, pb, p5⟩
        case measure => simp [intOf]; omega
      · have HS := Lib.hid (istep_short (day := day) (s := s) (x := ⟨a0, a1, a2, a3, a4, a5, ⟨a6, a7⟩, ⟨a8, a9⟩⟩) HPL.out)
        go_wp2_with (first
          | (go_at_call 19; (with_reducible refine (hLi _).mono ?_); rintro e w3 ⟨C3, m3, k3, rfl, R3, hb3⟩; have hB3 := b_then hB hb3)
          | (go_at_call 45; (with_reducible refine (KAp.out _ _ w3 C3 m3 k3 hB3 (RB.below hb3) R3 HPL.out).mono ?_); rintro e w4 ⟨B4, m4, k4, rfl, R4, hb4, hn4⟩; have hB4 := b_then hB3 hb4; have hb34 := b_then hb3 hb4; obtain ⟨y0, y1, y2, y3, y4, y5, y6, y7, y8, y9, y10, y11⟩ := HL.out w4 hb34; have RB4 := RB.below hb34; have o14 := o1.below hb34; have o24 := o2.below hb34; have hz4 := hB4.size)
          | (at_builtin; refine wpList_apps0 (v := u10) Tryz.elemIn (by omega) In.cs_length In.cs_one rfl (.tmp 61) (.tmp 66) rfl rfl (o14.alloc _) (some ⟨w4.heap.size, 0, none⟩) 1 1 [⟨a0, a1, a2, a3, a4, a5, ⟨a6, a7⟩, ⟨a8, a9⟩⟩] rfl (In.own1 w4) (by omega) (by omega) (by simp; omega) ?_; intro v5 w5 hown5 hg5 hat5))
        obtain ⟨p1, p2, p3, p4, p5⟩ := app_apart (o14.alloc (.cells #[.int .i64 a0, .int .i64 a1, .int .i64 a2, .string a3, .string a4, .string a5, .string a6, .string a7, .string a8, .string a9] 37)) (o24.alloc (.cells #[.int .i64 a0, .int .i64 a1, .int .i64 a2, .string a3, .string a4, .string a5, .string a6, .string a7, .string a8, .string a9] 37)) ap (RB4.below (b_alloc (Below.refl _ _) (.cells #[.int .i64 a0, .int .i64 a1, .int .i64 a2, .string a3, .string a4, .string a5, .string a6, .string a7, .string a8, .string a9] 37))) ab1 (b_alloc hB4 (.cells #[.int .i64 a0, .int .i64 a1, .int .i64 a2, .string a3, .string a4, .string a5, .string a6, .string a7, .string a8, .string a9] 37)) (Nat.le_refl _) hg5 hat5
        have pb : ApB m B u11 := ab2
        go_roundw
        case rel => exact ⟨k + 1, B, m, c', (s.1, s.2.1 ++ [⟨a0, a1, a2, a3, a4, a5, ⟨a6, a7⟩, ⟨a8, a9⟩⟩], s.2.2), by omega, by go_num, rfl, HT.out.trans HS.out, p3, hown5, p1, p2, p4, pb, p5⟩
        case measure => simp [intOf]; omega
      · have HS := Lib.hid (istep_late (s := s) (x := ⟨a0, a1, a2, a3, a4, a5, ⟨a6, a7⟩, ⟨a8, a9⟩⟩) hdue)
        go_wp2_with (first
          | (go_at_call 19; (with_reducible refine (hLi _).mono ?_); rintro e w3 ⟨C3, m3, k3, rfl, R3, hb3⟩; have hB3 := b_then hB hb3)
          | (go_at_call 45; (with_reducible refine (KAp.out _ _ w3 C3 m3 k3 hB3 (RB.below hb3) R3 HPL.out).mono ?_); rintro e w4 ⟨B4, m4, k4, rfl, R4, hb4, hn4⟩; have hB4 := b_then hB3 hb4; have hb34 := b_then hb3 hb4; obtain ⟨y0, y1, y2, y3, y4, y5, y6, y7, y8, y9, y10, y11⟩ := HL.out w4 hb34; have RB4 := RB.below hb34; have o14 := o1.below hb34; have o24 := o2.below hb34; have hz4 := hB4.size)
          | (at_builtin; refine wpList_apps0 (v := u10) Tryz.elemIn (by omega) In.cs_length In.cs_one rfl (.tmp 61) (.tmp 66) rfl rfl (o14.alloc _) (some ⟨w4.heap.size, 0, none⟩) 1 1 [⟨a0, a1, a2, a3, a4, a5, ⟨a6, a7⟩, ⟨a8, a9⟩⟩] rfl (In.own1 w4) (by omega) (by omega) (by simp; omega) ?_; intro v5 w5 hown5 hg5 hat5))
        obtain ⟨p1, p2, p3, p4, p5⟩ := app_apart (o14.alloc (.cells #[.int .i64 a0, .int .i64 a1, .int .i64 a2, .string a3, .string a4, .string a5, .string a6, .string a7, .string a8, .string a9] 37)) (o24.alloc (.cells #[.int .i64 a0, .int .i64 a1, .int .i64 a2, .string a3, .string a4, .string a5, .string a6, .string a7, .string a8, .string a9] 37)) ap (RB4.below (b_alloc (Below.refl _ _) (.cells #[.int .i64 a0, .int .i64 a1, .int .i64 a2, .string a3, .string a4, .string a5, .string a6, .string a7, .string a8, .string a9] 37))) ab1 (b_alloc hB4 (.cells #[.int .i64 a0, .int .i64 a1, .int .i64 a2, .string a3, .string a4, .string a5, .string a6, .string a7, .string a8, .string a9] 37)) (Nat.le_refl _) hg5 hat5
        have pb : ApB m B u11 := ab2
        go_roundw
        case rel => exact ⟨k + 1, B, m, c', (s.1, s.2.1 ++ [⟨a0, a1, a2, a3, a4, a5, ⟨a6, a7⟩, ⟨a8, a9⟩⟩], s.2.2), by omega, by go_num, rfl, HT.out.trans HS.out, p3, hown5, p1, p2, p4, pb, p5⟩
        case measure => simp [intOf]; omega
    · obtain rfl : k = n2 := by omega
      have hfin : Hid (iRun xs ls day = (s, 0)) := by
        unfold Hid
        rw [HP.out, ← H.out, ← HYL.out, List.take_length]
      go_wp2
      (try simp only [Exit.inBlock, Exit.then]); refine bodyPost_ret (results_tmp4 rfl _ _ _) rfl ?_
      rw [hfin.out]
      exact RunIs.yes RB o1 o2 hB
set_option maxRecDepth 100000 in
set_option maxHeartbeats 8000000 in
theorem p_run {A A2 : Option Addr} {n c n2 c2 : Nat} {xs : List Ln} {ls : List In} (day : Int) (w : World) (hg : Glob w) (hx : Rd Ln.cs 4 w A n xs) (hn : n ≤ 10000) (hzb : ∀ f ∈ xs, lnB 100000 f) (hy : Rd In.cs 10 w A2 n2 ls) (hn2 : n2 ≤ 100) (hzl : ∀ x ∈ ls, inB 199 x) :
    Calls Tryz.prog 15 #[.slice A n c, .slice A2 n2 c2, .int .i64 day] w fun e w' => RunIs (iRun xs ls day) w e w' := by
  have hxl := hx.len
  have hyl := hy.len
  have hM := b_may (c := c) w hg hx (fun f hf => lnB_q (hzb f hf) (by omega))
  have hI := fun W (hW : Below w.heap.size w W) => p_imay (c := c2) W (hg.below hW) (hy.below hW) (by omega) (fun x hx => inB_mono (hzl x hx) (by omega))
  cases c1 : bmay xs with
  | false =>
    have hp := Lib.hid (iRun_no (l := ls) (day := day) (.inl c1))
    rw [c1] at hM
    clear hI
    go_enter Tryz.func15, Tryz.ntmps15
    go_wp2_with (go_at_call 42; (with_reducible refine (hM).mono ?_); rintro e w1 ⟨rfl, hb1⟩; obtain ⟨hc1, hf1⟩ := bcell hb1; have hs1 := hb1.size; (try simp at hs1))
    (try simp only [Exit.inBlock, Exit.then]); refine bodyPost_ret (results_tmp4 rfl _ _ _) rfl ?_
    rw [hp.out]
    exact RunIs.no hb1
  | true =>
  rw [c1] at hM
  cases c2' : imay ls with
  | false =>
    have hp := Lib.hid (iRun_no (b := xs) (day := day) (.inr c2'))
    rw [c2'] at hI
    go_enter Tryz.func15, Tryz.ntmps15
    go_wp2_with (first | (go_at_call 42; (with_reducible refine (hM).mono ?_); rintro e w1 ⟨rfl, hb1⟩; obtain ⟨hc1, hf1⟩ := bcell hb1; have hs1 := hb1.size; (try simp at hs1)) | (go_at_call 20; (with_reducible refine (hI w1 hb1).mono ?_); rintro e w2 ⟨rfl, hb2⟩; obtain ⟨hc2, hf2⟩ := bcell hb2; have hs2 := hb2.size; (try simp at hs2)))
    (try simp only [Exit.inBlock, Exit.then]); refine bodyPost_ret (results_tmp4 rfl _ _ _) rfl ?_
    rw [hp.out]
    exact RunIs.no (b_then hb1 hb2)
  | true =>
  rw [c2'] at hI
  have HP := Lib.hid (iRun_yes (day := day) c1 c2')
  have HOK := Lib.hid (fun k => run_ok (day := day) (J := 100000) c1 (Nat.le_of_eq hxl) hzb (by omega) (l := ls.take k) (fun x hx => inB_mono (hzl x (List.mem_of_mem_take hx)) (by omega)))
  have hCl := fun W (hW : Below w.heap.size w W) => b_clone (c := c) W (hx.below hW) (by omega)
  have HXL := Lib.hid hxl
  have HYL := Lib.hid hyl
  have HZL := Lib.hid hzl
  have hn10 : n ≤ 10000 := hn
  clear hxl hyl hzl hzb c1 c2'
  go_enter Tryz.func15, Tryz.ntmps15
  go_wp2_with (first
    | (go_at_call 42; (with_reducible refine (hM).mono ?_); rintro e w1 ⟨rfl, hb1⟩; obtain ⟨hc1, hf1⟩ := bcell hb1; have hs1 := hb1.size; (try simp at hs1))
    | (go_at_call 20; (with_reducible refine (hI w1 hb1).mono ?_); rintro e w2 ⟨rfl, hb2⟩; obtain ⟨hc2, hf2⟩ := bcell hb2; have hs2 := hb2.size; (try simp at hs2))
    | (go_at_call 43; (with_reducible refine (hCl w2 (b_then hb1 hb2)).mono ?_); rintro e w5 ⟨v5, rfl, ho5, hb5⟩; obtain ⟨A5, c5, hv5, hr5⟩ := ho5.rd Ln.cs_length; rw [HXL.out] at hv5 hr5; subst hv5))
  have hBa := b_then (b_then hb1 hb2) hb5
  have o1 : Own In.cs 10 37 w5 w.heap.size (.slice none 0 0) ([] : List In) := Own.nil
  have o2 : Own iCs 1 3 w5 w.heap.size (.slice none 0 0) ([] : List Int) := Own.nil
  have ap0 : Apt (.slice none 0 0) (.slice none 0 0) := fun g e1 e2 => by simp [Value.ownBlock] at e1
  have ab1 : ApB n A5 (.slice none 0 0) := fun h0 ad e1 e2 => by simp [Value.ownBlock] at e2
  clear hb1 hc1 hf1 hs1 hb2 hc2 hf2 hs2 hM hI hCl ho5 hb5
  go_loopw [0, 10, 11, 28] (fun bv rv dv iv wr => ∃ (k : Nat) (B : Option Addr) (m c' : Nat) (s : List Ln × List In × List Int), k ≤ n2 ∧ iv = .int .i64 (k : Nat) ∧ bv = .slice B m c' ∧ Hid (irun xs (ls.take k) day = s) ∧ Rd Ln.cs 4 wr B m s.1 ∧ Own In.cs 10 37 wr w.heap.size rv s.2.1 ∧ Own iCs 1 3 wr w.heap.size dv s.2.2 ∧ Apt rv dv ∧ ApB m B rv ∧ ApB m B dv ∧ Below w.heap.size w wr) (fun _ _ _ i _ => n2 - (intOf i).toNat)
  case atStart => exact ⟨0, A5, n, c5, (xs, [], []), Nat.zero_le _, rfl, rfl, rfl, hr5, o1, o2, ap0, ab1, ab1, hBa⟩
  case round =>
    clear o1 o2 hBa ap0 ab1 hr5
    obtain ⟨k, B, m, c', s, hk, rfl, rfl, H, RB, o1, o2, ap, ab1, ab2, hB⟩ := hrel
    have hok := HOK.out k
    rw [H.out] at hok
    obtain ⟨hmy, hlen, hcnt, hzB⟩ := hok
    have hml := RB.len
    have htk : (ls.take k).length = k := by rw [List.length_take, HYL.out]; omega
    rw [htk] at hlen hcnt hzB
    have hm20 : m ≤ 20000 := by omega
    have hs21 : s.2.1.length ≤ 100 := by omega
    have hs22 : s.2.2.length ≤ 100 := by omega
    by_cases hlt : k < n2
    · obtain ⟨ad, a0, a1, a2, a3, a4, a5, a6, a7, a8, a9, rfl, hxk, hl⟩ := in_in hy hB hlt
      have hmem := List.mem_of_getElem? hxk
      have hzz := HZL.out _ hmem
      obtain ⟨z0, z1, z2, z3, z4, z5, z6⟩ := hzz
      dsimp only at z0 z1 z2 z3 z4 z5 z6
      have hLi := fun W hg => p_lines a0 a1 a2 a3 a4 a5 a6 a7 a8 a9 W hg (by omega) (by omega) (by omega) (by omega) (by omega) (by omega) (by omega)
      have hlb := ilines_B (HZL.out _ hmem)
      have hll := ilines_len (⟨a0, a1, a2, a3, a4, a5, ⟨a6, a7⟩, ⟨a8, a9⟩⟩ : In)
      have HT := Lib.hid (irun_take (b := xs) (day := day) hxk)
      rw [H.out] at HT
      have HPL := papply_lines (⟨a0, a1, a2, a3, a4, a5, ⟨a6, a7⟩, ⟨a8, a9⟩⟩ : In) hmy
      have hAp : ∀ (z : Int) (ys : List Ln) W (C : Option Addr) (m' c'' : Nat), Below w.heap.size w W → Rd Ln.cs 4 W B m s.1 → Rd Ln.cs 4 W C m' (ilines ⟨a0, a1, a2, a3, a4, a5, ⟨a6, a7⟩, ⟨a8, a9⟩⟩) → papply s.1 (ilines ⟨a0, a1, a2, a3, a4, a5, ⟨a6, a7⟩, ⟨a8, a9⟩⟩) true = (ys, z) → Calls Tryz.prog 44 #[.slice B m c', .slice C m' c'', .bool true] W fun e w' => ∃ B2 m2 k2, e = .returned (.tuple #[.slice B2 m2 k2, .int .i64 z]) ∧ Rd Ln.cs 4 w' B2 m2 ys ∧ Below W.heap.size W w' ∧ (Newer W.heap.size B2 ∨ (B2 = B ∧ m2 = m)) := fun z ys W C m' c'' hW hb hc hp => by
        have hcl := hc.len
        exact (p_apply (c := c') (c2 := c'') true W (hg.below hW) hb (by omega) (fun f hf => lnB_mono (hzB f hf) (by omega)) hc (by omega) (fun f hf => lnB_mono (hlb f hf) (by omega))).mono fun e w' ⟨B2, m2, k2, he, h1, h2, h3⟩ => ⟨B2, m2, k2, by rw [he, hp], by rw [hp] at h1; exact h1, h2, h3.elim .inl fun h => .inl (by rw [h.1]; exact newer_none)⟩
      obtain ⟨y0, y1, y2, y3, y4, y5, y6, y7, y8, y9, y10, y11⟩ := hl wr (Below.refl _ _)
      have KAp := Lib.hid hAp
      have hBx := b_alloc hB (.cells #[.int .i64 a0, .int .i64 a1, .int .i64 a2, .string a3, .string a4, .string a5, .string a6, .string a7, .string a8, .string a9] 37)
      have bx : Blk (wr.alloc (.cells #[.int .i64 a0, .int .i64 a1, .int .i64 a2, .string a3, .string a4, .string a5, .string a6, .string a7, .string a8, .string a9] 37)) wr.heap.size 37 #[.int .i64 a0, .int .i64 a1, .int .i64 a2, .string a3, .string a4, .string a5, .string a6, .string a7, .string a8, .string a9] := Blk.new wr _ _
      have hxa : Below wr.heap.size wr (wr.alloc (.cells #[.int .i64 a0, .int .i64 a1, .int .i64 a2, .string a3, .string a4, .string a5, .string a6, .string a7, .string a8, .string a9] 37)) := b_alloc (Below.refl _ _) _
      have RBx := RB.below hxa
      have o1x := o1.below hxa
      have o2x := o2.below hxa
      have hsw := hB.size
      clear hxk hmem hlb hl hAp hzB hmy hml htk hlen hcnt z0 z1 z2 z3 z4 z5 z6 hll hxa
      rcases HPL with hpl | hpl <;> have HPL := Lib.hid hpl <;> clear hpl <;> by_cases hdue : a2 ≤ day
      · have HS := Lib.hid (istep_due (s := s) (x := ⟨a0, a1, a2, a3, a4, a5, ⟨a6, a7⟩, ⟨a8, a9⟩⟩) hdue HPL.out)
        go_wp2_with (first
          | (go_at_call 18; (with_reducible refine (hLi _ (hg.below hBx)).mono ?_); rintro e w3 ⟨C3, m3, k3, rfl, R3, hb3⟩; have hB3 := b_then hBx hb3)
          | (go_at_call 44; (with_reducible refine (KAp.out _ _ w3 C3 m3 k3 hB3 (RBx.below hb3) R3 HPL.out).mono ?_); rintro e w4 ⟨B4, m4, k4, rfl, R4, hb4, hn4⟩; have hB4 := b_then hB3 hb4; have hb34 := b_then hb3 hb4; obtain ⟨x0, x1, x2, x3, x4, x5, x6, x7, x8, x9⟩ := in_bx (bx.below hb34); have RB4 := RBx.below hb34; have o14 := o1x.below hb34; have o24 := o2x.below hb34; have hz4 := hB4.size)
          | (at_builtin; refine wpList_apps0 (v := u11) Tryz.elemInt (by omega) iCs_length iCs_one rfl (.tmp 51) (.tmp 54) rfl rfl (o24.alloc _) (some ⟨w4.heap.size, 0, none⟩) 1 1 [a0] rfl (int_own1 a0 w4) (by omega) (by omega) (by simp; omega) ?_; intro v5 w5 hown5 hg5 hat5))
        obtain ⟨p1, p2, p3, p4, p5⟩ := app_apart (o24.alloc (.cells #[.int .i64 a0] 3)) (o14.alloc (.cells #[.int .i64 a0] 3)) ap.symm (R4.below (b_alloc (Below.refl _ _) (.cells #[.int .i64 a0] 3))) (apB_new (o2x.below hb3) ab2 hn4) (b_alloc hB4 (.cells #[.int .i64 a0] 3)) (Nat.le_refl _) hg5 hat5
        have pb : ApB m4 B4 u10 := apB_new (o1x.below hb3) ab1 hn4
        go_roundw
        case rel => exact ⟨k + 1, B4, m4, k4, (bposts s.1 (ilines ⟨a0, a1, a2, a3, a4, a5, ⟨a6, a7⟩, ⟨a8, a9⟩⟩), s.2.1, s.2.2 ++ [a0]), by omega, by go_num, rfl, HT.out.trans HS.out, p3, p1, hown5, p2.symm, pb, p4, p5⟩
        case measure => simp [intOf]; omega
      · have HS := Lib.hid (istep_late (s := s) (x := ⟨a0, a1, a2, a3, a4, a5, ⟨a6, a7⟩, ⟨a8, a9⟩⟩) hdue)
        have hnew : Rd In.cs 10 ((wr.alloc (.cells #[.int .i64 a0, .int .i64 a1, .int .i64 a2, .string a3, .string a4, .string a5, .string a6, .string a7, .string a8, .string a9] 37)).alloc (.cells #[.int .i64 a0, .int .i64 a1, .int .i64 a2, .string a3, .string a4, .string a5, .string a6, .string a7, .string a8, .string a9] 37)) (some ⟨wr.heap.size + 1, 0, none⟩) 1 [⟨a0, a1, a2, a3, a4, a5, ⟨a6, a7⟩, ⟨a8, a9⟩⟩] := by have := @In.own1 a0 a1 a2 a3 a4 a5 a6 a7 a8 a9 (wr.alloc (.cells #[.int .i64 a0, .int .i64 a1, .int .i64 a2, .string a3, .string a4, .string a5, .string a6, .string a7, .string a8, .string a9] 37)); rwa [World.size_alloc] at this
        go_wp2_with (at_builtin; refine wpList_apps0 (v := u10) Tryz.elemIn (by omega) In.cs_length In.cs_one rfl (.tmp 46) (.tmp 48) rfl rfl (o1x.alloc _) (some ⟨wr.heap.size + 1, 0, none⟩) 1 1 [⟨a0, a1, a2, a3, a4, a5, ⟨a6, a7⟩, ⟨a8, a9⟩⟩] rfl hnew (by omega) (by omega) (by simp; omega) ?_; intro v5 w5 hown5 hg5 hat5)
        obtain ⟨p1, p2, p3, p4, p5⟩ := app_apart (o1x.alloc (.cells #[.int .i64 a0, .int .i64 a1, .int .i64 a2, .string a3, .string a4, .string a5, .string a6, .string a7, .string a8, .string a9] 37)) (o2x.alloc (.cells #[.int .i64 a0, .int .i64 a1, .int .i64 a2, .string a3, .string a4, .string a5, .string a6, .string a7, .string a8, .string a9] 37)) ap (RBx.below (b_alloc (Below.refl _ _) (.cells #[.int .i64 a0, .int .i64 a1, .int .i64 a2, .string a3, .string a4, .string a5, .string a6, .string a7, .string a8, .string a9] 37))) ab1 (b_alloc hBx (.cells #[.int .i64 a0, .int .i64 a1, .int .i64 a2, .string a3, .string a4, .string a5, .string a6, .string a7, .string a8, .string a9] 37)) (Nat.le_refl _) hg5 hat5
        have pb : ApB m B u11 := ab2
        go_roundw
        case rel => exact ⟨k + 1, B, m, c', (s.1, s.2.1 ++ [⟨a0, a1, a2, a3, a4, a5, ⟨a6, a7⟩, ⟨a8, a9⟩⟩], s.2.2), by omega, by go_num, rfl, HT.out.trans HS.out, p3, hown5, p1, p2, p4, pb, p5⟩
        case measure => simp [intOf]; omega
      · have HS := Lib.hid (istep_short (day := day) (s := s) (x := ⟨a0, a1, a2, a3, a4, a5, ⟨a6, a7⟩, ⟨a8, a9⟩⟩) HPL.out)
        go_wp2_with (first
          | (go_at_call 18; (with_reducible refine (hLi _ (hg.below hBx)).mono ?_); rintro e w3 ⟨C3, m3, k3, rfl, R3, hb3⟩; have hB3 := b_then hBx hb3)
          | (go_at_call 44; (with_reducible refine (KAp.out _ _ w3 C3 m3 k3 hB3 (RBx.below hb3) R3 HPL.out).mono ?_); rintro e w4 ⟨B4, m4, k4, rfl, R4, hb4, hn4⟩; have hB4 := b_then hB3 hb4; have hb34 := b_then hb3 hb4; obtain ⟨x0, x1, x2, x3, x4, x5, x6, x7, x8, x9⟩ := in_bx (bx.below hb34); have RB4 := RBx.below hb34; have o14 := o1x.below hb34; have o24 := o2x.below hb34; have hz4 := hB4.size)
          | (at_builtin; refine wpList_apps0 (v := u10) Tryz.elemIn (by omega) In.cs_length In.cs_one rfl (.tmp 46) (.tmp 48) rfl rfl (o14.alloc _) (some ⟨w4.heap.size, 0, none⟩) 1 1 [⟨a0, a1, a2, a3, a4, a5, ⟨a6, a7⟩, ⟨a8, a9⟩⟩] rfl (In.own1 w4) (by omega) (by omega) (by simp; omega) ?_; intro v5 w5 hown5 hg5 hat5))
        obtain ⟨p1, p2, p3, p4, p5⟩ := app_apart (o14.alloc (.cells #[.int .i64 a0, .int .i64 a1, .int .i64 a2, .string a3, .string a4, .string a5, .string a6, .string a7, .string a8, .string a9] 37)) (o24.alloc (.cells #[.int .i64 a0, .int .i64 a1, .int .i64 a2, .string a3, .string a4, .string a5, .string a6, .string a7, .string a8, .string a9] 37)) ap (RB4.below (b_alloc (Below.refl _ _) (.cells #[.int .i64 a0, .int .i64 a1, .int .i64 a2, .string a3, .string a4, .string a5, .string a6, .string a7, .string a8, .string a9] 37))) ab1 (b_alloc hB4 (.cells #[.int .i64 a0, .int .i64 a1, .int .i64 a2, .string a3, .string a4, .string a5, .string a6, .string a7, .string a8, .string a9] 37)) (Nat.le_refl _) hg5 hat5
        have pb : ApB m B u11 := ab2
        go_roundw
        case rel => exact ⟨k + 1, B, m, c', (s.1, s.2.1 ++ [⟨a0, a1, a2, a3, a4, a5, ⟨a6, a7⟩, ⟨a8, a9⟩⟩], s.2.2), by omega, by go_num, rfl, HT.out.trans HS.out, p3, hown5, p1, p2, p4, pb, p5⟩
        case measure => simp [intOf]; omega
      · have HS := Lib.hid (istep_late (s := s) (x := ⟨a0, a1, a2, a3, a4, a5, ⟨a6, a7⟩, ⟨a8, a9⟩⟩) hdue)
        have hnew : Rd In.cs 10 ((wr.alloc (.cells #[.int .i64 a0, .int .i64 a1, .int .i64 a2, .string a3, .string a4, .string a5, .string a6, .string a7, .string a8, .string a9] 37)).alloc (.cells #[.int .i64 a0, .int .i64 a1, .int .i64 a2, .string a3, .string a4, .string a5, .string a6, .string a7, .string a8, .string a9] 37)) (some ⟨wr.heap.size + 1, 0, none⟩) 1 [⟨a0, a1, a2, a3, a4, a5, ⟨a6, a7⟩, ⟨a8, a9⟩⟩] := by have := @In.own1 a0 a1 a2 a3 a4 a5 a6 a7 a8 a9 (wr.alloc (.cells #[.int .i64 a0, .int .i64 a1, .int .i64 a2, .string a3, .string a4, .string a5, .string a6, .string a7, .string a8, .string a9] 37)); rwa [World.size_alloc] at this
        go_wp2_with (at_builtin; refine wpList_apps0 (v := u10) Tryz.elemIn (by omega) In.cs_length In.cs_one rfl (.tmp 46) (.tmp 48) rfl rfl (o1x.alloc _) (some ⟨wr.heap.size + 1, 0, none⟩) 1 1 [⟨a0, a1, a2, a3, a4, a5, ⟨a6, a7⟩, ⟨a8, a9⟩⟩] rfl hnew (by omega) (by omega) (by simp; omega) ?_; intro v5 w5 hown5 hg5 hat5)
        obtain ⟨p1, p2, p3, p4, p5⟩ := app_apart (o1x.alloc (.cells #[.int .i64 a0, .int .i64 a1, .int .i64 a2, .string a3, .string a4, .string a5, .string a6, .string a7, .string a8, .string a9] 37)) (o2x.alloc (.cells #[.int .i64 a0, .int .i64 a1, .int .i64 a2, .string a3, .string a4, .string a5, .string a6, .string a7, .string a8, .string a9] 37)) ap (RBx.below (b_alloc (Below.refl _ _) (.cells #[.int .i64 a0, .int .i64 a1, .int .i64 a2, .string a3, .string a4, .string a5, .string a6, .string a7, .string a8, .string a9] 37))) ab1 (b_alloc hBx (.cells #[.int .i64 a0, .int .i64 a1, .int .i64 a2, .string a3, .string a4, .string a5, .string a6, .string a7, .string a8, .string a9] 37)) (Nat.le_refl _) hg5 hat5
        have pb : ApB m B u11 := ab2
        go_roundw
        case rel => exact ⟨k + 1, B, m, c', (s.1, s.2.1 ++ [⟨a0, a1, a2, a3, a4, a5, ⟨a6, a7⟩, ⟨a8, a9⟩⟩], s.2.2), by omega, by go_num, rfl, HT.out.trans HS.out, p3, hown5, p1, p2, p4, pb, p5⟩
        case measure => simp [intOf]; omega
    · obtain rfl : k = n2 := by omega
      have hfin : Hid (iRun xs ls day = (s, 0)) := by
        unfold Hid
        rw [HP.out, ← H.out, ← HYL.out, List.take_length]
      go_wp2
      (try simp only [Exit.inBlock, Exit.then]); refine bodyPost_ret (results_tmp4 rfl _ _ _) rfl ?_
      rw [hfin.out]
      exact RunIs.yes RB o1 o2 hB
end Go.Proofs.YtjdkbmlkplbmoaaGreatDoor
