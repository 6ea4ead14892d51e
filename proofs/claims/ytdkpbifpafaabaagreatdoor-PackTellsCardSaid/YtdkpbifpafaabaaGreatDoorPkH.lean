/- The references' Keeps and Same of packs. -/
import Derived.Test.YtdkpbifpafaabaaGreatDoorPkV
import Derived.Test.YtdkpbifpafaabaaGreatDoorPkK
namespace Go.Proofs.YtdkpbifpafaabaaGreatDoor
open Go.RowKit
set_option linter.unusedVariables false
set_option linter.unusedSimpArgs false

theorem phit_next {l : List Pt} {k : Nat} {s : ByteArray} {a : Pt} (h : (l.take k).any (phit s) = false) (ha : l[k]? = some a) (hn : phit s a = false) : (l.take (k + 1)).any (phit s) = false := by
  rw [List.take_add_one, ha, List.any_append, h]; simpa using hn
set_option maxHeartbeats 1000000 in
theorem r16_keeps {A : Option Addr} {n c : Nat} {xs : List Pt} (c0 c1 s : ByteArray) (w : World) (hx : Rd Pt.cs 3 w A n xs) :
    Calls Tryz.prog 25 #[.agg #[.slice A n c, .string c0, .string c1], .string s] w fun e w' => e = .returned (.bool (pkeeps xs s)) ∧ Below w.heap.size w w' := by
  have hbig := hx.big
  have hB0 : Below w.heap.size w (WPk w A n c c0 c1) := b_alloc (Below.refl _ _) _
  have pb : Blk (WPk w A n c c0 c1) w.heap.size 28 #[.slice A n c, .string c0, .string c1] := Blk.new w _ _
  have PB := Lib.hid pb
  clear pb
  have hO := fun W => r3_of 1 W (by omega) (by omega)
  rw [enc_one_v'] at hO
  go_enter Tryz.func25, Tryz.ntmps25
  go_wp2
  go_loopw [5] (fun i wr => ∃ k : Nat, k ≤ n ∧ i = .int .i64 k ∧ Hid ((xs.take k).any (phit s) = false) ∧ Below (WPk w A n c c0 c1).heap.size (WPk w A n c c0 c1) wr) (fun i _ => n - (intOf i).toNat)
  case atStart => exact ⟨0, Nat.zero_le _, rfl, by simp [Hid], Below.refl _ _⟩
  case round =>
    obtain ⟨k, hk, rfl, H, hB⟩ := hrel
    have hBw : Below w.heap.size w wr := b_then hB0 hB
    have pr := PB.out.below hB
    have hsl : w.heap.size < wr.heap.size := pr.lt
    have q0 := pr.cell 0
    simp at q0
    by_cases hlt : k < n
    · obtain ⟨ad, a0, a1, a2, rfl, hxk, hl⟩ := pt_in hx hBw hlt
      have HX := Lib.hid hxk
      have e0 := fun (y : After wr) => (hl y.W y.h).c0
      have e1 := fun (y : After wr) => (hl y.W y.h).c1
      have e2 := fun (y : After wr) => (hl y.W y.h).c2
      have e3 := fun (y : After wr) => (hl y.W y.h).d2
      have p0 := fun (y : After wr) => (pr.below y.h).cell 0
      simp at p0
      have HH : Hid (∀ b1 b2 : Bool, (a0.toList == s.toList) = b1 → (a1.toList == (⟨#[49]⟩ : ByteArray).toList && (a2.toList == (⟨#[49]⟩ : ByteArray).toList)) = b2 → phit s ⟨a0, ⟨a1, a2⟩⟩ = (b1 && b2)) := by
        intro b1 b2 h1 h2
        rw [← h1, ← h2, tl ⟨#[49]⟩]; rfl
      have heq := fun d W => eqRat d W a1 ⟨#[49]⟩ a2 ⟨#[49]⟩
      clear hxk hl pr
      cases c1' : (a0.toList == s.toList) with
      | false =>
        have H1 := Lib.hid c1'
        have H2 : Hid (phit s ⟨a0, ⟨a1, a2⟩⟩ = false) := (HH.out _ _ H1.out rfl).trans (Bool.false_and _)
        go_wp2
        (refine wp_region_after (by kernel_rfl) (by kernel_rfl) ?_; (repeat (first | go_big_quiet_skip | (go_big_quiet_want; go_big_quiet_op; first | go_big_quiet_on | (apply Exists.intro; refine ⟨fun _ => ?_, ?_⟩; (focus ((go_at_call 28; with_reducible exact Calls.after (hO _)))); go_big_quiet_on)))); refine wpQuiet_nil ?_; rintro w1 ⟨⟨_, hb1⟩, rfl⟩; (try dsimp only); obtain ⟨hc1, hf1⟩ := bcell hb1; have hs1 := hb1.size; (try simp at hs1))
        go_wp2
        go_roundw
        case rel => exact ⟨k + 1, by omega, by go_num, phit_next H.out HX.out H2.out, hB.trans (hb1.mono hB.size)⟩
        case measure => simp [intOf]; omega
      | true =>
        have H1 := Lib.hid c1'
        cases hE : (a1.toList == (⟨#[49]⟩ : ByteArray).toList && (a2.toList == (⟨#[49]⟩ : ByteArray).toList)) with
        | false =>
          have H2 : Hid (phit s ⟨a0, ⟨a1, a2⟩⟩ = false) := HH.out _ _ H1.out hE
          simp only [hE] at heq
          clear hE
          go_wp2
          (refine wp_region_after (by kernel_rfl) (by kernel_rfl) ?_; (repeat (first | go_big_quiet_skip | (go_big_quiet_want; go_big_quiet_op; first | go_big_quiet_on | (apply Exists.intro; refine ⟨fun _ => ?_, ?_⟩; (focus ((go_at_call 28; with_reducible exact Calls.after (hO _)))); go_big_quiet_on)))); refine wpQuiet_nil ?_; rintro w1 ⟨⟨_, hb1⟩, rfl⟩; (try dsimp only); obtain ⟨hc1, hf1⟩ := bcell hb1; have hs1 := hb1.size; (try simp at hs1))
          go_wp2
          go_roundw
          case rel => exact ⟨k + 1, by omega, by go_num, phit_next H.out HX.out H2.out, hB.trans (hb1.mono hB.size)⟩
          case measure => simp [intOf]; omega
        | true =>
          have H2 : Hid (phit s ⟨a0, ⟨a1, a2⟩⟩ = true) := HH.out _ _ H1.out hE
          simp only [hE] at heq
          clear hE
          go_wp2
          (refine wp_region_after (by kernel_rfl) (by kernel_rfl) ?_; (repeat (first | go_big_quiet_skip | (go_big_quiet_want; go_big_quiet_op; first | go_big_quiet_on | (apply Exists.intro; refine ⟨fun _ => ?_, ?_⟩; (focus ((go_at_call 28; with_reducible exact Calls.after (hO _)))); go_big_quiet_on)))); refine wpQuiet_nil ?_; rintro w1 ⟨⟨_, hb1⟩, rfl⟩; (try dsimp only); obtain ⟨hc1, hf1⟩ := bcell hb1; have hs1 := hb1.size; (try simp at hs1))
          go_wp2
          go_ret
          exact ⟨ret_bool (List.any_eq_true.2 ⟨_, List.mem_of_getElem? HX.out, H2.out⟩).symm, (by repeat (first | exact Below.refl _ _ | assumption | refine b_then ?_ (by assumption) | refine b_alloc ?_ _ | refine b_drewN ?_ _ | refine Below.drew ?_ | refine b_set ?_ (by first | exact Nat.le_refl _ | (simp; done) | (simp; omega) | omega) _))⟩
    · obtain rfl : k = n := by omega
      have H2 := H.out
      rw [← hx.len, List.take_length] at H2
      have H3 : Hid (pkeeps xs s = false) := H2
      clear H2
      go_wp2
      go_ret
      exact ⟨ret_bool H3.out.symm, (by repeat (first | exact Below.refl _ _ | assumption | refine b_then ?_ (by assumption) | refine b_alloc ?_ _ | refine b_drewN ?_ _ | refine Below.drew ?_ | refine b_set ?_ (by first | exact Nat.le_refl _ | (simp; done) | (simp; omega) | omega) _))⟩
set_option maxHeartbeats 1000000 in
/-- Same, at packs that are the same. -/
theorem r16_same {A B : Option Addr} {n c d : Nat} {xs : List Pt} (c0 c1 : ByteArray) (w : World) (hx : Rd Pt.cs 3 w A n xs) (hy : Rd Pt.cs 3 w B n xs) :
    Calls Tryz.prog 19 #[.agg #[.slice A n c, .string c0, .string c1], .agg #[.slice B n d, .string c0, .string c1]] w fun e w' => e = .returned (.bool true) ∧ Below w.heap.size w w' := by
  have hbig := hx.big
  have hB0 : Below w.heap.size w ((WPk w A n c c0 c1).alloc (.cells #[.slice B n d, .string c0, .string c1] 28)) := b_alloc (b_alloc (Below.refl _ _) _) _
  have pb : Blk ((WPk w A n c c0 c1).alloc (.cells #[.slice B n d, .string c0, .string c1] 28)) w.heap.size 28 #[.slice A n c, .string c0, .string c1] := (Blk.new w _ _).alloc _
  have qb : Blk ((WPk w A n c c0 c1).alloc (.cells #[.slice B n d, .string c0, .string c1] 28)) (w.heap.size + 1) 28 #[.slice B n d, .string c0, .string c1] := Blk.new2 w _ _ _
  have PB := Lib.hid pb
  have QB := Lib.hid qb
  clear pb qb
  have heq0 := eqRat
  go_enter Tryz.func19, Tryz.ntmps19
  go_wp2
  clear heq0
  go_loopw [5] (fun i wr => ∃ k : Nat, k ≤ n ∧ i = .int .i64 k ∧ Below ((WPk w A n c c0 c1).alloc (.cells #[.slice B n d, .string c0, .string c1] 28)).heap.size ((WPk w A n c c0 c1).alloc (.cells #[.slice B n d, .string c0, .string c1] 28)) wr) (fun i _ => n - (intOf i).toNat)
  case atStart => exact ⟨0, Nat.zero_le _, rfl, Below.refl _ _⟩
  case round =>
    obtain ⟨k, hk, rfl, hB⟩ := hrel
    have hBw : Below w.heap.size w wr := b_then hB0 hB
    have pr := PB.out.below hB
    have qr := QB.out.below hB
    have hsl : w.heap.size < wr.heap.size := pr.lt
    have hsr : w.heap.size + 1 < wr.heap.size := qr.lt
    have q0 := pr.cell 0
    have q1 := qr.cell 0
    simp at q0 q1
    by_cases hlt : k < n
    · obtain ⟨ad, a0, a1, a2, rfl, hxk, hl⟩ := pt_in hx hBw hlt
      obtain ⟨bd, b0, b1, b2, rfl, hyk, hm⟩ := pt_in hy hBw hlt
      rw [hxk] at hyk
      injection hyk with e
      injection e with e1 e
      injection e with e2 e3
      subst e1; subst e2; subst e3
      have e0 := fun (y : After wr) => (hl y.W y.h).c0
      have e1 := fun (y : After wr) => (hl y.W y.h).c1
      have e2 := fun (y : After wr) => (hl y.W y.h).c2
      have f0 := fun (y : After wr) => (hm y.W y.h).c0
      have f1 := fun (y : After wr) => (hm y.W y.h).c1
      have f2 := fun (y : After wr) => (hm y.W y.h).c2
      have e3 := fun (y : After wr) => (hl y.W y.h).d2
      have f3 := fun (y : After wr) => (hm y.W y.h).d2
      have p0 := fun (y : After wr) => (pr.below y.h).cell 0
      have p1 := fun (y : After wr) => (qr.below y.h).cell 0
      simp at p0 p1
      have heq := fun d W => eqPt d W a0 a0 a1 a1 a2 a2
      simp only [beq_self_eq_true, Bool.and_self] at heq
      clear hxk hl hm pr qr
      go_wp2
      (refine wp_region_after (by kernel_rfl) (by kernel_rfl) ?_; (repeat (first | go_big_quiet_skip | (go_big_quiet_want; go_big_quiet_op; first | go_big_quiet_on | (apply Exists.intro; refine ⟨fun _ => ?_, ?_⟩; (focus (fail)); go_big_quiet_on)))); refine wpQuiet_nil ?_; rintro w1 ⟨⟨_, hb1⟩, rfl⟩; (try dsimp only); obtain ⟨hc1, hf1⟩ := bcell hb1; have hs1 := hb1.size; (try simp at hs1))
      go_wp2
      go_roundw
      case rel => exact ⟨k + 1, by omega, by go_num, hB.trans (hb1.mono hB.size)⟩
      case measure => simp [intOf]; omega
    · obtain rfl : k = n := by omega
      go_wp2
      go_ret
      exact ⟨rfl, (by repeat (first | exact Below.refl _ _ | assumption | refine b_then ?_ (by assumption) | refine b_alloc ?_ _ | refine b_drewN ?_ _ | refine Below.drew ?_ | refine b_set ?_ (by first | exact Nat.le_refl _ | (simp; done) | (simp; omega) | omega) _))⟩
end Go.Proofs.YtdkpbifpafaabaaGreatDoor
