/- Neutral prices: a split, and one the other way round on the same day, leave all prices; of two splits prices are so many times, and so many times again.
   Conditions: none beyond the statement's own. -/
import Derived.Test.YtdkpbifpafaabaaGreatDoorRoP
import Derived.Test.YtdkpbifpafaabaaGreatDoorNeQ
import Derived.Test.YtdkpbifpafaabaaGreatDoorTie
import Derived.Test.YtdkpbifpafaabaaGreatDoorCards
import Derived.SevenTiedAt
namespace Go.Proofs.YtdkpbifpafaabaaGreatDoor
set_option maxRecDepth 100000
open Go.ChangeShapes Go.WideShapes Go.ChangeAt Go.RowKit Go.ChangeMaps
set_option linter.unusedVariables false

theorem neutralSplits_lifted (HF : Fixed17Ok) (os : Os) (started : os.Started) (H : Type) (enc : TypeId × Value → H) :
    ReturnsInHanded {} Tryz.checked os 11 .any (fun w args => (Rows.neutralSplitsSpec.pre enc Tryz.prog Tryz.f11 [] false w args ∧ laidMetH Tryz.prog Rows.neutralSplitsRow.laid w) ∧ sizedMet enc Tryz.prog Tryz.f11 (OpenSpec.ofChange Rows.neutralSplitsSpec) false w args)
      (Rows.neutralSplitsSpec.post enc Tryz.prog Tryz.f11 false true false false) := by
  refine returnsInHanded_of_change_and (C := Tryz.checked) (X := fun w _ => laidMetH Tryz.prog Rows.neutralSplitsRow.laid w) (fun _ _ _ hh h => h.of_heap hh) Tryz.ownK started (by kernel_rfl) Tryz.func11
    (ChangeSpec.witness_shaped (enc := enc) (C := Tryz.checked) (os := os) (X := fun w _ => laidMetH Tryz.prog Rows.neutralSplitsRow.laid w) false (World.laidAll Tryz.prog os Rows.neutralSplitsRow.laid) #[.slice none 0 0, .int .i64 0, .int .i64 0] 8 (World.laidAll_os _ _ _)
      (World.shaped_of_ZipB (by kernel_rfl) (by kernel_rfl)) (by kernel_rfl) (by kernel_rfl) (by kernel_rfl)
      (by rw [MakeChecks.laidMetH_plain _ _ _ (by kernel_rfl)]; exact laidMet_laidAll _ (by kernel_rfl) (by kernel_rfl))) ?_
  intro W base args ds gs before hval0 hW _ _ hL _
  have hval : ∀ (j : Nat) t v, Tryz.f11.params[j]? = some t → args[j]? = some v → Value.okWide Tryz.prog W .any base t v := hval0
  have hW' := hW
  have hltB : ∀ p ∈ before, p.block < W.heap.size := fun p hp => hW'.lt p hp
  obtain ⟨p, q, hA0, hV, rfl, _, _⟩ := hW
  have hA : DataW.TrodAll enc Tryz.prog W 0 (fun _ => true) true Tryz.f11.params.toList args.toList ds p := hA0
  rw [Tryz.params11] at hA hval
  obtain ⟨v0, v1, v2, d0, d1, d2, p0, p1, p2, rfl, rfl, rfl, h0, h1, h2⟩ := trodAll_three hA
  obtain ⟨rfl, rfl⟩ := trodVars_none hV
  obtain ⟨A0, n0, c0, xs0, rfl, hn0, hx0, hz0⟩ := open_fixs (hval 0 29 v0 rfl rfl) h0
  obtain ⟨k1, rfl, rfl, rfl, wk1⟩ := open_int Tryz.underlying3 (hval 1 3 v1 rfl rfl) h1
  have hk1 : -9223372036854775808 ≤ k1 ∧ k1 ≤ 9223372036854775807 := by simpa [Lit.wf, IntKind.min, IntKind.max, IntKind.signed, IntKind.bits] using wk1
  obtain ⟨k2, rfl, rfl, rfl, wk2⟩ := open_int Tryz.underlying3 (hval 2 3 v2 rfl rfl) h2
  have hk2 : -9223372036854775808 ≤ k2 ∧ k2 ≤ 9223372036854775807 := by simpa [Lit.wf, IntKind.min, IntKind.max, IntKind.signed, IntKind.bits] using wk2
  simp only [List.append_nil] at hW' hltB
  rw [MakeChecks.laidMetH_plain _ _ _ (by kernel_rfl)] at hL
  have hg := globK hL
  refine (l_nsplits HF k1 k2 W hg hx0 (fun f hf => ⟨(hz0 f hf).1, (hz0 f hf).2.2⟩)).mono fun e W' ⟨he, hb⟩ => ?_
  subst he
  exact ⟨_, rfl, _, _, _, [], p0 ++ ([] ++ []), [], hW', trodAll_mk1 (shut_bool Tryz.underlying4 _), trodAll_mk3 (Below.trod Tryz.laidOutK (by kernel_rfl) (of_decide_eq_true (by kernel_rfl)) h0 hb fun x hx => hltB x (by simp [hx])) (shut_int Tryz.underlying3 wk1) (shut_int Tryz.underlying3 wk2), rfl, hb.frame _, fun h => by cases h⟩
theorem neutralSplits_holds (HF : Fixed17Ok) : Rows.NeutralSplitsSaid :=
  OpenClaim.holds_of_wide 11 Tryz.f11 rfl rfl rfl rfl rfl rfl rfl ⟨rfl, rfl, rfl, rfl, rfl⟩ rfl rfl rfl rfl rfl (by kernel_rfl) Tryz.func11 (by kernel_rfl)
    (of_decide_eq_true (by kernel_rfl)) (by unfold Func.isWrapper; first | (rw [if_pos (by decide +kernel)]; kernel_rfl) | (rw [if_neg (by decide +kernel)]; exact ⟨rfl, rfl⟩))
    (fun os started H enc _ => neutralSplits_lifted HF os started H enc)
theorem neutralSplits_card (HF : Fixed17Ok) : Rows.NeutralSplitsCardSaid :=
  Claim7.holds_tied_plain_at .later [] [.data, .data, .data, .data, .sentinel, .sentinel, .pinned] true (true, "1af46834d51e303d15d835a2e4172393be81580a3cc6b42bcd578b1d62c7a8cd") true
    (neutralSplits_holds HF) (fun _ h => by cases h) (by kernel_rfl) (fun _ h => by cases h) neutralSplits_row_tie rfl ⟨rfl, rfl⟩ (by kernel_rfl) rfl
    (fun f fn hf hfn => by
      obtain rfl : f = 11 := Option.some.inj ((show Tryz.prog.funcNamed "debenture/debenturelaw17.NeutralSplits" = some 11 by kernel_rfl).symm.trans hf) |>.symm
      obtain rfl : fn = Tryz.f11 := (Option.some.inj (Tryz.func11.symm.trans hfn)).symm
      exact ⟨by kernel_rfl, fun j t ht => by
        rw [Tryz.params11] at ht
        have hm : t ∈ [29, 3, 3] := by simpa using Array.mem_of_getElem? ht
        rcases List.mem_cons.1 hm with rfl | hm
        · exact (show Tryz.prog.wantsStandIn 29 = false by kernel_rfl)
        · rcases List.mem_cons.1 hm with rfl | hm
          · exact (show Tryz.prog.wantsStandIn 3 = false by kernel_rfl)
          · rw [List.mem_singleton.1 hm]; exact (show Tryz.prog.wantsStandIn 3 = false by kernel_rfl)⟩)
    (by kernel_rfl)
theorem neutral_splits : Rows.NeutralSplitsCardSaid := neutralSplits_card fun w hg => p_fixed17 w hg
end Go.Proofs.YtdkpbifpafaabaaGreatDoor
