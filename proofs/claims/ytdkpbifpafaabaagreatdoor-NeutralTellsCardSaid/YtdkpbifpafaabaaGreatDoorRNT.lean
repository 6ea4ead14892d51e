/- Neutral prices: of any table, by any action, and by any actions, they are as the document says.
   Conditions: none beyond the statement's own. -/
import Derived.Test.YtdkpbifpafaabaaGreatDoorRoP
import Derived.Test.YtdkpbifpafaabaaGreatDoorNeM
import Derived.Test.YtdkpbifpafaabaaGreatDoorTie
import Derived.Test.YtdkpbifpafaabaaGreatDoorCards
import Derived.SevenTiedAt
namespace Go.Proofs.YtdkpbifpafaabaaGreatDoor
set_option maxRecDepth 100000
open Go.ChangeShapes Go.WideShapes Go.ChangeAt Go.RowKit Go.ChangeMaps
set_option linter.unusedVariables false

theorem neutralTells_lifted (HF : Fixed17Ok) (os : Os) (started : os.Started) (H : Type) (enc : TypeId × Value → H) :
    ReturnsInHanded {} Tryz.checked os 8 .any (fun w args => (Rows.neutralTellsSpec.pre enc Tryz.prog Tryz.f8 [] false w args ∧ laidMetH Tryz.prog Rows.neutralTellsRow.laid w) ∧ sizedMet enc Tryz.prog Tryz.f8 (OpenSpec.ofChange Rows.neutralTellsSpec) false w args)
      (Rows.neutralTellsSpec.post enc Tryz.prog Tryz.f8 false true false false) := by
  refine returnsInHanded_of_change_and (C := Tryz.checked) (X := fun w _ => laidMetH Tryz.prog Rows.neutralTellsRow.laid w) (fun _ _ _ hh h => h.of_heap hh) Tryz.ownK started (by kernel_rfl) Tryz.func8
    (ChangeSpec.witness_shaped (enc := enc) (C := Tryz.checked) (os := os) (X := fun w _ => laidMetH Tryz.prog Rows.neutralTellsRow.laid w) false (World.laidAll Tryz.prog os Rows.neutralTellsRow.laid) #[.slice none 0 0, .slice none 0 0] 8 (World.laidAll_os _ _ _)
      (World.shaped_of_ZipB (by kernel_rfl) (by kernel_rfl)) (by kernel_rfl) (by kernel_rfl) (by kernel_rfl)
      (by rw [MakeChecks.laidMetH_plain _ _ _ (by kernel_rfl)]; exact laidMet_laidAll _ (by kernel_rfl) (by kernel_rfl))) ?_
  intro W base args ds gs before hval0 hW _ _ hL _
  have hval : ∀ (j : Nat) t v, Tryz.f8.params[j]? = some t → args[j]? = some v → Value.okWide Tryz.prog W .any base t v := hval0
  have hW' := hW
  have hltB : ∀ p ∈ before, p.block < W.heap.size := fun p hp => hW'.lt p hp
  obtain ⟨p, q, hA0, hV, rfl, _, _⟩ := hW
  have hA : DataW.TrodAll enc Tryz.prog W 0 (fun _ => true) true Tryz.f8.params.toList args.toList ds p := hA0
  rw [Tryz.params8] at hA hval
  obtain ⟨v0, v1, d0, d1, p0, p1, rfl, rfl, rfl, h0, h1⟩ := trodAll_two hA
  obtain ⟨rfl, rfl⟩ := trodVars_none hV
  obtain ⟨A0, n0, c0, xs0, rfl, hn0, hx0, hz0⟩ := open_fixs (hval 0 29 v0 rfl rfl) h0
  obtain ⟨A1, n1, c1, xs1, rfl, hn1, hx1, hz1⟩ := open_acs (hval 1 54 v1 rfl rfl) h1
  simp only [List.append_nil] at hW' hltB
  rw [MakeChecks.laidMetH_plain _ _ _ (by kernel_rfl)] at hL
  have hg := globK hL
  refine (l_ntells HF W hg hx0 (fun f hf => ⟨(hz0 f hf).1, (hz0 f hf).2.2⟩) hx1 (fun x hx => ⟨(hz1 x hx).1, (hz1 x hx).2.2.1, (hz1 x hx).2.2.2.1, (hz1 x hx).2.2.2.2.1, (hz1 x hx).2.2.2.2.2.1.1, (hz1 x hx).2.2.2.2.2.1.2⟩)).mono fun e W' ⟨he, hb⟩ => ?_
  subst he
  exact ⟨_, rfl, _, _, _, [], p0 ++ p1, [], hW', trodAll_mk1 (shut_bool Tryz.underlying4 _), trodAll_mk2 (Below.trod Tryz.laidOutK (by kernel_rfl) (of_decide_eq_true (by kernel_rfl)) h0 hb fun x hx => hltB x (by simp [hx])) (Below.trod Tryz.laidOutK (by kernel_rfl) (of_decide_eq_true (by kernel_rfl)) h1 hb fun x hx => hltB x (by simp [hx])), rfl, hb.frame _, fun h => by cases h⟩
theorem neutralTells_holds (HF : Fixed17Ok) : Rows.NeutralTellsSaid :=
  OpenClaim.holds_of_wide 8 Tryz.f8 rfl rfl rfl rfl rfl rfl rfl ⟨rfl, rfl, rfl, rfl, rfl⟩ rfl rfl rfl rfl rfl (by kernel_rfl) Tryz.func8 (by kernel_rfl)
    (of_decide_eq_true (by kernel_rfl)) (by unfold Func.isWrapper; first | (rw [if_pos (by decide +kernel)]; kernel_rfl) | (rw [if_neg (by decide +kernel)]; exact ⟨rfl, rfl⟩))
    (fun os started H enc _ => neutralTells_lifted HF os started H enc)
theorem neutralTells_card (HF : Fixed17Ok) : Rows.NeutralTellsCardSaid :=
  Claim7.holds_tied_plain_at .later [] [.data, .data, .data, .data, .sentinel, .sentinel, .pinned] true (true, "1af46834d51e303d15d835a2e4172393be81580a3cc6b42bcd578b1d62c7a8cd") true
    (neutralTells_holds HF) (fun _ h => by cases h) (by kernel_rfl) (fun _ h => by cases h) neutralTells_row_tie rfl ⟨rfl, rfl⟩ (by kernel_rfl) rfl
    (fun f fn hf hfn => by
      obtain rfl : f = 8 := Option.some.inj ((show Tryz.prog.funcNamed "debenture/debenturelaw17.NeutralTells" = some 8 by kernel_rfl).symm.trans hf) |>.symm
      obtain rfl : fn = Tryz.f8 := (Option.some.inj (Tryz.func8.symm.trans hfn)).symm
      exact ⟨by kernel_rfl, fun j t ht => by
        rw [Tryz.params8] at ht
        have hm : t ∈ [29, 54] := by simpa using Array.mem_of_getElem? ht
        rcases List.mem_cons.1 hm with rfl | hm
        · exact (show Tryz.prog.wantsStandIn 29 = false by kernel_rfl)
        · rw [List.mem_singleton.1 hm]; exact (show Tryz.prog.wantsStandIn 54 = false by kernel_rfl)⟩)
    (by kernel_rfl)
theorem neutral_tells : Rows.NeutralTellsCardSaid := neutralTells_card fun w hg => p_fixed17 w hg
end Go.Proofs.YtdkpbifpafaabaaGreatDoor
