/- Terms: a term is what its last node takes, joined by it; joined, terms that may be give one that takes just them, and is one deeper than the deepest.
   Conditions: none beyond the statement's own. -/
import Derived.Test.YtjdofncognaaoaaGreatDoorRoC
import Derived.Test.YtjdofncognaaoaaGreatDoorTnP
import Derived.Test.YtjdofncognaaoaaGreatDoorTie
import Derived.Test.YtjdofncognaaoaaGreatDoorCards
import Derived.SevenTiedAt
namespace Go.Proofs.YtjdofncognaaoaaGreatDoor
set_option maxRecDepth 100000
open Go.ChangeShapes Go.WideShapes Go.ChangeAt Go.RowKit Go.ChangeMaps
set_option linter.unusedVariables false

theorem termParts_lifted (HF : Fixed10Ok) (os : Os) (started : os.Started) (H : Type) (enc : TypeId × Value → H) :
    ReturnsInHanded {} Tryz.checked os 4 .any (fun w args => (Rows.termPartsSpec.pre enc Tryz.prog Tryz.f4 [] false w args ∧ laidMetH Tryz.prog Rows.termPartsRow.laid w) ∧ sizedMet enc Tryz.prog Tryz.f4 (OpenSpec.ofChange Rows.termPartsSpec) false w args)
      (Rows.termPartsSpec.post enc Tryz.prog Tryz.f4 false true false false) := by
  refine returnsInHanded_of_change_and (C := Tryz.checked) (X := fun w _ => laidMetH Tryz.prog Rows.termPartsRow.laid w) (fun _ _ _ hh h => h.of_heap hh) Tryz.ownK started (by kernel_rfl) Tryz.func4
    (ChangeSpec.witness_shaped (enc := enc) (C := Tryz.checked) (os := os) (X := fun w _ => laidMetH Tryz.prog Rows.termPartsRow.laid w) false (World.laidAll Tryz.prog os Rows.termPartsRow.laid) #[.slice none 0 0, .slice none 0 0, .slice none 0 0] 8 (World.laidAll_os _ _ _)
      (World.shaped_of_ZipB (by kernel_rfl) (by kernel_rfl)) (by kernel_rfl) (by kernel_rfl) (by kernel_rfl)
      (by rw [MakeChecks.laidMetH_plain _ _ _ (by kernel_rfl)]; exact laidMet_laidAll _ (by kernel_rfl) (by kernel_rfl))) ?_
  intro W base args ds gs before hval0 hW _ _ hL _
  have hval : ∀ (j : Nat) t v, Tryz.f4.params[j]? = some t → args[j]? = some v → Value.okWide Tryz.prog W .any base t v := hval0
  have hW' := hW
  have hltB : ∀ p ∈ before, p.block < W.heap.size := fun p hp => hW'.lt p hp
  obtain ⟨p, q, hA0, hV, rfl, _, _⟩ := hW
  have hA : DataW.TrodAll enc Tryz.prog W 0 (fun _ => true) true Tryz.f4.params.toList args.toList ds p := hA0
  rw [Tryz.params4] at hA hval
  obtain ⟨v0, v1, v2, d0, d1, d2, p0, p1, p2, rfl, rfl, rfl, h0, h1, h2⟩ := trodAll_three hA
  obtain ⟨rfl, rfl⟩ := trodVars_none hV
  obtain ⟨A0, n0, c0, xs0, rfl, hn0, hx0, hz0⟩ := open_ndes (hval 0 23 v0 rfl rfl) h0
  obtain ⟨A1, n1, c1, xs1, rfl, hn1, hx1, hz1⟩ := open_ndes (hval 1 23 v1 rfl rfl) h1
  obtain ⟨A2, n2, c2, xs2, rfl, hn2, hx2, hz2⟩ := open_ndes (hval 2 23 v2 rfl rfl) h2
  simp only [List.append_nil] at hW' hltB
  rw [MakeChecks.laidMetH_plain _ _ _ (by kernel_rfl)] at hL
  have hg := globK hL
  refine (l_tparts HF W hg hn0 hn1 hn2 hx0 (fun x hx => nde_nd (hz0 x hx)) hx1 (fun x hx => nde_nd (hz1 x hx)) hx2 (fun x hx => nde_nd (hz2 x hx))).mono fun e W' ⟨he, hb⟩ => ?_
  subst he
  exact ⟨_, rfl, _, _, _, [], p0 ++ (p1 ++ p2), [], hW', trodAll_mk1 (shut_bool Tryz.underlying4 _), trodAll_mk3 (Below.trod Tryz.laidOutK (by kernel_rfl) (of_decide_eq_true (by kernel_rfl)) h0 hb fun x hx => hltB x (by simp [hx])) (Below.trod Tryz.laidOutK (by kernel_rfl) (of_decide_eq_true (by kernel_rfl)) h1 hb fun x hx => hltB x (by simp [hx])) (Below.trod Tryz.laidOutK (by kernel_rfl) (of_decide_eq_true (by kernel_rfl)) h2 hb fun x hx => hltB x (by simp [hx])), rfl, hb.frame _, fun h => by cases h⟩
theorem termParts_holds (HF : Fixed10Ok) : Rows.TermPartsSaid :=
  OpenClaim.holds_of_wide 4 Tryz.f4 rfl rfl rfl rfl rfl rfl rfl ⟨rfl, rfl, rfl, rfl, rfl⟩ rfl rfl rfl rfl rfl (by kernel_rfl) Tryz.func4 (by kernel_rfl)
    (of_decide_eq_true (by kernel_rfl)) (by unfold Func.isWrapper; first | (rw [if_pos (by decide +kernel)]; kernel_rfl) | (rw [if_neg (by decide +kernel)]; exact ⟨rfl, rfl⟩))
    (fun os started H enc _ => termParts_lifted HF os started H enc)
theorem termParts_card (HF : Fixed10Ok) : Rows.TermPartsCardSaid :=
  Claim7.holds_tied_plain_at .later [] [.data, .data, .data, .data, .sentinel, .sentinel, .pinned] true (true, "529bfbd93889e3220444c7f3d95cdab061225bb8163423e64e7c41ea0c47a339") true
    (termParts_holds HF) (fun _ h => by cases h) (by kernel_rfl) (fun _ h => by cases h) termParts_row_tie rfl ⟨rfl, rfl⟩ (by kernel_rfl) rfl
    (fun f fn hf hfn => by
      obtain rfl : f = 4 := Option.some.inj ((show Tryz.prog.funcNamed "debenture/debenturelaw10.TermParts" = some 4 by kernel_rfl).symm.trans hf) |>.symm
      obtain rfl : fn = Tryz.f4 := (Option.some.inj (Tryz.func4.symm.trans hfn)).symm
      exact ⟨by kernel_rfl, fun j t ht => by
        rw [Tryz.params4] at ht
        have hm : t ∈ [23, 23, 23] := by simpa using Array.mem_of_getElem? ht
        rcases List.mem_cons.1 hm with rfl | hm
        · exact (show Tryz.prog.wantsStandIn 23 = false by kernel_rfl)
        · rcases List.mem_cons.1 hm with rfl | hm
          · exact (show Tryz.prog.wantsStandIn 23 = false by kernel_rfl)
          · rw [List.mem_singleton.1 hm]; exact (show Tryz.prog.wantsStandIn 23 = false by kernel_rfl)⟩)
    (by kernel_rfl)
theorem term_parts : Rows.TermPartsCardSaid := termParts_card fun w hg => p_fixed10 w hg
end Go.Proofs.YtjdofncognaaoaaGreatDoor
