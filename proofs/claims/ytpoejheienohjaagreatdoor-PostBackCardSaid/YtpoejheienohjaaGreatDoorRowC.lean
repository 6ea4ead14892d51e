/- Postings: what is posted, and then with the other signs, is as it was; two postings are what both are together.
   Conditions: none beyond the statement's own. -/
import Derived.Test.YtpoejheienohjaaGreatDoorRowK
import Derived.Test.YtpoejheienohjaaGreatDoorPoN
import Derived.Test.YtpoejheienohjaaGreatDoorTie
import Derived.Test.YtpoejheienohjaaGreatDoorCards
import Derived.SevenTiedAt
namespace Go.Proofs.YtpoejheienohjaaGreatDoor
set_option maxRecDepth 100000
open Go.ChangeShapes Go.WideShapes Go.ChangeAt Go.RowKit Go.ChangeMaps
set_option linter.unusedVariables false

theorem postBack_lifted (HF : Fixed7Ok) (os : Os) (started : os.Started) (H : Type) (enc : TypeId × Value → H) :
    ReturnsInHanded {} Tryz.checked os 13 .any (fun w args => (Rows.postBackSpec.pre enc Tryz.prog Tryz.f13 [] false w args ∧ laidMetH Tryz.prog Rows.postBackRow.laid w) ∧ sizedMet enc Tryz.prog Tryz.f13 (OpenSpec.ofChange Rows.postBackSpec) false w args)
      (Rows.postBackSpec.post enc Tryz.prog Tryz.f13 false true false false) := by
  refine returnsInHanded_of_change_and (C := Tryz.checked) (X := fun w _ => laidMetH Tryz.prog Rows.postBackRow.laid w) (fun _ _ _ hh h => h.of_heap hh) Tryz.ownK started (by kernel_rfl) Tryz.func13
    (ChangeSpec.witness_shaped (enc := enc) (C := Tryz.checked) (os := os) (X := fun w _ => laidMetH Tryz.prog Rows.postBackRow.laid w) false (World.laidAll Tryz.prog os Rows.postBackRow.laid) #[.slice none 0 0, .slice none 0 0, .slice none 0 0] 8 (World.laidAll_os _ _ _)
      (World.shaped_of_ZipB (by kernel_rfl) (by kernel_rfl)) (by kernel_rfl) (by kernel_rfl) (by kernel_rfl)
      (by rw [MakeChecks.laidMetH_plain _ _ _ (by kernel_rfl)]; exact laidMet_laidAll _ (by kernel_rfl) (by kernel_rfl))) ?_
  intro W base args ds gs before hval0 hW _ _ hL _
  have hval : ∀ (j : Nat) t v, Tryz.f13.params[j]? = some t → args[j]? = some v → Value.okWide Tryz.prog W .any base t v := hval0
  have hW' := hW
  have hltB : ∀ p ∈ before, p.block < W.heap.size := fun p hp => hW'.lt p hp
  obtain ⟨p, q, hA0, hV, rfl, _, _⟩ := hW
  have hA : DataW.TrodAll enc Tryz.prog W 0 (fun _ => true) true Tryz.f13.params.toList args.toList ds p := hA0
  rw [Tryz.params13] at hA hval
  obtain ⟨v0, v1, v2, d0, d1, d2, p0, p1, p2, rfl, rfl, rfl, h0, h1, h2⟩ := trodAll_three hA
  obtain ⟨rfl, rfl⟩ := trodVars_none hV
  obtain ⟨A0, n0, c0, xs0, rfl, hx0, hz0⟩ := open_lines Tryz.underlying41 (hval 0 41 v0 rfl rfl) h0
  obtain ⟨A1, n1, c1, xs1, rfl, hx1, hz1⟩ := open_lines Tryz.underlying40 (hval 1 40 v1 rfl rfl) h1
  obtain ⟨A2, n2, c2, xs2, rfl, hx2, hz2⟩ := open_lines Tryz.underlying40 (hval 2 40 v2 rfl rfl) h2
  simp only [List.append_nil] at hW' hltB
  rw [MakeChecks.laidMetH_plain _ _ _ (by kernel_rfl)] at hL
  have hg := globK hL
  refine (l_back7 HF W hg hx0 hx1 hx2 hz0 hz1 hz2).mono fun e W' ⟨he, hb⟩ => ?_
  subst he
  exact ⟨_, rfl, _, _, _, [], p0 ++ (p1 ++ p2), [], hW', trodAll_mk1 (shut_bool Tryz.underlying4 _), trodAll_mk3 (Below.trod Tryz.laidOutK (by kernel_rfl) (of_decide_eq_true (by kernel_rfl)) h0 hb fun x hx => hltB x (by simp [hx])) (Below.trod Tryz.laidOutK (by kernel_rfl) (of_decide_eq_true (by kernel_rfl)) h1 hb fun x hx => hltB x (by simp [hx])) (Below.trod Tryz.laidOutK (by kernel_rfl) (of_decide_eq_true (by kernel_rfl)) h2 hb fun x hx => hltB x (by simp [hx])), rfl, hb.frame _, fun h => by cases h⟩
theorem postBack_holds (HF : Fixed7Ok) : Rows.PostBackSaid :=
  OpenClaim.holds_of_wide 13 Tryz.f13 rfl rfl rfl rfl rfl rfl rfl ⟨rfl, rfl, rfl, rfl, rfl⟩ rfl rfl rfl rfl rfl (by kernel_rfl) Tryz.func13 (by kernel_rfl)
    (of_decide_eq_true (by kernel_rfl)) (by unfold Func.isWrapper; first | (rw [if_pos (by decide +kernel)]; kernel_rfl) | (rw [if_neg (by decide +kernel)]; exact ⟨rfl, rfl⟩))
    (fun os started H enc _ => postBack_lifted HF os started H enc)
theorem postBack_card (HF : Fixed7Ok) : Rows.PostBackCardSaid :=
  Claim7.holds_tied_plain_at .later [] [.data, .data, .data, .data, .sentinel, .sentinel, .pinned] true (true, "1f84a9df052af37fec165eb9400d80717ccda8e5ef21aa48147e93cc825a2197") true
    (postBack_holds HF) (fun _ h => by cases h) (by kernel_rfl) (fun _ h => by cases h) postBack_row_tie rfl ⟨rfl, rfl⟩ (by kernel_rfl) rfl
    (fun f fn hf hfn => by
      obtain rfl : f = 13 := Option.some.inj ((show Tryz.prog.funcNamed "debenture/debenturelaw07.PostBack" = some 13 by kernel_rfl).symm.trans hf) |>.symm
      obtain rfl : fn = Tryz.f13 := (Option.some.inj (Tryz.func13.symm.trans hfn)).symm
      exact ⟨by kernel_rfl, fun j t ht => by
        rw [Tryz.params13] at ht
        have hm : t ∈ [41, 40, 40] := by simpa using Array.mem_of_getElem? ht
        rcases List.mem_cons.1 hm with rfl | hm
        · exact (show Tryz.prog.wantsStandIn 41 = false by kernel_rfl)
        · rcases List.mem_cons.1 hm with rfl | hm
          · exact (show Tryz.prog.wantsStandIn 40 = false by kernel_rfl)
          · rw [List.mem_singleton.1 hm]; exact (show Tryz.prog.wantsStandIn 40 = false by kernel_rfl)⟩)
    (by kernel_rfl)
theorem post_back : Rows.PostBackCardSaid := postBack_card fun w hg => p_fixed7 w hg
end Go.Proofs.YtpoejheienohjaaGreatDoor
