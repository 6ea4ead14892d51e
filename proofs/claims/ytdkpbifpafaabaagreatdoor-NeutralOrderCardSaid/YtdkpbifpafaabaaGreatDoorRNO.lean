/- Neutral prices: actions are done from the last one to the first one; one of another asset may change places.
   Conditions: none beyond the statement's own. -/
import Derived.Test.YtdkpbifpafaabaaGreatDoorRoP
import Derived.Test.YtdkpbifpafaabaaGreatDoorNeP
import Derived.Test.YtdkpbifpafaabaaGreatDoorTie
import Derived.Test.YtdkpbifpafaabaaGreatDoorCards
import Derived.SevenTiedAt
namespace Go.Proofs.YtdkpbifpafaabaaGreatDoor
set_option maxRecDepth 100000
open Go.ChangeShapes Go.WideShapes Go.ChangeAt Go.RowKit Go.ChangeMaps
set_option linter.unusedVariables false

theorem l_norderV (HF : Fixed17Ok) (f g : Ac) {A : Option Addr} {n c : Nat} {xs : List Fx} (w : World) (hg : Glob w) (hx : Rd Fx.cs 4 w A n xs) (hz : ∀ f ∈ xs, f.asset.size ≤ 9223372036854775807 ∧ f.p.num.size ≤ 9223372036854775807 ∧ f.p.den.size ≤ 9223372036854775807) (h : acok f) (k : acok g) : Calls Tryz.prog 10 #[.slice A n c, .agg (Ac.cs f).toArray, .agg (Ac.cs g).toArray] w fun e w' => e = .returned (.bool true) ∧ Below w.heap.size w w' :=
  l_norder HF f.name f.kind f.asset f.other f.ratio.num f.ratio.den f.cash.num f.cash.den f.ex f.rcd f.pay g.name g.kind g.asset g.other g.ratio.num g.ratio.den g.cash.num g.cash.den g.ex g.rcd g.pay w hg hx hz h.1 h.2.2.1 h.2.2.2.1 h.2.2.2.2.1.1 h.2.2.2.2.1.2 h.2.2.2.2.2.1.1 h.2.2.2.2.2.1.2 k.1 k.2.2.1 k.2.2.2.1 k.2.2.2.2.1.1 k.2.2.2.2.1.2 k.2.2.2.2.2.1.1 k.2.2.2.2.2.1.2
theorem neutralOrder_lifted (HF : Fixed17Ok) (os : Os) (started : os.Started) (H : Type) (enc : TypeId × Value → H) :
    ReturnsInHanded {} Tryz.checked os 10 .any (fun w args => (Rows.neutralOrderSpec.pre enc Tryz.prog Tryz.f10 [] false w args ∧ laidMetH Tryz.prog Rows.neutralOrderRow.laid w) ∧ sizedMet enc Tryz.prog Tryz.f10 (OpenSpec.ofChange Rows.neutralOrderSpec) false w args)
      (Rows.neutralOrderSpec.post enc Tryz.prog Tryz.f10 false true false false) := by
  refine returnsInHanded_of_change_and (C := Tryz.checked) (X := fun w _ => laidMetH Tryz.prog Rows.neutralOrderRow.laid w) (fun _ _ _ hh h => h.of_heap hh) Tryz.ownK started (by kernel_rfl) Tryz.func10
    (ChangeSpec.witness_shaped (enc := enc) (C := Tryz.checked) (os := os) (X := fun w _ => laidMetH Tryz.prog Rows.neutralOrderRow.laid w) false (World.laidAll Tryz.prog os Rows.neutralOrderRow.laid) #[.slice none 0 0, .agg #[.string ⟨#[]⟩, .int .i64 0, .string ⟨#[]⟩, .string ⟨#[]⟩, .string ⟨#[]⟩, .string ⟨#[]⟩, .string ⟨#[]⟩, .string ⟨#[]⟩, .int .i64 0, .int .i64 0, .int .i64 0], .agg #[.string ⟨#[]⟩, .int .i64 0, .string ⟨#[]⟩, .string ⟨#[]⟩, .string ⟨#[]⟩, .string ⟨#[]⟩, .string ⟨#[]⟩, .string ⟨#[]⟩, .int .i64 0, .int .i64 0, .int .i64 0]] 8 (World.laidAll_os _ _ _)
      (World.shaped_of_ZipB (by kernel_rfl) (by kernel_rfl)) (by kernel_rfl) (by kernel_rfl) (by kernel_rfl)
      (by rw [MakeChecks.laidMetH_plain _ _ _ (by kernel_rfl)]; exact laidMet_laidAll _ (by kernel_rfl) (by kernel_rfl))) ?_
  intro W base args ds gs before hval0 hW _ _ hL _
  have hval : ∀ (j : Nat) t v, Tryz.f10.params[j]? = some t → args[j]? = some v → Value.okWide Tryz.prog W .any base t v := hval0
  have hW' := hW
  have hltB : ∀ p ∈ before, p.block < W.heap.size := fun p hp => hW'.lt p hp
  obtain ⟨p, q, hA0, hV, rfl, _, _⟩ := hW
  have hA : DataW.TrodAll enc Tryz.prog W 0 (fun _ => true) true Tryz.f10.params.toList args.toList ds p := hA0
  rw [Tryz.params10] at hA hval
  obtain ⟨v0, v1, v2, d0, d1, d2, p0, p1, p2, rfl, rfl, rfl, h0, h1, h2⟩ := trodAll_three hA
  obtain ⟨rfl, rfl⟩ := trodVars_none hV
  obtain ⟨A0, n0, c0, xs0, rfl, hn0, hx0, hz0⟩ := open_fixs (hval 0 29 v0 rfl rfl) h0
  obtain ⟨f1, rfl, hf1⟩ := open_ac (hval 1 25 v1 rfl rfl) h1
  obtain ⟨f2, rfl, hf2⟩ := open_ac (hval 2 25 v2 rfl rfl) h2
  simp only [List.append_nil] at hW' hltB
  rw [MakeChecks.laidMetH_plain _ _ _ (by kernel_rfl)] at hL
  have hg := globK hL
  refine (l_norderV HF f1 f2 W hg hx0 (fun f hf => ⟨(hz0 f hf).1, (hz0 f hf).2.2⟩) hf1 hf2).mono fun e W' ⟨he, hb⟩ => ?_
  subst he
  exact ⟨_, rfl, _, _, _, [], p0 ++ (p1 ++ p2), [], hW', trodAll_mk1 (shut_bool Tryz.underlying4 _), trodAll_mk3 (Below.trod Tryz.laidOutK (by kernel_rfl) (of_decide_eq_true (by kernel_rfl)) h0 hb fun x hx => hltB x (by simp [hx])) (Below.trod Tryz.laidOutK (by kernel_rfl) (of_decide_eq_true (by kernel_rfl)) h1 hb fun x hx => hltB x (by simp [hx])) (Below.trod Tryz.laidOutK (by kernel_rfl) (of_decide_eq_true (by kernel_rfl)) h2 hb fun x hx => hltB x (by simp [hx])), rfl, hb.frame _, fun h => by cases h⟩
theorem neutralOrder_holds (HF : Fixed17Ok) : Rows.NeutralOrderSaid :=
  OpenClaim.holds_of_wide 10 Tryz.f10 rfl rfl rfl rfl rfl rfl rfl ⟨rfl, rfl, rfl, rfl, rfl⟩ rfl rfl rfl rfl rfl (by kernel_rfl) Tryz.func10 (by kernel_rfl)
    (of_decide_eq_true (by kernel_rfl)) (by unfold Func.isWrapper; first | (rw [if_pos (by decide +kernel)]; kernel_rfl) | (rw [if_neg (by decide +kernel)]; exact ⟨rfl, rfl⟩))
    (fun os started H enc _ => neutralOrder_lifted HF os started H enc)
theorem neutralOrder_card (HF : Fixed17Ok) : Rows.NeutralOrderCardSaid :=
  Claim7.holds_tied_plain_at .later [] [.data, .data, .data, .data, .sentinel, .sentinel, .pinned] true (true, "1af46834d51e303d15d835a2e4172393be81580a3cc6b42bcd578b1d62c7a8cd") true
    (neutralOrder_holds HF) (fun _ h => by cases h) (by kernel_rfl) (fun _ h => by cases h) neutralOrder_row_tie rfl ⟨rfl, rfl⟩ (by kernel_rfl) rfl
    (fun f fn hf hfn => by
      obtain rfl : f = 10 := Option.some.inj ((show Tryz.prog.funcNamed "debenture/debenturelaw17.NeutralOrder" = some 10 by kernel_rfl).symm.trans hf) |>.symm
      obtain rfl : fn = Tryz.f10 := (Option.some.inj (Tryz.func10.symm.trans hfn)).symm
      exact ⟨by kernel_rfl, fun j t ht => by
        rw [Tryz.params10] at ht
        have hm : t ∈ [29, 25, 25] := by simpa using Array.mem_of_getElem? ht
        rcases List.mem_cons.1 hm with rfl | hm
        · exact (show Tryz.prog.wantsStandIn 29 = false by kernel_rfl)
        · rcases List.mem_cons.1 hm with rfl | hm
          · exact (show Tryz.prog.wantsStandIn 25 = false by kernel_rfl)
          · rw [List.mem_singleton.1 hm]; exact (show Tryz.prog.wantsStandIn 25 = false by kernel_rfl)⟩)
    (by kernel_rfl)
theorem neutral_order : Rows.NeutralOrderCardSaid := neutralOrder_card fun w hg => p_fixed17 w hg
end Go.Proofs.YtdkpbifpafaabaaGreatDoor
