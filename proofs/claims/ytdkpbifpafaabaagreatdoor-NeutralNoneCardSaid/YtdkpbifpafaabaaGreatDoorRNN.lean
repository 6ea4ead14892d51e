/- Neutral prices: an action whose Ex is behind all prices changes none; one whose parts have no prices takes the asset's away, from Ex on.
   Conditions: none beyond the statement's own. -/
import Derived.Test.YtdkpbifpafaabaaGreatDoorRoP
import Derived.Test.YtdkpbifpafaabaaGreatDoorNeO
import Derived.Test.YtdkpbifpafaabaaGreatDoorTie
import Derived.Test.YtdkpbifpafaabaaGreatDoorCards
import Derived.SevenTiedAt
namespace Go.Proofs.YtdkpbifpafaabaaGreatDoor
set_option maxRecDepth 100000
open Go.ChangeShapes Go.WideShapes Go.ChangeAt Go.RowKit Go.ChangeMaps
set_option linter.unusedVariables false

theorem l_nnoneV (HF : Fixed17Ok) (f : Ac) {A : Option Addr} {n c : Nat} {xs : List Fx} (w : World) (hg : Glob w) (hx : Rd Fx.cs 4 w A n xs) (hz : ∀ f ∈ xs, f.asset.size ≤ 9223372036854775807 ∧ f.p.num.size ≤ 9223372036854775807 ∧ f.p.den.size ≤ 9223372036854775807) (h : acok f) : Calls Tryz.prog 12 #[.slice A n c, .agg (Ac.cs f).toArray] w fun e w' => e = .returned (.bool true) ∧ Below w.heap.size w w' :=
  l_nnone HF f.name f.kind f.asset f.other f.ratio.num f.ratio.den f.cash.num f.cash.den f.ex f.rcd f.pay w hg hx hz h.1 h.2.2.1 h.2.2.2.1 h.2.2.2.2.1.1 h.2.2.2.2.1.2 h.2.2.2.2.2.1.1 h.2.2.2.2.2.1.2
theorem neutralNone_lifted (HF : Fixed17Ok) (os : Os) (started : os.Started) (H : Type) (enc : TypeId × Value → H) :
    ReturnsInHanded {} Tryz.checked os 12 .any (fun w args => (Rows.neutralNoneSpec.pre enc Tryz.prog Tryz.f12 [] false w args ∧ laidMetH Tryz.prog Rows.neutralNoneRow.laid w) ∧ sizedMet enc Tryz.prog Tryz.f12 (OpenSpec.ofChange Rows.neutralNoneSpec) false w args)
      (Rows.neutralNoneSpec.post enc Tryz.prog Tryz.f12 false true false false) := by
  refine returnsInHanded_of_change_and (C := Tryz.checked) (X := fun w _ => laidMetH Tryz.prog Rows.neutralNoneRow.laid w) (fun _ _ _ hh h => h.of_heap hh) Tryz.ownK started (by kernel_rfl) Tryz.func12
    (ChangeSpec.witness_shaped (enc := enc) (C := Tryz.checked) (os := os) (X := fun w _ => laidMetH Tryz.prog Rows.neutralNoneRow.laid w) false (World.laidAll Tryz.prog os Rows.neutralNoneRow.laid) #[.slice none 0 0, .agg #[.string ⟨#[]⟩, .int .i64 0, .string ⟨#[]⟩, .string ⟨#[]⟩, .string ⟨#[]⟩, .string ⟨#[]⟩, .string ⟨#[]⟩, .string ⟨#[]⟩, .int .i64 0, .int .i64 0, .int .i64 0]] 8 (World.laidAll_os _ _ _)
      (World.shaped_of_ZipB (by kernel_rfl) (by kernel_rfl)) (by kernel_rfl) (by kernel_rfl) (by kernel_rfl)
      (by rw [MakeChecks.laidMetH_plain _ _ _ (by kernel_rfl)]; exact laidMet_laidAll _ (by kernel_rfl) (by kernel_rfl))) ?_
  intro W base args ds gs before hval0 hW _ _ hL _
  have hval : ∀ (j : Nat) t v, Tryz.f12.params[j]? = some t → args[j]? = some v → Value.okWide Tryz.prog W .any base t v := hval0
  have hW' := hW
  have hltB : ∀ p ∈ before, p.block < W.heap.size := fun p hp => hW'.lt p hp
  obtain ⟨p, q, hA0, hV, rfl, _, _⟩ := hW
  have hA : DataW.TrodAll enc Tryz.prog W 0 (fun _ => true) true Tryz.f12.params.toList args.toList ds p := hA0
  rw [Tryz.params12] at hA hval
  obtain ⟨v0, v1, d0, d1, p0, p1, rfl, rfl, rfl, h0, h1⟩ := trodAll_two hA
  obtain ⟨rfl, rfl⟩ := trodVars_none hV
  obtain ⟨A0, n0, c0, xs0, rfl, hn0, hx0, hz0⟩ := open_fixs (hval 0 29 v0 rfl rfl) h0
  obtain ⟨f1, rfl, hf1⟩ := open_ac (hval 1 25 v1 rfl rfl) h1
  simp only [List.append_nil] at hW' hltB
  rw [MakeChecks.laidMetH_plain _ _ _ (by kernel_rfl)] at hL
  have hg := globK hL
  refine (l_nnoneV HF f1 W hg hx0 (fun f hf => ⟨(hz0 f hf).1, (hz0 f hf).2.2⟩) hf1).mono fun e W' ⟨he, hb⟩ => ?_
  subst he
  exact ⟨_, rfl, _, _, _, [], p0 ++ p1, [], hW', trodAll_mk1 (shut_bool Tryz.underlying4 _), trodAll_mk2 (Below.trod Tryz.laidOutK (by kernel_rfl) (of_decide_eq_true (by kernel_rfl)) h0 hb fun x hx => hltB x (by simp [hx])) (Below.trod Tryz.laidOutK (by kernel_rfl) (of_decide_eq_true (by kernel_rfl)) h1 hb fun x hx => hltB x (by simp [hx])), rfl, hb.frame _, fun h => by cases h⟩
theorem neutralNone_holds (HF : Fixed17Ok) : Rows.NeutralNoneSaid :=
  OpenClaim.holds_of_wide 12 Tryz.f12 rfl rfl rfl rfl rfl rfl rfl ⟨rfl, rfl, rfl, rfl, rfl⟩ rfl rfl rfl rfl rfl (by kernel_rfl) Tryz.func12 (by kernel_rfl)
    (of_decide_eq_true (by kernel_rfl)) (by unfold Func.isWrapper; first | (rw [if_pos (by decide +kernel)]; kernel_rfl) | (rw [if_neg (by decide +kernel)]; exact ⟨rfl, rfl⟩))
    (fun os started H enc _ => neutralNone_lifted HF os started H enc)
theorem neutralNone_card (HF : Fixed17Ok) : Rows.NeutralNoneCardSaid :=
  Claim7.holds_tied_plain_at .later [] [.data, .data, .data, .data, .sentinel, .sentinel, .pinned] true (true, "1af46834d51e303d15d835a2e4172393be81580a3cc6b42bcd578b1d62c7a8cd") true
    (neutralNone_holds HF) (fun _ h => by cases h) (by kernel_rfl) (fun _ h => by cases h) neutralNone_row_tie rfl ⟨rfl, rfl⟩ (by kernel_rfl) rfl
    (fun f fn hf hfn => by
      obtain rfl : f = 12 := Option.some.inj ((show Tryz.prog.funcNamed "debenture/debenturelaw17.NeutralNone" = some 12 by kernel_rfl).symm.trans hf) |>.symm
      obtain rfl : fn = Tryz.f12 := (Option.some.inj (Tryz.func12.symm.trans hfn)).symm
      exact ⟨by kernel_rfl, fun j t ht => by
        rw [Tryz.params12] at ht
        have hm : t ∈ [29, 25] := by simpa using Array.mem_of_getElem? ht
        rcases List.mem_cons.1 hm with rfl | hm
        · exact (show Tryz.prog.wantsStandIn 29 = false by kernel_rfl)
        · rw [List.mem_singleton.1 hm]; exact (show Tryz.prog.wantsStandIn 25 = false by kernel_rfl)⟩)
    (by kernel_rfl)
theorem neutral_none : Rows.NeutralNoneCardSaid := neutralNone_card fun w hg => p_fixed17 w hg
end Go.Proofs.YtdkpbifpafaabaaGreatDoor
