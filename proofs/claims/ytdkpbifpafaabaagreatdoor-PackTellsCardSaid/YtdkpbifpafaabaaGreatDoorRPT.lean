/- Packs: an action's pack, whether a pack may be, what it is worth on any day, and whether it keeps an asset, is as the document says.
   Conditions: none beyond the statement's own. -/
import Derived.Test.YtdkpbifpafaabaaGreatDoorRoP
import Derived.Test.YtdkpbifpafaabaaGreatDoorPkU
import Derived.Test.YtdkpbifpafaabaaGreatDoorPkG
import Derived.Test.YtdkpbifpafaabaaGreatDoorTie
import Derived.Test.YtdkpbifpafaabaaGreatDoorCards
import Derived.SevenTiedAt
namespace Go.Proofs.YtdkpbifpafaabaaGreatDoor
set_option maxRecDepth 100000
open Go.ChangeShapes Go.WideShapes Go.ChangeAt Go.RowKit Go.ChangeMaps
set_option linter.unusedVariables false

theorem l_pktellsV (HF : Fixed16Ok) (f : Ac) {A Af : Option Addr} {n c nf cf : Nat} {xs : List Pt} {fs : List Fx} (c0 c1 : ByteArray) (d : Int) (s : ByteArray) (w : World) (hg : Glob w) (h : acok f) (hx : Rd Pt.cs 3 w A n xs) (hz : ∀ x ∈ xs, ptok x) (hc : rtok ⟨c0, c1⟩) (hf : Rd Fx.cs 4 w Af nf fs) (hzf : ∀ x ∈ fs, fixok x) :
    Calls Tryz.prog 3 #[.agg (Ac.cs f).toArray, .agg #[.slice A n c, .string c0, .string c1], .agg #[.slice Af nf cf, .int .i64 d, .string s]] w fun e w' => e = .returned (.bool true) ∧ Below w.heap.size w w' :=
  l_pktells HF (fun a0 a1 a2 a3 a4 a5 a6 a7 a8 a9 a10 w h0 h2 h3 h4 h5 h6 h7 => r16_of a0 a1 a2 a3 a4 a5 a6 a7 a8 a9 a10 w h0 h2 h3 h4 h5 h6 h7) f.name f.kind f.asset f.other f.ratio.num f.ratio.den f.cash.num f.cash.den f.ex f.rcd f.pay c0 c1 d s w hg h.1 h.2.2.1 h.2.2.2.1 h.2.2.2.2.1.1 h.2.2.2.2.1.2 h.2.2.2.2.2.1.1 h.2.2.2.2.2.1.2 hx (fun x hx => hz x hx) hc.1 hc.2 hf (fun x hx => ⟨(hzf x hx).1, (hzf x hx).2.2⟩)
theorem packTells_lifted (HF : Fixed16Ok) (os : Os) (started : os.Started) (H : Type) (enc : TypeId × Value → H) :
    ReturnsInHanded {} Tryz.checked os 3 .any (fun w args => (Rows.packTellsSpec.pre enc Tryz.prog Tryz.f3 [] false w args ∧ laidMetH Tryz.prog Rows.packTellsRow.laid w) ∧ sizedMet enc Tryz.prog Tryz.f3 (OpenSpec.ofChange Rows.packTellsSpec) false w args)
      (Rows.packTellsSpec.post enc Tryz.prog Tryz.f3 false true false false) := by
  refine returnsInHanded_of_change_and (C := Tryz.checked) (X := fun w _ => laidMetH Tryz.prog Rows.packTellsRow.laid w) (fun _ _ _ hh h => h.of_heap hh) Tryz.ownK started (by kernel_rfl) Tryz.func3
    (ChangeSpec.witness_shaped (enc := enc) (C := Tryz.checked) (os := os) (X := fun w _ => laidMetH Tryz.prog Rows.packTellsRow.laid w) false (World.laidAll Tryz.prog os Rows.packTellsRow.laid) #[.agg #[.string ⟨#[]⟩, .int .i64 0, .string ⟨#[]⟩, .string ⟨#[]⟩, .string ⟨#[]⟩, .string ⟨#[]⟩, .string ⟨#[]⟩, .string ⟨#[]⟩, .int .i64 0, .int .i64 0, .int .i64 0], .agg #[.slice none 0 0, .string ⟨#[]⟩, .string ⟨#[]⟩], .agg #[.slice none 0 0, .int .i64 0, .string ⟨#[]⟩]] 8 (World.laidAll_os _ _ _)
      (World.shaped_of_ZipB (by kernel_rfl) (by kernel_rfl)) (by kernel_rfl) (by kernel_rfl) (by kernel_rfl)
      (by rw [MakeChecks.laidMetH_plain _ _ _ (by kernel_rfl)]; exact laidMet_laidAll _ (by kernel_rfl) (by kernel_rfl))) ?_
  intro W base args ds gs before hval0 hW _ _ hL _
  have hval : ∀ (j : Nat) t v, Tryz.f3.params[j]? = some t → args[j]? = some v → Value.okWide Tryz.prog W .any base t v := hval0
  have hW' := hW
  have hltB : ∀ p ∈ before, p.block < W.heap.size := fun p hp => hW'.lt p hp
  obtain ⟨p, q, hA0, hV, rfl, _, _⟩ := hW
  have hA : DataW.TrodAll enc Tryz.prog W 0 (fun _ => true) true Tryz.f3.params.toList args.toList ds p := hA0
  rw [Tryz.params3] at hA hval
  obtain ⟨v0, v1, v2, d0, d1, d2, p0, p1, p2, rfl, rfl, rfl, h0, h1, h2⟩ := trodAll_three hA
  obtain ⟨rfl, rfl⟩ := trodVars_none hV
  obtain ⟨f0, rfl, hf0⟩ := open_ac (hval 0 25 v0 rfl rfl) h0
  obtain ⟨A1, n1, c1, xs1, r1, s1, rfl, hn1, hx1, hz1, hc1⟩ := open_pack (hval 1 28 v1 rfl rfl) h1
  obtain ⟨A2, n2, c2, xs2, k2, s2, rfl, hn2, hx2, hz2, hk2, hs2⟩ := open_ask16 (hval 2 31 v2 rfl rfl) h2
  simp only [List.append_nil] at hW' hltB
  rw [MakeChecks.laidMetH_plain _ _ _ (by kernel_rfl)] at hL
  have hg := globK hL
  refine (l_pktellsV HF f0 r1 s1 k2 s2 W hg hf0 hx1 hz1 hc1 hx2 hz2).mono fun e W' ⟨he, hb⟩ => ?_
  subst he
  exact ⟨_, rfl, _, _, _, [], p0 ++ (p1 ++ p2), [], hW', trodAll_mk1 (shut_bool Tryz.underlying4 _), trodAll_mk3 (Below.trod Tryz.laidOutK (by kernel_rfl) (of_decide_eq_true (by kernel_rfl)) h0 hb fun x hx => hltB x (by simp [hx])) (Below.trod Tryz.laidOutK (by kernel_rfl) (of_decide_eq_true (by kernel_rfl)) h1 hb fun x hx => hltB x (by simp [hx])) (Below.trod Tryz.laidOutK (by kernel_rfl) (of_decide_eq_true (by kernel_rfl)) h2 hb fun x hx => hltB x (by simp [hx])), rfl, hb.frame _, fun h => by cases h⟩
theorem packTells_holds (HF : Fixed16Ok) : Rows.PackTellsSaid :=
  OpenClaim.holds_of_wide 3 Tryz.f3 rfl rfl rfl rfl rfl rfl rfl ⟨rfl, rfl, rfl, rfl, rfl⟩ rfl rfl rfl rfl rfl (by kernel_rfl) Tryz.func3 (by kernel_rfl)
    (of_decide_eq_true (by kernel_rfl)) (by unfold Func.isWrapper; first | (rw [if_pos (by decide +kernel)]; kernel_rfl) | (rw [if_neg (by decide +kernel)]; exact ⟨rfl, rfl⟩))
    (fun os started H enc _ => packTells_lifted HF os started H enc)
theorem packTells_card (HF : Fixed16Ok) : Rows.PackTellsCardSaid :=
  Claim7.holds_tied_plain_at .later [] [.data, .data, .data, .data, .sentinel, .sentinel, .pinned] true (true, "1af46834d51e303d15d835a2e4172393be81580a3cc6b42bcd578b1d62c7a8cd") true
    (packTells_holds HF) (fun _ h => by cases h) (by kernel_rfl) (fun _ h => by cases h) packTells_row_tie rfl ⟨rfl, rfl⟩ (by kernel_rfl) rfl
    (fun f fn hf hfn => by
      obtain rfl : f = 3 := Option.some.inj ((show Tryz.prog.funcNamed "debenture/debenturelaw16.PackTells" = some 3 by kernel_rfl).symm.trans hf) |>.symm
      obtain rfl : fn = Tryz.f3 := (Option.some.inj (Tryz.func3.symm.trans hfn)).symm
      exact ⟨by kernel_rfl, fun j t ht => by
        rw [Tryz.params3] at ht
        have hm : t ∈ [25, 28, 31] := by simpa using Array.mem_of_getElem? ht
        rcases List.mem_cons.1 hm with rfl | hm
        · exact (show Tryz.prog.wantsStandIn 25 = false by kernel_rfl)
        · rcases List.mem_cons.1 hm with rfl | hm
          · exact (show Tryz.prog.wantsStandIn 28 = false by kernel_rfl)
          · rw [List.mem_singleton.1 hm]; exact (show Tryz.prog.wantsStandIn 31 = false by kernel_rfl)⟩)
    (by kernel_rfl)
theorem pack_tells : Rows.PackTellsCardSaid := packTells_card fun w hg => p_fixed16 w hg
end Go.Proofs.YtdkpbifpafaabaaGreatDoor
