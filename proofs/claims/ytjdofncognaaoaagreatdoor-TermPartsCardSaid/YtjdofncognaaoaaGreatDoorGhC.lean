/- A region that draws its order: any number of operations that make slices, any number of operations that take them, besides quiet operations. -/
import Derived.Test.YtjdofncognaaoaaGreatDoorGhA
namespace Go.Proofs.YtjdofncognaaoaaGreatDoor
open Go Go.RowKit
set_option linter.unusedVariables false
set_option linter.unusedSimpArgs false

/-- Some operations replaced by moves of constants. -/
def mods : List (Nat × Value) → List Oper → List Oper
  | [], l => l
  | x :: S, l => (mods S l).modify x.1 (repV x.2)
def modAt (S : List (Nat × Value)) (i : Nat) : Option Value := (S.find? (fun x => x.1 == i)).map (·.2)
theorem mods_at : ∀ (S : List (Nat × Value)) (l : List Oper) (i : Nat), (mods S l)[i]? = (l[i]?).map fun o => match modAt S i with | some v => repV v o | none => o
  | [], l, i => by cases h : l[i]? <;> simp [mods, modAt, h]
  | x :: S, l, i => by
    rw [mods, List.getElem?_modify, mods_at S l i]
    cases h : l[i]? with
    | none => simp
    | some o =>
      by_cases e : x.1 = i
      · subst e
        have : modAt (x :: S) x.1 = some x.2 := by simp [modAt]
        rw [this]
        cases modAt S x.1 <;> simp [repV]
      · have : modAt (x :: S) i = modAt S i := by simp [modAt, e]
        rw [this]
        simp [e]
theorem ghost_mods (S : List (Nat × Value)) (l : List Oper) : Go.Proofs.YtjdofncognaaoaaGreatDoor.ghost (fun i => (modAt S i).isSome) (fun i => (modAt S i).getD (.bool false)) l = mods S l := by
  apply List.ext_getElem?
  intro i
  rw [mods_at]
  unfold Go.Proofs.YtjdofncognaaoaaGreatDoor.ghost
  rw [List.getElem?_mapIdx]
  cases l[i]? with
  | none => rfl
  | some o =>
    cases h : modAt S i <;> simp [h, repV]
abbrev Mk := Nat × Nat × Nat
abbrev Tk := Nat × Nat × Value
def mkS_ (mk : List Mk) (tk : List Tk) (p : Nat → Sl) : List (Nat × Value) := mk.map (fun x => (x.1, .slice (p x.1).1 x.2.2 (p x.1).2)) ++ tk.map (fun x => (x.1, x.2.2))
section
variable {P : Program} {l : List Oper} {w : World} {Q : Exit → Act → World → Prop}
structure Multi (P : Program) (l : List Oper) (mk : List Mk) (tk : List Tk) (R : Nat → Option Addr → Nat → World → Prop) (w : World) (A : (Nat → Sl) → Act) (Q : Exit → Act → World → Prop) : Prop where
  back : backB l = true
  dist : distinctB l = true
  nd : (mk.map (·.1) ++ tk.map (·.1)).Nodup
  lt : ∀ x ∈ mk, x.1 < l.length
  k : ∀ x ∈ mk, ∀ p, ∃ o, l[x.1]? = some o ∧ o.dst = some x.2.1 ∧ ∀ (a : Act) (W : World), Below w.heap.size w W → Given l x.1 a (A p) → Region.wanted o (yielded l.toArray a.tmps) = true ∧
    wpOp P l.toArray Q x.1 (fun a' W' => ∃ B k, a' = a.put (some x.2.1) (.slice B x.2.2 k) ∧ R x.1 B k W' ∧ Below W.heap.size W W') a W
  t : ∀ x ∈ tk, ∀ p, ∃ o, l[x.1]? = some o ∧ o.dst = some x.2.1 ∧ ∀ (a : Act) (W : World), Below w.heap.size w W → (∀ y ∈ mk, waitsB l x.1 y.1 = true → R y.1 (p y.1).1 (p y.1).2 W) → Given l x.1 a (A p) → Region.wanted o (yielded l.toArray a.tmps) = true ∧
    wpOp P l.toArray Q x.1 (fun a' W' => a' = a.put (some x.2.1) x.2.2 ∧ Below W.heap.size W W') a W
  stay : ∀ i B k W W', R i B k W → Below W.heap.size W W' → R i B k W'
  hA : ∀ p, A p = mk.foldl (fun a x => a.put (some x.2.1) (.slice (p x.1).1 x.2.2 (p x.1).2)) (A fun _ => (none, 0))
  hQ : ∀ p W, Below w.heap.size w W → (∀ y ∈ mk, R y.1 (p y.1).1 (p y.1).2 W) → Q .normal (A p) W
variable {mk : List Mk} {tk : List Tk} {R : Nat → Option Addr → Nat → World → Prop} {A : (Nat → Sl) → Act}
theorem fold_put_at (p : Nat → Sl) (d : Nat) : ∀ (mk : List Mk) (a : Act), (∀ x ∈ mk, x.2.1 ≠ d) → (mk.foldl (fun a x => a.put (some x.2.1) (.slice (p x.1).1 x.2.2 (p x.1).2)) a).tmps[d]? = a.tmps[d]?
  | [], a, _ => rfl
  | x :: mk, a, h => by
    rw [List.foldl_cons, fold_put_at p d mk _ fun y hy => h y (by simp [hy])]
    unfold Act.put
    dsimp only
    rw [Array.getElem?_setIfInBounds, if_neg (h x (by simp))]
theorem modAt_mem {S : List (Nat × Value)} {i : Nat} {v : Value} (h : modAt S i = some v) : (i, v) ∈ S := by
  unfold modAt at h
  cases hf : S.find? (fun x => x.1 == i) with
  | none => rw [hf] at h; cases h
  | some x =>
    rw [hf] at h
    have e1 : x.1 = i := by simpa using List.find?_some hf
    have e2 : x.2 = v := by simpa using h
    have := List.mem_of_find?_eq_some hf
    rw [← e1, ← e2]; exact this
theorem modAt_of {S : List (Nat × Value)} {i : Nat} {v : Value} (hn : (S.map (·.1)).Nodup) (h : (i, v) ∈ S) : modAt S i = some v := by
  unfold modAt
  induction S with
  | nil => cases h
  | cons x S ih =>
    rw [List.map_cons, List.nodup_cons] at hn
    rcases List.mem_cons.1 h with e | e
    · subst e; simp
    · have hne : ¬ x.1 = i := fun e1 => hn.1 (List.mem_map.2 ⟨(i, v), e, e1.symm⟩)
      rw [List.find?_cons_of_neg (by simpa using hne)]
      exact ih hn.2 e
theorem mkS_keys (mk : List Mk) (tk : List Tk) (p : Nat → Sl) : (mkS_ mk tk p).map (·.1) = mk.map (·.1) ++ tk.map (·.1) := by
  unfold mkS_
  rw [List.map_append, List.map_map, List.map_map]
  rfl
theorem mkS_some (mk : List Mk) (tk : List Tk) (p q : Nat → Sl) (i : Nat) : (modAt (mkS_ mk tk p) i).isSome = (modAt (mkS_ mk tk q) i).isSome := by
  have key : ∀ p : Nat → Sl, (modAt (mkS_ mk tk p) i).isSome = ((mk.map (·.1) ++ tk.map (·.1)).any fun j => j == i) := fun p => by
    rw [← mkS_keys mk tk p]
    unfold modAt
    rw [Option.isSome_map, Bool.eq_iff_iff, List.find?_isSome, List.any_map, List.any_eq_true]
    rfl
  rw [key p, key q]
def mSp (mk : List Mk) (tk : List Tk) (i : Nat) : Bool := (modAt (mkS_ mk tk fun _ => (none, 0)) i).isSome
def mΓ (mk : List Mk) (tk : List Tk) (p : Nat → Sl) (i : Nat) : Value := (modAt (mkS_ mk tk p) i).getD (.bool false)
theorem mSp_cases {i : Nat} (h : mSp mk tk i = true) : (∃ x ∈ mk, x.1 = i) ∨ ∃ x ∈ tk, x.1 = i := by
  unfold mSp at h
  obtain ⟨v, hv⟩ := Option.isSome_iff_exists.1 h
  have := modAt_mem hv
  unfold mkS_ at this
  rcases List.mem_append.1 this with h | h
  · obtain ⟨x, hx, e⟩ := List.mem_map.1 h
    exact .inl ⟨x, hx, congrArg Prod.fst e⟩
  · obtain ⟨x, hx, e⟩ := List.mem_map.1 h
    exact .inr ⟨x, hx, congrArg Prod.fst e⟩
theorem Multi.ghost (B : Multi P l mk tk R w A Q) : Ghost P l (mSp mk tk) (Nat → Sl) (mΓ mk tk) w A (fun s p W => ∀ y ∈ mk, s.getD y.1 true = true → R y.1 (p y.1).1 (p y.1).2 W) Q where
  back := B.back
  dist := B.dist
  hA := fun p p' d hd => by
    have hx : ∀ x ∈ mk, x.2.1 ≠ d := fun x hx e => by
      obtain ⟨o, ho, hod, _⟩ := B.k x hx p
      refine hd x.1 o ?_ ho (by rw [hod, e])
      unfold mSp
      rw [modAt_of (v := .slice none x.2.2 0) (by rw [mkS_keys]; exact B.nd) (by unfold mkS_; exact List.mem_append_left _ (List.mem_map.2 ⟨x, hx, rfl⟩))]
      rfl
    rw [B.hA p, B.hA p', fold_put_at p d mk _ hx, fold_put_at p' d mk _ hx]
  hJ := fun s i p W W' hsp hj hW hB y hy h => by
    have hn : i ≠ y.1 := fun e => by
      have : mSp mk tk y.1 = true := by
        unfold mSp
        rw [modAt_of (v := .slice none y.2.2 0) (by rw [mkS_keys]; exact B.nd) (by unfold mkS_; exact List.mem_append_left _ (List.mem_map.2 ⟨y, hy, rfl⟩))]
        rfl
      rw [e, this] at hsp; cases hsp
    exact B.stay _ _ _ _ _ (hj y hy (by rwa [set_keep hn] at h)) hB
  hS := fun s i o a p W hsp ho hi hsz hW hj hsl => by
    have hun := (mem_ready.1 hi).1
    have hgiv : Given l i a (A p) := fun j oj d hjo hjd hw => hsl j oj d hjo hjd (waits_at hw hi)
    rcases mSp_cases hsp with ⟨x, hx, rfl⟩ | ⟨x, hx, rfl⟩
    · obtain ⟨o', ho', hod, hr⟩ := B.k x hx p
      rw [ho] at ho'
      injection ho' with ho'
      subst ho'
      obtain ⟨hw, hop⟩ := hr a W hW hgiv
      refine ⟨hw, wpOp_mono (fun a' W' h => ?_) hop⟩
      obtain ⟨C, k, rfl, hR, hB⟩ := h
      refine ⟨fun j => if j = x.1 then (C, k) else p j, fun j hj2 hjs => ?_, b_then hW hB, ?_, fun y hy h => ?_⟩
      · have hji : j ≠ x.1 := fun e => by subst e; rw [hun] at hjs; cases hjs
        rcases mSp_cases hj2 with ⟨y, hy, rfl⟩ | ⟨y, hy, rfl⟩
        · unfold mΓ
          rw [modAt_of (by rw [mkS_keys]; exact B.nd) (show (y.1, Value.slice (p y.1).1 y.2.2 (p y.1).2) ∈ mkS_ mk tk (fun j => if j = x.1 then (C, k) else p j) by
            unfold mkS_; refine List.mem_append_left _ (List.mem_map.2 ⟨y, hy, ?_⟩); simp [hji])]
          rw [modAt_of (by rw [mkS_keys]; exact B.nd) (show (y.1, Value.slice (p y.1).1 y.2.2 (p y.1).2) ∈ mkS_ mk tk p by
            unfold mkS_; exact List.mem_append_left _ (List.mem_map.2 ⟨y, hy, rfl⟩))]
        · unfold mΓ
          rw [modAt_of (v := y.2.2) (by rw [mkS_keys]; exact B.nd) (by unfold mkS_; exact List.mem_append_right _ (List.mem_map.2 ⟨y, hy, rfl⟩))]
          rw [modAt_of (v := y.2.2) (by rw [mkS_keys]; exact B.nd) (by unfold mkS_; exact List.mem_append_right _ (List.mem_map.2 ⟨y, hy, rfl⟩))]
      · rw [hod]
        congr 1
        unfold mΓ
        rw [modAt_of (by rw [mkS_keys]; exact B.nd) (show (x.1, Value.slice C x.2.2 k) ∈ mkS_ mk tk (fun j => if j = x.1 then (C, k) else p j) by
          unfold mkS_; refine List.mem_append_left _ (List.mem_map.2 ⟨x, hx, ?_⟩); simp)]
        rfl
      · by_cases e : y.1 = x.1
        · simp only [e, if_true]; exact hR
        · simp only [e, if_false]
          exact B.stay _ _ _ _ _ (hj y hy (by rwa [set_keep (Ne.symm e)] at h)) hB
    · obtain ⟨o', ho', hod, hr⟩ := B.t x hx p
      rw [ho] at ho'
      injection ho' with ho'
      subst ho'
      obtain ⟨hw, hop⟩ := hr a W hW (fun y hy hwt => hj y hy (waits_at hwt hi)) hgiv
      refine ⟨hw, wpOp_mono (fun a' W' h => ?_) hop⟩
      obtain ⟨rfl, hB⟩ := h
      refine ⟨p, fun _ _ _ => rfl, b_then hW hB, ?_, fun y hy h => ?_⟩
      · rw [hod]
        congr 1
        unfold mΓ
        rw [modAt_of (v := x.2.2) (by rw [mkS_keys]; exact B.nd) (by unfold mkS_; exact List.mem_append_right _ (List.mem_map.2 ⟨x, hx, rfl⟩))]
        rfl
      · have hne : x.1 ≠ y.1 := fun e => by
          have hn := B.nd
          rw [List.nodup_append] at hn
          exact hn.2.2 y.1 (List.mem_map.2 ⟨y, hy, rfl⟩) x.1 (List.mem_map.2 ⟨x, hx, rfl⟩) e.symm
        exact B.stay _ _ _ _ _ (hj y hy (by rwa [set_keep hne] at h)) hB
  hQ := fun s p W hall hj hW => B.hQ p W hW fun y hy => hj y hy (hall y.1 (B.lt y hy))
theorem ghost_multi (p : Nat → Sl) : Go.Proofs.YtjdofncognaaoaaGreatDoor.ghost (mSp mk tk) (mΓ mk tk p) l = mods (mkS_ mk tk p) l := by
  rw [← ghost_mods]
  congr 1
  funext i
  unfold mSp
  exact mkS_some mk tk _ p i
theorem wp_region_multi {id : Nat} {a : Act} (mk : List Mk) (tk : List Tk) (R : Nat → Option Addr → Nat → World → Prop) (A : (Nat → Sl) → Act) (hm : P.follows .mixedOrders = true) (hB : ∀ p : Nat → Sl, Region.lexB .any (mods (mkS_ mk tk p) l).toArray = true)
    (h : ∀ (p : Nat → Sl) (x : After w), wpQuiet P (mods (mkS_ mk tk p) l).toArray (fun w' => ∃ y : After x.W, w' = y.W) (fun a' => a' = A p) (mods (mkS_ mk tk p) l) a)
    (B : Multi P l mk tk R w A Q) : (Code.region id l.toArray true).wp P Q a w :=
  wp_region_ghost (fun _ => (none, 0) : Nat → Sl) hm (fun p => by rw [ghost_multi p]; exact hB p) (fun p x => by rw [ghost_multi p]; exact h p x)
    (fun W hW y hy h => by rw [getD_replicate_false' (B.lt y hy)] at h; cases h) B.ghost
/-- A maker that is a call. -/
theorem mk_call {i d m : Nat} {o : Oper} {a : Act} {W : World} {f : FuncId} {args : Array Value} {R : Option Addr → Nat → World → Prop} (ho : l[i]? = some o) (hod : o.dst = some d) (hg : Region.wanted o (yielded l.toArray a.tmps) = true)
    (hr : (execOp a.eval o).run P W = .ok (.enter f args) W) (h : Calls P f args W fun e w' => ∃ B k, e = .returned (.slice B m k) ∧ R B k w' ∧ Below W.heap.size W w') :
    Region.wanted o (yielded l.toArray a.tmps) = true ∧ wpOp P l.toArray Q i (fun a' W' => ∃ B k, a' = a.put (some d) (.slice B m k) ∧ R B k W' ∧ Below W.heap.size W W') a W :=
  ⟨hg, wpOp_call ho hg hr (h.mono fun e w' ⟨B, k, he, hR, hB⟩ => ⟨_, he, B, k, by rw [hod], hR, hB⟩)⟩
/-- A taker that is a call. -/
theorem tk_call {i d : Nat} {v : Value} {o : Oper} {a : Act} {W : World} {f : FuncId} {args : Array Value} (ho : l[i]? = some o) (hod : o.dst = some d) (hg : Region.wanted o (yielded l.toArray a.tmps) = true)
    (hr : (execOp a.eval o).run P W = .ok (.enter f args) W) (h : Calls P f args W fun e w' => e = .returned v ∧ Below W.heap.size W w') :
    Region.wanted o (yielded l.toArray a.tmps) = true ∧ wpOp P l.toArray Q i (fun a' W' => a' = a.put (some d) v ∧ Below W.heap.size W W') a W :=
  ⟨hg, wpOp_call ho hg hr (h.mono fun e w' ⟨he, hB⟩ => ⟨_, he, by rw [hod], hB⟩)⟩
end
end Go.Proofs.YtjdofncognaaoaaGreatDoor

/- A region that draws its order: operations that make structs with a slice in them, operations that take them. -/
namespace Go.Proofs.YtjdofncognaaoaaGreatDoor
open Go Go.RowKit
set_option linter.unusedVariables false
set_option linter.unusedSimpArgs false

abbrev MkV := Nat × Nat × (Sl → Value)
def mkS_V (mk : List MkV) (tk : List Tk) (p : Nat → Sl) : List (Nat × Value) := mk.map (fun x => (x.1, x.2.2 (p x.1))) ++ tk.map (fun x => (x.1, x.2.2))
section
variable {P : Program} {l : List Oper} {w : World} {Q : Exit → Act → World → Prop}
structure MultiV (P : Program) (l : List Oper) (mk : List MkV) (tk : List Tk) (R : Nat → Option Addr → Nat → World → Prop) (w : World) (A : (Nat → Sl) → Act) (Q : Exit → Act → World → Prop) : Prop where
  back : backB l = true
  dist : distinctB l = true
  nd : (mk.map (·.1) ++ tk.map (·.1)).Nodup
  lt : ∀ x ∈ mk, x.1 < l.length
  k : ∀ x ∈ mk, ∀ p, ∃ o, l[x.1]? = some o ∧ o.dst = some x.2.1 ∧ ∀ (a : Act) (W : World), Below w.heap.size w W → Given l x.1 a (A p) → Region.wanted o (yielded l.toArray a.tmps) = true ∧
    wpOp P l.toArray Q x.1 (fun a' W' => ∃ B k, a' = a.put (some x.2.1) (x.2.2 (B, k)) ∧ R x.1 B k W' ∧ Below W.heap.size W W') a W
  t : ∀ x ∈ tk, ∀ p, ∃ o, l[x.1]? = some o ∧ o.dst = some x.2.1 ∧ ∀ (a : Act) (W : World), Below w.heap.size w W → (∀ y ∈ mk, waitsB l x.1 y.1 = true → R y.1 (p y.1).1 (p y.1).2 W) → Given l x.1 a (A p) → Region.wanted o (yielded l.toArray a.tmps) = true ∧
    wpOp P l.toArray Q x.1 (fun a' W' => a' = a.put (some x.2.1) x.2.2 ∧ Below W.heap.size W W') a W
  stay : ∀ i B k W W', R i B k W → Below W.heap.size W W' → R i B k W'
  hA : ∀ p, A p = mk.foldl (fun a x => a.put (some x.2.1) (x.2.2 (p x.1))) (A fun _ => (none, 0))
  hQ : ∀ p W, Below w.heap.size w W → (∀ y ∈ mk, R y.1 (p y.1).1 (p y.1).2 W) → Q .normal (A p) W
variable {mk : List MkV} {tk : List Tk} {R : Nat → Option Addr → Nat → World → Prop} {A : (Nat → Sl) → Act}
theorem fold_put_atV (p : Nat → Sl) (d : Nat) : ∀ (mk : List MkV) (a : Act), (∀ x ∈ mk, x.2.1 ≠ d) → (mk.foldl (fun a x => a.put (some x.2.1) (x.2.2 (p x.1))) a).tmps[d]? = a.tmps[d]?
  | [], a, _ => rfl
  | x :: mk, a, h => by
    rw [List.foldl_cons, fold_put_atV p d mk _ fun y hy => h y (by simp [hy])]
    unfold Act.put
    dsimp only
    rw [Array.getElem?_setIfInBounds, if_neg (h x (by simp))]
theorem mkS_keysV (mk : List MkV) (tk : List Tk) (p : Nat → Sl) : (mkS_V mk tk p).map (·.1) = mk.map (·.1) ++ tk.map (·.1) := by
  unfold mkS_V
  rw [List.map_append, List.map_map, List.map_map]
  rfl
theorem mkS_someV (mk : List MkV) (tk : List Tk) (p q : Nat → Sl) (i : Nat) : (modAt (mkS_V mk tk p) i).isSome = (modAt (mkS_V mk tk q) i).isSome := by
  have key : ∀ p : Nat → Sl, (modAt (mkS_V mk tk p) i).isSome = ((mk.map (·.1) ++ tk.map (·.1)).any fun j => j == i) := fun p => by
    rw [← mkS_keysV mk tk p]
    unfold modAt
    rw [Option.isSome_map, Bool.eq_iff_iff, List.find?_isSome, List.any_map, List.any_eq_true]
    rfl
  rw [key p, key q]
def mSpV (mk : List MkV) (tk : List Tk) (i : Nat) : Bool := (modAt (mkS_V mk tk fun _ => (none, 0)) i).isSome
def mΓV (mk : List MkV) (tk : List Tk) (p : Nat → Sl) (i : Nat) : Value := (modAt (mkS_V mk tk p) i).getD (.bool false)
theorem mSp_casesV {i : Nat} (h : mSpV mk tk i = true) : (∃ x ∈ mk, x.1 = i) ∨ ∃ x ∈ tk, x.1 = i := by
  unfold mSpV at h
  obtain ⟨v, hv⟩ := Option.isSome_iff_exists.1 h
  have := modAt_mem hv
  unfold mkS_V at this
  rcases List.mem_append.1 this with h | h
  · obtain ⟨x, hx, e⟩ := List.mem_map.1 h
    exact .inl ⟨x, hx, congrArg Prod.fst e⟩
  · obtain ⟨x, hx, e⟩ := List.mem_map.1 h
    exact .inr ⟨x, hx, congrArg Prod.fst e⟩
theorem MultiV.ghost (B : MultiV P l mk tk R w A Q) : Ghost P l (mSpV mk tk) (Nat → Sl) (mΓV mk tk) w A (fun s p W => ∀ y ∈ mk, s.getD y.1 true = true → R y.1 (p y.1).1 (p y.1).2 W) Q where
  back := B.back
  dist := B.dist
  hA := fun p p' d hd => by
    have hx : ∀ x ∈ mk, x.2.1 ≠ d := fun x hx e => by
      obtain ⟨o, ho, hod, _⟩ := B.k x hx p
      refine hd x.1 o ?_ ho (by rw [hod, e])
      unfold mSpV
      rw [modAt_of (v := x.2.2 (none, 0)) (by rw [mkS_keysV]; exact B.nd) (by unfold mkS_V; exact List.mem_append_left _ (List.mem_map.2 ⟨x, hx, rfl⟩))]
      rfl
    rw [B.hA p, B.hA p', fold_put_atV p d mk _ hx, fold_put_atV p' d mk _ hx]
  hJ := fun s i p W W' hsp hj hW hB y hy h => by
    have hn : i ≠ y.1 := fun e => by
      have : mSpV mk tk y.1 = true := by
        unfold mSpV
        rw [modAt_of (v := y.2.2 (none, 0)) (by rw [mkS_keysV]; exact B.nd) (by unfold mkS_V; exact List.mem_append_left _ (List.mem_map.2 ⟨y, hy, rfl⟩))]
        rfl
      rw [e, this] at hsp; cases hsp
    exact B.stay _ _ _ _ _ (hj y hy (by rwa [set_keep hn] at h)) hB
  hS := fun s i o a p W hsp ho hi hsz hW hj hsl => by
    have hun := (mem_ready.1 hi).1
    have hgiv : Given l i a (A p) := fun j oj d hjo hjd hw => hsl j oj d hjo hjd (waits_at hw hi)
    rcases mSp_casesV hsp with ⟨x, hx, rfl⟩ | ⟨x, hx, rfl⟩
    · obtain ⟨o', ho', hod, hr⟩ := B.k x hx p
      rw [ho] at ho'
      injection ho' with ho'
      subst ho'
      obtain ⟨hw, hop⟩ := hr a W hW hgiv
      refine ⟨hw, wpOp_mono (fun a' W' h => ?_) hop⟩
      obtain ⟨C, k, rfl, hR, hB⟩ := h
      refine ⟨fun j => if j = x.1 then (C, k) else p j, fun j hj2 hjs => ?_, b_then hW hB, ?_, fun y hy h => ?_⟩
      · have hji : j ≠ x.1 := fun e => by subst e; rw [hun] at hjs; cases hjs
        rcases mSp_casesV hj2 with ⟨y, hy, rfl⟩ | ⟨y, hy, rfl⟩
        · unfold mΓV
          rw [modAt_of (by rw [mkS_keysV]; exact B.nd) (show (y.1, y.2.2 (p y.1)) ∈ mkS_V mk tk (fun j => if j = x.1 then (C, k) else p j) by
            unfold mkS_V; refine List.mem_append_left _ (List.mem_map.2 ⟨y, hy, ?_⟩); simp [hji])]
          rw [modAt_of (by rw [mkS_keysV]; exact B.nd) (show (y.1, y.2.2 (p y.1)) ∈ mkS_V mk tk p by
            unfold mkS_V; exact List.mem_append_left _ (List.mem_map.2 ⟨y, hy, rfl⟩))]
        · unfold mΓV
          rw [modAt_of (v := y.2.2) (by rw [mkS_keysV]; exact B.nd) (by unfold mkS_V; exact List.mem_append_right _ (List.mem_map.2 ⟨y, hy, rfl⟩))]
          rw [modAt_of (v := y.2.2) (by rw [mkS_keysV]; exact B.nd) (by unfold mkS_V; exact List.mem_append_right _ (List.mem_map.2 ⟨y, hy, rfl⟩))]
      · rw [hod]
        congr 1
        unfold mΓV
        rw [modAt_of (by rw [mkS_keysV]; exact B.nd) (show (x.1, x.2.2 (C, k)) ∈ mkS_V mk tk (fun j => if j = x.1 then (C, k) else p j) by
          unfold mkS_V; refine List.mem_append_left _ (List.mem_map.2 ⟨x, hx, ?_⟩); simp)]
        rfl
      · by_cases e : y.1 = x.1
        · simp only [e, if_true]; exact hR
        · simp only [e, if_false]
          exact B.stay _ _ _ _ _ (hj y hy (by rwa [set_keep (Ne.symm e)] at h)) hB
    · obtain ⟨o', ho', hod, hr⟩ := B.t x hx p
      rw [ho] at ho'
      injection ho' with ho'
      subst ho'
      obtain ⟨hw, hop⟩ := hr a W hW (fun y hy hwt => hj y hy (waits_at hwt hi)) hgiv
      refine ⟨hw, wpOp_mono (fun a' W' h => ?_) hop⟩
      obtain ⟨rfl, hB⟩ := h
      refine ⟨p, fun _ _ _ => rfl, b_then hW hB, ?_, fun y hy h => ?_⟩
      · rw [hod]
        congr 1
        unfold mΓV
        rw [modAt_of (v := x.2.2) (by rw [mkS_keysV]; exact B.nd) (by unfold mkS_V; exact List.mem_append_right _ (List.mem_map.2 ⟨x, hx, rfl⟩))]
        rfl
      · have hne : x.1 ≠ y.1 := fun e => by
          have hn := B.nd
          rw [List.nodup_append] at hn
          exact hn.2.2 y.1 (List.mem_map.2 ⟨y, hy, rfl⟩) x.1 (List.mem_map.2 ⟨x, hx, rfl⟩) e.symm
        exact B.stay _ _ _ _ _ (hj y hy (by rwa [set_keep hne] at h)) hB
  hQ := fun s p W hall hj hW => B.hQ p W hW fun y hy => hj y hy (hall y.1 (B.lt y hy))
theorem ghost_multiV (p : Nat → Sl) : Go.Proofs.YtjdofncognaaoaaGreatDoor.ghost (mSpV mk tk) (mΓV mk tk p) l = mods (mkS_V mk tk p) l := by
  rw [← ghost_mods]
  congr 1
  funext i
  unfold mSpV
  exact mkS_someV mk tk _ p i
theorem wp_region_multiv {id : Nat} {a : Act} (mk : List MkV) (tk : List Tk) (R : Nat → Option Addr → Nat → World → Prop) (A : (Nat → Sl) → Act) (hm : P.follows .mixedOrders = true) (hB : ∀ p : Nat → Sl, Region.lexB .any (mods (mkS_V mk tk p) l).toArray = true)
    (h : ∀ (p : Nat → Sl) (x : After w), wpQuiet P (mods (mkS_V mk tk p) l).toArray (fun w' => ∃ y : After x.W, w' = y.W) (fun a' => a' = A p) (mods (mkS_V mk tk p) l) a)
    (B : MultiV P l mk tk R w A Q) : (Code.region id l.toArray true).wp P Q a w :=
  wp_region_ghost (fun _ => (none, 0) : Nat → Sl) hm (fun p => by rw [ghost_multiV p]; exact hB p) (fun p x => by rw [ghost_multiV p]; exact h p x)
    (fun W hW y hy h => by rw [getD_replicate_false' (B.lt y hy)] at h; cases h) B.ghost
/-- A maker that is a call. -/
theorem mk_callV {i d : Nat} {v : Sl → Value} {o : Oper} {a : Act} {W : World} {f : FuncId} {args : Array Value} {R : Option Addr → Nat → World → Prop} (ho : l[i]? = some o) (hod : o.dst = some d) (hg : Region.wanted o (yielded l.toArray a.tmps) = true)
    (hr : (execOp a.eval o).run P W = .ok (.enter f args) W) (h : Calls P f args W fun e w' => ∃ B k, e = .returned (v (B, k)) ∧ R B k w' ∧ Below W.heap.size W w') :
    Region.wanted o (yielded l.toArray a.tmps) = true ∧ wpOp P l.toArray Q i (fun a' W' => ∃ B k, a' = a.put (some d) (v (B, k)) ∧ R B k W' ∧ Below W.heap.size W W') a W :=
  ⟨hg, wpOp_call ho hg hr (h.mono fun e w' ⟨B, k, he, hR, hB⟩ => ⟨_, he, B, k, by rw [hod], hR, hB⟩)⟩
end
/-! ### One special head, whose answer is whatever value over a place -/
section
variable {P : Program} {l : List Oper} {w : World} {Q : Exit → Act → World → Prop}
structure SrcV (P : Program) (l : List Oper) (i d n : Nat) (V : Sl → Value) (R : Option Addr → Nat → World → Prop) (w : World) (A : Sl → Act) (Q : Exit → Act → World → Prop) : Prop where
  back : backB l = true
  dist : distinctB l = true
  le : n ≤ l.length
  lt : i < n
  k : ∀ p, ∃ o, l[i]? = some o ∧ o.dst = some d ∧ ∀ (a : Act) (W : World), Below w.heap.size w W → Given l i a (A p) → Region.wanted o (yielded l.toArray a.tmps) = true ∧
    wpOp P l.toArray Q i (fun a' W' => ∃ B k, a' = a.put (some d) (V (B, k)) ∧ R B k W' ∧ Below W.heap.size W W') a W
  stay : ∀ B k W W', R B k W → Below W.heap.size W W' → R B k W'
  hA : ∀ p, A p = (A (none, 0)).put (some d) (V p)
  hQ : ∀ p W, R p.1 p.2 W → Below w.heap.size w W → wpList P l.toArray Q (l.drop n) (A p) W
variable {i d n : Nat} {V : Sl → Value} {R : Option Addr → Nat → World → Prop} {A : Sl → Act}
theorem SrcV.ghost (B : SrcV P l i d n V R w A Q) : GhostA P l (fun j => j == i) Sl (fun p _ => V p) w A (fun s p W => s.getD i true = true → R p.1 p.2 W) Q n where
  back := B.back
  dist := B.dist
  le := B.le
  hA := fun p p' d' hd => by
    obtain ⟨o, ho, e, _⟩ := B.k p
    have n1 : d ≠ d' := fun e' => hd i o (by simp) ho (by rw [e, e'])
    rw [B.hA p, B.hA p']
    unfold Act.put
    dsimp only
    rw [Array.getElem?_setIfInBounds, if_neg n1, Array.getElem?_setIfInBounds, if_neg n1]
  hJ := fun s j p W W' hsp hj hW hB h => by
    have hn : j ≠ i := by simpa using hsp
    exact B.stay _ _ _ _ (hj (by rwa [set_keep hn] at h)) hB
  hS := fun s j o a p W hsp ho hi hsz hW hj hsl => by
    obtain rfl : j = i := by simpa using hsp
    have hun := (mem_ready.1 hi).1
    have hgiv : Given l j a (A p) := fun t oj d' hjo hjd hw => hsl t oj d' hjo hjd (waits_at hw hi)
    obtain ⟨o', ho', hod, hr⟩ := B.k p
    rw [ho] at ho'
    injection ho' with ho'
    subst ho'
    obtain ⟨hw, hop⟩ := hr a W hW hgiv
    refine ⟨hw, wpOp_mono (fun a' W' h => ?_) hop⟩
    obtain ⟨C, k, rfl, hR, hB⟩ := h
    refine ⟨(C, k), ?_, b_then hW hB, by rw [hod], fun _ => hR⟩
    intro t ht hs
    have : t = j := by simpa using ht
    subst this
    rw [hun] at hs; cases hs
  hQ := fun s p W hall hj hW => B.hQ p W (hj (hall i B.lt)) hW
theorem ghost_srcv (p : Sl) : Go.Proofs.YtjdofncognaaoaaGreatDoor.ghost (fun j => j == i) (fun _ => V p) l = srcl l i (V p) := by
  apply List.ext_getElem?
  intro j
  unfold Go.Proofs.YtjdofncognaaoaaGreatDoor.ghost srcl
  rw [List.getElem?_mapIdx, List.getElem?_modify]
  cases l[j]? with
  | none => rfl
  | some o =>
    by_cases e1 : j = i
    · subst e1; simp [repV]
    · simp [e1, Ne.symm e1]
theorem wp_region_srcv {id : Nat} {a : Act} (n i d : Nat) (V : Sl → Value) (R : Option Addr → Nat → World → Prop) (A : Sl → Act) (hm : P.follows .mixedOrders = true) (hB : ∀ p : Sl, Region.lexTailB .any (srcl l i (V p)).toArray n = true)
    (h : ∀ (p : Sl) (x : After w), wpQuiet P (srcl l i (V p)).toArray (fun w' => ∃ y : After x.W, w' = y.W) (fun a' => a' = A p) ((srcl l i (V p)).take n) a)
    (B : SrcV P l i d n V R w A Q) : (Code.region id l.toArray true).wp P Q a w := by
  have hil : i < l.length := Nat.lt_of_lt_of_le B.lt B.le
  exact wp_region_gha ((none, 0) : Sl) n hm (fun p => by rw [ghost_srcv p]; exact hB p) (fun p x => by rw [ghost_srcv p]; exact h p x)
    (fun W hW h => by rw [getD_replicate_false' hil] at h; cases h) B.ghost
/-- A variable that is made. -/
theorem srcv_alloc {base : Nat} {o : Oper} {a : Act} {W : World} {T : TypeId} {zs : Array Value} (ho : l[i]? = some o) (hod : o.dst = some d) (hg : o.guard = none)
    (hr : (execOp a.eval o).run P W = .ok (.value (.pointer (some ⟨W.heap.size, 0, none⟩))) (W.alloc (.cells zs T))) (hb : base ≤ W.heap.size) :
    Region.wanted o (yielded l.toArray a.tmps) = true ∧ wpOp P l.toArray Q i (fun a' W' => ∃ (B : Option Addr) (k : Nat), a' = a.put (some d) (.pointer B) ∧ (∃ g, B = some ⟨g, 0, none⟩ ∧ Blk W' g T zs ∧ base ≤ g) ∧ Below W.heap.size W W') a W :=
  ⟨wanted_none hg, wpOp_val ho (wanted_none hg) hr ⟨_, 0, by rw [hod], ⟨_, rfl, Blk.new W T zs, hb⟩, b_alloc (Below.refl _ _) _⟩⟩
end
end Go.Proofs.YtjdofncognaaoaaGreatDoor

/- A region that draws its order: operations that make, each maybe of what others made, and operations that take. -/
namespace Go.Proofs.YtjdofncognaaoaaGreatDoor
open Go Go.RowKit
set_option linter.unusedVariables false
set_option linter.unusedSimpArgs false

section
variable {P : Program} {l : List Oper} {w : World} {Q : Exit → Act → World → Prop}
structure MultiC (P : Program) (l : List Oper) (mk : List MkV) (tk : List Tk) (R : Nat → Option Addr → Nat → World → Prop) (w : World) (A : (Nat → Sl) → Act) (Q : Exit → Act → World → Prop) : Prop where
  back : backB l = true
  dist : distinctB l = true
  nd : (mk.map (·.1) ++ tk.map (·.1)).Nodup
  lt : ∀ x ∈ mk, x.1 < l.length
  k : ∀ x ∈ mk, ∀ p, ∃ o, l[x.1]? = some o ∧ o.dst = some x.2.1 ∧ ∀ (a : Act) (W : World), Below w.heap.size w W → (∀ y ∈ mk, waitsB l x.1 y.1 = true → R y.1 (p y.1).1 (p y.1).2 W) → Given l x.1 a (A p) → Region.wanted o (yielded l.toArray a.tmps) = true ∧
    wpOp P l.toArray Q x.1 (fun a' W' => ∃ B k, a' = a.put (some x.2.1) (x.2.2 (B, k)) ∧ R x.1 B k W' ∧ Below W.heap.size W W') a W
  t : ∀ x ∈ tk, ∀ p, ∃ o, l[x.1]? = some o ∧ o.dst = some x.2.1 ∧ ∀ (a : Act) (W : World), Below w.heap.size w W → (∀ y ∈ mk, waitsB l x.1 y.1 = true → R y.1 (p y.1).1 (p y.1).2 W) → Given l x.1 a (A p) → Region.wanted o (yielded l.toArray a.tmps) = true ∧
    wpOp P l.toArray Q x.1 (fun a' W' => a' = a.put (some x.2.1) x.2.2 ∧ Below W.heap.size W W') a W
  stay : ∀ i B k W W', R i B k W → Below W.heap.size W W' → R i B k W'
  hA : ∀ p, A p = mk.foldl (fun a x => a.put (some x.2.1) (x.2.2 (p x.1))) (A fun _ => (none, 0))
  hQ : ∀ p W, Below w.heap.size w W → (∀ y ∈ mk, R y.1 (p y.1).1 (p y.1).2 W) → Q .normal (A p) W
variable {mk : List MkV} {tk : List Tk} {R : Nat → Option Addr → Nat → World → Prop} {A : (Nat → Sl) → Act}
theorem MultiC.ghost (B : MultiC P l mk tk R w A Q) : Ghost P l (mSpV mk tk) (Nat → Sl) (mΓV mk tk) w A (fun s p W => ∀ y ∈ mk, s.getD y.1 true = true → R y.1 (p y.1).1 (p y.1).2 W) Q where
  back := B.back
  dist := B.dist
  hA := fun p p' d hd => by
    have hx : ∀ x ∈ mk, x.2.1 ≠ d := fun x hx e => by
      obtain ⟨o, ho, hod, _⟩ := B.k x hx p
      refine hd x.1 o ?_ ho (by rw [hod, e])
      unfold mSpV
      rw [modAt_of (v := x.2.2 (none, 0)) (by rw [mkS_keysV]; exact B.nd) (by unfold mkS_V; exact List.mem_append_left _ (List.mem_map.2 ⟨x, hx, rfl⟩))]
      rfl
    rw [B.hA p, B.hA p', fold_put_atV p d mk _ hx, fold_put_atV p' d mk _ hx]
  hJ := fun s i p W W' hsp hj hW hB y hy h => by
    have hn : i ≠ y.1 := fun e => by
      have : mSpV mk tk y.1 = true := by
        unfold mSpV
        rw [modAt_of (v := y.2.2 (none, 0)) (by rw [mkS_keysV]; exact B.nd) (by unfold mkS_V; exact List.mem_append_left _ (List.mem_map.2 ⟨y, hy, rfl⟩))]
        rfl
      rw [e, this] at hsp; cases hsp
    exact B.stay _ _ _ _ _ (hj y hy (by rwa [set_keep hn] at h)) hB
  hS := fun s i o a p W hsp ho hi hsz hW hj hsl => by
    have hun := (mem_ready.1 hi).1
    have hgiv : Given l i a (A p) := fun j oj d hjo hjd hw => hsl j oj d hjo hjd (waits_at hw hi)
    rcases mSp_casesV hsp with ⟨x, hx, rfl⟩ | ⟨x, hx, rfl⟩
    · obtain ⟨o', ho', hod, hr⟩ := B.k x hx p
      rw [ho] at ho'
      injection ho' with ho'
      subst ho'
      obtain ⟨hw, hop⟩ := hr a W hW (fun y hy hwt => hj y hy (waits_at hwt hi)) hgiv
      refine ⟨hw, wpOp_mono (fun a' W' h => ?_) hop⟩
      obtain ⟨C, k, rfl, hR, hB⟩ := h
      refine ⟨fun j => if j = x.1 then (C, k) else p j, fun j hj2 hjs => ?_, b_then hW hB, ?_, fun y hy h => ?_⟩
      · have hji : j ≠ x.1 := fun e => by subst e; rw [hun] at hjs; cases hjs
        rcases mSp_casesV hj2 with ⟨y, hy, rfl⟩ | ⟨y, hy, rfl⟩
        · unfold mΓV
          rw [modAt_of (by rw [mkS_keysV]; exact B.nd) (show (y.1, y.2.2 (p y.1)) ∈ mkS_V mk tk (fun j => if j = x.1 then (C, k) else p j) by
            unfold mkS_V; refine List.mem_append_left _ (List.mem_map.2 ⟨y, hy, ?_⟩); simp [hji])]
          rw [modAt_of (by rw [mkS_keysV]; exact B.nd) (show (y.1, y.2.2 (p y.1)) ∈ mkS_V mk tk p by
            unfold mkS_V; exact List.mem_append_left _ (List.mem_map.2 ⟨y, hy, rfl⟩))]
        · unfold mΓV
          rw [modAt_of (v := y.2.2) (by rw [mkS_keysV]; exact B.nd) (by unfold mkS_V; exact List.mem_append_right _ (List.mem_map.2 ⟨y, hy, rfl⟩))]
          rw [modAt_of (v := y.2.2) (by rw [mkS_keysV]; exact B.nd) (by unfold mkS_V; exact List.mem_append_right _ (List.mem_map.2 ⟨y, hy, rfl⟩))]
      · rw [hod]
        congr 1
        unfold mΓV
        rw [modAt_of (by rw [mkS_keysV]; exact B.nd) (show (x.1, x.2.2 (C, k)) ∈ mkS_V mk tk (fun j => if j = x.1 then (C, k) else p j) by
          unfold mkS_V; refine List.mem_append_left _ (List.mem_map.2 ⟨x, hx, ?_⟩); simp)]
        rfl
      · by_cases e : y.1 = x.1
        · simp only [e, if_true]; exact hR
        · simp only [e, if_false]
          exact B.stay _ _ _ _ _ (hj y hy (by rwa [set_keep (Ne.symm e)] at h)) hB
    · obtain ⟨o', ho', hod, hr⟩ := B.t x hx p
      rw [ho] at ho'
      injection ho' with ho'
      subst ho'
      obtain ⟨hw, hop⟩ := hr a W hW (fun y hy hwt => hj y hy (waits_at hwt hi)) hgiv
      refine ⟨hw, wpOp_mono (fun a' W' h => ?_) hop⟩
      obtain ⟨rfl, hB⟩ := h
      refine ⟨p, fun _ _ _ => rfl, b_then hW hB, ?_, fun y hy h => ?_⟩
      · rw [hod]
        congr 1
        unfold mΓV
        rw [modAt_of (v := x.2.2) (by rw [mkS_keysV]; exact B.nd) (by unfold mkS_V; exact List.mem_append_right _ (List.mem_map.2 ⟨x, hx, rfl⟩))]
        rfl
      · have hne : x.1 ≠ y.1 := fun e => by
          have hn := B.nd
          rw [List.nodup_append] at hn
          exact hn.2.2 y.1 (List.mem_map.2 ⟨y, hy, rfl⟩) x.1 (List.mem_map.2 ⟨x, hx, rfl⟩) e.symm
        exact B.stay _ _ _ _ _ (hj y hy (by rwa [set_keep hne] at h)) hB
  hQ := fun s p W hall hj hW => B.hQ p W hW fun y hy => hj y hy (hall y.1 (B.lt y hy))
theorem wp_region_multic {id : Nat} {a : Act} (mk : List MkV) (tk : List Tk) (R : Nat → Option Addr → Nat → World → Prop) (A : (Nat → Sl) → Act) (hm : P.follows .mixedOrders = true) (hB : ∀ p : Nat → Sl, Region.lexB .any (mods (mkS_V mk tk p) l).toArray = true)
    (h : ∀ (p : Nat → Sl) (x : After w), wpQuiet P (mods (mkS_V mk tk p) l).toArray (fun w' => ∃ y : After x.W, w' = y.W) (fun a' => a' = A p) (mods (mkS_V mk tk p) l) a)
    (B : MultiC P l mk tk R w A Q) : (Code.region id l.toArray true).wp P Q a w :=
  wp_region_ghost (fun _ => (none, 0) : Nat → Sl) hm (fun p => by rw [ghost_multiV p]; exact hB p) (fun p x => by rw [ghost_multiV p]; exact h p x)
    (fun W hW y hy h => by rw [getD_replicate_false' (B.lt y hy)] at h; cases h) B.ghost
end
end Go.Proofs.YtjdofncognaaoaaGreatDoor
