/- Terms: plain words and laws. -/
import Derived.Test.YtjdofncognaaoaaGreatDoorNames
namespace Go.Proofs.YtjdofncognaaoaaGreatDoor
open Go.RowKit
set_option linter.unusedVariables false
set_option linter.unusedSimpArgs false

/-- A node of a term. -/
structure Nd where
  op : Int
  num : RT
  asset : ByteArray
  a : Int
  b : Int
  deriving DecidableEq
def Nd.cs (x : Nd) : List Value := [.int .i64 x.op, .string x.num.num, .string x.num.den, .string x.asset, .int .i64 x.a, .int .i64 x.b]
def arity (op : Int) : Int := if op < 0 ∨ 12 < op then -1 else if op ≤ 4 then 0 else if op = 5 then 1 else if op ≤ 11 then 2 else 3
theorem arity_le (op : Int) : arity op ≤ 3 := by unfold arity; split; · omega
                                                 split; · omega
                                                 split; · omega
                                                 split <;> omega
section
variable {T : Type}
/-- One node reckoned, on the stack of what is reckoned. -/
def tstep (node : Nd → List T → Option T) (st : List T) (n : Nd) : Option (List T) :=
  if arity n.op < 0 ∨ (st.length : Int) < arity n.op then none
  else (node n (st.drop (st.length - (arity n.op).toNat))).map fun x => st.take (st.length - (arity n.op).toNat) ++ [x]
def tfold (node : Nd → List T → Option T) : List T → List Nd → Option (List T)
  | st, [] => some st
  | st, n :: t => (tstep node st n).bind fun s => tfold node s t
def tone : List T → Option T
  | [x] => some x
  | _ => none
/-- What a term comes to. -/
def tval (node : Nd → List T → Option T) (t : List Nd) : Option T := if t.length ≤ 2000 then (tfold node [] t).bind tone else none
variable {node : Nd → List T → Option T}
theorem tfold_append : ∀ (s t : List Nd) (st : List T), tfold node st (s ++ t) = (tfold node st s).bind fun u => tfold node u t
  | [], t, st => rfl
  | n :: s, t, st => by
    show (tstep node st n).bind (fun s' => tfold node s' (s ++ t)) = ((tstep node st n).bind fun s' => tfold node s' s).bind _
    cases tstep node st n with
    | none => rfl
    | some u => exact tfold_append s t u
theorem tfold_snoc (s : List Nd) (n : Nd) (st : List T) : tfold node st (s ++ [n]) = (tfold node st s).bind fun u => tstep node u n := by
  rw [tfold_append]
  congr 1
  funext u
  show (tstep node u n).bind some = _
  cases tstep node u n <;> rfl
/-- What lies below is left alone. -/
theorem tstep_on {st u : List T} {n : Nd} (h : tstep node st n = some u) (b : List T) : tstep node (b ++ st) n = some (b ++ u) := by
  unfold tstep at h ⊢
  split at h
  · cases h
  next hc =>
    have hk : (arity n.op).toNat ≤ st.length := by omega
    have hl : (b ++ st).length - (arity n.op).toNat = b.length + (st.length - (arity n.op).toNat) := by rw [List.length_append]; omega
    rw [if_neg (by rw [List.length_append]; omega), hl, List.drop_append, List.take_append]
    have e1 : List.drop (b.length + (st.length - (arity n.op).toNat)) b = [] := List.drop_of_length_le (by omega)
    have e2 : List.take (b.length + (st.length - (arity n.op).toNat)) b = b := List.take_of_length_le (by omega)
    rw [e1, e2, Nat.add_sub_cancel_left, List.nil_append]
    cases hx : node n (st.drop (st.length - (arity n.op).toNat)) with
    | none => rw [hx] at h; cases h
    | some x =>
      rw [hx] at h
      injection h with h
      subst h
      simp
theorem tfold_on : ∀ {t : List Nd} {st u : List T}, tfold node st t = some u → ∀ b, tfold node (b ++ st) t = some (b ++ u)
  | [], st, u, h, b => by injection h with h; subst h; rfl
  | n :: t, st, u, h, b => by
    have h' : (tstep node st n).bind (fun s => tfold node s t) = some u := h
    show (tstep node (b ++ st) n).bind (fun s => tfold node s t) = _
    cases hs : tstep node st n with
    | none => rw [hs] at h'; cases h'
    | some s =>
      rw [hs] at h'
      rw [tstep_on hs b]
      exact tfold_on h' b
end
/-- The terms that lie on the stack. -/
def nterm (n : Nd) (l : List (List Nd)) : Option (List Nd) := some (l.flatten ++ [n])
theorem nterm_flat : ∀ {t : List Nd} {st u : List (List Nd)}, tfold nterm st t = some u → u.flatten = st.flatten ++ t
  | [], st, u, h => by injection h with h; subst h; simp
  | n :: t, st, u, h => by
    have h' : (tstep nterm st n).bind (fun s => tfold nterm s t) = some u := h
    cases hs : tstep nterm st n with
    | none => rw [hs] at h'; cases h'
    | some s =>
      rw [hs] at h'
      rw [nterm_flat h']
      unfold tstep at hs
      split at hs
      · cases hs
      · injection hs with hs
        subst hs
        have e : (st.take (st.length - (arity n.op).toNat)).flatten ++ (st.drop (st.length - (arity n.op).toNat)).flatten = st.flatten := by rw [← List.flatten_append, List.take_append_drop]
        rw [← e]; simp
/-- A term that is formed. -/
def Tm (t : List Nd) : Prop := tfold nterm [] t = some [t]
theorem tm_run {t : List Nd} (h : Tm t) (b : List (List Nd)) : tfold nterm b t = some (b ++ [t]) := by
  have := tfold_on h b
  rwa [List.append_nil] at this
/-- Its parts. -/
theorem tm_parts {s : List Nd} {n : Nd} (h : Tm (s ++ [n])) : ∃ l, tfold nterm [] s = some l ∧ (l.length : Int) = arity n.op ∧ l.flatten = s := by
  unfold Tm at h
  rw [tfold_snoc] at h
  cases hs : tfold nterm [] s with
  | none => rw [hs] at h; cases h
  | some l =>
    rw [hs] at h
    have h' : tstep nterm l n = some [s ++ [n]] := h
    unfold tstep at h'
    split at h'
    · cases h'
    next hc =>
      injection h' with h'
      have hk : l.length - (arity n.op).toNat = 0 := by
        have := congrArg List.length h'
        simp at this
        omega
      refine ⟨l, rfl, by omega, ?_⟩
      have := nterm_flat hs
      simpa using this
/-- Each that lies on the stack is formed. -/
theorem tm_all : ∀ {t : List Nd} {st u : List (List Nd)}, (∀ x ∈ st, Tm x) → tfold nterm st t = some u → ∀ x ∈ u, Tm x
  | [], st, u, hs, h => by injection h with h; subst h; exact hs
  | n :: t, st, u, hs, h => by
    have h' : (tstep nterm st n).bind (fun s => tfold nterm s t) = some u := h
    cases hq : tstep nterm st n with
    | none => rw [hq] at h'; cases h'
    | some s =>
      rw [hq] at h'
      refine tm_all (fun x hx => ?_) h'
      unfold tstep at hq
      split at hq
      · cases hq
      next hc =>
        injection hq with hq
        subst hq
        rw [List.mem_append, List.mem_singleton] at hx
        rcases hx with hx | rfl
        · exact hs x (List.mem_of_mem_take hx)
        · have hl : ((st.drop (st.length - (arity n.op).toNat)).length : Int) = arity n.op := by rw [List.length_drop]; omega
          have hall : ∀ x ∈ st.drop (st.length - (arity n.op).toNat), Tm x := fun x hx => hs x (List.mem_of_mem_drop hx)
          generalize st.drop (st.length - (arity n.op).toNat) = l at hl hall
          have run : ∀ (l b : List (List Nd)), (∀ x ∈ l, Tm x) → tfold nterm b l.flatten = some (b ++ l) := by
            intro l
            induction l with
            | nil => intro b _; simp [tfold]
            | cons a l ih =>
              intro b hl
              rw [List.flatten_cons, tfold_append, tm_run (hl a (by simp)) b]
              show tfold nterm (b ++ [a]) l.flatten = _
              rw [ih (b ++ [a]) fun x hx => hl x (by simp [hx])]
              simp
          unfold Tm
          rw [tfold_snoc]
          have := run l [] hall
          rw [this]
          show tstep nterm ([] ++ l) n = _
          unfold tstep
          rw [List.nil_append, if_neg (by omega)]
          have e : l.length - (arity n.op).toNat = 0 := by omega
          rw [e]; rfl
/-- Joined. -/
theorem tm_join {l : List (List Nd)} {n : Nd} (hl : ∀ x ∈ l, Tm x) (hn : (l.length : Int) = arity n.op) : Tm (l.flatten ++ [n]) ∧ tfold nterm [] l.flatten = some l := by
  have run : ∀ (l b : List (List Nd)), (∀ x ∈ l, Tm x) → tfold nterm b l.flatten = some (b ++ l) := by
    intro l
    induction l with
    | nil => intro b _; simp [tfold]
    | cons a l ih =>
      intro b hl
      rw [List.flatten_cons, tfold_append, tm_run (hl a (by simp)) b]
      show tfold nterm (b ++ [a]) l.flatten = _
      rw [ih (b ++ [a]) fun x hx => hl x (by simp [hx])]
      simp
  have h := run l [] hl
  refine ⟨?_, h⟩
  unfold Tm
  rw [tfold_snoc, h]
  show tstep nterm ([] ++ l) n = _
  unfold tstep
  rw [List.nil_append, if_neg (by omega)]
  have e : l.length - (arity n.op).toNat = 0 := by omega
  rw [e]; rfl
section
variable {T : Type} {node : Nd → List T → Option T}
theorem tfold_pairs : ∀ {ps : List (List Nd × T)} (b : List T), (∀ p ∈ ps, tfold node [] p.1 = some [p.2]) → tfold node b (ps.map (·.1)).flatten = some (b ++ ps.map (·.2))
  | [], b, _ => by simp [tfold]
  | p :: ps, b, h => by
    rw [List.map_cons, List.flatten_cons, tfold_append]
    have h1 := tfold_on (h p (by simp)) b
    rw [List.append_nil] at h1
    rw [h1]
    show tfold node (b ++ [p.2]) _ = _
    rw [tfold_pairs (b ++ [p.2]) fun q hq => h q (by simp [hq])]
    simp
/-- What is reckoned, of each term on the stack. -/
theorem tfold_sim : ∀ {t : List Nd} {ps : List (List Nd × T)} {u : List T}, (∀ p ∈ ps, tfold node [] p.1 = some [p.2]) → tfold node (ps.map (·.2)) t = some u →
    ∃ qs : List (List Nd × T), u = qs.map (·.2) ∧ (∀ q ∈ qs, tfold node [] q.1 = some [q.2]) ∧ tfold nterm (ps.map (·.1)) t = some (qs.map (·.1))
  | [], ps, u, hp, h => by injection h with h; exact ⟨ps, h.symm, hp, rfl⟩
  | n :: t, ps, u, hp, h => by
    have h' : (tstep node (ps.map (·.2)) n).bind (fun s => tfold node s t) = some u := h
    cases hq : tstep node (ps.map (·.2)) n with
    | none => rw [hq] at h'; cases h'
    | some s =>
      rw [hq] at h'
      unfold tstep at hq
      rw [List.length_map] at hq
      split at hq
      · cases hq
      next hc =>
        obtain ⟨k, hk⟩ : ∃ k, ps.length - (arity n.op).toNat = k := ⟨_, rfl⟩
        rw [hk, ← List.map_drop, ← List.map_take] at hq
        cases hx : node n ((ps.drop k).map (·.2)) with
        | none => rw [hx] at hq; cases hq
        | some x =>
          rw [hx] at hq
          injection hq with hq
          have hpd : ∀ p ∈ ps.drop k, tfold node [] p.1 = some [p.2] := fun p hp' => hp p (List.mem_of_mem_drop hp')
          have hnew : tfold node [] (((ps.drop k).map (·.1)).flatten ++ [n]) = some [x] := by
            rw [tfold_snoc, tfold_pairs [] hpd]
            show tstep node ([] ++ (ps.drop k).map (·.2)) n = _
            unfold tstep
            rw [List.nil_append, List.length_map, List.length_drop, if_neg (by omega)]
            have e : ps.length - k - (arity n.op).toNat = 0 := by omega
            rw [e]
            show (node n ((ps.drop k).map (·.2))).map _ = _
            rw [hx]; rfl
          have hs : s = (ps.take k ++ [(((ps.drop k).map (·.1)).flatten ++ [n], x)]).map (·.2) := by rw [List.map_append]; exact hq.symm
          rw [hs] at h'
          obtain ⟨qs, e1, e2, e3⟩ := tfold_sim (fun p hp' => by
            rw [List.mem_append, List.mem_singleton] at hp'
            rcases hp' with hp' | rfl
            · exact hp p (List.mem_of_mem_take hp')
            · exact hnew) h'
          refine ⟨qs, e1, e2, ?_⟩
          show (tstep nterm (ps.map (·.1)) n).bind (fun s => tfold nterm s t) = _
          have hst : tstep nterm (ps.map (·.1)) n = some ((ps.take k ++ [(((ps.drop k).map (·.1)).flatten ++ [n], x)]).map (·.1)) := by
            unfold tstep
            rw [List.length_map, if_neg hc, hk, ← List.map_drop, ← List.map_take, List.map_append]
            rfl
          rw [hst]
          exact e3
/-- A term that comes to something is formed. -/
theorem tval_tm {t : List Nd} {v : T} (h : tfold node [] t = some [v]) (ht : t ≠ []) : Tm t := by
  obtain ⟨qs, e1, e2, e3⟩ := tfold_sim (ps := []) (fun p hp => by cases hp) h
  have hl : qs.length = 1 := by have := congrArg List.length e1; simpa using this.symm
  match qs, hl with
  | [q], _ =>
    have e3' : tfold nterm [] t = some [q.1] := e3
    have := nterm_flat e3'
    have hq : q.1 = t := by simpa using this
    unfold Tm
    rw [e3', hq]
end
/-- Every formed term, from its parts. -/
theorem tm_ind {P : List Nd → Prop} (H : ∀ (l : List (List Nd)) (n : Nd), (∀ x ∈ l, Tm x) → (∀ x ∈ l, P x) → (l.length : Int) = arity n.op → P (l.flatten ++ [n])) : ∀ (k : Nat) (t : List Nd), t.length ≤ k → Tm t → P t
  | k, t, hk, ht => by
    rcases List.eq_nil_or_concat t with rfl | ⟨s, n, rfl⟩
    · unfold Tm tfold at ht
      injection ht with ht
      cases ht
    · rw [List.concat_eq_append] at ht ⊢
      obtain ⟨l, h1, h2, h3⟩ := tm_parts ht
      have hall := tm_all (fun x hx => by cases hx) h1
      cases k with
      | zero => simp at hk
      | succ k =>
        rw [← h3]
        refine H l n hall (fun x hx => tm_ind H k x ?_ (hall x hx)) h2
        have : x.length ≤ l.flatten.length := by
          obtain ⟨a, b, rfl⟩ := List.append_of_mem hx
          simp; omega
        rw [h3] at this
        simp at hk
        omega
end Go.Proofs.YtjdofncognaaoaaGreatDoor
