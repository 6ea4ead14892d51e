/- Claims: plain words and laws. -/
import Derived.Test.YtjdkbmlkplbmoaaGreatDoorInV
namespace Go.Proofs.YtjdkbmlkplbmoaaGreatDoor
open Go.RowKit
set_option linter.unusedVariables false
set_option linter.unusedSimpArgs false

/-- Is an instruction of an asset, and dealt ahead of a day? -/
def icum (s : ByteArray) (ex : Int) (x : In) : Bool := x.asset.toList == s.toList && decide (x.dealt < ex)
theorem icum_iff {s : ByteArray} {ex : Int} {x : In} : icum s ex x = true ↔ x.asset = s ∧ x.dealt < ex := by
  unfold icum
  rw [Bool.and_eq_true, beq_iff_eq, decide_eq_true_eq, s_eq]
/-- What it brings an account. -/
def dpd (a s : ByteArray) (ex : Int) (x : In) : Rat := if icum s ex x then (if a = x.dst then dec x.q else 0) + (if a = x.src then -(dec x.q) else 0) else 0
def dpend (l : List In) (a s : ByteArray) (ex : Int) : Rat := (l.map (dpd a s ex)).foldr (· + ·) 0
theorem dpend_nil (a s : ByteArray) (ex : Int) : dpend [] a s ex = 0 := rfl
theorem dpend_cons (x : In) (l : List In) (a s : ByteArray) (ex : Int) : dpend (x :: l) a s ex = dpd a s ex x + dpend l a s ex := rfl
theorem dpend_append (l m : List In) (a s : ByteArray) (ex : Int) : dpend (l ++ m) a s ex = dpend l a s ex + dpend m a s ex := by
  induction l with
  | nil => rw [List.nil_append, dpend_nil, Rat.zero_add]
  | cons x l ih => rw [List.cons_append, dpend_cons, dpend_cons, ih, Rat.add_assoc]
theorem dpend_take {l : List In} {k : Nat} {x : In} (a s : ByteArray) (ex : Int) (hx : l[k]? = some x) : dpend (l.take (k + 1)) a s ex = dpend (l.take k) a s ex + dpd a s ex x := by
  rw [List.take_add_one, hx, dpend_append]
  show _ + dpend [x] a s ex = _
  rw [dpend_cons, dpend_nil, Rat.add_zero]
/-- What is pending for an account. -/
def ipend (l : List In) (a s : ByteArray) (ex : Int) : RT := if imay l then enc (dpend l a s ex) else rzero
/-- The lines that an instruction stands for. -/
def clines (s : ByteArray) (ex : Int) (x : In) : List Ln := if icum s ex x then [⟨x.src, s, enc (-(dec x.q))⟩, ⟨x.dst, s, x.q⟩] else []
def call (b : List Ln) (l : List In) (s : ByteArray) (ex : Int) : List Ln := bposts (bposts [] (b.filter (ofAsset s))) (l.flatMap (clines s ex))
def cfree (x : Ln) : Bool := !(pfree x.acct)
/-- Who counts. -/
def ceff (b : List Ln) (l : List In) (s : ByteArray) (ex : Int) : List Ln := if bmay b && imay l then (call b l s ex).filter cfree else []
theorem bmay_nil : bmay [] = true := rfl
theorem clines_lone {s : ByteArray} {ex : Int} {l : List In} (h : imay l = true) : ∀ f ∈ l.flatMap (clines s ex), lone f = true := by
  intro f hf
  obtain ⟨x, hx, hf⟩ := List.mem_flatMap.1 hf
  have o := ione_of (imay_all h x hx)
  unfold clines at hf
  split at hf
  · rename_i hc
    obtain ⟨rfl, _⟩ := icum_iff.1 hc
    simp only [List.mem_cons, List.not_mem_nil, or_false] at hf
    rcases hf with rfl | rfl
    · exact lone_mk o.src o.asset (rmay_enc _)
    · exact lone_mk o.dst o.asset o.mayq
  · cases hf
theorem lgood_lone {x : Ln} (h : lgood x = true) : lone x = true := by
  unfold lgood at h
  rw [Bool.and_eq_true] at h
  exact h.1
theorem filt_lone {b : List Ln} {p : Ln → Bool} (h : bmay b = true) : ∀ f ∈ b.filter p, lone f = true := fun f hf => lgood_lone (bmay_all h f (List.mem_filter.1 hf).1)
theorem call_may {b : List Ln} {l : List In} (s : ByteArray) (ex : Int) (hb : bmay b = true) (hl : imay l = true) : bmay (call b l s ex) = true := posts_may (posts_may bmay_nil (filt_lone hb)) (clines_lone hl)
theorem bmay_tail {x : Ln} {l : List Ln} (h : bmay (x :: l) = true) : bmay l = true ∧ ∀ y ∈ l, lahead x y = true := by
  have h1 := pw_head (bmay_rises h)
  exact ⟨bmay_mk (fun y hy => bmay_all h y (by simp [hy])) h1.2, h1.1⟩
/-- A book's lines of a key are what it has there. -/
theorem dpost_get : ∀ {b : List Ln}, bmay b = true → ∀ s a, dpost b s a = dec (bgetL b s a)
  | [], _, s, a => by rw [dpost_nil, bget_none rfl, dec_enc]
  | x :: l, h, s, a => by
    obtain ⟨h1, h2⟩ := bmay_tail h
    rw [dpost_cons]
    by_cases hk : s = x.acct ∧ a = x.asset
    · obtain ⟨rfl, rfl⟩ := hk
      rw [if_pos ⟨rfl, rfl⟩, dpost_none, Rat.add_zero, bget_mem h (by simp)]
      intro y hy e
      have := h2 y hy
      rw [lahead_irr e.1 e.2] at this
      cases this
    · rw [if_neg hk, Rat.zero_add, dpost_get h1 s a]
      congr 1
      unfold bgetL
      rw [List.find?_cons_of_neg]
      intro e
      obtain ⟨e1, e2⟩ := lhit_iff.1 e
      exact hk ⟨e1.symm, e2.symm⟩
theorem dpost_filt : ∀ (b : List Ln) (t s a : ByteArray), dpost (b.filter (ofAsset t)) s a = if a = t then dpost b s a else 0
  | [], t, s, a => by rw [List.filter_nil, dpost_nil]; split <;> rfl
  | x :: l, t, s, a => by
    have ih := dpost_filt l t s a
    rw [List.filter_cons, dpost_cons]
    by_cases h : ofAsset t x = true
    · have e := ofAsset_iff.1 h
      rw [if_pos h, dpost_cons, ih]
      by_cases ha : a = t
      · rw [if_pos ha, if_pos ha]
      · rw [if_neg ha, if_neg ha, if_neg (fun k => ha (k.2.trans e)), Rat.add_zero]
    · rw [if_neg h, ih]
      by_cases ha : a = t
      · rw [if_pos ha, if_pos ha, if_neg (fun k => h (ofAsset_iff.2 (k.2.symm.trans ha))), Rat.zero_add]
      · rw [if_neg ha, if_neg ha]
theorem dpost_clines : ∀ (l : List In) (t : ByteArray) (ex : Int) (s a : ByteArray), dpost (l.flatMap (clines t ex)) s a = if a = t then dpend l s t ex else 0
  | [], t, ex, s, a => by rw [List.flatMap_nil, dpost_nil, dpend_nil]; split <;> rfl
  | x :: l, t, ex, s, a => by
    rw [List.flatMap_cons, dpost_append, dpost_clines l t ex s a, dpend_cons]
    unfold clines dpd
    cases icum t ex x with
    | false =>
      simp only [Bool.false_eq_true, if_false]
      rw [dpost_nil, Rat.zero_add, Rat.zero_add]
    | true =>
      simp only [if_true]
      rw [dpost_cons, dpost_cons, dpost_nil]
      dsimp only
      rw [dec_enc]
      by_cases ha : a = t
      · subst ha
        simp only [and_true, if_true]
        grind
      · simp only [ha, and_false, if_false]
        grind
theorem call_get {b : List Ln} {l : List In} (t : ByteArray) (ex : Int) (hb : bmay b = true) (hl : imay l = true) (s a : ByteArray) : dec (bgetL (call b l t ex) s a) = if a = t then dec (bgetL b s t) + dpend l s t ex else 0 := by
  unfold call
  rw [posts_dec (posts_may bmay_nil (filt_lone hb)) (clines_lone hl), posts_dec bmay_nil (filt_lone hb), bget_none rfl, dec_enc, Rat.zero_add, dpost_filt, dpost_clines]
  by_cases ha : a = t
  · subst ha
    rw [if_pos rfl, if_pos rfl, if_pos rfl, dpost_get hb]
  · rw [if_neg ha, if_neg ha, if_neg ha, Rat.add_zero]
theorem call_mem {b : List Ln} {l : List In} {t : ByteArray} {ex : Int} (hb : bmay b = true) (hl : imay l = true) {x : Ln} : x ∈ call b l t ex ↔ x.asset = t ∧ x.q = enc (dec (bgetL b x.acct t) + dpend l x.acct t ex) ∧ dec (bgetL b x.acct t) + dpend l x.acct t ex ≠ 0 := by
  have hm := call_may t ex hb hl
  constructor
  · intro hx
    have h1 := bget_mem hm hx
    have h2 := (lgood_of (bmay_all hm x hx))
    have h3 := call_get (b := b) (l := l) t ex hb hl x.acct x.asset
    rw [h1] at h3
    have h4 : dec x.q ≠ 0 := fun e => h2.2.2.2 (by rw [← enc_dec h2.2.2.1, e])
    by_cases ha : x.asset = t
    · rw [if_pos ha] at h3
      exact ⟨ha, by rw [← h3, enc_dec h2.2.2.1], by rw [← h3]; exact h4⟩
    · rw [if_neg ha] at h3
      exact absurd h3 h4
  · rintro ⟨h1, h2, h3⟩
    have h4 := call_get (b := b) (l := l) t ex hb hl x.acct x.asset
    rw [if_pos h1] at h4
    have h5 := bget_may hm x.acct x.asset
    have h6 : bgetL (call b l t ex) x.acct x.asset = x.q := by rw [h2, ← h4, enc_dec h5]
    obtain ⟨y, hy, e1, e2, e3⟩ := bget_hit (b := call b l t ex) (s := x.acct) (a := x.asset) (by rw [h6, h2]; exact fun e => h3 (enc_inj e))
    rw [h6] at e3
    have : x = y := by cases x; cases y; dsimp only at e1 e2 e3; rw [e1, e2, e3]
    rw [this]; exact hy
theorem ceff_yes {b : List Ln} {l : List In} {t : ByteArray} {ex : Int} (hb : bmay b = true) (hl : imay l = true) : ceff b l t ex = (call b l t ex).filter cfree := by unfold ceff; rw [hb, hl]; rfl
theorem rises_filt {l : List Ln} {p : Ln → Bool} (h : rises lahead l = true) : rises lahead (l.filter p) = true := rises_pw.2 ((rises_pw.1 h).sublist List.filter_sublist)
/-- It hangs on what all have, and on what is pending. -/
theorem ceff_congr {b c : List Ln} {l m : List In} {t : ByteArray} {ex ey : Int} (hb : bmay b = true) (hl : imay l = true) (hc : bmay c = true) (hm : imay m = true) (h : ∀ a, dec (bgetL b a t) + dpend l a t ex = dec (bgetL c a t) + dpend m a t ey) : ceff b l t ex = ceff c m t ey := by
  rw [ceff_yes hb hl, ceff_yes hc hm]
  congr 1
  refine lrises_ext (bmay_rises (call_may t ex hb hl)) (bmay_rises (call_may t ey hc hm)) fun x => ?_
  rw [call_mem hb hl, call_mem hc hm, h]
theorem dpend_late {l : List In} {a t : ByteArray} {ex : Int} (h : ∀ x ∈ l, ¬ x.dealt < ex) : dpend l a t ex = 0 := by
  induction l with
  | nil => rfl
  | cons x l ih =>
    rw [dpend_cons, ih fun y hy => h y (by simp [hy]), Rat.add_zero]
    unfold dpd
    rw [if_neg]
    intro hc
    exact h x (by simp) (icum_iff.1 hc).2
theorem dpend_early (l : List In) (a t : ByteArray) (ex : Int) : dpend (l.filter fun x => decide (x.dealt < ex)) a t ex = dpend l a t ex := by
  induction l with
  | nil => rfl
  | cons x l ih =>
    rw [List.filter_cons, dpend_cons]
    by_cases h : x.dealt < ex
    · rw [if_pos (by simpa using h), dpend_cons, ih]
    · rw [if_neg (by simpa using h), ih]
      have : dpd a t ex x = 0 := by unfold dpd; rw [if_neg fun hc => h (icum_iff.1 hc).2]
      rw [this, Rat.zero_add]
theorem imay_filt {l : List In} (p : In → Bool) (h : imay l = true) : imay (l.filter p) = true := imay_sub h List.filter_sublist
theorem imay_zero {l : List In} (h : imay l = true) : ∀ x ∈ l, ¬ x.dealt < 0 := fun x hx => by have := (ione_of (imay_all h x hx)).dealt; omega
theorem ceff_early {b : List Ln} {l : List In} {t : ByteArray} {ex : Int} (hb : bmay b = true) (hl : imay l = true) : ceff b l t ex = ceff b (l.filter fun x => decide (x.dealt < ex)) t ex := ceff_congr hb hl hb (imay_filt _ hl) fun a => by rw [dpend_early]
theorem imay_nil : imay [] = true := rfl
theorem ceff_zero {b : List Ln} {l : List In} {t : ByteArray} (hb : bmay b = true) (hl : imay l = true) : ceff b l t 0 = ceff b [] t 0 := ceff_congr hb hl hb imay_nil fun a => by rw [dpend_late (imay_zero hl), dpend_nil]
theorem ipend_zero {l : List In} {a t : ByteArray} (hl : imay l = true) : ipend l a t 0 = enc 0 := by unfold ipend; rw [if_pos hl, dpend_late (imay_zero hl)]
/-- Settled, or not. -/
theorem ceff_settle {b : List Ln} {x : In} {l : List In} {ex : Int} (hb : bmay b = true) (hl : imay (x :: l) = true) (hd : x.dealt < ex) : ceff b (x :: l) x.asset ex = ceff (bposts b [⟨x.src, x.asset, enc (-(dec x.q))⟩, ⟨x.dst, x.asset, x.q⟩]) l x.asset ex := by
  have o := ione_of (imay_all hl x (by simp))
  have hlo : ∀ f ∈ [(⟨x.src, x.asset, enc (-(dec x.q))⟩ : Ln), ⟨x.dst, x.asset, x.q⟩], lone f = true := by
    intro f hf
    simp only [List.mem_cons, List.not_mem_nil, or_false] at hf
    rcases hf with rfl | rfl
    · exact lone_mk o.src o.asset (rmay_enc _)
    · exact lone_mk o.dst o.asset o.mayq
  refine ceff_congr hb hl (posts_may hb hlo) (imay_sub hl (List.sublist_cons_self _ _)) fun a => ?_
  rw [posts_dec hb hlo, dpend_cons, dpost_cons, dpost_cons, dpost_nil]
  unfold dpd
  rw [if_pos (icum_iff.2 ⟨rfl, hd⟩)]
  dsimp only
  rw [dec_enc]
  simp only [and_true]
  grind
/-- As the program finds it: accounts by their order, none twice. -/
def cone (b : List Ln) (l : List In) (t : ByteArray) (ex : Int) (a : ByteArray) : Option Ln := if pfree a = false ∧ dec (bgetL b a t) + dpend l a t ex ≠ 0 then some ⟨a, t, enc (dec (bgetL b a t) + dpend l a t ex)⟩ else none
theorem cone_some {b : List Ln} {l : List In} {t : ByteArray} {ex : Int} {a : ByteArray} {x : Ln} (h : cone b l t ex a = some x) : x.acct = a ∧ x.asset = t ∧ pfree a = false ∧ dec (bgetL b a t) + dpend l a t ex ≠ 0 ∧ x.q = enc (dec (bgetL b a t) + dpend l a t ex) := by
  unfold cone at h
  split at h
  · rename_i hc
    obtain rfl := Option.some.inj h
    exact ⟨rfl, rfl, hc.1, hc.2, rfl⟩
  · cases h
/-- Those that are named. -/
def caccts (b : List Ln) (l : List In) (t : ByteArray) (ex : Int) : List ByteArray := (bholders b t).map Ln.acct ++ l.flatMap fun x => if icum t ex x then [x.src, x.dst] else []
theorem dpend_zero {l : List In} {a t : ByteArray} {ex : Int} (h : a ∉ l.flatMap fun x => if icum t ex x then [x.src, x.dst] else []) : dpend l a t ex = 0 := by
  induction l with
  | nil => rfl
  | cons x l ih =>
    rw [List.flatMap_cons, List.mem_append, not_or] at h
    rw [dpend_cons, ih h.2, Rat.add_zero]
    unfold dpd
    split
    · rename_i hc
      have h1 := h.1
      rw [if_pos hc] at h1
      simp only [List.mem_cons, List.not_mem_nil, or_false, not_or] at h1
      rw [if_neg h1.2, if_neg h1.1, Rat.add_zero]
    · rfl
theorem caccts_zero {b : List Ln} {l : List In} {t : ByteArray} {ex : Int} {a : ByteArray} (hb : bmay b = true) (h : a ∉ caccts b l t ex) : dec (bgetL b a t) + dpend l a t ex = 0 := by
  unfold caccts at h
  rw [List.mem_append, not_or] at h
  rw [dpend_zero h.2, Rat.add_zero]
  by_cases h0 : bgetL b a t = enc 0
  · rw [h0, dec_enc]
  · obtain ⟨x, hx, e1, e2, _⟩ := bget_hit h0
    refine absurd (List.mem_map.2 ⟨x, ?_, e1⟩) h.1
    unfold bholders
    rw [if_pos hb]
    exact List.mem_filter.2 ⟨hx, by rw [e2]; simp⟩
theorem cone_all {b : List Ln} {l : List In} {t : ByteArray} {ex : Int} {cs : List ByteArray} (hb : bmay b = true) (hl : imay l = true) (hp : cs.Pairwise (fun a b => slt a b = true)) (hm : ∀ a, a ∈ cs ↔ a ∈ caccts b l t ex) : cs.filterMap (cone b l t ex) = ceff b l t ex := by
  rw [ceff_yes hb hl]
  refine lrises_ext (rises_pw.2 ?_) (rises_filt (bmay_rises (call_may t ex hb hl))) fun x => ?_
  · rw [List.pairwise_filterMap]
    refine hp.imp fun {a c} h x hx y hy => ?_
    obtain ⟨e1, _⟩ := cone_some hx
    obtain ⟨f1, _⟩ := cone_some hy
    unfold lahead
    rw [e1, f1, h]; rfl
  · rw [List.mem_filterMap, List.mem_filter, call_mem hb hl]
    constructor
    · rintro ⟨a, ha, h⟩
      obtain ⟨rfl, e2, e3, e4, e5⟩ := cone_some h
      exact ⟨⟨e2, e5, e4⟩, by unfold cfree; rw [e3]; rfl⟩
    · rintro ⟨⟨e1, e2, e3⟩, e4⟩
      unfold cfree at e4
      rw [Bool.not_eq_true'] at e4
      refine ⟨x.acct, ?_, ?_⟩
      · rw [hm]
        by_cases h : x.acct ∈ caccts b l t ex
        · exact h
        · exact absurd (caccts_zero hb h) e3
      · unfold cone
        rw [if_pos ⟨e4, e3⟩, ← e2, ← e1]
/-! ### All together -/
def memB (F : List ByteArray) (a : ByteArray) : Bool := F.any fun b => b.toList == a.toList
theorem memB_iff {F : List ByteArray} {a : ByteArray} : memB F a = true ↔ a ∈ F := by
  unfold memB
  rw [List.any_eq_true]
  constructor
  · rintro ⟨x, hx, e⟩
    rw [← s_eq.2 (beq_iff_eq.1 e)]; exact hx
  · exact fun h => ⟨a, h, by simp⟩
theorem memB_no {F : List ByteArray} {a : ByteArray} : memB F a = false ↔ a ∉ F := by rw [← memB_iff, Bool.not_eq_true]
def asum (f : ByteArray → Rat) (F : List ByteArray) : Rat := (F.map f).foldr (· + ·) 0
theorem asum_nil (f : ByteArray → Rat) : asum f [] = 0 := rfl
theorem asum_cons (f : ByteArray → Rat) (a : ByteArray) (F : List ByteArray) : asum f (a :: F) = f a + asum f F := rfl
theorem asum_append (f : ByteArray → Rat) (F G : List ByteArray) : asum f (F ++ G) = asum f F + asum f G := by
  induction F with
  | nil => rw [List.nil_append, asum_nil, Rat.zero_add]
  | cons x l ih => rw [List.cons_append, asum_cons, asum_cons, ih, Rat.add_assoc]
theorem asum_add (f g : ByteArray → Rat) (F : List ByteArray) : asum (fun a => f a + g a) F = asum f F + asum g F := by
  induction F with
  | nil => rw [asum_nil, asum_nil, asum_nil, Rat.add_zero]
  | cons x l ih => rw [asum_cons, asum_cons, asum_cons, ih]; grind
theorem asum_one {F : List ByteArray} (h : F.Nodup) (y : ByteArray) (q : Rat) : asum (fun a => if a = y then q else 0) F = if memB F y = true then q else 0 := by
  induction F with
  | nil => rw [asum_nil, if_neg (by simp [memB])]
  | cons x l ih =>
    obtain ⟨h1, h2⟩ := List.nodup_cons.1 h
    rw [asum_cons, ih h2]
    by_cases e : x = y
    · subst e
      rw [if_pos rfl, if_neg (fun h => h1 (memB_iff.1 h)), if_pos (memB_iff.2 (by simp)), Rat.add_zero]
    · rw [if_neg e, Rat.zero_add]
      by_cases hy : y ∈ l
      · rw [if_pos (memB_iff.2 hy), if_pos (memB_iff.2 (by simp [hy]))]
      · rw [if_neg (fun h => hy (memB_iff.1 h)), if_neg (fun h => by rcases List.mem_cons.1 (memB_iff.1 h) with k | k; exact e k.symm; exact hy k)]
theorem asum_dpost {F : List ByteArray} (h : F.Nodup) (t : ByteArray) : ∀ E : List Ln, (∀ x ∈ E, x.asset = t) → asum (fun a => dpost E a t) F = dsum (E.filter fun x => memB F x.acct)
  | [], _ => by
    rw [List.filter_nil, dsum_nil]
    clear h
    induction F with
    | nil => rfl
    | cons x l ih => rw [asum_cons, ih, dpost_nil, Rat.add_zero]
  | x :: E, hE => by
    have ih := asum_dpost h t E fun y hy => hE y (by simp [hy])
    have e : (fun a => dpost (x :: E) a t) = fun a => (if a = x.acct then dec x.q else 0) + dpost E a t := by
      funext a
      rw [dpost_cons]
      congr 1
      have := hE x (by simp)
      simp [this]
    rw [e, asum_add, asum_one h, ih, List.filter_cons]
    by_cases hy : memB F x.acct = true
    · rw [if_pos hy, if_pos hy, dsum_cons]
    · rw [if_neg hy, if_neg hy, Rat.zero_add]
theorem dsum_split (E : List Ln) : dsum E = dsum (E.filter cfree) + dsum (E.filter fun x => pfree x.acct) := by
  induction E with
  | nil => rw [List.filter_nil, List.filter_nil, dsum_nil, Rat.add_zero]
  | cons x l ih =>
    rw [dsum_cons, ih, List.filter_cons, List.filter_cons]
    unfold cfree
    cases pfree x.acct <;> simp [dsum_cons] <;> grind
theorem dtot_clines : ∀ (l : List In) (t : ByteArray) (ex : Int), dtot (l.flatMap (clines t ex)) t = 0
  | [], t, ex => rfl
  | x :: l, t, ex => by
    rw [List.flatMap_cons, dtot_append, dtot_clines l t ex]
    unfold clines
    split
    · rw [dtot_two]
      dsimp only
      rw [dec_enc]
      grind
    · rw [dtot_nil, Rat.add_zero]
theorem dtot_filt (b : List Ln) (t : ByteArray) : dtot (b.filter (ofAsset t)) t = dtot b t := by
  unfold dtot
  rw [List.filter_filter]
  congr 1
  exact List.filter_congr fun x _ => by simp
theorem dtot_dsum {E : List Ln} {t : ByteArray} (h : ∀ x ∈ E, x.asset = t) : dtot E t = dsum E := by
  unfold dtot
  rw [List.filter_eq_self.2 fun x hx => ofAsset_iff.2 (h x hx)]
/-- Nothing is claimed twice. -/
theorem ceff_sum {b : List Ln} {l : List In} {t : ByteArray} {ex : Int} {F : List ByteArray} (hb : bmay b = true) (hl : imay l = true) (hF : F.Nodup) (h1 : ∀ a ∈ F, pfree a = true) (h2 : ∀ a ∈ caccts b l t ex, pfree a = true → a ∈ F) :
    dsum (ceff b l t ex) + asum (fun a => dec (bgetL b a t) + dpend l a t ex) F = dtot b t := by
  have hm := call_may t ex hb hl
  have hE : ∀ x ∈ call b l t ex, x.asset = t := fun x hx => ((call_mem hb hl).1 hx).1
  have e1 : (fun a => dec (bgetL b a t) + dpend l a t ex) = fun a => dpost (call b l t ex) a t := by
    funext a
    rw [dpost_get hm, call_get t ex hb hl, if_pos rfl]
  have e2 : dtot b t = dtot (call b l t ex) t := by
    unfold call
    rw [posts_tot _ (posts_may bmay_nil (filt_lone hb)) (clines_lone hl), posts_tot _ bmay_nil (filt_lone hb), dtot_nil, Rat.zero_add, dtot_filt, dtot_clines, Rat.add_zero]
  rw [e1, asum_dpost hF t _ hE, e2, dtot_dsum hE, dsum_split (call b l t ex), ceff_yes hb hl]
  congr 2
  refine List.filter_congr fun x hx => ?_
  obtain ⟨g1, g2, g3⟩ := (call_mem hb hl).1 hx
  by_cases hp : pfree x.acct = true
  · rw [hp, memB_iff]
    refine h2 _ ?_ hp
    by_cases hc : x.acct ∈ caccts b l t ex
    · exact hc
    · exact absurd (caccts_zero hb hc) g3
  · rw [Bool.not_eq_true] at hp
    rw [hp, memB_no]
    intro hf
    rw [h1 _ hf] at hp
    cases hp
end Go.Proofs.YtjdkbmlkplbmoaaGreatDoor
