/-
  VeTen: joined by wip/tools/merge.py out of VeJg VeJh VeJi VeJk VeJl VeJm VeJn.
-/
import Derived.Test.YtcdfmdiifgpdnaaVeNin
import Derived.Test.YtcdfmdiifgpdnaaVeFiv
import Derived.Test.YtcdfmdiifgpdnaaVeEig
import Derived.Test.YtcdfmdiifgpdnaaVeTri
/-
  VeJg: states by what they give for a key; lists of changes in order.
-/
set_option linter.unusedVariables false
set_option linter.unusedSimpArgs false
namespace Go.Proofs.Ve
open Go

/-- Two strictly ordered lists with the same members are the same. -/
theorem sorted_ext {α : Type} {lt : α → α → Prop} (hirr : ∀ a, ¬ lt a a) (htr : ∀ a b c, lt a b → lt b c → lt a c) : ∀ {l m : List α}, l.Pairwise lt → m.Pairwise lt → (∀ a, a ∈ l ↔ a ∈ m) → l = m
  | [], [], _, _, _ => rfl
  | [], b :: m, _, _, h => by have := (h b).2 (List.mem_cons_self ..); cases this
  | a :: l, [], _, _, h => by have := (h a).1 (List.mem_cons_self ..); cases this
  | a :: l, b :: m, hl, hm, h => by
    rw [List.pairwise_cons] at hl hm
    have e : a = b := by
      rcases List.mem_cons.1 ((h a).1 (List.mem_cons_self ..)) with e | h1
      · exact e
      · rcases List.mem_cons.1 ((h b).2 (List.mem_cons_self ..)) with e | h2
        · exact e.symm
        · exact absurd (htr _ _ _ (hm.1 a h1) (hl.1 b h2)) (hirr _)
    subst e
    have e2 : l = m := sorted_ext hirr htr hl.2 hm.2 fun x => by
      constructor
      · intro hx
        rcases List.mem_cons.1 ((h x).1 (List.mem_cons_of_mem _ hx)) with rfl | h1
        · exact absurd (hl.1 _ hx) (hirr _)
        · exact h1
      · intro hx
        rcases List.mem_cons.1 ((h x).2 (List.mem_cons_of_mem _ hx)) with rfl | h1
        · exact absurd (hm.1 _ hx) (hirr _)
        · exact h1
    rw [e2]

/-- The row of a sorted table with a key. -/
def rowOf (s : Sch) (t : Int) (l : Tab) (k : Row) : Option Row := l.find? (fun r => decide (cmpR (keyR s t r) k = 0))
theorem rowOf_mem {s : Sch} {t : Int} {l : Tab} {k r : Row} (h : rowOf s t l k = some r) : r ∈ l ∧ keyR s t r = k :=
  ⟨List.mem_of_find?_eq_some h, cmpR_eq.1 (by have := List.find?_some h; simpa using this)⟩
theorem rowOf_some {s : Sch} {t : Int} : ∀ {l : Tab}, srt s t l → ∀ r ∈ l, rowOf s t l (keyR s t r) = some r
  | a :: l, h, r, hr => by
    unfold srt at h
    rw [List.pairwise_cons] at h
    unfold rowOf
    rw [List.find?_cons]
    rcases List.mem_cons.1 hr with rfl | hr
    · rw [cmpR_self]; rfl
    · have h1 := h.1 r hr
      have h2 : cmpR (keyR s t a) (keyR s t r) = -1 := cmpR_lt' h1
      rw [h2]
      exact rowOf_some h.2 r hr
theorem tab_ext {s : Sch} {t : Int} {l m : Tab} (hl : srt s t l) (hm : srt s t m) (h : ∀ k, rowOf s t l k = rowOf s t m k) : l = m := by
  refine sorted_ext (lt := fun a b => ltR (keyR s t a) (keyR s t b)) (fun a => ltR_irr _) (fun a b c => ltR_trans) hl hm fun r => ?_
  constructor
  · intro hr
    have := rowOf_some hl r hr
    rw [h] at this
    exact (rowOf_mem this).1
  · intro hr
    have := rowOf_some hm r hr
    rw [← h] at this
    exact (rowOf_mem this).1
/-- What a state gives for a key: nothing, or the row. -/
def gt (s : Sch) (st : St) (t : Int) (k : Row) : Row := (rowOf s t (tabAt st t) k).getD []
theorem gt_get {s : Sch} {st : St} {t : Int} (ht : 0 ≤ t ∧ t < s.tables.length) (hl : st.length = s.tables.length) (k : Row) : getR s st t k = rowOf s t (tabAt st t) k := by
  unfold getR
  rw [dif_pos ⟨ht.1, ht.2, by omega⟩, tabAt_get (by omega)]
  rfl
theorem rowOf_gt {s : Sch} {mode : Int} {st : St} (hs : okK s) (g : Good s mode st) {t : Int} (ht : 0 ≤ t ∧ t < s.tables.length) (k : Row) : rowOf s t (tabAt st t) k = if gt s st t k = [] then none else some (gt s st t k) := by
  have et : ((t.toNat : Nat) : Int) = t := by omega
  have hf := g.fit t.toNat (by omega)
  rw [et] at hf
  unfold gt
  cases h : rowOf s t (tabAt st t) k with
  | none => simp
  | some r =>
    have := fits_pos hs (hf r (rowOf_mem h).1)
    have hne : r ≠ [] := by rintro rfl; simp at this
    simp [hne]
theorem good_ext {s : Sch} {mode : Int} {st st' : St} (hs : okK s) (g : Good s mode st) (g' : Good s mode st') (h : ∀ (t : Int), 0 ≤ t ∧ t < s.tables.length → ∀ k, gt s st t k = gt s st' t k) : st = st' := by
  refine List.ext_getElem (by rw [g.len, g'.len]) fun i h1 h2 => ?_
  have hi : i < s.tables.length := by rw [← g.len]; exact h1
  have e1 : tabAt st (i : Nat) = st[i] := by rw [tabAt_get (by simpa using h1)]; simp
  have e2 : tabAt st' (i : Nat) = st'[i] := by rw [tabAt_get (by simpa using h2)]; simp
  rw [← e1, ← e2]
  refine tab_ext (g.srt i hi) (g'.srt i hi) fun k => ?_
  rw [rowOf_gt hs g ⟨by omega, by omega⟩, rowOf_gt hs g' ⟨by omega, by omega⟩, h i ⟨by omega, by omega⟩ k]
open Classical in
theorem find_ones {s : Sch} {t : Int} {key new : Row} {A B : Tab} (lo : ∀ a ∈ A, ltR (keyR s t a) key) (hi : ∀ b ∈ B, ltR key (keyR s t b)) (hk : new.length > 0 → keyR s t new = key) (k : Row) :
    rowOf s t (A ++ (ones new ++ B)) k = if k = key then (if new.length > 0 then some new else none) else (rowOf s t A k).or (rowOf s t B k) := by
  unfold rowOf
  rw [List.find?_append, List.find?_append]
  by_cases e : k = key
  · subst e
    rw [if_pos rfl]
    have e1 : A.find? (fun r => decide (cmpR (keyR s t r) k = 0)) = none := List.find?_eq_none.2 fun a ha => by
      rw [cmpR_lt' (lo a ha)]; decide
    have e2 : B.find? (fun r => decide (cmpR (keyR s t r) k = 0)) = none := List.find?_eq_none.2 fun a ha => by
      rw [cmpR_gt' (hi a ha)]; decide
    rw [e1, e2]
    by_cases hp : new.length > 0
    · rw [ones_pos hp, if_pos hp, List.find?_cons, hk hp, cmpR_self]; rfl
    · rw [ones_neg hp, if_neg hp]; rfl
  · rw [if_neg e]
    have e3 : (ones new).find? (fun r => decide (cmpR (keyR s t r) k = 0)) = none := List.find?_eq_none.2 fun a ha => by
      obtain ⟨rfl, hp⟩ := mem_ones ha
      rw [hk hp]
      simp only [decide_eq_true_eq]
      intro h
      exact e (cmpR_eq.1 h).symm
    rw [e3]
    cases A.find? (fun r => decide (cmpR (keyR s t r) k = 0)) <;> rfl
open Classical in
/-- What a step changes. -/
theorem Step.gt {s : Sch} {mode : Int} {cur cur' : St} {c : Chg} {A B : Tab} {key : Row} (h : Step s mode cur c cur' A B key) (t : Int) (ht : 0 ≤ t ∧ t < s.tables.length) (k : Row) :
    gt s cur' t k = if t = c.table ∧ k = key then c.new else gt s cur t k := by
  unfold Ve.gt
  by_cases e : t = c.table
  · subst e
    rw [h.tabAt', h.was, find_ones h.lo h.hi h.new.key, find_ones h.lo h.hi h.old.key]
    by_cases e2 : k = key
    · have hc : c.table = c.table ∧ k = key := ⟨rfl, e2⟩
      rw [if_pos e2, if_pos hc]
      by_cases hp : c.new.length > 0
      · rw [if_pos hp]; rfl
      · rw [if_neg hp]; exact (List.eq_nil_of_length_eq_zero (by omega)).symm
    · rw [if_neg e2, if_neg e2, if_neg (fun hh => e2 hh.2)]
  · rw [if_neg (fun hh => e hh.1)]
    have : tabAt cur' t = tabAt cur t := by
      have hc := h.tab
      unfold tabAt
      rw [h.is, List.getD_eq_getElem?_getD, List.getD_eq_getElem?_getD, List.getElem?_set_ne (by omega)]
    rw [this]
theorem Step.old_gt {s : Sch} {mode : Int} {cur cur' : St} {c : Chg} {A B : Tab} {key : Row} (h : Step s mode cur c cur' A B key) : Ve.gt s cur c.table key = c.old := by
  unfold Ve.gt
  rw [h.was, find_ones h.lo h.hi h.old.key, if_pos rfl]
  by_cases hp : c.old.length > 0
  · rw [if_pos hp]; rfl
  · rw [if_neg hp]; exact (List.eq_nil_of_length_eq_zero (by omega)).symm

/-- The order of changes. -/
def ltC (s : Sch) (c d : Chg) : Prop := c.table < d.table ∨ (c.table = d.table ∧ ltR (keyC s c) (keyC s d))
theorem ltC_irr (s : Sch) (c : Chg) : ¬ ltC s c c := by
  rintro (h | ⟨_, h⟩)
  · omega
  · exact ltR_irr _ h
theorem ltC_trans (s : Sch) (a b c : Chg) (h : ltC s a b) (k : ltC s b c) : ltC s a c := by
  unfold ltC at h k ⊢
  rcases h with h | ⟨h1, h2⟩ <;> rcases k with k | ⟨k1, k2⟩
  · exact .inl (by omega)
  · exact .inl (by omega)
  · exact .inl (by omega)
  · exact .inr ⟨by omega, ltR_trans h2 k2⟩
/-- A change between two states. -/
structure Dif (s : Sch) (st st' : St) (c : Chg) : Prop where
  tab : 0 ≤ c.table ∧ c.table < s.tables.length
  old : c.old = gt s st c.table (keyC s c)
  new : c.new = gt s st' c.table (keyC s c)
  ne : c.old ≠ c.new
/-- The changes between two states, in order. -/
structure Difs (s : Sch) (st st' : St) (l : List Chg) : Prop where
  ord : l.Pairwise (ltC s)
  mem : ∀ c ∈ l, Dif s st st' c
  all : ∀ (t : Int), 0 ≤ t ∧ t < s.tables.length → ∀ k, gt s st t k ≠ gt s st' t k → ∃ c ∈ l, c.table = t ∧ keyC s c = k
theorem Difs.unique {s : Sch} {st st' : St} {l m : List Chg} (h : Difs s st st' l) (k : Difs s st st' m) : l = m := by
  have key : ∀ {l m : List Chg}, Difs s st st' l → Difs s st st' m → ∀ c ∈ l, c ∈ m := fun {l m} h k c hc => by
    have d := h.mem c hc
    obtain ⟨c', hm, h1, h2⟩ := k.all c.table d.tab (keyC s c) (by rw [← d.old, ← d.new]; exact d.ne)
    have d' := k.mem c' hm
    have e : c = c' := by
      have h3 := d'.old
      have h4 := d'.new
      rw [h1, h2, ← d.old] at h3
      rw [h1, h2, ← d.new] at h4
      cases c; cases c'
      simp at h1 h3 h4 ⊢
      exact ⟨h1.symm, h3.symm, h4.symm⟩
    rw [e]
    exact hm
  exact sorted_ext (ltC_irr s) (ltC_trans s) h.ord k.ord fun c => ⟨key h k c, key k h c⟩
theorem gt_key {s : Sch} {st : St} {t : Int} {k : Row} (h : gt s st t k ≠ []) : keyR s t (gt s st t k) = k := by
  unfold gt at h ⊢
  cases e : rowOf s t (tabAt st t) k with
  | none => rw [e] at h; exact absurd rfl h
  | some r => exact (rowOf_mem e).2
theorem gt_fit {s : Sch} {mode : Int} {st : St} (g : Good s mode st) {t : Int} (ht : 0 ≤ t ∧ t < s.tables.length) {k : Row} (h : gt s st t k ≠ []) : fitsS s t (gt s st t k) mode = true := by
  have et : ((t.toNat : Nat) : Int) = t := by omega
  have hf := g.fit t.toNat (by omega)
  rw [et] at hf
  unfold gt at h ⊢
  cases e : rowOf s t (tabAt st t) k with
  | none => rw [e] at h; exact absurd rfl h
  | some r => exact hf r (rowOf_mem e).1
theorem gt_rowK {s : Sch} {mode : Int} {st : St} (g : Good s mode st) {t : Int} (ht : 0 ≤ t ∧ t < s.tables.length) (k : Row) : rowK s mode t k (gt s st t k) := by
  have hne : (gt s st t k).length > 0 → gt s st t k ≠ [] := fun h e => by rw [e] at h; simp at h
  exact ⟨fun h => gt_fit g ht (hne h), fun h => gt_key (hne h)⟩
/-- The changes between two states, one after another, lead from the one to the other. -/
theorem Difs.steps {s : Sch} {mode : Int} (hs : okK s) {st' : St} (g' : Good s mode st') : ∀ {l : List Chg} {st : St}, Good s mode st → Difs s st st' l → countS st + l.length ≤ 512 → Steps s mode st l st'
  | [], st, g, h, _ => good_ext hs g g' fun t ht k => by
    rcases Classical.em (gt s st t k = gt s st' t k) with e | e
    · exact e
    · obtain ⟨c, hc, _⟩ := h.all t ht k e
      cases hc
  | c :: l, st, g, h, hc => by
    rw [List.length_cons] at hc
    have d := h.mem c (List.mem_cons_self ..)
    have hn : rowK s mode c.table (keyC s c) c.new := by rw [d.new]; exact gt_rowK g' d.tab _
    have eo : (getR s st c.table (keyC s c)).getD [] = c.old := by
      rw [gt_get d.tab g.len, d.old]
      rfl
    have hsome : c.new.length > 0 ∨ (getR s st c.table (keyC s c)).isSome = true := by
      by_cases hp : c.new.length > 0
      · exact .inl hp
      · refine .inr ?_
        rw [gt_get d.tab g.len, rowOf_gt hs g d.tab, ← d.old]
        have : c.old ≠ [] := by
          intro e
          apply d.ne
          rw [e]
          exact (List.eq_nil_of_length_eq_zero (by omega)).symm
        rw [if_neg this]
        rfl
    obtain ⟨A, B, k⟩ := step_of g hs d.tab hn (by omega) hsome
    rw [eo] at k
    have k : Step s mode st c (putS s st c.table (keyC s c) c.new) A B (keyC s c) := k
    have gn := k.good g
    have hcn := put_count (s := s) (st := st) (t := c.table) (key := keyC s c) (new := c.new)
    have ho := h.ord
    rw [List.pairwise_cons] at ho
    refine ⟨_, A, B, _, k, Difs.steps hs g' gn ⟨ho.2, fun x hx => ?_, fun t ht kk hne => ?_⟩ (by omega)⟩
    · have dx := h.mem x (List.mem_cons_of_mem _ hx)
      refine ⟨dx.tab, ?_, dx.new, dx.ne⟩
      rw [k.gt _ dx.tab, if_neg]
      · exact dx.old
      · rintro ⟨e1, e2⟩
        rcases ho.1 x hx with h1 | ⟨_, h1⟩
        · omega
        · rw [e2] at h1
          exact ltR_irr _ h1
    · rw [k.gt t ht] at hne
      by_cases e : t = c.table ∧ kk = keyC s c
      · rw [if_pos e] at hne
        obtain ⟨rfl, rfl⟩ := e
        exact absurd d.new hne
      · rw [if_neg e] at hne
        obtain ⟨x, hx, h1, h2⟩ := h.all t ht kk hne
        rcases List.mem_cons.1 hx with rfl | hx
        · exact absurd ⟨h1.symm, h2.symm⟩ e
        · exact ⟨x, hx, h1, h2⟩
end Go.Proofs.Ve


/-
  VeJh: sorting at most twelve indices by what two boxes hold.
-/
set_option linter.unusedVariables false
set_option linter.unusedSimpArgs false
set_option pp.maxSteps 2000
set_option maxHeartbeats 4000000
namespace Go.Proofs.Ve
open Go

abbrev Ent := Chg × Row
def netB (E : List Ent) : Ob := ⟨56, 0, 0, [chgsC (E.map (·.1))]⟩
def keysB (E : List Ent) : Ob := ⟨41, 0, 0, [tabC (E.map (·.2))]⟩
def natC (n : Nat) : List AC := [.int .i64 n]
theorem natC_len (n : Nat) : (natC n).length = 1 := rfl
theorem natC_deep (n : Nat) : (natC n).all (·.deep) = true := rfl
def ordO (l : List Nat) : Ob := ⟨3, 1, 8, l.flatMap natC⟩
theorem ordO_ren (l : List Nat) (ρ : Nat → Nat) : (ordO l).ren ρ = ordO l := ob_ren_deep ρ (all_flat natC_deep l)
theorem ordO_lt (l : List Nat) (n : Nat) : (ordO l).lt n = true := ob_lt_deep n (all_flat natC_deep l)
structure okE (E : List Ent) : Prop where
  len : E.length ≤ 1000
  row : ∀ e ∈ E, e.2.length ≤ 1099511627776
  tab : ∀ e ∈ E, 0 ≤ e.1.table ∧ e.1.table ≤ 1000
def cmpE (E : List Ent) (a b : Nat) : Int := match E[a]?, E[b]? with
  | some x, some y => if x.1.table ≠ y.1.table then x.1.table - y.1.table else cmpR x.2 y.2
  | _, _ => 0
theorem cmpE_of {E : List Ent} {a b : Nat} (ha : a < E.length) (hb : b < E.length) : cmpE E a b = if E[a].1.table ≠ E[b].1.table then E[a].1.table - E[b].1.table else cmpR E[a].2 E[b].2 := by
  unfold cmpE
  rw [List.getElem?_eq_getElem ha, List.getElem?_eq_getElem hb]
theorem gC (E : List Ent) (a : Nat) (ha : a < E.length) : (((E.map (fun x => x.1)).flatMap chgC).drop (a * 3)).take 3 = chgC E[a].1 :=
  (flat_get (f := chgC) chgC_len (E.map (fun x => x.1)) a (by rw [List.length_map]; exact ha)).trans (by rw [List.getElem_map])
theorem gK (E : List Ent) (a : Nat) (ha : a < E.length) : (((E.map (fun x => x.2)).flatMap rowC1).drop (a * 1)).take 1 = rowC1 E[a].2 :=
  (flat_get (f := rowC1) rowC1_len (E.map (fun x => x.2)) a (by rw [List.length_map]; exact ha)).trans (by rw [List.getElem_map])
theorem callee57 : callee Try.prog 57 := callee_of Try.func57 rfl rfl
theorem cmp_spec (E : List Ent) (hE : okE E) (a b : Nat) (ha : a < E.length) (hb : b < E.length) :
    OSpec Try.prog 57 [.one (.int .i64 a), .one (.int .i64 b), .one (.ptr 0 0), .one (.ptr 1 0)] [netB E, keysB E] (fun r => r = .one (.int .i64 (cmpE E a b))) := by
  refine ospec_x env08_ok mixed08 Try.func57 rfl 38 rfl _ rfl rfl ?_
  have hl1 : (E.map (·.1)).length = E.length := List.length_map _
  have hl2 : (E.map (·.2)).length = E.length := List.length_map _
  have ea := cmpE_of ha hb
  have ta := hE.tab _ (List.getElem_mem ha)
  have tb := hE.tab _ (List.getElem_mem hb)
  have ra := hE.row _ (List.getElem_mem ha)
  have rb := hE.row _ (List.getElem_mem hb)
  refine wn ?_
  refine drawnX_phase env08_ok (fun _ => true) (List.range 11) (tks 0 11 (.stop)) 0 (lst 11 []) (by kernel_rfl) ?_
  refine wn ?_
  refine rq ?_
  refine forceL_as (chgC E[a].1) (gC E a ha) ?_
  refine wn ?_
  refine rq ?_
  refine forceL_as (chgC E[b].1) (gC E b hb) ?_
  refine wn ?_
  refine forkB_intro (fun h => ?_) (fun h => ?_)
  · have h : E[a].1.table ≠ E[b].1.table := by simpa using h
    rw [if_pos h] at ea
    rw [ea]
    refine wn ?_
    refine drawnX_done (by kernel_rfl) ?_
    refine wn ?_
    refine drawnX_phase env08_ok (fun _ => true) (List.range 12) (tks 0 12 (.stop)) 0 (lst 12 []) (by kernel_rfl) ?_
    refine wn ?_
    refine rq ?_
    refine forceL_as (chgC E[a].1) (gC E a ha) ?_
    refine wn ?_
    refine rq ?_
    refine forceL_as (chgC E[b].1) (gC E b hb) ?_
    refine wn ?_
    refine i64 ?_
    refine wn ?_
    refine drawnX_done (by kernel_rfl) ?_
    refine wn ?_
    refine retX_obs rfl rfl (by exact Nat.le_of_ble_eq_true rfl) ⟨⟨rfl, rfl⟩, ⟨rfl, rfl⟩, trivial⟩ ?_
    conv => whnf
    rfl
  · have h : ¬ E[a].1.table ≠ E[b].1.table := by simpa using h
    rw [if_neg h] at ea
    rw [ea]
    refine wn ?_
    refine drawnX_done (by kernel_rfl) ?_
    refine wn ?_
    refine drawnX_phase env08_ok (fun _ => true) (List.range 10) (tks 0 8 (.one 8 (tks 9 1 (.stop)))) 0 (lst 10 []) (by kernel_rfl) ?_
    refine wn ?_
    refine rq ?_
    refine forceL_as (rowC1 E[a].2) (gK E a ha) ?_
    refine wn ?_
    refine rq ?_
    refine forceL_as (rowC1 E[b].2) (gK E b hb) ?_
    refine wn ?_
    refine cle (compareRows_spec E[a].2 E[b].2 (by omega) (by omega)) callee42 ?_
    rintro x hx rfl
    refine wn ?_
    refine drawnX_done (by kernel_rfl) ?_
    refine wn ?_
    refine retX_obs rfl rfl (by exact Nat.le_of_ble_eq_true rfl) ⟨⟨rfl, rfl⟩, ⟨rfl, rfl⟩, trivial⟩ ?_
    conv => whnf
    rfl

def ltE (x y : Ent) : Prop := x.1.table < y.1.table ∨ (x.1.table = y.1.table ∧ ltR x.2 y.2)
def ltI (E : List Ent) (a b : Nat) : Prop := ∃ x y, E[a]? = some x ∧ E[b]? = some y ∧ ltE x y
theorem ltI_irr (E : List Ent) (a : Nat) : ¬ ltI E a a := by
  rintro ⟨x, y, h1, h2, h⟩
  rw [h1] at h2
  cases h2
  rcases h with h | ⟨_, h⟩
  · omega
  · exact ltR_irr _ h
theorem ltI_trans (E : List Ent) (a b c : Nat) (h : ltI E a b) (k : ltI E b c) : ltI E a c := by
  obtain ⟨x, y, h1, h2, h⟩ := h
  obtain ⟨y', z, k1, k2, k⟩ := k
  rw [h2] at k1
  cases k1
  refine ⟨x, z, h1, k2, ?_⟩
  unfold ltE at h k ⊢
  rcases h with h | ⟨e1, h⟩ <;> rcases k with k | ⟨e2, k⟩
  · exact .inl (by omega)
  · exact .inl (by omega)
  · exact .inl (by omega)
  · exact .inr ⟨by omega, ltR_trans h k⟩
theorem ltI_cmp {E : List Ent} {a b : Nat} (ha : a < E.length) (hb : b < E.length) : cmpE E a b < 0 ↔ ltI E a b := by
  rw [cmpE_of ha hb]
  have h1 : E[a]? = some E[a] := List.getElem?_eq_getElem ha
  have h2 : E[b]? = some E[b] := List.getElem?_eq_getElem hb
  have e : ltI E a b ↔ ltE E[a] E[b] := by
    constructor
    · rintro ⟨x, y, g1, g2, h⟩
      rw [h1] at g1; rw [h2] at g2
      cases g1; cases g2
      exact h
    · exact fun h => ⟨_, _, h1, h2, h⟩
  rw [e]
  unfold ltE
  split
  · rename_i hne
    constructor
    · intro h; exact .inl (by omega)
    · rintro (h | ⟨h, _⟩)
      · omega
      · exact absurd h hne
  · rename_i hne
    rw [cmpR_lt]
    have hne : E[a].1.table = E[b].1.table := Classical.not_not.1 hne
    exact ⟨fun h => .inr ⟨hne, h⟩, fun h => by rcases h with h | h; omega; exact h.2⟩
/-- The entries are distinct. -/
def apart (E : List Ent) : Prop := ∀ a b : Nat, a < E.length → b < E.length → a ≠ b → ltI E a b ∨ ltI E b a
theorem set_flatN (l : List Nat) (i n : Nat) : (l.flatMap natC).set i (.int .i64 n) = (l.set i n).flatMap natC := by
  have e : ∀ l : List Nat, l.flatMap natC = l.map (fun n => AC.int .i64 (n : Nat)) := fun l => by
    induction l with
    | nil => rfl
    | cons a l ih => rw [List.flatMap_cons, ih]; rfl
  rw [e, e, List.map_set]
structure inB (E : List Ent) (i j : Nat) (cur A : List Nat) (x : Nat) (B D : List Nat) : Prop where
  eq : cur = A ++ (x :: (B ++ D))
  lA : A.length = j
  lB : A.length + B.length = i
  srt : (A ++ B).Pairwise (ltI E)
  gt : ∀ b ∈ B, ltI E x b
theorem inB.done {E : List Ent} {i j : Nat} {cur A B D : List Nat} {x : Nat} (h : inB E i j cur A x B D) (ha : ∀ a ∈ A, ltI E a x) : (cur.take (i + 1)).Pairwise (ltI E) := by
  have e : cur.take (i + 1) = A ++ (x :: B) := by
    rw [h.eq, show A ++ (x :: (B ++ D)) = (A ++ (x :: B)) ++ D by simp]
    refine List.take_left' ?_
    have := h.lB
    simp
    omega
  rw [e]
  have hs := h.srt
  rw [List.pairwise_append] at hs ⊢
  refine ⟨hs.1, List.pairwise_cons.2 ⟨h.gt, hs.2.1⟩, fun a haA b hb => ?_⟩
  rcases List.mem_cons.1 hb with rfl | hb
  · exact ha a haA
  · exact hs.2.2 a haA b hb
theorem inB.last {E : List Ent} {i j : Nat} {cur A' B D : List Nat} {a x : Nat} (h : inB E i j cur (A' ++ [a]) x B D) (ha : ltI E a x) : ∀ b ∈ A' ++ [a], ltI E b x := by
  have hs := h.srt
  rw [List.append_assoc, List.pairwise_append] at hs
  intro b hb
  rcases List.mem_append.1 hb with hb | hb
  · exact ltI_trans E _ _ _ (hs.2.2 b hb a (by simp)) ha
  · rw [List.mem_singleton.1 hb]
    exact ha
theorem inB.swap {E : List Ent} {i k : Nat} {cur A' B D : List Nat} {a x : Nat} (h : inB E i (k + 1) cur (A' ++ [a]) x B D) (hx : ltI E x a) : inB E i k ((cur.set (k + 1) a).set k x) A' x (a :: B) D ∧ ((cur.set (k + 1) a).set k x).Perm cur := by
  have hk : A'.length = k := by have := h.lA; simp at this; exact this
  have e : (cur.set (k + 1) a).set k x = A' ++ (x :: ((a :: B) ++ D)) := by
    rw [h.eq, show A' ++ [a] ++ (x :: (B ++ D)) = A' ++ (a :: x :: (B ++ D)) by simp]
    subst hk
    simp
  refine ⟨⟨e, hk, ?_, ?_, ?_⟩, ?_⟩
  · have := h.lB
    simp at this ⊢
    omega
  · have := h.srt
    simpa using this
  · intro b hb
    rcases List.mem_cons.1 hb with rfl | hb
    · exact hx
    · exact h.gt b hb
  · rw [e, h.eq]
    rw [show A' ++ [a] ++ (x :: (B ++ D)) = A' ++ (a :: x :: (B ++ D)) by simp]
    exact List.Perm.append_left A' (List.Perm.swap _ _ _)
theorem callee84 : callee Try.prog 84 := callee_of Try.func84 rfl rfl
theorem ordLen (l : List Nat) : (ordO l).cells.length = l.length := (flat_len natC_len l).trans (Nat.mul_one _)
theorem ordGet (l : List Nat) (k : Nat) (h : k < l.length) : ((ordO l).cells.drop (k * 1)).take 1 = natC l[k] := flat_get (f := natC) natC_len l k h
def srO (E : List Ent) (cur : List Nat) : List (Nat × Ob) := [(0, ordO cur), (1, netB E), (2, keysB E)]
def srA (E : List Ent) (n i : Nat) (cur : List Nat) : AS := AS.of 53 3 3 [(0, .one (.gref 0)), (1, .one (.int .i64 0)), (2, .one (.int .i64 (n : Nat))), (3, .one (.fn 57 [.ptr 1 0, .ptr 2 0])), (8, .one (.int .i64 (i : Nat)))] (srO E cur)
def srB (E : List Ent) (n i j : Nat) (cur : List Nat) : AS := AS.of 53 3 3 [(0, .one (.gref 0)), (1, .one (.int .i64 0)), (2, .one (.int .i64 (n : Nat))), (3, .one (.fn 57 [.ptr 1 0, .ptr 2 0])), (8, .one (.int .i64 (i : Nat))), (9, .one (.int .i64 (j : Nat)))] (srO E cur)
theorem ins84_spec (E : List Ent) (hE : okE E) (hap : apart E) (n : Nat) (hn : n ≤ 12) (x0 C : List Nat) (hx : x0.length = n) (hxr : ∀ a ∈ x0, a < E.length) (hxd : x0.Nodup) (hC : ∀ a, a ∈ C ↔ a ∈ x0) (hCs : C.Pairwise (ltI E)) :
    GSpec Try.prog 84 [.one (.gref 0), .one (.int .i64 0), .one (.int .i64 (n : Nat)), .one (.fn 57 [.ptr 1 0, .ptr 2 0])] [ordO x0, netB E, keysB E] (ordO C) (.tup []) := by
  refine gspec_x env08_ok mixed08 Try.func84 rfl 53 rfl _ rfl rfl ?_
  refine wn ?_
  refine exI_as 1 (by decide) ?_
  refine wn ?_
  refine loopX_of env08_ok mixed08 (σ := Nat × List Nat) (fun q => srA E n q.1 q.2) (fun q => 1 ≤ q.1 ∧ (q.1 ≤ n ∨ q.1 = 1) ∧ q.2.Perm x0 ∧ (q.2.take q.1).Pairwise (ltI E)) (fun q => n - q.1) (1, x0) (fun _ => rfl) (tid ⟨⟨(congrArg some (ordO_ren x0 id)).symm, ordO_lt _ _, by decide⟩, ⟨rfl, rfl, by decide⟩, ⟨rfl, rfl, by decide⟩, trivial⟩) ⟨Nat.le_refl _, .inr rfl, List.Perm.refl _, ?_⟩ ?_
  · show (x0.take 1).Pairwise _
    cases x0 with
    | nil => exact List.Pairwise.nil
    | cons a l => exact List.pairwise_singleton _ _
  rintro ⟨i, cur⟩ ⟨hi1, hi2, hp, hsr⟩
  have hi1 : 1 ≤ i := hi1
  have hi2 : i ≤ n ∨ i = 1 := hi2
  have hp : cur.Perm x0 := hp
  have hsr : (cur.take i).Pairwise (ltI E) := hsr
  refine wn ?_
  refine forkB_dec (fun h1 => ?_) (fun h1 => ?_)
  · have hin : i < n := by have h1 : (i : Int) < n := h1; omega
    refine wn ?_
    have hcl : cur.length = n := hp.length_eq.trans hx
    refine loopX_of env08_ok mixed08 (σ := Nat × List Nat) (fun q => srB E n i q.1 q.2) (fun q => q.1 ≤ i ∧ q.2.Perm x0 ∧ ∃ A x B D, inB E i q.1 q.2 A x B D) (fun q => q.1) (i, cur) (fun _ => rfl) (tid ⟨⟨(congrArg some (ordO_ren cur id)).symm, ordO_lt _ _, by decide⟩, ⟨rfl, rfl, by decide⟩, ⟨rfl, rfl, by decide⟩, trivial⟩) ⟨Nat.le_refl _, hp, cur.take i, cur[i], [], cur.drop (i + 1), ?_⟩ ?_
    · refine ⟨?_, by show (cur.take i).length = i; rw [List.length_take]; omega, by show (cur.take i).length + 0 = i; rw [List.length_take]; omega, by rw [List.append_nil]; exact hsr, fun b hb => by cases hb⟩
      show cur = _
      rw [List.nil_append, ← List.drop_eq_getElem_cons (by omega), List.take_append_drop]
    rintro ⟨j, cr⟩ ⟨hj, hpr, A, x, B, D, hin2⟩
    have hj : j ≤ i := hj
    have hpr : cr.Perm x0 := hpr
    have hin2 : inB E i j cr A x B D := hin2
    have hcrl : cr.length = n := hpr.length_eq.trans hx
    have hxin : ∀ a ∈ cr, a < E.length := fun a ha => hxr a (hpr.mem_iff.1 ha)
    have hnd : cr.Nodup := (hpr.nodup_iff).2 hxd
    refine wn ?_
    refine drawnX_phase env08_ok (fun id => id == 0) (List.range 17) (tks 0 14 (.one 14 (tks 15 2 (.stop)))) 0 (lst 17 []) (by kernel_rfl) ?_
    refine wn ?_
    refine forkB_dec (fun h2 => ?_) (fun h2 => ?_)
    · obtain ⟨k, rfl⟩ : ∃ k, j = k + 1 := ⟨j - 1, by have h2 : (j : Int) > 0 := h2; omega⟩
      obtain ⟨A', a, rfl⟩ : ∃ A' a, A = A' ++ [a] := ⟨A.dropLast, A.getLast (by intro e; have := hin2.lA; rw [e] at this; simp at this), (List.dropLast_concat_getLast _).symm⟩
      have hA' : A'.length = k := by have := hin2.lA; simp at this; exact this
      have hkx : k + 1 < cr.length := by omega
      have ex : cr[k + 1] = x := by simp [hin2.eq, hA']
      have ea : cr[k] = a := by simp [hin2.eq, hA']
      have hxl : x < E.length := by rw [← ex]; exact hxin _ (List.getElem_mem _)
      have hal : a < E.length := by rw [← ea]; exact hxin _ (List.getElem_mem _)
      refine wn ?_
      refine reqD_dec ⟨by show (0 : Int) ≤ ((k + 1 : Nat) : Int); omega, by show (k + 1) * 1 < (ordO cr).cells.length; rw [ordLen]; omega⟩ ?_
      refine wn ?_
      refine forceL_as (natC x) ((ordGet cr (k + 1) hkx).trans (by rw [ex])) ?_
      refine wn ?_
      refine exI_as (k : Int) (by show IntKind.i64.wrap (((k + 1 : Nat) : Int) - 1) = _; exact (wrap64 (by omega) (by omega)).trans (by omega)) ?_
      refine wn ?_
      refine reqD_dec ⟨by omega, by show k * 1 < (ordO cr).cells.length; rw [ordLen]; omega⟩ ?_
      refine wn ?_
      refine forceL_as (natC a) ((ordGet cr k (by omega)).trans (by rw [ea])) ?_
      refine wn ?_
      refine callX_obs (cmp_spec E hE x a hxl hal) callee57 (rhoL [1, 2]) (posL [1, 2]) (avs := [.one (.int .i64 x), .one (.int .i64 a), .one (.ptr 1 0), .one (.ptr 2 0)]) rfl rfl (.cons (AV.Le.refl _) (.cons (AV.Le.refl _) (.cons (AV.Le.refl _) (.cons (AV.Le.refl _) .nil)))) (passedA (args := [.one (.int .i64 x), .one (.int .i64 a), .one (.ptr 0 0), .one (.ptr 1 0)]) [1, 2] ⟨⟨rfl, rfl⟩, ⟨rfl, rfl⟩, trivial⟩) ?_
      rintro r hr rfl
      refine wn ?_
      refine forkB_dec (fun h3 => ?_) (fun h3 => ?_)
      · have hlt := (ltI_cmp hxl hal).1 h3
        obtain ⟨hsw, hpm⟩ := hin2.swap hlt
        refine wn ?_
        refine drawnX_done (by kernel_rfl) ?_
        refine wn ?_
        refine drawnX_phase env08_ok (fun _ => false) (List.range 18) (tks 0 9 (tks 10 3 (.two 9 13 (.one 13 (tks 14 1 (.one 15 (tks 16 1 (.one 17 (.stop)))))) (.one 9 (tks 14 1 (.one 15 (tks 16 1 (.one 17 (.stop))))))))) 0 (lst 18 []) (by kernel_rfl) ?_
        refine wn ?_
        refine exI_as (k : Int) (by show IntKind.i64.wrap (((k + 1 : Nat) : Int) - 1) = _; exact (wrap64 (by omega) (by omega)).trans (by omega)) ?_
        refine wn ?_
        refine exI_as (k : Int) (by show IntKind.i64.wrap (((k + 1 : Nat) : Int) - 1) = _; exact (wrap64 (by omega) (by omega)).trans (by omega)) ?_
        refine wn ?_
        repeat (first | (refine reqD_dec ⟨by omega, by show k * 1 < (ordO cr).cells.length; rw [ordLen]; omega⟩ ?_; refine wn ?_) | (refine reqD_dec ⟨by show (0 : Int) ≤ ((k + 1 : Nat) : Int); omega, by show (k + 1) * 1 < (ordO cr).cells.length; rw [ordLen]; omega⟩ ?_; refine wn ?_))
        refine ⟨?_, ?_⟩
        · refine wn ?_
          repeat (first | (refine forceL_as (natC a) ((ordGet cr k (by omega)).trans (by rw [ea])) ?_; refine wn ?_) | (refine forceL_as (natC x) ((ordGet cr (k + 1) hkx).trans (by rw [ex])) ?_; refine wn ?_))
          refine reqD_dec ⟨by show (0 : Int) ≤ ((k + 1 : Nat) : Int); omega, by show (k + 1) * 1 < (ordO cr).cells.length; rw [ordLen]; omega⟩ ?_
          refine wn ?_
          refine reqD_dec (by show (k + 1) * 1 + 1 ≤ (ordO cr).cells.length; rw [ordLen]; omega) ?_
          refine forceL_as ((cr.set (k + 1) a).flatMap natC) ((setR1 _ (k + 1) _ (by rw [ordLen]; omega)).trans (set_flatN cr (k + 1) a)) ?_
          refine wn ?_
          refine reqD_dec ⟨by omega, by show k * 1 < (ordO (cr.set (k + 1) a)).cells.length; rw [ordLen, List.length_set]; omega⟩ ?_
          refine wn ?_
          refine reqD_dec (by show k * 1 + 1 ≤ (ordO (cr.set (k + 1) a)).cells.length; rw [ordLen, List.length_set]; omega) ?_
          refine forceL_as (((cr.set (k + 1) a).set k x).flatMap natC) ((setR1 _ k _ (by show k < (ordO (cr.set (k + 1) a)).cells.length; rw [ordLen, List.length_set]; omega)).trans (set_flatN (cr.set (k + 1) a) k x)) ?_
          refine wn ?_
          refine drawnX_done (by kernel_rfl) ?_
          refine wn ?_
          refine exI_as (k : Int) (by show IntKind.i64.wrap (((k + 1 : Nat) : Int) - 1) = _; exact (wrap64 (by omega) (by omega)).trans (by omega)) ?_
          refine wn ?_
          exact ⟨(k, (cr.set (k + 1) a).set k x), ⟨by show k ≤ i; omega, hpm.trans hpr, A', x, a :: B, D, hsw⟩, by show k < k + 1; omega, (tid ⟨⟨(congrArg some (ordO_ren ((cr.set (k + 1) a).set k x) id)).symm, ordO_lt _ _, by decide⟩, ⟨rfl, rfl, by decide⟩, ⟨rfl, rfl, by decide⟩, trivial⟩)⟩
        · refine wn ?_
          repeat (first | (refine forceL_as (natC a) ((ordGet cr k (by omega)).trans (by rw [ea])) ?_; refine wn ?_) | (refine forceL_as (natC x) ((ordGet cr (k + 1) hkx).trans (by rw [ex])) ?_; refine wn ?_))
          refine reqD_dec ⟨by show (0 : Int) ≤ ((k + 1 : Nat) : Int); omega, by show (k + 1) * 1 < (ordO cr).cells.length; rw [ordLen]; omega⟩ ?_
          refine wn ?_
          refine reqD_dec (by show (k + 1) * 1 + 1 ≤ (ordO cr).cells.length; rw [ordLen]; omega) ?_
          refine forceL_as ((cr.set (k + 1) a).flatMap natC) ((setR1 _ (k + 1) _ (by rw [ordLen]; omega)).trans (set_flatN cr (k + 1) a)) ?_
          refine wn ?_
          refine reqD_dec ⟨by omega, by show k * 1 < (ordO (cr.set (k + 1) a)).cells.length; rw [ordLen, List.length_set]; omega⟩ ?_
          refine wn ?_
          refine reqD_dec (by show k * 1 + 1 ≤ (ordO (cr.set (k + 1) a)).cells.length; rw [ordLen, List.length_set]; omega) ?_
          refine forceL_as (((cr.set (k + 1) a).set k x).flatMap natC) ((setR1 _ k _ (by show k < (ordO (cr.set (k + 1) a)).cells.length; rw [ordLen, List.length_set]; omega)).trans (set_flatN (cr.set (k + 1) a) k x)) ?_
          refine wn ?_
          refine drawnX_done (by kernel_rfl) ?_
          refine wn ?_
          refine exI_as (k : Int) (by show IntKind.i64.wrap (((k + 1 : Nat) : Int) - 1) = _; exact (wrap64 (by omega) (by omega)).trans (by omega)) ?_
          refine wn ?_
          exact ⟨(k, (cr.set (k + 1) a).set k x), ⟨by show k ≤ i; omega, hpm.trans hpr, A', x, a :: B, D, hsw⟩, by show k < k + 1; omega, (tid ⟨⟨(congrArg some (ordO_ren ((cr.set (k + 1) a).set k x) id)).symm, ordO_lt _ _, by decide⟩, ⟨rfl, rfl, by decide⟩, ⟨rfl, rfl, by decide⟩, trivial⟩)⟩
      · have hlt : ltI E a x := by
          rcases hap a x hal hxl (by
            rintro rfl
            have := (List.pairwise_iff_getElem.1 hnd) k (k + 1) (by omega) hkx (by omega)
            rw [ex, ea] at this
            exact this rfl) with hh | hh
          · exact hh
          · exact absurd ((ltI_cmp hxl hal).2 hh) h3
        have hds := hin2.done (hin2.last hlt)
        refine wn ?_
        refine drawnX_done (by kernel_rfl) ?_
        refine wn ?_
        refine exI_i64 (by show -9223372036854775808 ≤ (i : Int) + 1; omega) (by show (i : Int) + 1 ≤ 9223372036854775807; omega) ?_
        refine wn ?_
        exact ⟨(i + 1, cr), ⟨by show 1 ≤ i + 1; omega, .inl hin, hpr, hds⟩, by show n - (i + 1) < n - i; omega, (tid ⟨⟨(congrArg some (ordO_ren cr id)).symm, ordO_lt _ _, by decide⟩, ⟨rfl, rfl, by decide⟩, ⟨rfl, rfl, by decide⟩, trivial⟩)⟩
    · have hj0 : j = 0 := by have h2 : ¬ (j : Int) > 0 := h2; omega
      have hA0 : A = [] := List.eq_nil_of_length_eq_zero (by rw [hin2.lA]; exact hj0)
      have hds := hin2.done (by rw [hA0]; intro a ha; cases ha)
      refine wn ?_
      refine drawnX_done (by kernel_rfl) ?_
      refine wn ?_
      refine exI_i64 (by show -9223372036854775808 ≤ (i : Int) + 1; omega) (by show (i : Int) + 1 ≤ 9223372036854775807; omega) ?_
      refine wn ?_
      exact ⟨(i + 1, cr), ⟨by show 1 ≤ i + 1; omega, .inl hin, hpr, hds⟩, by show n - (i + 1) < n - i; omega, (tid ⟨⟨(congrArg some (ordO_ren cr id)).symm, ordO_lt _ _, by decide⟩, ⟨rfl, rfl, by decide⟩, ⟨rfl, rfl, by decide⟩, trivial⟩)⟩
  · have hin : ¬ i < n := by have h1 : ¬ (i : Int) < n := h1; omega
    refine wn ?_
    have hcl : cur.length = n := hp.length_eq.trans hx
    rw [List.take_of_length_le (by omega)] at hsr
    have e : cur = C := sorted_ext (ltI_irr E) (ltI_trans E) hsr hCs fun a => (hp.mem_iff).trans (hC a).symm
    subst e
    refine retX_g (obs2 := [ordO cur, netB E, keysB E]) rfl rfl (by exact Nat.le_of_ble_eq_true rfl) ⟨⟨rfl, ordO_lt _ _⟩, ⟨rfl, rfl⟩, ⟨rfl, rfl⟩, trivial⟩ rfl rfl rfl ?_
    rfl

theorem lenB_spec (n : Nat) (hn : n ≤ 12) : PSpec Try.prog 93 [.one (.int .u64 n)] (fun r => ∃ k : Int, r = .one (.int .i64 k)) := by
  refine pspec_x env08_ok mixed08 Try.func93 rfl 25 rfl _ rfl rfl ?_
  have h13 : n = 0 ∨ n = 1 ∨ n = 2 ∨ n = 3 ∨ n = 4 ∨ n = 5 ∨ n = 6 ∨ n = 7 ∨ n = 8 ∨ n = 9 ∨ n = 10 ∨ n = 11 ∨ n = 12 := by omega
  rcases h13 with rfl | rfl | rfl | rfl | rfl | rfl | rfl | rfl | rfl | rfl | rfl | rfl | rfl <;> (
    refine wm ?_
    repeat' (first | (refine i64 ?_; refine wm ?_) | (refine exI_as _ rfl ?_; refine wm ?_) | (refine forkB_dec (fun h => absurd h (by decide)) (fun _ => ?_) <;> refine wm ?_))
    refine reqD_dec (by decide) ?_
    first | refine optD_as 0 (by decide) ?_ | refine optD_as 1 (by decide) ?_ | refine optD_as 2 (by decide) ?_ | refine optD_as 3 (by decide) ?_ | refine optD_as 4 (by decide) ?_
    refine wm ?_
    repeat' (first | (refine i64 ?_; refine wm ?_) | (refine exI_as _ rfl ?_; refine wm ?_))
    refine retX_val rfl ?_
    exact ⟨_, rfl⟩)
theorem lenU_spec (n : Nat) (hn : n ≤ 12) : PSpec Try.prog 74 [.one (.int .u64 n)] (fun r => ∃ k : Int, r = .one (.int .i64 k)) := by
  refine pspec_x env08_ok mixed08 Try.func74 rfl 8 rfl _ rfl rfl ?_
  refine wn ?_
  refine cle (lenB_spec n hn) (callee_of Try.func93 rfl rfl) ?_
  rintro x hx ⟨k, rfl⟩
  refine wn ?_
  refine retX_val rfl ?_
  exact ⟨_, rfl⟩
def srObs (E : List Ent) (x0 : List Nat) : List Ob := [ordO x0, netB E, keysB E]
theorem pdq73_spec (E : List Ent) (hE : okE E) (hap : apart E) (n : Nat) (hn : n ≤ 12) (k : Int) (x0 C : List Nat) (hx : x0.length = n) (hxr : ∀ a ∈ x0, a < E.length) (hxd : x0.Nodup) (hC : ∀ a, a ∈ C ↔ a ∈ x0) (hCs : C.Pairwise (ltI E)) :
    GSpec Try.prog 73 [.one (.gref 0), .one (.int .i64 0), .one (.int .i64 (n : Nat)), .one (.int .i64 k), .one (.fn 57 [.ptr 1 0, .ptr 2 0])] (srObs E x0) (ordO C) (.tup []) := by
  refine gspec_x env08_ok mixed08 Try.func73 rfl 148 rfl _ rfl rfl ?_
  refine wn ?_
  refine loopX_n env08_ok mixed08 1 ?_
  refine wn ?_
  refine exI_as (n : Int) (by exact (wrap64 (by omega) (by omega)).trans (by omega)) ?_
  refine wn ?_
  refine forkB_dec (fun _ => ?_) (fun h => by exfalso; omega)
  refine wn ?_
  refine callX_g (ins84_spec E hE hap n hn x0 C hx hxr hxd hC hCs) callee84 (rhoL [0, 1, 2]) (posL [0, 1, 2]) (avs := [.one (.gref 0), .one (.int .i64 0), .one (.int .i64 (n : Nat)), .one (.fn 57 [.ptr 1 0, .ptr 2 0])]) rfl rfl (.cons (AV.Le.refl _) (.cons (AV.Le.refl _) (.cons (AV.Le.refl _) (.cons (AV.Le.refl _) .nil)))) (passedA (args := [.one (.gref 0), .one (.int .i64 0), .one (.int .i64 (n : Nat)), .one (.fn 57 [.ptr 1 0, .ptr 2 0])]) [0, 1, 2] ⟨⟨congrArg some (ordO_ren x0 _).symm, ordO_lt _ _⟩, ⟨rfl, rfl⟩, ⟨rfl, rfl⟩, trivial⟩) (by exact Nat.le_of_ble_eq_true rfl) (ordO_ren C) rfl ?_
  refine wn ?_
  refine retX_g (obs2 := [ordO C, netB E, keysB E]) rfl rfl (by exact Nat.le_of_ble_eq_true rfl) ⟨⟨rfl, ordO_lt _ _⟩, ⟨rfl, rfl⟩, ⟨rfl, rfl⟩, trivial⟩ rfl rfl rfl ?_
  rfl
theorem sort56_spec (E : List Ent) (hE : okE E) (hap : apart E) (n : Nat) (hn : n ≤ 12) (x0 C : List Nat) (hx : x0.length = n) (hxr : ∀ a ∈ x0, a < E.length) (hxd : x0.Nodup) (hC : ∀ a, a ∈ C ↔ a ∈ x0) (hCs : C.Pairwise (ltI E)) :
    GSpec Try.prog 56 [.one (.gref 0), .one (.fn 57 [.ptr 1 0, .ptr 2 0])] (srObs E x0) (ordO C) (.tup []) := by
  refine gspec_x env08_ok mixed08 Try.func56 rfl 14 rfl _ rfl rfl ?_
  refine wn ?_
  refine ⟨n, by show (ordO x0).cells.length = n * 1; rw [ordLen, Nat.mul_one]; exact hx, ?_⟩
  refine wn ?_
  refine exI_as (n : Int) (by unfold IntKind.wrap; simp [IntKind.signed, IntKind.bits]; omega) ?_
  refine wn ?_
  refine cle (lenU_spec n hn) (callee_of Try.func74 rfl rfl) ?_
  rintro x hx2 ⟨k, rfl⟩
  refine wn ?_
  refine callX_g (pdq73_spec E hE hap n hn k x0 C hx hxr hxd hC hCs) (callee_of Try.func73 rfl rfl) (rhoL [0, 1, 2]) (posL [0, 1, 2]) (avs := [.one (.gref 0), .one (.int .i64 0), .one (.int .i64 (n : Nat)), .one (.int .i64 k), .one (.fn 57 [.ptr 1 0, .ptr 2 0])]) rfl rfl (.cons (AV.Le.refl _) (.cons (AV.Le.refl _) (.cons (AV.Le.refl _) (.cons (AV.Le.refl _) (.cons (AV.Le.refl _) .nil))))) (passedA (args := [.one (.gref 0), .one (.int .i64 0), .one (.int .i64 (n : Nat)), .one (.int .i64 k), .one (.fn 57 [.ptr 1 0, .ptr 2 0])]) [0, 1, 2] ⟨⟨congrArg some (ordO_ren x0 _).symm, ordO_lt _ _⟩, ⟨rfl, rfl⟩, ⟨rfl, rfl⟩, trivial⟩) (by exact Nat.le_of_ble_eq_true rfl) (ordO_ren C) rfl ?_
  refine wn ?_
  refine retX_g (obs2 := [ordO C, netB E, keysB E]) rfl rfl (by exact Nat.le_of_ble_eq_true rfl) ⟨⟨rfl, ordO_lt _ _⟩, ⟨rfl, rfl⟩, ⟨rfl, rfl⟩, trivial⟩ rfl rfl rfl ?_
  rfl
theorem callee56 : callee Try.prog 56 := callee_of Try.func56 rfl rfl
end Go.Proofs.Ve


/-
  VeJi: net changes: what the list of them holds.
-/
set_option linter.unusedVariables false
set_option linter.unusedSimpArgs false
namespace Go.Proofs.Ve
open Go

structure EntI (s : Sch) (st0 cur : St) (e : Ent) : Prop where
  tab : 0 ≤ e.1.table ∧ e.1.table < s.tables.length
  old : e.1.old = gt s st0 e.1.table e.2
  new : e.1.new = gt s cur e.1.table e.2
structure NetI (s : Sch) (st0 cur : St) (E : List Ent) : Prop where
  ent : ∀ e ∈ E, EntI s st0 cur e
  apart : apart E
  all : ∀ (t : Int), 0 ≤ t ∧ t < s.tables.length → ∀ k, gt s st0 t k ≠ gt s cur t k → ∃ e ∈ E, e.1.table = t ∧ e.2 = k
def hit (t : Int) (k : Row) (e : Ent) : Prop := e.1.table = t ∧ e.2 = k
theorem NetI.nil (s : Sch) (st : St) : NetI s st st [] := ⟨fun e h => (by cases h), fun a b h => (by cases h), fun t ht k h => absurd rfl h⟩
theorem ltE_tri {x y : Ent} (h : ¬ (x.1.table = y.1.table ∧ x.2 = y.2)) : ltE x y ∨ ltE y x := by
  unfold ltE
  rcases Int.lt_trichotomy x.1.table y.1.table with k | k | k
  · exact .inl (.inl k)
  · rcases ltR_tri x.2 y.2 with m | m | m
    · exact .inl (.inr ⟨k, m⟩)
    · exact absurd ⟨k, m⟩ h
    · exact .inr (.inr ⟨k.symm, m⟩)
  · exact .inr (.inl k)
theorem ltE_ne {x y : Ent} (h : ltE x y) : ¬ (x.1.table = y.1.table ∧ x.2 = y.2) := by
  rintro ⟨h1, h2⟩
  rcases h with h | ⟨_, h⟩
  · omega
  · rw [h2] at h; exact ltR_irr _ h
theorem apart_iff (E : List Ent) : apart E ↔ ∀ (a b : Nat) (ha : a < E.length) (hb : b < E.length), a ≠ b → ¬ (E[a].1.table = E[b].1.table ∧ E[a].2 = E[b].2) := by
  constructor
  · intro h a b ha hb hne
    rcases h a b ha hb hne with ⟨x, y, h1, h2, k⟩ | ⟨x, y, h1, h2, k⟩
    · rw [List.getElem?_eq_getElem ha] at h1; rw [List.getElem?_eq_getElem hb] at h2
      cases h1; cases h2
      exact ltE_ne k
    · rw [List.getElem?_eq_getElem hb] at h1; rw [List.getElem?_eq_getElem ha] at h2
      cases h1; cases h2
      exact fun hh => ltE_ne k ⟨hh.1.symm, hh.2.symm⟩
  · intro h a b ha hb hne
    have h1 : E[a]? = some E[a] := List.getElem?_eq_getElem ha
    have h2 : E[b]? = some E[b] := List.getElem?_eq_getElem hb
    rcases ltE_tri (h a b ha hb hne) with k | k
    · exact .inl ⟨_, _, h1, h2, k⟩
    · exact .inr ⟨_, _, h2, h1, k⟩
section
variable {s : Sch} {mode : Int} {st0 cur m : St} {E : List Ent} {c : Chg} {A B : Tab} {key : Row} (I : NetI s st0 cur E) (h : Step s mode cur c m A B key)
include I h
theorem NetI.add (hno : ∀ e ∈ E, ¬ hit c.table key e) : NetI s st0 m (E ++ [(c, key)]) where
  ent := fun e he => by
    rcases List.mem_append.1 he with he | he
    · have i := I.ent e he
      refine ⟨i.tab, i.old, ?_⟩
      have hne : ¬ (e.1.table = c.table ∧ e.2 = key) := hno e he
      rw [h.gt _ i.tab, if_neg hne]
      exact i.new
    · rw [List.mem_singleton.1 he]
      refine ⟨h.tab, ?_, ?_⟩
      · show c.old = gt s st0 c.table key
        rw [← h.old_gt]
        rcases Classical.em (gt s st0 c.table key = gt s cur c.table key) with e | e
        · exact e.symm
        · obtain ⟨e', he', h1, h2⟩ := I.all c.table h.tab key e
          exact absurd ⟨h1, h2⟩ (hno e' he')
      · show c.new = gt s m c.table key
        have hc : c.table = c.table ∧ key = key := ⟨rfl, rfl⟩
        rw [h.gt _ h.tab, if_pos hc]
  apart := by
    have ha := (apart_iff E).1 I.apart
    rw [apart_iff]
    intro a b hla hlb hne
    rw [List.length_append] at hla hlb
    simp only [List.length_singleton] at hla hlb
    by_cases h1 : a < E.length
    · by_cases h2 : b < E.length
      · rw [List.getElem_append_left h1, List.getElem_append_left h2]
        exact ha a b h1 h2 hne
      · rw [List.getElem_append_left h1, List.getElem_append_right (by omega)]
        simp only [List.getElem_singleton]
        exact hno _ (List.getElem_mem h1)
    · by_cases h2 : b < E.length
      · rw [List.getElem_append_right (by omega), List.getElem_append_left h2]
        simp only [List.getElem_singleton]
        exact fun hh => hno _ (List.getElem_mem h2) ⟨hh.1.symm, hh.2.symm⟩
      · omega
  all := fun t ht k hne => by
    rcases Classical.em (t = c.table ∧ k = key) with e | e
    · exact ⟨(c, key), by simp, e.1.symm, e.2.symm⟩
    · rw [h.gt t ht, if_neg e] at hne
      obtain ⟨e', he', h1, h2⟩ := I.all t ht k hne
      exact ⟨e', List.mem_append_left _ he', h1, h2⟩
theorem NetI.upd {j : Nat} (hj : j < E.length) (hh : hit c.table key E[j]) : NetI s st0 m (E.set j (⟨c.table, E[j].1.old, c.new⟩, key)) ∧ E[j].1.new = c.old := by
  have ij := I.ent _ (List.getElem_mem hj)
  have ha := (apart_iff E).1 I.apart
  refine ⟨⟨fun e he => ?_, ?_, fun t ht k hne => ?_⟩, ?_⟩
  · obtain ⟨a, hal, rfl⟩ := List.mem_iff_getElem.1 he
    rw [List.length_set] at hal
    rw [List.getElem_set]
    split
    · refine ⟨h.tab, ?_, ?_⟩
      · show E[j].1.old = gt s st0 c.table key
        rw [ij.old, hh.1, hh.2]
      · show c.new = gt s m c.table key
        have hc : c.table = c.table ∧ key = key := ⟨rfl, rfl⟩
        rw [h.gt _ h.tab, if_pos hc]
    · rename_i hne
      have i := I.ent _ (List.getElem_mem hal)
      refine ⟨i.tab, i.old, ?_⟩
      have hn : ¬ (E[a].1.table = c.table ∧ E[a].2 = key) := fun hx => ha a j hal hj (fun e => hne e.symm) ⟨hx.1.trans hh.1.symm, hx.2.trans hh.2.symm⟩
      rw [h.gt _ i.tab, if_neg hn]
      exact i.new
  · rw [apart_iff]
    intro a b hla hlb hne
    rw [List.length_set] at hla hlb
    have key : ∀ (x : Nat) (hx : x < E.length), ((E.set j (⟨c.table, E[j].1.old, c.new⟩, key))[x]'(by rw [List.length_set]; exact hx)).1.table = E[x].1.table ∧ ((E.set j (⟨c.table, E[j].1.old, c.new⟩, key))[x]'(by rw [List.length_set]; exact hx)).2 = E[x].2 := fun x hx => by
      rw [List.getElem_set]
      split
      · rename_i e; subst e; exact ⟨hh.1.symm, hh.2.symm⟩
      · exact ⟨rfl, rfl⟩
    rw [(key a hla).1, (key a hla).2, (key b hlb).1, (key b hlb).2]
    exact ha a b hla hlb hne
  · rcases Classical.em (t = c.table ∧ k = key) with e | e
    · refine ⟨(⟨c.table, E[j].1.old, c.new⟩, key), List.mem_iff_getElem.2 ⟨j, by rw [List.length_set]; exact hj, by rw [List.getElem_set_self]⟩, e.1.symm, e.2.symm⟩
    · rw [h.gt t ht, if_neg e] at hne
      obtain ⟨e', he', h1, h2⟩ := I.all t ht k hne
      obtain ⟨a, hal, rfl⟩ := List.mem_iff_getElem.1 he'
      refine ⟨E[a], List.mem_iff_getElem.2 ⟨a, by rw [List.length_set]; exact hal, ?_⟩, h1, h2⟩
      rw [List.getElem_set_ne]
      rintro rfl
      exact e ⟨h1.symm.trans hh.1, h2.symm.trans hh.2⟩
  · rw [ij.new, hh.1, hh.2, h.old_gt]
end
/-- What is sorted. -/
theorem sorted_ex {E : List Ent} (ha : apart E) : ∀ n, n ≤ E.length → ∃ C : List Nat, (∀ a, a ∈ C ↔ a < n) ∧ C.Pairwise (ltI E)
  | 0, _ => ⟨[], fun a => by simp, .nil⟩
  | n + 1, hn => by
    classical
    obtain ⟨C, h1, h2⟩ := sorted_ex ha n (by omega)
    refine ⟨C.filter (fun a => decide (ltI E a n)) ++ (n :: C.filter (fun a => decide (ltI E n a))), fun a => ?_, ?_⟩
    · simp only [List.mem_append, List.mem_cons, List.mem_filter, decide_eq_true_eq, h1]
      constructor
      · rintro (⟨h, _⟩ | rfl | ⟨h, _⟩) <;> omega
      · intro h
        rcases Nat.lt_or_ge a n with k | k
        · rcases ha a n (by omega) (by omega) (by omega) with g | g
          · exact .inl ⟨k, g⟩
          · exact .inr (.inr ⟨k, g⟩)
        · exact .inr (.inl (by omega))
    · rw [List.pairwise_append]
      refine ⟨h2.filter _, List.pairwise_cons.2 ⟨fun b hb => ?_, h2.filter _⟩, fun a ha' b hb => ?_⟩
      · exact of_decide_eq_true (List.mem_filter.1 hb).2
      · have g1 : ltI E a n := of_decide_eq_true (List.mem_filter.1 ha').2
        rcases List.mem_cons.1 hb with rfl | hb
        · exact g1
        · exact ltI_trans E _ _ _ g1 (of_decide_eq_true (List.mem_filter.1 hb).2)
def entAt (E : List Ent) (a : Nat) : Chg := match E[a]? with
  | some e => e.1
  | none => ⟨0, [], []⟩
theorem entAt_of {E : List Ent} {a : Nat} (h : a < E.length) : entAt E a = E[a].1 := by
  unfold entAt
  rw [List.getElem?_eq_getElem h]
def outN (E : List Ent) (C : List Nat) : List Chg := (C.map (entAt E)).filter (fun c => decide (cmpR c.old c.new ≠ 0))
theorem EntI.key {s : Sch} {st0 cur : St} {e : Ent} (i : EntI s st0 cur e) (hne : e.1.old ≠ e.1.new) : keyC s e.1 = e.2 := by
  unfold keyC
  split
  · rename_i hp
    rw [i.old] at hp ⊢
    exact gt_key (fun e => by rw [e] at hp; simp at hp)
  · rename_i hp
    rw [i.new]
    refine gt_key ?_
    intro h
    apply hne
    rw [i.new, h]
    exact List.eq_nil_of_length_eq_zero (by omega)
theorem NetI.difs {s : Sch} {st0 cur : St} {E : List Ent} (I : NetI s st0 cur E) {C : List Nat} (hC : ∀ a, a ∈ C ↔ a < E.length) (hs : C.Pairwise (ltI E)) : Difs s st0 cur (outN E C) := by
  have hmem : ∀ c ∈ outN E C, ∃ (a : Nat) (ha : a < E.length), c = E[a].1 ∧ c.old ≠ c.new := fun c hc => by
    obtain ⟨h1, h2⟩ := List.mem_filter.1 hc
    obtain ⟨a, ha, rfl⟩ := List.mem_map.1 h1
    have hal := (hC a).1 ha
    have h2 := of_decide_eq_true h2
    exact ⟨a, hal, entAt_of hal, fun e => h2 (cmpR_eq.2 e)⟩
  refine ⟨?_, fun c hc => ?_, fun t ht k hne => ?_⟩
  · unfold outN
    rw [List.pairwise_filter, List.pairwise_map]
    refine hs.imp_of_mem fun {a b} ha hb hlt h1 h2 => ?_
    have hal := (hC a).1 ha
    have hbl := (hC b).1 hb
    rw [entAt_of hal] at h1 ⊢
    rw [entAt_of hbl] at h2 ⊢
    have n1 : E[a].1.old ≠ E[a].1.new := fun e => of_decide_eq_true h1 (cmpR_eq.2 e)
    have n2 : E[b].1.old ≠ E[b].1.new := fun e => of_decide_eq_true h2 (cmpR_eq.2 e)
    have k1 := (I.ent _ (List.getElem_mem hal)).key n1
    have k2 := (I.ent _ (List.getElem_mem hbl)).key n2
    obtain ⟨x, y, g1, g2, g⟩ := hlt
    rw [List.getElem?_eq_getElem hal] at g1
    rw [List.getElem?_eq_getElem hbl] at g2
    cases g1; cases g2
    unfold ltC
    rw [k1, k2]
    exact g
  · obtain ⟨a, ha, rfl, hn⟩ := hmem c hc
    have i := I.ent _ (List.getElem_mem ha)
    have k := i.key hn
    exact ⟨i.tab, by rw [k]; exact i.old, by rw [k]; exact i.new, hn⟩
  · obtain ⟨e, he, h1, h2⟩ := I.all t ht k hne
    obtain ⟨a, ha, rfl⟩ := List.mem_iff_getElem.1 he
    have i := I.ent _ (List.getElem_mem ha)
    have hn : E[a].1.old ≠ E[a].1.new := by
      rw [i.old, i.new, h1, h2]
      exact hne
    refine ⟨E[a].1, List.mem_filter.2 ⟨List.mem_map.2 ⟨a, (hC a).2 ha, entAt_of ha⟩, ?_⟩, h1, (i.key hn).trans h2⟩
    exact decide_eq_true fun e => hn (cmpR_eq.1 e)
end Go.Proofs.Ve


/-
  VeJk: Net, of changes that lead from a state to another one.
-/
set_option linter.unusedVariables false
set_option linter.unusedSimpArgs false
set_option pp.maxSteps 2000
set_option maxHeartbeats 4000000
namespace Go.Proofs.Ve
open Go

def fst1 (E : List Ent) : List Chg := E.map (fun x => x.1)
def snd1 (E : List Ent) : List Row := E.map (fun x => x.2)
def netO (E : List Ent) : Ob := ⟨60, 3, 56, (fst1 E).flatMap chgC⟩
def keyO (E : List Ent) : Ob := ⟨27, 1, 24, (snd1 E).flatMap rowC1⟩
theorem netO_ren (E : List Ent) (ρ : Nat → Nat) : (netO E).ren ρ = netO E := ob_ren_deep ρ (all_flat chgC_deep' _)
theorem netO_lt (E : List Ent) (n : Nat) : (netO E).lt n = true := ob_lt_deep n (all_flat chgC_deep' _)
theorem keyO_ren (E : List Ent) (ρ : Nat → Nat) : (keyO E).ren ρ = keyO E := ob_ren_deep ρ (all_flat rowC1_deep _)
theorem keyO_lt (E : List Ent) (n : Nat) : (keyO E).lt n = true := ob_lt_deep n (all_flat rowC1_deep _)
theorem fst1_len (E : List Ent) : (fst1 E).length = E.length := List.length_map _
theorem snd1_len (E : List Ent) : (snd1 E).length = E.length := List.length_map _
theorem netLen (E : List Ent) : (netO E).cells.length = E.length * 3 := (flat_len chgC_len _).trans (by rw [fst1_len])
theorem keyLen (E : List Ent) : (keyO E).cells.length = E.length := (flat_len rowC1_len _).trans (by rw [snd1_len, Nat.mul_one])
theorem netGet (E : List Ent) (a : Nat) (h : a < E.length) : ((netO E).cells.drop (a * 3)).take 3 = chgC E[a].1 := gC E a h
theorem keyGet (E : List Ent) (a : Nat) (h : a < E.length) : ((keyO E).cells.drop (a * 1)).take 1 = rowC1 E[a].2 := gK E a h
theorem netNew (E : List Ent) (a : Nat) (h : a < E.length) : ((netO E).cells.drop (a * 3 + 2)).take 1 = [rowC E[a].1.new] := by
  have g := netGet E a h
  rw [← List.drop_drop, show (1 : Nat) = 3 - 2 by rfl, ← List.drop_take, g]
  rfl
theorem netOld (E : List Ent) (a : Nat) (h : a < E.length) : ((netO E).cells.drop (a * 3 + 1)).take 1 = [rowC E[a].1.old] := by
  have g := netGet E a h
  have e : ((((netO E).cells.drop (a * 3)).take 3).drop 1).take 1 = [rowC E[a].1.old] := by rw [g]; rfl
  rw [List.drop_take, List.take_take, List.drop_drop] at e
  exact e
def neO (s : Sch) (E : List Ent) : List (Nat × Ob) := [(0, ⟨32, 0, 0, schC s⟩), (1, ⟨56, 0, 0, [.gref 3]⟩), (2, ⟨41, 0, 0, [.gref 4]⟩), (3, netO E), (4, keyO E)]
def neA (s : Sch) (mode : Int) (l : List Chg) (i : Nat) (E : List Ent) : AS := AS.of 148 0 5 [(1, .one (.int .i64 mode)), (3, .one (.ptr 0 0)), (9, .one (.ptr 1 0)), (10, .one (.ptr 2 0)), (33, .one (chgsC l)), (34, .one (.int .i64 l.length)), (35, .one (.int .i64 (i : Nat)))] (neO s E)
/-- In search of the entry. -/
def neS (s : Sch) (mode : Int) (l : List Chg) (i : Nat) (E : List Ent) (c : Chg) (key : Row) (j : Nat) (v : Int) : AS := AS.of 148 0 6 [(1, .one (.int .i64 mode)), (3, .one (.ptr 0 0)), (9, .one (.ptr 1 0)), (10, .one (.ptr 2 0)), (33, .one (chgsC l)), (34, .one (.int .i64 l.length)), (35, .one (.int .i64 (i : Nat))), (12, .one (.ptr 5 0)), (13, .one (rowC key)), (14, .one (.int .i64 v)), (47, .one (.gref 3)), (48, .one (.int .i64 E.length)), (49, .one (.int .i64 (j : Nat)))] (neO s E ++ [(5, ⟨60, 0, 0, chgC c⟩)])
theorem steps_len {s : Sch} {mode : Int} {st st' : St} {l : List Chg} (h : Steps s mode st l st') : True := trivial
theorem setR_one {α : Type} (L : List α) (o : Nat) (d : α) (h : o < L.length) : setR L o [d] = L.set o d := by
  unfold setR
  rw [List.set_eq_take_append_cons_drop, if_pos h]
  simp
theorem set_chg : ∀ (L : List Chg) (k : Nat) (h : k < L.length) (new : Row), (L.flatMap chgC).set (k * 3 + 2) (rowC new) = (L.set k ⟨L[k].table, L[k].old, new⟩).flatMap chgC
  | a :: L, 0, h, new => rfl
  | a :: L, k + 1, h, new => by
    have e : (k + 1) * 3 + 2 = (chgC a).length + (k * 3 + 2) := by rw [chgC_len]; omega
    rw [List.flatMap_cons, e, List.set_append_right _ _ (by omega), Nat.add_sub_cancel_left, set_chg L k (by simpa using h) new]
    rfl
theorem netSet (E : List Ent) (k : Nat) (h : k < E.length) (new key : Row) (t : Int) (ht : E[k].1.table = t) : setR (netO E).cells (k * 3 + 2) [rowC new] = (fst1 (E.set k (⟨t, E[k].1.old, new⟩, key))).flatMap chgC := by
  rw [setR_one _ _ _ (by rw [netLen]; omega)]
  unfold netO
  refine (set_chg (fst1 E) k (by rw [fst1_len]; exact h) new).trans ?_
  unfold fst1
  rw [List.map_set, List.getElem_map, ht]
theorem keySet (E : List Ent) (k : Nat) (h : k < E.length) (x : Chg) (key : Row) (hk : E[k].2 = key) : keyO (E.set k (x, key)) = keyO E := by
  unfold keyO snd1
  rw [List.map_set]
  show (⟨27, 1, 24, ((E.map (fun x => x.2)).set k key).flatMap rowC1⟩ : Ob) = _
  rw [← hk]
  congr 2
  have e : E[k].2 = (E.map (fun x => x.2))[k]'(by rw [List.length_map]; exact h) := by rw [List.getElem_map]
  rw [e, List.set_getElem_self]
/-- The order while it is filled. -/
def fl (n q : Nat) : List Nat := List.range q ++ List.replicate (n - q) 0
theorem fl_len {n q : Nat} (h : q ≤ n) : (fl n q).length = n := by
  unfold fl
  rw [List.length_append, List.length_range, List.length_replicate]
  omega
theorem fl_zero (n : Nat) : (List.replicate n ty3.zero).flatten = (fl n 0).flatMap natC := by
  unfold fl
  rw [List.range_zero, List.nil_append, Nat.sub_zero, List.flatMap_def, List.map_replicate]
  rfl
theorem fl_set {n q : Nat} (h : q < n) : (fl n q).set q q = fl n (q + 1) := by
  unfold fl
  obtain ⟨k, hk⟩ : ∃ k, n - q = k + 1 := ⟨n - q - 1, by omega⟩
  rw [hk, show n - (q + 1) = k by omega, List.range_succ, List.replicate_succ, List.set_append_right _ _ (by simp)]
  simp
def neF (E : List Ent) (q : Nat) : AS := AS.of 148 0 6 [(9, .one (.ptr 1 0)), (10, .one (.ptr 2 0)), (17, .one (.gref 5)), (109, .one (.int .i64 E.length)), (110, .one (.int .i64 (q : Nat)))] [(1, ⟨56, 0, 0, [.gref 3]⟩), (2, ⟨41, 0, 0, [.gref 4]⟩), (3, netO E), (4, keyO E), (5, ordO (fl E.length q))]
def outQ (E : List Ent) (C : List Nat) (q : Nat) : List Chg := ((C.take q).map (entAt E)).filter (fun c => decide (cmpR c.old c.new ≠ 0))
theorem outQ_len (E : List Ent) (C : List Nat) (q : Nat) : (outQ E C q).length ≤ q := by
  unfold outQ
  refine Nat.le_trans (List.length_filter_le _ _) ?_
  rw [List.length_map, List.length_take]
  omega
def neZ (E : List Ent) (C : List Nat) (q : Nat) : AS := AS.of 148 0 7 [(9, .one (.ptr 1 0)), (19, .one (.gref 6)), (121, .one (.gref 5)), (122, .one (.int .i64 C.length)), (123, .one (.int .i64 (q : Nat)))] [(1, netB E), (5, ordO C), (6, ⟨60, 3, 56, (outQ E C q).flatMap chgC⟩)]
theorem stay {E : List Ent} {t : Int} {key : Row} {j : Nat} {v : Int} {hj : j < E.length} (hv : (v = -1 ∧ ∀ (b : Nat) (hb : b < E.length), b < j → ¬ hit t key E[b]) ∨ ∃ (k : Nat) (hk : k < E.length), v = k ∧ hit t key E[k]) (hh : ¬ hit t key E[j]) :
    (v = -1 ∧ ∀ (b : Nat) (hb : b < E.length), b < j + 1 → ¬ hit t key E[b]) ∨ ∃ (k : Nat) (hk : k < E.length), v = k ∧ hit t key E[k] := by
  rcases hv with ⟨h1, h2⟩ | h
  · refine .inl ⟨h1, fun b hb hlt => ?_⟩
    by_cases e : b = j
    · subst e; exact hh
    · exact h2 b hb (by omega)
  · exact .inr h
theorem net_spec (s : Sch) (mode : Int) (hm : 1 ≤ mode ∧ mode ≤ 3) (hok : okK s) (hcols : ∀ T ∈ s.tables, T.cols.length ≤ 1099511627776) (hnt : s.tables.length ≤ 8) (h53 : PSpec Try.prog 53 [.agg (schC s)] (fun x => x = .one (.int .i64 0)))
    (st0 st' : St) (g0 : Good s mode st0) (l : List Chg) (hl : l.length ≤ 12) (hs : Steps s mode st0 l st') (out : List Chg) (hout : Difs s st0 st' out) :
    PSpec Try.prog 32 [.agg (schC s), .one (.int .i64 mode), .one (chgsC l)] (fun x => x = .tup [.one (chgsC out), .one (.int .i64 0)]) := by
  refine pspec_x env08_ok mixed08 Try.func32 rfl 148 rfl _ rfl rfl ?_
  refine wn ?_
  refine cle h53 (callee_of Try.func53 rfl rfl) ?_
  rintro x hx rfl
  refine wn ?_
  refine forkB_dec (fun h => absurd h (by omega)) (fun _ => ?_)
  refine wn ?_
  refine forkB_dec (fun h => absurd h (by omega)) (fun _ => ?_)
  refine wn ?_
  refine exI_as _ rfl ?_
  refine wn ?_
  refine loopX_of env08_ok mixed08 (σ := Nat × St × List Ent) (fun q => neA s mode l q.1 q.2.2) (fun q => q.1 ≤ l.length ∧ Good s mode q.2.1 ∧ Steps s mode q.2.1 (l.drop q.1) st' ∧ q.2.2.length ≤ q.1 ∧ NetI s st0 q.2.1 q.2.2 ∧ ∀ e ∈ q.2.2, e.2.length ≤ 1099511627776) (fun q => l.length - q.1) (0, st0, []) (fun _ => rfl) ?_ ⟨Nat.zero_le _, g0, hs, Nat.le_refl _, NetI.nil s st0, fun e he => by cases he⟩ ?_
  · refine Tr.trans (Tr.nilCell 1 0 60 3 56 (by decide) (by rfl) (by rfl)) ?_
    refine Tr.trans (Tr.nilCell 2 0 27 1 24 (by decide) (by rfl) (by rfl)) ?_
    exact tid
  rintro ⟨i, cur, E⟩ ⟨hi, gc, hst, hEl, I, hEk⟩
  have hi : i ≤ l.length := hi
  have gc : Good s mode cur := gc
  have hst : Steps s mode cur (l.drop i) st' := hst
  have hEl : E.length ≤ i := hEl
  have I : NetI s st0 cur E := I
  have hEk : ∀ e ∈ E, e.2.length ≤ 1099511627776 := hEk
  refine wn ?_
  refine forkB_dec (fun h1 => ?_) (fun h1 => ?_)
  · have hi2 : i < l.length := by have h1 : (i : Int) < l.length := h1; omega
    rw [List.drop_eq_getElem_cons hi2] at hst
    obtain ⟨c, hce⟩ : ∃ c, l[i] = c := ⟨_, rfl⟩
    rw [hce] at hst
    obtain ⟨m, A, B, key, step, hst⟩ := hst
    have hco : okR c.old := rowK_ok hcols step.old
    have hcn : okR c.new := rowK_ok hcols step.new
    have hkey : keyC s c = key := step.keyC
    refine wn ?_
    refine rq ?_
    refine forceL_as (chgC c) ((flat_get (f := chgC) chgC_len l i hi2).trans (by rw [hce])) ?_
    refine wn ?_
    refine cle (validC_spec s mode c ⟨hco, hcn⟩) (callee_of Try.func50 rfl rfl) ?_
    rw [step.valid]
    rintro x hx rfl
    refine wn ?_
    refine cle (keyOf_spec s c hco hcn) (callee_of Try.func52 rfl rfl) ?_
    rw [hkey]
    rintro x hx rfl
    have hkl : key.length ≤ 1099511627776 := by
      rw [← hkey]
      unfold keyC
      have b1 : c.old.length ≤ 1099511627776 := by
        by_cases k : c.old.length > 0
        · exact fits_le hcols (step.old.fit k)
        · omega
      have b2 : c.new.length ≤ 1099511627776 := by
        by_cases k : c.new.length > 0
        · exact fits_le hcols (step.new.fit k)
        · omega
      have k1 := keyR_le s c.table c.old
      have k2 := keyR_le s c.table c.new
      split <;> omega
    refine wn ?_
    refine ⟨E.length, netLen E, ?_⟩
    refine wn ?_
    refine loopX_of env08_ok mixed08 (σ := Nat × Int) (fun q => neS s mode l i E c key q.1 q.2) (fun q => q.1 ≤ E.length ∧ ((q.2 = -1 ∧ ∀ (b : Nat) (hb : b < E.length), b < q.1 → ¬ hit c.table key E[b]) ∨ ∃ (k : Nat) (hk : k < E.length), q.2 = k ∧ hit c.table key E[k])) (fun q => E.length - q.1) (0, -1) (fun _ => rfl) (tid ⟨⟨rfl, rfl, by decide⟩, ⟨rfl, rfl, by decide⟩, ⟨rfl, rfl, by decide⟩, ⟨(congrArg some (netO_ren E id)).symm, netO_lt _ _, by decide⟩, ⟨(congrArg some (keyO_ren E id)).symm, keyO_lt _ _, by decide⟩, ⟨rfl, rfl, by decide⟩, trivial⟩) ⟨Nat.zero_le _, .inl ⟨rfl, fun b hb h => absurd h (Nat.not_lt_zero _)⟩⟩ ?_
    rintro ⟨j, v⟩ ⟨hj, hv⟩
    have hj : j ≤ E.length := hj
    have hv : (v = -1 ∧ ∀ (b : Nat) (hb : b < E.length), b < j → ¬ hit c.table key E[b]) ∨ ∃ (k : Nat) (hk : k < E.length), v = k ∧ hit c.table key E[k] := hv
    refine wn ?_
    refine forkB_dec (fun h2 => ?_) (fun h2 => ?_)
    · have hj2 : j < E.length := by have h2 : (j : Int) < E.length := h2; omega
      have hek := hEk _ (List.getElem_mem hj2)
      refine wn ?_
      refine reqD_dec ⟨by omega, by show j * 3 < (netO E).cells.length; rw [netLen]; omega⟩ ?_
      refine wn ?_
      refine forceL_as (chgC E[j].1) (netGet E j hj2) ?_
      refine wn ?_
      refine forkB_intro (fun h3 => ?_) (fun h3 => ?_)
      · have h3 : E[j].1.table = c.table := by simpa using h3
        refine wn ?_
        refine reqD_dec ⟨by omega, by show j * 1 < (keyO E).cells.length; rw [keyLen]; omega⟩ ?_
        refine wn ?_
        refine forceL_as (rowC1 E[j].2) (keyGet E j hj2) ?_
        refine wn ?_
        refine cle (compareRows_spec E[j].2 key (by omega) (by omega)) callee42 ?_
        rintro x hx rfl
        refine wn ?_
        refine forkB_intro (fun h4 => ?_) (fun h4 => ?_)
        · have h4 : cmpR E[j].2 key = 0 := by simpa using h4
          have hh : hit c.table key E[j] := ⟨h3, cmpR_eq.1 h4⟩
          refine wn ?_
          refine exI_i64 (by show -9223372036854775808 ≤ (j : Int) + 1; omega) (by show (j : Int) + 1 ≤ 9223372036854775807; omega) ?_
          refine wn ?_
          exact ⟨(j + 1, (j : Int)), ⟨hj2, (Or.inr ⟨j, hj2, rfl, hh⟩)⟩, by show E.length - (j + 1) < E.length - j; omega, (tid ⟨⟨rfl, rfl, by decide⟩, ⟨rfl, rfl, by decide⟩, ⟨rfl, rfl, by decide⟩, ⟨(congrArg some (netO_ren E id)).symm, netO_lt _ _, by decide⟩, ⟨(congrArg some (keyO_ren E id)).symm, keyO_lt _ _, by decide⟩, ⟨rfl, rfl, by decide⟩, trivial⟩)⟩
        · have h4 : ¬ cmpR E[j].2 key = 0 := by simpa using h4
          have hh : ¬ hit c.table key E[j] := fun hh => h4 (cmpR_eq.2 hh.2)
          refine wn ?_
          refine exI_i64 (by show -9223372036854775808 ≤ (j : Int) + 1; omega) (by show (j : Int) + 1 ≤ 9223372036854775807; omega) ?_
          refine wn ?_
          exact ⟨(j + 1, v), ⟨hj2, (stay hv hh)⟩, by show E.length - (j + 1) < E.length - j; omega, (tid ⟨⟨rfl, rfl, by decide⟩, ⟨rfl, rfl, by decide⟩, ⟨rfl, rfl, by decide⟩, ⟨(congrArg some (netO_ren E id)).symm, netO_lt _ _, by decide⟩, ⟨(congrArg some (keyO_ren E id)).symm, keyO_lt _ _, by decide⟩, ⟨rfl, rfl, by decide⟩, trivial⟩)⟩
      · have h3 : ¬ E[j].1.table = c.table := by simpa using h3
        have hh : ¬ hit c.table key E[j] := fun hh => h3 hh.1
        refine wn ?_
        refine exI_i64 (by show -9223372036854775808 ≤ (j : Int) + 1; omega) (by show (j : Int) + 1 ≤ 9223372036854775807; omega) ?_
        refine wn ?_
        exact ⟨(j + 1, v), ⟨hj2, (stay hv hh)⟩, by show E.length - (j + 1) < E.length - j; omega, (tid ⟨⟨rfl, rfl, by decide⟩, ⟨rfl, rfl, by decide⟩, ⟨rfl, rfl, by decide⟩, ⟨(congrArg some (netO_ren E id)).symm, netO_lt _ _, by decide⟩, ⟨(congrArg some (keyO_ren E id)).symm, keyO_lt _ _, by decide⟩, ⟨rfl, rfl, by decide⟩, trivial⟩)⟩
    · have hje : j = E.length := by have h2 : ¬ (j : Int) < E.length := h2; omega
      subst hje
      refine wn ?_
      refine forkB_dec (fun h3 => ?_) (fun h3 => ?_)
      · have hno : ∀ e ∈ E, ¬ hit c.table key e := fun e he => by
          rcases hv with ⟨_, hv⟩ | ⟨k, hk, hv, _⟩
          · obtain ⟨b, hb, rfl⟩ := List.mem_iff_getElem.1 he
            exact hv b hb hb
          · exfalso
            have h3 : v < 0 := h3
            omega
        have I2 := I.add step hno
        refine wn ?_
        refine drawnX_phase env08_ok (fun id => id == 0 || id == 1 || id == 2 || id == 5) (List.range 16) (tks 0 5 (tks 6 2 (tks 12 2 (.two 5 14 (.two 8 14 (.take 9 (.two 10 14 (.two 11 14 (.one 14 (.one 15 (.stop))) (.one 11 (.one 15 (.stop)))) (.one 10 (.one 11 (.one 15 (.stop)))))) (.one 8 (.take 9 (.one 10 (.one 11 (.one 15 (.stop))))))) (.one 5 (.one 8 (.take 9 (.one 10 (.one 11 (.one 15 (.stop))))))))))) 2 (lst 18 [16, 17]) (by kernel_rfl) ?_
        refine wn ?_
        refine ⟨?_, ?_⟩
        · refine wn ?_
          refine cle (copied_spec (c.old) (hco)) callee44 ?_
          rintro x hx rfl
          refine wn ?_
          refine ⟨?_, ?_⟩
          · refine wn ?_
            refine cle (copied_spec (c.new) (hcn)) callee44 ?_
            rintro x hx rfl
            refine wn ?_
            refine ⟨?_, ?_⟩
            · refine wn ?_
              refine ⟨?_, ?_⟩
              · refine wn ?_
                refine rq ?_
                refine wn ?_
                refine reqD_dec (by show (netO E).cells.length = (netO E).cells.length / 3 * 3; rw [netLen, Nat.mul_div_cancel _ (by decide)]) ?_
                refine reqD_dec (by have := netLen E; simp [ty60, ty56, this]; omega) ?_
                refine forceL_as ((fst1 (E ++ (c, key) :: List.nil)).flatMap chgC) (by rw [fst1, List.map_append, List.flatMap_append]; rfl) ?_
                refine wn ?_
                try (refine rq ?_)
                refine wn ?_
                refine reqD_dec (by show (keyO E).cells.length = (keyO E).cells.length / 1 * 1; simp) ?_
                refine reqD_dec (by have := keyLen E; simp [ty27, ty41, this]; omega) ?_
                refine forceL_as ((snd1 (E ++ (c, key) :: List.nil)).flatMap rowC1) (by rw [snd1, List.map_append, List.flatMap_append]; rfl) ?_
                refine wn ?_
                refine drawnX_phase env08_ok (fun _ => false) (List.range 18) (.one 16 (.one 17 (.stop))) 0 (lst 18 []) (by kernel_rfl) ?_
                refine wn ?_
                refine wn ?_
                refine drawnX_done (by kernel_rfl) ?_
                refine wn ?_
                refine exI_i64 (by show -9223372036854775808 ≤ (i : Int) + 1; omega) (by show (i : Int) + 1 ≤ 9223372036854775807; omega) ?_
                refine wn ?_
                refine ⟨(i + 1, m, E ++ (c, key) :: List.nil), ⟨hi2, step.good gc, hst, by show (E ++ (c, key) :: List.nil).length ≤ i + 1; rw [List.length_append]; show E.length + 1 ≤ i + 1; omega, I2, fun e he => ?_⟩, by show l.length - (i + 1) < l.length - i; omega, ?_⟩
                · have he : e ∈ E ++ (c, key) :: List.nil := he
                  rcases List.mem_append.1 he with he | he
                  · exact hEk e he
                  · rw [List.mem_singleton.1 he]; exact hkl
                · exact (tml [(3, 7), (4, 9)] 10 ⟨⟨rfl, rfl, by decide⟩, ⟨rfl, rfl, by decide⟩, ⟨rfl, rfl, by decide⟩, ⟨(congrArg some (netO_ren (E ++ (c, key) :: List.nil) (mvL [(3, 7), (4, 9)]))).symm, netO_lt _ _, by decide⟩, ⟨(congrArg some (keyO_ren (E ++ (c, key) :: List.nil) (mvL [(3, 7), (4, 9)]))).symm, keyO_lt _ _, by decide⟩, trivial⟩)
              · refine wn ?_
                refine rq ?_
                refine wn ?_
                refine reqD_dec (by show (netO E).cells.length = (netO E).cells.length / 3 * 3; rw [netLen, Nat.mul_div_cancel _ (by decide)]) ?_
                refine reqD_dec (by have := netLen E; simp [ty60, ty56, this]; omega) ?_
                refine forceL_as ((fst1 (E ++ (c, key) :: List.nil)).flatMap chgC) (by rw [fst1, List.map_append, List.flatMap_append]; rfl) ?_
                refine wn ?_
                try (refine rq ?_)
                refine wn ?_
                refine reqD_dec (by show (keyO E).cells.length = (keyO E).cells.length / 1 * 1; simp) ?_
                refine reqD_dec (by have := keyLen E; simp [ty27, ty41, this]; omega) ?_
                refine forceL_as ((snd1 (E ++ (c, key) :: List.nil)).flatMap rowC1) (by rw [snd1, List.map_append, List.flatMap_append]; rfl) ?_
                refine wn ?_
                refine drawnX_phase env08_ok (fun _ => false) (List.range 18) (.one 16 (.one 17 (.stop))) 0 (lst 18 []) (by kernel_rfl) ?_
                refine wn ?_
                refine wn ?_
                refine drawnX_done (by kernel_rfl) ?_
                refine wn ?_
                refine exI_i64 (by show -9223372036854775808 ≤ (i : Int) + 1; omega) (by show (i : Int) + 1 ≤ 9223372036854775807; omega) ?_
                refine wn ?_
                refine ⟨(i + 1, m, E ++ (c, key) :: List.nil), ⟨hi2, step.good gc, hst, by show (E ++ (c, key) :: List.nil).length ≤ i + 1; rw [List.length_append]; show E.length + 1 ≤ i + 1; omega, I2, fun e he => ?_⟩, by show l.length - (i + 1) < l.length - i; omega, ?_⟩
                · have he : e ∈ E ++ (c, key) :: List.nil := he
                  rcases List.mem_append.1 he with he | he
                  · exact hEk e he
                  · rw [List.mem_singleton.1 he]; exact hkl
                · exact (tml [(3, 8), (4, 9)] 10 ⟨⟨rfl, rfl, by decide⟩, ⟨rfl, rfl, by decide⟩, ⟨rfl, rfl, by decide⟩, ⟨(congrArg some (netO_ren (E ++ (c, key) :: List.nil) (mvL [(3, 8), (4, 9)]))).symm, netO_lt _ _, by decide⟩, ⟨(congrArg some (keyO_ren (E ++ (c, key) :: List.nil) (mvL [(3, 8), (4, 9)]))).symm, keyO_lt _ _, by decide⟩, trivial⟩)
            · refine wn ?_
              refine rq ?_
              refine wn ?_
              refine reqD_dec (by show (netO E).cells.length = (netO E).cells.length / 3 * 3; rw [netLen, Nat.mul_div_cancel _ (by decide)]) ?_
              refine reqD_dec (by have := netLen E; simp [ty60, ty56, this]; omega) ?_
              refine forceL_as ((fst1 (E ++ (c, key) :: List.nil)).flatMap chgC) (by rw [fst1, List.map_append, List.flatMap_append]; rfl) ?_
              refine wn ?_
              try (refine rq ?_)
              refine wn ?_
              refine reqD_dec (by show (keyO E).cells.length = (keyO E).cells.length / 1 * 1; simp) ?_
              refine reqD_dec (by have := keyLen E; simp [ty27, ty41, this]; omega) ?_
              refine forceL_as ((snd1 (E ++ (c, key) :: List.nil)).flatMap rowC1) (by rw [snd1, List.map_append, List.flatMap_append]; rfl) ?_
              refine wn ?_
              refine drawnX_phase env08_ok (fun _ => false) (List.range 18) (.one 16 (.one 17 (.stop))) 0 (lst 18 []) (by kernel_rfl) ?_
              refine wn ?_
              refine wn ?_
              refine drawnX_done (by kernel_rfl) ?_
              refine wn ?_
              refine exI_i64 (by show -9223372036854775808 ≤ (i : Int) + 1; omega) (by show (i : Int) + 1 ≤ 9223372036854775807; omega) ?_
              refine wn ?_
              refine ⟨(i + 1, m, E ++ (c, key) :: List.nil), ⟨hi2, step.good gc, hst, by show (E ++ (c, key) :: List.nil).length ≤ i + 1; rw [List.length_append]; show E.length + 1 ≤ i + 1; omega, I2, fun e he => ?_⟩, by show l.length - (i + 1) < l.length - i; omega, ?_⟩
              · have he : e ∈ E ++ (c, key) :: List.nil := he
                rcases List.mem_append.1 he with he | he
                · exact hEk e he
                · rw [List.mem_singleton.1 he]; exact hkl
              · exact (tml [(3, 8), (4, 9)] 10 ⟨⟨rfl, rfl, by decide⟩, ⟨rfl, rfl, by decide⟩, ⟨rfl, rfl, by decide⟩, ⟨(congrArg some (netO_ren (E ++ (c, key) :: List.nil) (mvL [(3, 8), (4, 9)]))).symm, netO_lt _ _, by decide⟩, ⟨(congrArg some (keyO_ren (E ++ (c, key) :: List.nil) (mvL [(3, 8), (4, 9)]))).symm, keyO_lt _ _, by decide⟩, trivial⟩)
          · refine wn ?_
            refine cle (copied_spec (c.new) (hcn)) callee44 ?_
            rintro x hx rfl
            refine wn ?_
            refine rq ?_
            refine wn ?_
            refine reqD_dec (by show (netO E).cells.length = (netO E).cells.length / 3 * 3; rw [netLen, Nat.mul_div_cancel _ (by decide)]) ?_
            refine reqD_dec (by have := netLen E; simp [ty60, ty56, this]; omega) ?_
            refine forceL_as ((fst1 (E ++ (c, key) :: List.nil)).flatMap chgC) (by rw [fst1, List.map_append, List.flatMap_append]; rfl) ?_
            refine wn ?_
            try (refine rq ?_)
            refine wn ?_
            refine reqD_dec (by show (keyO E).cells.length = (keyO E).cells.length / 1 * 1; simp) ?_
            refine reqD_dec (by have := keyLen E; simp [ty27, ty41, this]; omega) ?_
            refine forceL_as ((snd1 (E ++ (c, key) :: List.nil)).flatMap rowC1) (by rw [snd1, List.map_append, List.flatMap_append]; rfl) ?_
            refine wn ?_
            refine drawnX_phase env08_ok (fun _ => false) (List.range 18) (.one 16 (.one 17 (.stop))) 0 (lst 18 []) (by kernel_rfl) ?_
            refine wn ?_
            refine wn ?_
            refine drawnX_done (by kernel_rfl) ?_
            refine wn ?_
            refine exI_i64 (by show -9223372036854775808 ≤ (i : Int) + 1; omega) (by show (i : Int) + 1 ≤ 9223372036854775807; omega) ?_
            refine wn ?_
            refine ⟨(i + 1, m, E ++ (c, key) :: List.nil), ⟨hi2, step.good gc, hst, by show (E ++ (c, key) :: List.nil).length ≤ i + 1; rw [List.length_append]; show E.length + 1 ≤ i + 1; omega, I2, fun e he => ?_⟩, by show l.length - (i + 1) < l.length - i; omega, ?_⟩
            · have he : e ∈ E ++ (c, key) :: List.nil := he
              rcases List.mem_append.1 he with he | he
              · exact hEk e he
              · rw [List.mem_singleton.1 he]; exact hkl
            · exact (tml [(3, 8), (4, 9)] 10 ⟨⟨rfl, rfl, by decide⟩, ⟨rfl, rfl, by decide⟩, ⟨rfl, rfl, by decide⟩, ⟨(congrArg some (netO_ren (E ++ (c, key) :: List.nil) (mvL [(3, 8), (4, 9)]))).symm, netO_lt _ _, by decide⟩, ⟨(congrArg some (keyO_ren (E ++ (c, key) :: List.nil) (mvL [(3, 8), (4, 9)]))).symm, keyO_lt _ _, by decide⟩, trivial⟩)
        · refine wn ?_
          refine cle (copied_spec (c.old) (hco)) callee44 ?_
          rintro x hx rfl
          refine wn ?_
          refine cle (copied_spec (c.new) (hcn)) callee44 ?_
          rintro x hx rfl
          refine wn ?_
          refine rq ?_
          refine wn ?_
          refine reqD_dec (by show (netO E).cells.length = (netO E).cells.length / 3 * 3; rw [netLen, Nat.mul_div_cancel _ (by decide)]) ?_
          refine reqD_dec (by have := netLen E; simp [ty60, ty56, this]; omega) ?_
          refine forceL_as ((fst1 (E ++ (c, key) :: List.nil)).flatMap chgC) (by rw [fst1, List.map_append, List.flatMap_append]; rfl) ?_
          refine wn ?_
          try (refine rq ?_)
          refine wn ?_
          refine reqD_dec (by show (keyO E).cells.length = (keyO E).cells.length / 1 * 1; simp) ?_
          refine reqD_dec (by have := keyLen E; simp [ty27, ty41, this]; omega) ?_
          refine forceL_as ((snd1 (E ++ (c, key) :: List.nil)).flatMap rowC1) (by rw [snd1, List.map_append, List.flatMap_append]; rfl) ?_
          refine wn ?_
          refine drawnX_phase env08_ok (fun _ => false) (List.range 18) (.one 16 (.one 17 (.stop))) 0 (lst 18 []) (by kernel_rfl) ?_
          refine wn ?_
          refine wn ?_
          refine drawnX_done (by kernel_rfl) ?_
          refine wn ?_
          refine exI_i64 (by show -9223372036854775808 ≤ (i : Int) + 1; omega) (by show (i : Int) + 1 ≤ 9223372036854775807; omega) ?_
          refine wn ?_
          refine ⟨(i + 1, m, E ++ (c, key) :: List.nil), ⟨hi2, step.good gc, hst, by show (E ++ (c, key) :: List.nil).length ≤ i + 1; rw [List.length_append]; show E.length + 1 ≤ i + 1; omega, I2, fun e he => ?_⟩, by show l.length - (i + 1) < l.length - i; omega, ?_⟩
          · have he : e ∈ E ++ (c, key) :: List.nil := he
            rcases List.mem_append.1 he with he | he
            · exact hEk e he
            · rw [List.mem_singleton.1 he]; exact hkl
          · exact (tml [(3, 8), (4, 9)] 10 ⟨⟨rfl, rfl, by decide⟩, ⟨rfl, rfl, by decide⟩, ⟨rfl, rfl, by decide⟩, ⟨(congrArg some (netO_ren (E ++ (c, key) :: List.nil) (mvL [(3, 8), (4, 9)]))).symm, netO_lt _ _, by decide⟩, ⟨(congrArg some (keyO_ren (E ++ (c, key) :: List.nil) (mvL [(3, 8), (4, 9)]))).symm, keyO_lt _ _, by decide⟩, trivial⟩)
      · obtain ⟨k, hk, hvk, hh⟩ : ∃ (k : Nat) (hk : k < E.length), v = k ∧ hit c.table key E[k] := by
          rcases hv with ⟨hv, _⟩ | hv
          · exfalso
            have h3 : ¬ v < 0 := h3
            omega
          · exact hv
        subst hvk
        obtain ⟨I2, hno⟩ := I.upd step hk hh
        have hoo : E[k].1.new.length ≤ 9223372036854775807 := by rw [hno]; exact Nat.le_trans hco (by decide)
        refine wn ?_
        refine drawnX_phase env08_ok (fun _ => true) (List.range 9) (tks 0 7 (.one 7 (tks 8 1 (.stop)))) 0 (lst 9 []) (by kernel_rfl) ?_
        refine wn ?_
        refine reqD_dec ⟨by omega, by show k * 3 < (netO E).cells.length; rw [netLen]; omega⟩ ?_
        refine wn ?_
        refine forceL_as [rowC E[k].1.new] (netNew E k hk) ?_
        refine wn ?_
        refine cle (compareRows_spec E[k].1.new c.old (by omega) (by unfold okR at hco; omega)) callee42 ?_
        rw [hno, cmpR_self]
        rintro x hx rfl
        refine wn ?_
        refine drawnX_done (by kernel_rfl) ?_
        refine wn ?_
        refine drawnX_phase env08_ok (fun _ => true) (List.range 7) (tks 0 4 (.one 4 (tks 5 2 (.stop)))) 1 (lst 8 [7]) (by kernel_rfl) ?_
        refine wn ?_
        refine cle (copied_spec (c.new) (hcn)) callee44 ?_
        rintro x hx rfl
        refine wn ?_
        refine reqD_dec ⟨by omega, by show k * 3 < (netO E).cells.length; rw [netLen]; omega⟩ ?_
        refine wn ?_
        refine drawnX_phase env08_ok (fun _ => false) (List.range 8) (.one 7 (.stop)) 0 (lst 8 []) (by kernel_rfl) ?_
        refine wn ?_
        refine reqD_dec (by show k * 3 + 2 + 1 ≤ (netO E).cells.length; rw [netLen]; omega) ?_
        refine forceL_as ((fst1 (E.set k (⟨c.table, E[k].1.old, c.new⟩, key))).flatMap chgC) (netSet E k hk c.new key c.table hh.1) ?_
        refine wn ?_
        refine drawnX_done (by kernel_rfl) ?_
        refine wn ?_
        refine exI_i64 (by show -9223372036854775808 ≤ (i : Int) + 1; omega) (by show (i : Int) + 1 ≤ 9223372036854775807; omega) ?_
        refine wn ?_
        have hks := keySet E k hk ⟨c.table, E[k].1.old, c.new⟩ key hh.2
        have hXk : ∀ e ∈ E.set k (⟨c.table, E[k].1.old, c.new⟩, key), e.2.length ≤ 1099511627776 := fun e he => by
          rcases List.mem_or_eq_of_mem_set he with he | he
          · exact hEk e he
          · rw [he]; exact hkl
        have hXl : (E.set k (⟨c.table, E[k].1.old, c.new⟩, key)).length ≤ i + 1 := by rw [List.length_set]; omega
        generalize E.set k (⟨c.table, E[k].1.old, c.new⟩, key) = X at I2 hks hXk hXl ⊢
        refine ⟨(i + 1, m, X), ⟨hi2, step.good gc, hst, hXl, I2, hXk⟩, by show l.length - (i + 1) < l.length - i; omega, ?_⟩
        exact (tid ⟨⟨rfl, rfl, by decide⟩, ⟨rfl, rfl, by decide⟩, ⟨rfl, rfl, by decide⟩, ⟨(congrArg some (netO_ren X id)).symm, netO_lt _ _, by decide⟩, ⟨(congrArg some ((keyO_ren X id).trans hks)).symm, keyO_lt _ _, by decide⟩, trivial⟩)
  · have hie : i = l.length := by have h1 : ¬ (i : Int) < l.length := h1; omega
    rw [List.drop_eq_nil_of_le (by omega)] at hst
    have hst : cur = st' := hst
    subst hst
    refine wn ?_
    refine ⟨E.length, netLen E, ?_⟩
    have hE12 : E.length ≤ 12 := by omega
    refine wn ?_
    refine reqD_dec ⟨rfl, by omega⟩ ?_
    refine reqD_dec (by show E.length * 8 ≤ 140737488355328; omega) ?_
    refine forceL_as ((fl E.length 0).flatMap natC) (fl_zero E.length) ?_
    refine wn ?_
    refine ⟨E.length, by show ((fl E.length 0).flatMap natC).length = E.length * 1; rw [flat_len natC_len, fl_len (Nat.zero_le _)], ?_⟩
    refine wn ?_
    refine loopX_of env08_ok mixed08 (σ := Nat) (neF E) (fun q => q ≤ E.length) (fun q => E.length - q) 0 (fun _ => rfl) (tid ⟨⟨rfl, rfl, by decide⟩, ⟨rfl, rfl, by decide⟩, ⟨(congrArg some (netO_ren E id)).symm, netO_lt _ _, by decide⟩, ⟨(congrArg some (keyO_ren E id)).symm, keyO_lt _ _, by decide⟩, ⟨(congrArg some (ordO_ren (fl E.length 0) id)).symm, ordO_lt _ _, by decide⟩, trivial⟩) (Nat.zero_le _) ?_
    intro q hq
    have hq : q ≤ E.length := hq
    refine wn ?_
    refine forkB_dec (fun h2 => ?_) (fun h2 => ?_)
    · have hq2 : q < E.length := by have h2 : (q : Int) < E.length := h2; omega
      have hfl := fl_len (n := E.length) hq
      refine wn ?_
      refine reqD_dec ⟨by omega, by show q * 1 < (ordO (fl E.length q)).cells.length; rw [ordLen]; omega⟩ ?_
      refine wn ?_
      refine reqD_dec (by show q * 1 + 1 ≤ (ordO (fl E.length q)).cells.length; rw [ordLen]; omega) ?_
      refine forceL_as ((fl E.length (q + 1)).flatMap natC) ((setR1 _ q _ (by rw [ordLen]; omega)).trans ((set_flatN (fl E.length q) q q).trans (by rw [fl_set hq2]))) ?_
      refine wn ?_
      refine exI_i64 (by show -9223372036854775808 ≤ (q : Int) + 1; omega) (by show (q : Int) + 1 ≤ 9223372036854775807; omega) ?_
      refine wn ?_
      exact ⟨q + 1, hq2, by show E.length - (q + 1) < E.length - q; omega, (tid ⟨⟨rfl, rfl, by decide⟩, ⟨rfl, rfl, by decide⟩, ⟨(congrArg some (netO_ren E id)).symm, netO_lt _ _, by decide⟩, ⟨(congrArg some (keyO_ren E id)).symm, keyO_lt _ _, by decide⟩, ⟨(congrArg some (ordO_ren (fl E.length (q + 1)) id)).symm, ordO_lt _ _, by decide⟩, trivial⟩)⟩
    · have hqe : q = E.length := by have h2 : ¬ (q : Int) < E.length := h2; omega
      subst hqe
      have hfr : fl E.length E.length = List.range E.length := by unfold fl; simp
      obtain ⟨C, hC, hCs⟩ := sorted_ex I.apart E.length (Nat.le_refl _)
      have hOut : outN E C = out := (I.difs hC hCs).unique hout
      have hokE : okE E := ⟨by omega, hEk, fun e he => by have := (I.ent e he).tab; omega⟩
      refine wn ?_
      refine callX_tr (A1 := AS.of 148 0 6 [(9, .one (.ptr 1 0)), (10, .one (.ptr 2 0)), (17, .one (.gref 5)), (118, .one (.gref 5)), (119, .one (.fn 57 [.ptr 1 0, .ptr 2 0]))] [(1, netB E), (2, keysB E), (5, ordO (List.range E.length))]) ?_ (by rfl) ?_
      · refine Tr.trans (Tr.frz' (T := 60) (s := 3) (B := 56) (cells := (fst1 E).flatMap chgC) 3 (fst1 E).length (by rfl) (by decide) (flat_len chgC_len _) (all_flat chgC_deep' _)) ?_
        have hS4 : ((snd1 E).flatMap rowC1).map (·.sub 3 (chgsC (fst1 E))) = (snd1 E).flatMap rowC1 := map_deep (fun c h => AC.sub_deep 3 _ h) _ (all_flat rowC1_deep (snd1 E))
        refine Tr.trans (Tr.frz' (T := 27) (s := 1) (B := 24) (cells := (snd1 E).flatMap rowC1) 4 (snd1 E).length (congrArg some (congrArg (Ob.mk 27 1 24) hS4)) (by decide) (flat_len rowC1_len _) (all_flat rowC1_deep _)) ?_
        have hS5 : ordO (List.range E.length) = ⟨3, 1, 8, (((fl E.length E.length).flatMap natC).map (·.sub 3 (chgsC (fst1 E)))).map (·.sub 4 (tabC (snd1 E)))⟩ := by
          rw [map_deep (fun c h => AC.sub_deep 3 _ h) _ (all_flat natC_deep (fl E.length E.length)), map_deep (fun c h => AC.sub_deep 4 _ h) _ (all_flat natC_deep (fl E.length E.length)), hfr]
          rfl
        exact (tid ⟨⟨rfl, rfl, by decide⟩, ⟨rfl, rfl, by decide⟩, ⟨(congrArg some ((ordO_ren (List.range E.length) id).trans hS5)).symm, ordO_lt _ _, by decide⟩, trivial⟩)
      refine callX_g (sort56_spec E hokE I.apart E.length hE12 (List.range E.length) C (List.length_range ..) (fun a ha => List.mem_range.1 ha) List.nodup_range (fun a => (hC a).trans List.mem_range.symm) hCs) callee56 (rhoL [5, 1, 2]) (posL [5, 1, 2]) (avs := [.one (.gref 5), .one (.fn 57 [.ptr 1 0, .ptr 2 0])]) rfl rfl (.cons (AV.Le.refl _) (.cons (AV.Le.refl _) .nil)) (passedA (args := [.one (.gref 0), .one (.fn 57 [.ptr 1 0, .ptr 2 0])]) [5, 1, 2] ⟨⟨congrArg some (ordO_ren _ _).symm, ordO_lt _ _⟩, ⟨rfl, rfl⟩, ⟨rfl, rfl⟩, trivial⟩) (by exact Nat.le_of_ble_eq_true rfl) (ordO_ren C) rfl ?_
      refine wn ?_
      refine ⟨C.length, by show (ordO C).cells.length = C.length * 1; rw [ordLen, Nat.mul_one], ?_⟩
      refine wn ?_
      have hCl : C.length ≤ 12 := by
        have hnd : C.Nodup := hCs.imp (fun {a b} h e => by subst e; exact ltI_irr E a h)
        have := (List.perm_ext_iff_of_nodup hnd List.nodup_range).2 (fun a => (hC a).trans (List.mem_range (n := E.length)).symm)
        rw [this.length_eq, List.length_range]
        exact hE12
      refine loopX_of env08_ok mixed08 (σ := Nat) (neZ E C) (fun q => q ≤ C.length) (fun q => C.length - q) 0 (fun _ => rfl) ?_ (Nat.zero_le _) ?_
      · refine Tr.trans (Tr.nilSlot 19 60 3 56 (by decide) rfl) ?_
        exact (tid ⟨⟨rfl, rfl, by decide⟩, ⟨(congrArg some (ordO_ren C id)).symm, ordO_lt _ _, by decide⟩, ⟨rfl, rfl, by decide⟩, trivial⟩)
      intro q hq
      have hq : q ≤ C.length := hq
      refine wn ?_
      refine forkB_dec (fun h3 => ?_) (fun h3 => ?_)
      · have hq2 : q < C.length := by have h3 : (q : Int) < C.length := h3; omega
        obtain ⟨a, hae⟩ : ∃ a, C[q] = a := ⟨_, rfl⟩
        have ha : a < E.length := by rw [← hae]; exact (hC _).1 (List.getElem_mem _)
        have hoR : E[a].1.old.length ≤ 1099511627776 := by
          have i := I.ent _ (List.getElem_mem ha)
          rw [i.old]
          by_cases hz : gt s st0 E[a].1.table E[a].2 = []
          · rw [hz]; exact Nat.zero_le _
          · exact fits_le hcols (gt_fit g0 i.tab hz)
        have hnR : E[a].1.new.length ≤ 1099511627776 := by
          have i := I.ent _ (List.getElem_mem ha)
          rw [i.new]
          by_cases hz : gt s cur E[a].1.table E[a].2 = []
          · rw [hz]; exact Nat.zero_le _
          · exact fits_le hcols (gt_fit gc i.tab hz)
        have htk : outQ E C (q + 1) = outQ E C q ++ [E[a].1].filter (fun c => decide (cmpR c.old c.new ≠ 0)) := by
          unfold outQ
          rw [List.take_succ_eq_append_getElem hq2, List.map_append, List.filter_append, hae]
          rw [List.map_singleton, entAt_of ha]
        have hol := outQ_len E C q
        refine wn ?_
        refine reqD_dec ⟨by omega, by show q * 1 < (ordO C).cells.length; rw [ordLen]; omega⟩ ?_
        refine wn ?_
        refine forceL_as (natC a) ((ordGet C q hq2).trans (by rw [hae])) ?_
        refine wn ?_
        refine drawnX_phase env08_ok (fun _ => true) (List.range 12) (tks 0 10 (.one 10 (tks 11 1 (.stop)))) 0 (lst 12 []) (by kernel_rfl) ?_
        refine wn ?_
        refine rq ?_
        refine forceL_as (chgC E[a].1) (gC E a ha) ?_
        refine wn ?_
        refine rq ?_
        refine forceL_as (chgC E[a].1) (gC E a ha) ?_
        refine wn ?_
        refine cle (compareRows_spec E[a].1.old E[a].1.new (by omega) (by omega)) callee42 ?_
        rintro x hx rfl
        refine wn ?_
        refine forkB_intro (fun h4 => ?_) (fun h4 => ?_)
        · have h4 : cmpR E[a].1.old E[a].1.new ≠ 0 := by simpa using h4
          have htk : outQ E C (q + 1) = outQ E C q ++ [E[a].1] := by rw [htk, List.filter_cons, if_pos (by simpa using h4)]; rfl
          refine wn ?_
          refine drawnX_done (by kernel_rfl) ?_
          refine wn ?_
          refine rq ?_
          refine forceL_as (chgC E[a].1) (gC E a ha) ?_
          refine wn ?_
          try (refine rq ?_)
          refine wn ?_
          refine reqD_dec (flat_div chgC_len (by decide) _) ?_
          refine reqD_dec (by simp only [flat_len chgC_len]; simp [ty60, ty56]; omega) ?_
          refine forceL_as ((outQ E C (q + 1)).flatMap chgC) (by rw [htk, List.flatMap_append]; rfl) ?_
          refine wn ?_
          refine exI_i64 (by show -9223372036854775808 ≤ (q : Int) + 1; omega) (by show (q : Int) + 1 ≤ 9223372036854775807; omega) ?_
          refine wn ?_
          exact ⟨q + 1, hq2, by show C.length - (q + 1) < C.length - q; omega, (tmv 6 8 ⟨⟨rfl, rfl, by decide⟩, ⟨(congrArg some (ordO_ren C (mv 6 8))).symm, ordO_lt _ _, by decide⟩, ⟨(congrArg some (ob_ren_deep (mv 6 8) (all_flat chgC_deep' (outQ E C (q + 1))))).symm, ob_lt_deep _ (all_flat chgC_deep' _), by decide⟩, trivial⟩)⟩
        · have h4 : cmpR E[a].1.old E[a].1.new = 0 := by simpa using h4
          have htk : outQ E C (q + 1) = outQ E C q := by rw [htk, List.filter_cons, if_neg (by simpa using h4)]; simp
          have hO : (⟨60, 3, 56, (outQ E C (q + 1)).flatMap chgC⟩ : Ob) = ⟨60, 3, 56, (outQ E C q).flatMap chgC⟩ := by rw [htk]
          refine wn ?_
          refine drawnX_done (by kernel_rfl) ?_
          refine wn ?_
          refine exI_i64 (by show -9223372036854775808 ≤ (q : Int) + 1; omega) (by show (q : Int) + 1 ≤ 9223372036854775807; omega) ?_
          refine wn ?_
          exact ⟨q + 1, hq2, by show C.length - (q + 1) < C.length - q; omega, (tid ⟨⟨rfl, rfl, by decide⟩, ⟨(congrArg some (ordO_ren C id)).symm, ordO_lt _ _, by decide⟩, ⟨(congrArg some ((ob_ren_deep id (all_flat chgC_deep' (outQ E C (q + 1)))).trans hO)).symm, ob_lt_deep _ (all_flat chgC_deep' _), by decide⟩, trivial⟩)⟩
      · have hqe : q = C.length := by have h3 : ¬ (q : Int) < C.length := h3; omega
        subst hqe
        have hfin : outQ E C C.length = out := by unfold outQ; rw [List.take_length]; exact hOut
        refine wn ?_
        refine retX_tr (Tr.frz' (T := 60) (s := 3) (B := 56) (cells := (outQ E C C.length).flatMap chgC) 6 (outQ E C C.length).length (by rfl) (by decide) (flat_len chgC_len _) (all_flat chgC_deep' _)) ?_
        refine retX_val rfl ?_
        conv => whnf
        show AV.tup [.one (chgsC (outQ E C C.length)), .one (.int .i64 0)] = _
        rw [hfin]
end Go.Proofs.Ve


/-
  VeJl: the difference of two states, a pair of tables at a time.
-/
set_option linter.unusedVariables false
set_option linter.unusedSimpArgs false
namespace Go.Proofs.Ve
open Go

structure DP (s : Sch) (a b : St) (t : Int) (px x py y : Tab) (o : List Chg) : Prop where
  ea : tabAt a t = px ++ x
  eb : tabAt b t = py ++ y
  xy : ∀ p ∈ px, ∀ r ∈ y, ltR (keyR s t p) (keyR s t r)
  yx : ∀ p ∈ py, ∀ r ∈ x, ltR (keyR s t p) (keyR s t r)
  ord : o.Pairwise (ltC s)
  mem : ∀ c ∈ o, Dif s a b c
  bel : ∀ c ∈ o, c.table < t ∨ (c.table = t ∧ (∀ r ∈ x, ltR (keyC s c) (keyR s t r)) ∧ ∀ r ∈ y, ltR (keyC s c) (keyR s t r))
  all : ∀ t', 0 ≤ t' → t' < t → ∀ k, gt s a t' k ≠ gt s b t' k → ∃ c ∈ o, c.table = t' ∧ keyC s c = k
  here : ∀ k, gt s a t k ≠ gt s b t k → (∃ c ∈ o, c.table = t ∧ keyC s c = k) ∨ (∃ r ∈ x, keyR s t r = k) ∨ ∃ r ∈ y, keyR s t r = k
theorem good_srt {s : Sch} {mode : Int} {st : St} (g : Good s mode st) {t : Int} (ht : 0 ≤ t ∧ t < s.tables.length) : srt s t (tabAt st t) := by
  have et : ((t.toNat : Nat) : Int) = t := by omega
  have := g.srt t.toNat (by omega)
  rwa [et] at this
theorem gt_ones {s : Sch} {t : Int} {st : St} {px x : Tab} {u k : Row} (e : tabAt st t = px ++ (ones u ++ x)) (lo : ∀ p ∈ px, ltR (keyR s t p) k) (hi : ∀ r ∈ x, ltR k (keyR s t r)) (hu : u.length > 0 → keyR s t u = k) : gt s st t k = u := by
  unfold gt
  rw [e, find_ones lo hi hu, if_pos rfl]
  by_cases hp : u.length > 0
  · rw [if_pos hp]; rfl
  · rw [if_neg hp]; exact (List.eq_nil_of_length_eq_zero (by omega)).symm
open Classical in
theorem DP.next {s : Sch} {mode : Int} {a b : St} (g : Good s mode a) (g' : Good s mode b) {t : Int} (ht : 0 ≤ t ∧ t < s.tables.length) {px x py y : Tab} {u v k : Row} {o : List Chg} (D : DP s a b t px (ones u ++ x) py (ones v ++ y) o)
    (hu : u.length > 0 → keyR s t u = k) (hv : v.length > 0 → keyR s t v = k) (hne : u.length > 0 ∨ v.length > 0) (hx : ∀ r ∈ x, ltR k (keyR s t r)) (hy : ∀ r ∈ y, ltR k (keyR s t r)) :
    DP s a b t (px ++ ones u) x (py ++ ones v) y (if u = v then o else o ++ [⟨t, u, v⟩]) := by
  have sa := good_srt g ht
  have sb := good_srt g' ht
  rw [D.ea] at sa
  rw [D.eb] at sb
  unfold srt at sa sb
  rw [List.pairwise_append] at sa sb
  have plo : ∀ p ∈ px, ltR (keyR s t p) k := fun p hp => by
    by_cases h : u.length > 0
    · rw [← hu h]; exact sa.2.2 p hp u (by rw [ones_pos h]; simp)
    · have h2 := hne.resolve_left h
      rw [← hv h2]; exact D.xy p hp v (by rw [ones_pos h2]; simp)
  have qlo : ∀ p ∈ py, ltR (keyR s t p) k := fun p hp => by
    by_cases h : v.length > 0
    · rw [← hv h]; exact sb.2.2 p hp v (by rw [ones_pos h]; simp)
    · have h2 := hne.resolve_right h
      rw [← hu h2]; exact D.yx p hp u (by rw [ones_pos h2]; simp)
  have gu : gt s a t k = u := gt_ones D.ea plo hx hu
  have gv : gt s b t k = v := gt_ones D.eb qlo hy hv
  have hkc : u ≠ v → keyC s ⟨t, u, v⟩ = k := fun _ => by
    unfold keyC
    split
    · exact hu (by assumption)
    · rename_i h
      exact hv (hne.resolve_left h)
  have hck : ∀ c ∈ o, c.table < t ∨ (c.table = t ∧ ltR (keyC s c) k) := fun c hc => by
    rcases D.bel c hc with h | ⟨h, h1, h2⟩
    · exact .inl h
    · refine .inr ⟨h, ?_⟩
      rcases hne with hp | hp
      · rw [← hu hp]; exact h1 u (by rw [ones_pos hp]; simp)
      · rw [← hv hp]; exact h2 v (by rw [ones_pos hp]; simp)
  have hxo : ∀ r ∈ x, r ∈ ones u ++ x := fun r hr => List.mem_append_right _ hr
  have hyo : ∀ r ∈ y, r ∈ ones v ++ y := fun r hr => List.mem_append_right _ hr
  refine ⟨by rw [D.ea, List.append_assoc], by rw [D.eb, List.append_assoc], fun p hp r hr => ?_, fun p hp r hr => ?_, ?_, fun c hc => ?_, fun c hc => ?_, fun t' h0 hlt kk hn => ?_, fun kk hn => ?_⟩
  · rcases List.mem_append.1 hp with hp | hp
    · exact D.xy p hp r (hyo r hr)
    · obtain ⟨rfl, hpos⟩ := mem_ones hp
      rw [hu hpos]; exact hy r hr
  · rcases List.mem_append.1 hp with hp | hp
    · exact D.yx p hp r (hxo r hr)
    · obtain ⟨rfl, hpos⟩ := mem_ones hp
      rw [hv hpos]; exact hx r hr
  · by_cases e : u = v
    · rw [if_pos e]; exact D.ord
    · rw [if_neg e, List.pairwise_append]
      refine ⟨D.ord, List.pairwise_singleton _ _, fun c hc d hd => ?_⟩
      rw [List.mem_singleton.1 hd]
      unfold ltC
      rw [hkc e]
      exact hck c hc
  · by_cases e : u = v
    · rw [if_pos e] at hc; exact D.mem c hc
    · rw [if_neg e] at hc
      rcases List.mem_append.1 hc with hc | hc
      · exact D.mem c hc
      · rw [List.mem_singleton.1 hc]
        refine ⟨ht, ?_, ?_, e⟩
        · rw [hkc e]; exact gu.symm
        · rw [hkc e]; exact gv.symm
  · have hold : ∀ c ∈ o, c.table < t ∨ (c.table = t ∧ (∀ r ∈ x, ltR (keyC s c) (keyR s t r)) ∧ ∀ r ∈ y, ltR (keyC s c) (keyR s t r)) := fun c hc => by
      rcases D.bel c hc with h | ⟨h, h1, h2⟩
      · exact .inl h
      · exact .inr ⟨h, fun r hr => h1 r (hxo r hr), fun r hr => h2 r (hyo r hr)⟩
    by_cases e : u = v
    · rw [if_pos e] at hc; exact hold c hc
    · rw [if_neg e] at hc
      rcases List.mem_append.1 hc with hc | hc
      · exact hold c hc
      · rw [List.mem_singleton.1 hc, hkc e]
        exact .inr ⟨rfl, hx, hy⟩
  · obtain ⟨c, hc, h1, h2⟩ := D.all t' h0 hlt kk hn
    refine ⟨c, ?_, h1, h2⟩
    split
    · exact hc
    · exact List.mem_append_left _ hc
  · rcases Classical.em (kk = k) with e2 | e2
    · subst e2
      rw [gu, gv] at hn
      rw [if_neg hn]
      exact .inl ⟨⟨t, u, v⟩, by simp, rfl, hkc hn⟩
    · rcases D.here kk hn with ⟨c, hc, h1, h2⟩ | ⟨r, hr, h⟩ | ⟨r, hr, h⟩
      · refine .inl ⟨c, ?_, h1, h2⟩
        split
        · exact hc
        · exact List.mem_append_left _ hc
      · rcases List.mem_append.1 hr with hr | hr
        · obtain ⟨rfl, hpos⟩ := mem_ones hr
          exact absurd (h.symm.trans (hu hpos)) e2
        · exact .inr (.inl ⟨r, hr, h⟩)
      · rcases List.mem_append.1 hr with hr | hr
        · obtain ⟨rfl, hpos⟩ := mem_ones hr
          exact absurd (h.symm.trans (hv hpos)) e2
        · exact .inr (.inr ⟨r, hr, h⟩)
/-- What holds between two tables. -/
structure DQ (s : Sch) (a b : St) (t : Int) (o : List Chg) : Prop where
  ord : o.Pairwise (ltC s)
  mem : ∀ c ∈ o, Dif s a b c
  bel : ∀ c ∈ o, c.table < t
  all : ∀ t', 0 ≤ t' → t' < t → ∀ k, gt s a t' k ≠ gt s b t' k → ∃ c ∈ o, c.table = t' ∧ keyC s c = k
theorem DQ.start {s : Sch} {a b : St} : DQ s a b 0 [] := ⟨.nil, (fun c h => by cases h), (fun c h => by cases h), fun t' h0 hlt => by omega⟩
theorem DQ.open {s : Sch} {a b : St} {t : Int} {o : List Chg} (h : DQ s a b t o) : DP s a b t [] (tabAt a t) [] (tabAt b t) o where
  ea := rfl
  eb := rfl
  xy := fun p hp => by cases hp
  yx := fun p hp => by cases hp
  ord := h.ord
  mem := h.mem
  bel := fun c hc => .inl (h.bel c hc)
  all := h.all
  here := fun k hn => by
    by_cases ha : rowOf s t (tabAt a t) k = none
    · cases hb : rowOf s t (tabAt b t) k with
      | none =>
        unfold gt at hn
        rw [ha, hb] at hn
        exact absurd rfl hn
      | some r => exact .inr (.inr ⟨r, (rowOf_mem hb).1, (rowOf_mem hb).2⟩)
    · cases ha' : rowOf s t (tabAt a t) k with
      | none => exact absurd ha' ha
      | some r => exact .inr (.inl ⟨r, (rowOf_mem ha').1, (rowOf_mem ha').2⟩)
theorem DP.close {s : Sch} {a b : St} {t : Int} {px py : Tab} {o : List Chg} (h : DP s a b t px [] py [] o) : DQ s a b (t + 1) o where
  ord := h.ord
  mem := h.mem
  bel := fun c hc => by
    rcases h.bel c hc with h | ⟨h, _⟩ <;> omega
  all := fun t' h0 hlt k hn => by
    rcases Int.lt_or_eq_of_le (show t' ≤ t by omega) with h1 | rfl
    · exact h.all t' h0 h1 k hn
    · rcases h.here k hn with h2 | ⟨r, hr, _⟩ | ⟨r, hr, _⟩
      · exact h2
      · cases hr
      · cases hr
theorem DQ.difs {s : Sch} {a b : St} {o : List Chg} (h : DQ s a b s.tables.length o) : Difs s a b o :=
  ⟨h.ord, h.mem, fun t ht k hn => h.all t ht.1 ht.2 k hn⟩
/-- The changes between two states that a run leads from and to. -/
theorem difs_ex {s : Sch} {mode : Int} {st0 : St} : ∀ {l : List Chg} {cur st' : St} {E : List Ent}, NetI s st0 cur E → Steps s mode cur l st' → ∃ E', NetI s st0 st' E' ∧ E'.length ≤ E.length + l.length
  | [], cur, st', E, I, h => by
    have h : cur = st' := h
    subst h
    exact ⟨E, I, Nat.le_refl _⟩
  | c :: l, cur, st', E, I, ⟨m, A, B, key, h, hr⟩ => by
    rcases Classical.em (∃ e ∈ E, hit c.table key e) with ⟨e, he, hh⟩ | hno
    · obtain ⟨j, hj, rfl⟩ := List.mem_iff_getElem.1 he
      obtain ⟨E', h1, h2⟩ := difs_ex (I.upd h hj hh).1 hr
      refine ⟨E', h1, ?_⟩
      rw [List.length_set] at h2
      rw [List.length_cons]
      omega
    · obtain ⟨E', h1, h2⟩ := difs_ex (I.add h fun e he hh => hno ⟨e, he, hh⟩) hr
      refine ⟨E', h1, ?_⟩
      rw [List.length_append] at h2
      rw [List.length_cons]
      simp at h2
      omega
end Go.Proofs.Ve


/-
  VeJm: Difference, of two states that are in order.
-/
set_option linter.unusedVariables false
set_option linter.unusedSimpArgs false
set_option pp.maxSteps 2000
set_option maxHeartbeats 4000000
namespace Go.Proofs.Ve
open Go

def outO (o : List Chg) : Ob := ⟨60, 3, 56, o.flatMap chgC⟩
theorem outO_ren (o : List Chg) (ρ : Nat → Nat) : (outO o).ren ρ = outO o := ob_ren_deep ρ (all_flat chgC_deep' o)
theorem outO_lt (o : List Chg) (n : Nat) : (outO o).lt n = true := ob_lt_deep n (all_flat chgC_deep' o)
def diO (s : Sch) (a b : St) (o : List Chg) : List (Nat × Ob) := [(0, ⟨32, 0, 0, schC s⟩), (1, ⟨25, 0, 0, stC a⟩), (2, ⟨25, 0, 0, stC b⟩), (3, outO o)]
def diA (s : Sch) (a b : St) (t : Nat) (o : List Chg) : AS := AS.of 107 0 4 [(4, .one (.ptr 0 0)), (6, .one (.ptr 1 0)), (7, .one (.ptr 2 0)), (12, .one (.gref 3)), (33, .one (slC tblC 96 s.tables)), (34, .one (.int .i64 s.tables.length)), (35, .one (.int .i64 (t : Nat)))] (diO s a b o)
def diB (s : Sch) (a b : St) (t : Nat) (x y : Tab) (o : List Chg) : AS := AS.of 107 0 4 [(4, .one (.ptr 0 0)), (6, .one (.ptr 1 0)), (7, .one (.ptr 2 0)), (12, .one (.gref 3)), (13, .one (.int .i64 (t : Nat))), (14, .one (tabC x)), (15, .one (tabC y)), (33, .one (slC tblC 96 s.tables)), (34, .one (.int .i64 s.tables.length)), (35, .one (.int .i64 (t : Nat)))] (diO s a b o)
/-- The change is being made: the order is known. -/
def diC (s : Sch) (a b : St) (t : Nat) (x y : Tab) (o : List Chg) (c : Chg) (q : Int) : AS := AS.of 107 0 5 [(4, .one (.ptr 0 0)), (6, .one (.ptr 1 0)), (7, .one (.ptr 2 0)), (12, .one (.gref 3)), (13, .one (.int .i64 (t : Nat))), (14, .one (tabC x)), (15, .one (tabC y)), (16, .one (.ptr 4 0)), (17, .one (.int .i64 q)), (33, .one (slC tblC 96 s.tables)), (34, .one (.int .i64 s.tables.length)), (35, .one (.int .i64 (t : Nat)))] (diO s a b o ++ [(4, ⟨60, 0, 0, chgC c⟩)])
theorem lenP {α : Type} (a : α) (l : List α) : (((a :: l).length : Nat) : Int) > 0 := by rw [List.length_cons]; omega
theorem dif_spec (s : Sch) (mode : Int) (hm : 1 ≤ mode ∧ mode ≤ 3) (hok : okK s) (hcols : ∀ T ∈ s.tables, T.cols.length ≤ 1099511627776) (hnt : s.tables.length ≤ 8) (h53 : PSpec Try.prog 53 [.agg (schC s)] (fun x => x = .one (.int .i64 0)))
    (a b : St) (g : Good s mode a) (g' : Good s mode b) (out : List Chg) (hout : Difs s a b out) :
    PSpec Try.prog 33 [.agg (schC s), .one (.int .i64 mode), .agg (stC a), .agg (stC b)] (fun x => x = .tup [.one (chgsC out), .one (.int .i64 0)]) := by
  refine pspec_x env08_ok mixed08 Try.func33 rfl 107 rfl _ rfl rfl ?_
  have hA := g.okT hcols
  have hB := g'.okT hcols
  have la := g.len
  have lb := g'.len
  have ca := check_spec s 0 mode a h53 (by omega) (fun l hl => (hA l hl).1) (Nat.le_trans g.cnt (by decide))
  have cb := check_spec s 0 mode b h53 (by omega) (fun l hl => (hB l hl).1) (Nat.le_trans g'.cnt (by decide))
  rw [g.check hm] at ca
  rw [g'.check hm] at cb
  refine wn ?_
  refine cle ca (callee_of Try.func24 rfl rfl) ?_
  rintro x hx rfl
  refine wn ?_
  refine cle cb (callee_of Try.func24 rfl rfl) ?_
  rintro x hx rfl
  refine wn ?_
  refine exI_as _ rfl ?_
  refine wn ?_
  refine loopX_of env08_ok mixed08 (σ := Nat × List Chg) (fun q => diA s a b q.1 q.2) (fun q => q.1 ≤ s.tables.length ∧ DQ s a b (q.1 : Nat) q.2 ∧ q.2.length ≤ 1024 * q.1) (fun q => s.tables.length - q.1) (0, []) (fun _ => rfl) ?_ ⟨Nat.zero_le _, DQ.start, Nat.zero_le _⟩ ?_
  · refine Tr.trans (Tr.nilSlot 12 60 3 56 (by decide) rfl) ?_
    exact tid
  rintro ⟨t, o⟩ ⟨ht, D, ho⟩
  have ht : t ≤ s.tables.length := ht
  have D : DQ s a b (t : Nat) o := D
  have ho : o.length ≤ 1024 * t := ho
  refine wn ?_
  refine forkB_dec (fun h1 => ?_) (fun h1 => ?_)
  · have ht2 : t < s.tables.length := by have h1 : (t : Int) < s.tables.length := h1; omega
    have htr : 0 ≤ (t : Int) ∧ (t : Int) < s.tables.length := by omega
    have ea : tabAt a (t : Nat) = a[t]'(by omega) := by rw [tabAt_get (by simp; omega)]; simp
    have eb : tabAt b (t : Nat) = b[t]'(by omega) := by rw [tabAt_get (by simp; omega)]; simp
    have hxa := hA _ (List.getElem_mem (l := a) (n := t) (by omega))
    have hxb := hB _ (List.getElem_mem (l := b) (n := t) (by omega))
    rw [← ea] at hxa
    rw [← eb] at hxb
    have D2 := D.open
    have hfx := g.fit t ht2
    have hfy := g'.fit t ht2
    have hsx := good_srt g htr
    have hsy := good_srt g' htr
    refine wn ?_
    refine drawnX_phase env08_ok (fun _ => true) (List.range 12) (tks 0 12 (.stop)) 0 (lst 12 []) (by kernel_rfl) ?_
    refine wn ?_
    refine reqD_dec (by omega) ?_
    refine forceL_as (tabC1 (tabAt a (t : Nat))) ((flat_get (f := tabC1) tabC1_len a t (by omega)).trans (by rw [ea])) ?_
    refine wn ?_
    refine reqD_dec (by omega) ?_
    refine forceL_as (tabC1 (tabAt b (t : Nat))) ((flat_get (f := tabC1) tabC1_len b t (by omega)).trans (by rw [eb])) ?_
    refine wn ?_
    refine drawnX_done (by kernel_rfl) ?_
    refine wn ?_
    refine loopX_of env08_ok mixed08 (σ := Tab × Tab × List Chg) (fun q => diB s a b t q.1 q.2.1 q.2.2) (fun q => (∃ px py, DP s a b (t : Nat) px q.1 py q.2.1 q.2.2) ∧ q.2.2.length + q.1.length + q.2.1.length ≤ 1024 * (t + 1)) (fun q => q.1.length + q.2.1.length) (tabAt a (t : Nat), tabAt b (t : Nat), o) (fun _ => rfl) (tid ⟨⟨rfl, rfl, by decide⟩, ⟨rfl, rfl, by decide⟩, ⟨rfl, rfl, by decide⟩, ⟨(congrArg some (outO_ren o id)).symm, outO_lt _ _, by decide⟩, trivial⟩) ⟨⟨[], [], D2⟩, ?_⟩ ?_
    · have h1 := hxa.2.1
      have h2 := hxb.2.1
      show o.length + (tabAt a (t : Nat)).length + (tabAt b (t : Nat)).length ≤ 1024 * (t + 1)
      omega
    rintro ⟨x, y, o2⟩ ⟨⟨px, py, P⟩, hlen⟩
    have P : DP s a b (t : Nat) px x py y o2 := P
    have hlen : o2.length + x.length + y.length ≤ 1024 * (t + 1) := hlen
    have hxm : ∀ r ∈ x, r ∈ tabAt a (t : Nat) := fun r hr => by rw [P.ea]; exact List.mem_append_right _ hr
    have hym : ∀ r ∈ y, r ∈ tabAt b (t : Nat) := fun r hr => by rw [P.eb]; exact List.mem_append_right _ hr
    have hxs : srt s (t : Nat) x := by have := hsx; rw [P.ea] at this; exact (List.pairwise_append.1 this).2.1
    have hys : srt s (t : Nat) y := by have := hsy; rw [P.eb] at this; exact (List.pairwise_append.1 this).2.1
    refine wn ?_
    match x, P, hlen, hxm, hxs with
    | [], P, hlen, hxm, hxs =>
      match y, P, hlen, hym, hys with
      | [], P, hlen, hym, hys =>
        refine exI_as 0 rfl ?_
        refine wn ?_
        refine exI_as 0 rfl ?_
        refine wn ?_
        refine exI_i64 (by show -9223372036854775808 ≤ (t : Int) + 1; omega) (by show (t : Int) + 1 ≤ 9223372036854775807; omega) ?_
        refine wn ?_
        refine ⟨(t + 1, o2), ⟨ht2, ?_, by show o2.length ≤ 1024 * (t + 1); have h1 : ([] : Tab).length = 0 := rfl; omega⟩, by show s.tables.length - (t + 1) < s.tables.length - t; omega, ?_⟩
        · have := P.close
          exact this
        · exact (tid ⟨⟨rfl, rfl, by decide⟩, ⟨rfl, rfl, by decide⟩, ⟨rfl, rfl, by decide⟩, ⟨(congrArg some (outO_ren o2 id)).symm, outO_lt _ _, by decide⟩, trivial⟩)
      | b0 :: y', P, hlen, hym, hys =>
        refine exI_as 0 rfl ?_
        refine wn ?_
        refine exI_as ((y'.length + 1 : Nat) : Int) rfl ?_
        refine wn ?_
        refine forkB_dec (fun _ => ?_) (fun h => absurd h (by omega))
        refine wn ?_
        refine exI_as 0 rfl ?_
        refine wn ?_
        have hb0 := hxb.2.2 b0 (hym b0 (List.mem_cons_self ..))
        have hbp := fits_pos hok (hfy b0 (hym b0 (List.mem_cons_self ..)))
        have hys' := List.pairwise_cons.1 hys
        refine drawnX_tr (A1 := diC s a b t (List.nil) ((b0 :: y')) o2 ⟨(t : Nat), [], []⟩ (1)) ?_ (by rfl) ?_
        · refine Tr.trans (Tr.obj 4 (ob := ⟨60, 0, 0, [.int .i64 (t : Nat), nilC, nilC]⟩) (by rfl) (cells := chgC ⟨(t : Nat), [], []⟩) (box_le t)) ?_
          exact (tid ⟨⟨rfl, rfl, by decide⟩, ⟨rfl, rfl, by decide⟩, ⟨rfl, rfl, by decide⟩, ⟨(congrArg some (outO_ren o2 id)).symm, outO_lt _ _, by decide⟩, ⟨rfl, rfl, by decide⟩, trivial⟩)
        refine drawnX_phase env08_ok (fun id => id < 4) (List.range 9) (tks 0 3 (tks 4 2 (.one 3 (tks 6 1 (.one 7 (tks 8 1 (.stop))))))) 0 (lst 9 []) (by kernel_rfl) ?_
        refine wn ?_
        refine reqD_dec ⟨by omega, by show (0 : Int) < (((b0 :: y').length : Nat) : Int); exact lenP _ _⟩ ?_
        refine forceL_as (rowC1 b0) (flat_get (f := rowC1) rowC1_len (b0 :: y') 0 (by simp)) ?_
        refine wn ?_
        refine reqD_dec (flat_len rowC1_len (b0 :: y')) ?_
        refine wn ?_
        refine reqD_dec (by have := lenP b0 y'; omega) ?_
        refine exV_as (.one (tabC y')) (slice_from (b0 :: y') _ 1 (by simp)) ?_
        refine wn ?_
        refine cle (copied_spec b0 (by omega)) callee44 ?_
        rintro z hz rfl
        refine wn ?_
        refine drawnX_done (by kernel_rfl) ?_
        refine wn ?_
        have Pn : DP s a b (t : Nat) px (ones [] ++ []) py (ones b0 ++ y') o2 := by rw [ones_nil, ones_pos hbp]; exact P
        have P' := Pn.next (k := keyR s (t : Nat) b0) g g' htr (fun h => absurd h (Nat.lt_irrefl _)) (fun _ => rfl) (.inr hbp) (fun r hr => by cases hr) hys'.1
        refine cle (compareRows_spec (List.nil) (b0) (by first | omega | exact Nat.zero_le _) (by first | omega | exact Nat.zero_le _)) callee42 ?_
        rintro z hz rfl
        refine wn ?_
        refine forkB_intro (fun h9 => ?_) (fun h9 => ?_)
        · have h9 : cmpR (List.nil) (b0) ≠ 0 := by simpa using h9
          have h10 : (List.nil) ≠ (b0) := fun e => h9 (cmpR_eq.2 e)
          rw [if_neg h10] at P'
          refine wn ?_
          try (refine rq ?_)
          refine wn ?_
          refine reqD_dec (by show (outO o2).cells.length = (outO o2).cells.length / 3 * 3; exact flat_div chgC_len (by decide) _) ?_
          refine reqD_dec (by have := flat_len chgC_len o2; simp [outO, ty60, ty56, this]; omega) ?_
          refine forceL_as ((o2 ++ Chg.mk (t : Nat) (List.nil) (b0) :: List.nil).flatMap chgC) (by rw [List.flatMap_append]; rfl) ?_
          refine wn ?_
          refine ⟨(List.nil, y', o2 ++ Chg.mk (t : Nat) (List.nil) (b0) :: List.nil), ⟨⟨_, _, P'⟩, ?_⟩, ?_, ?_⟩
          · show (o2 ++ Chg.mk (t : Nat) (List.nil) (b0) :: List.nil).length + (List.nil).length + (y').length ≤ 1024 * (t + 1)
            simp at hlen ⊢
            omega
          · show (List.nil).length + (y').length < _
            simp
            try omega
          · exact (tmv 3 6 ⟨⟨rfl, rfl, by decide⟩, ⟨rfl, rfl, by decide⟩, ⟨rfl, rfl, by decide⟩, ⟨(congrArg some (outO_ren (o2 ++ Chg.mk (t : Nat) (List.nil) (b0) :: List.nil) (mv 3 6))).symm, outO_lt _ _, by decide⟩, trivial⟩)
        · have h9 : cmpR (List.nil) (b0) = 0 := by simpa using h9
          rw [if_pos (cmpR_eq.1 h9)] at P'
          refine wn ?_
          refine ⟨(List.nil, y', o2), ⟨⟨_, _, P'⟩, ?_⟩, ?_, ?_⟩
          · show o2.length + (List.nil).length + (y').length ≤ 1024 * (t + 1)
            simp at hlen ⊢
            omega
          · show (List.nil).length + (y').length < _
            simp
            try omega
          · exact (tid ⟨⟨rfl, rfl, by decide⟩, ⟨rfl, rfl, by decide⟩, ⟨rfl, rfl, by decide⟩, ⟨(congrArg some (outO_ren o2 id)).symm, outO_lt _ _, by decide⟩, trivial⟩)
    | a0 :: x', P, hlen, hxm, hxs =>
      have ha0 := hxa.2.2 a0 (hxm a0 (List.mem_cons_self ..))
      have hap := fits_pos hok (hfx a0 (hxm a0 (List.mem_cons_self ..)))
      have hxs' := List.pairwise_cons.1 hxs
      match y, P, hlen, hym, hys with
      | [], P, hlen, hym, hys =>
        refine exI_as ((x'.length + 1 : Nat) : Int) rfl ?_
        refine wn ?_
        refine forkB_dec (fun _ => ?_) (fun h => absurd h (by omega))
        refine wn ?_
        refine exI_as ((x'.length + 1 : Nat) : Int) rfl ?_
        refine wn ?_
        refine exI_as 0 rfl ?_
        refine wn ?_
        refine drawnX_tr (A1 := diC s a b t ((a0 :: x')) (List.nil) o2 ⟨(t : Nat), [], []⟩ ((-1))) ?_ (by rfl) ?_
        · refine Tr.trans (Tr.obj 4 (ob := ⟨60, 0, 0, [.int .i64 (t : Nat), nilC, nilC]⟩) (by rfl) (cells := chgC ⟨(t : Nat), [], []⟩) (box_le t)) ?_
          exact (tid ⟨⟨rfl, rfl, by decide⟩, ⟨rfl, rfl, by decide⟩, ⟨rfl, rfl, by decide⟩, ⟨(congrArg some (outO_ren o2 id)).symm, outO_lt _ _, by decide⟩, ⟨rfl, rfl, by decide⟩, trivial⟩)
        refine drawnX_phase env08_ok (fun id => id < 4) (List.range 9) (tks 0 3 (tks 4 2 (.one 3 (tks 6 1 (.one 7 (tks 8 1 (.stop))))))) 0 (lst 9 []) (by kernel_rfl) ?_
        refine wn ?_
        refine reqD_dec ⟨by omega, by show (0 : Int) < (((a0 :: x').length : Nat) : Int); exact lenP _ _⟩ ?_
        refine forceL_as (rowC1 a0) (flat_get (f := rowC1) rowC1_len (a0 :: x') 0 (by simp)) ?_
        refine wn ?_
        refine reqD_dec (flat_len rowC1_len (a0 :: x')) ?_
        refine wn ?_
        refine reqD_dec (by have := lenP a0 x'; omega) ?_
        refine exV_as (.one (tabC x')) (slice_from (a0 :: x') _ 1 (by simp)) ?_
        refine wn ?_
        refine cle (copied_spec a0 (by omega)) callee44 ?_
        rintro z hz rfl
        refine wn ?_
        refine drawnX_done (by kernel_rfl) ?_
        refine wn ?_
        have Pn : DP s a b (t : Nat) px (ones a0 ++ x') py (ones [] ++ []) o2 := by rw [ones_nil, ones_pos hap]; exact P
        have P' := Pn.next (k := keyR s (t : Nat) a0) g g' htr (fun _ => rfl) (fun h => absurd h (Nat.lt_irrefl _)) (.inl hap) hxs'.1 (fun r hr => by cases hr)
        refine cle (compareRows_spec (a0) (List.nil) (by first | omega | exact Nat.zero_le _) (by first | omega | exact Nat.zero_le _)) callee42 ?_
        rintro z hz rfl
        refine wn ?_
        refine forkB_intro (fun h9 => ?_) (fun h9 => ?_)
        · have h9 : cmpR (a0) (List.nil) ≠ 0 := by simpa using h9
          have h10 : (a0) ≠ (List.nil) := fun e => h9 (cmpR_eq.2 e)
          rw [if_neg h10] at P'
          refine wn ?_
          try (refine rq ?_)
          refine wn ?_
          refine reqD_dec (by show (outO o2).cells.length = (outO o2).cells.length / 3 * 3; exact flat_div chgC_len (by decide) _) ?_
          refine reqD_dec (by have := flat_len chgC_len o2; simp [outO, ty60, ty56, this]; omega) ?_
          refine forceL_as ((o2 ++ Chg.mk (t : Nat) (a0) (List.nil) :: List.nil).flatMap chgC) (by rw [List.flatMap_append]; rfl) ?_
          refine wn ?_
          refine ⟨(x', List.nil, o2 ++ Chg.mk (t : Nat) (a0) (List.nil) :: List.nil), ⟨⟨_, _, P'⟩, ?_⟩, ?_, ?_⟩
          · show (o2 ++ Chg.mk (t : Nat) (a0) (List.nil) :: List.nil).length + (x').length + (List.nil).length ≤ 1024 * (t + 1)
            simp at hlen ⊢
            omega
          · show (x').length + (List.nil).length < _
            simp
            try omega
          · exact (tmv 3 6 ⟨⟨rfl, rfl, by decide⟩, ⟨rfl, rfl, by decide⟩, ⟨rfl, rfl, by decide⟩, ⟨(congrArg some (outO_ren (o2 ++ Chg.mk (t : Nat) (a0) (List.nil) :: List.nil) (mv 3 6))).symm, outO_lt _ _, by decide⟩, trivial⟩)
        · have h9 : cmpR (a0) (List.nil) = 0 := by simpa using h9
          rw [if_pos (cmpR_eq.1 h9)] at P'
          refine wn ?_
          refine ⟨(x', List.nil, o2), ⟨⟨_, _, P'⟩, ?_⟩, ?_, ?_⟩
          · show o2.length + (x').length + (List.nil).length ≤ 1024 * (t + 1)
            simp at hlen ⊢
            omega
          · show (x').length + (List.nil).length < _
            simp
            try omega
          · exact (tid ⟨⟨rfl, rfl, by decide⟩, ⟨rfl, rfl, by decide⟩, ⟨rfl, rfl, by decide⟩, ⟨(congrArg some (outO_ren o2 id)).symm, outO_lt _ _, by decide⟩, trivial⟩)
      | b0 :: y', P, hlen, hym, hys =>
        have hb0 := hxb.2.2 b0 (hym b0 (List.mem_cons_self ..))
        have hbp := fits_pos hok (hfy b0 (hym b0 (List.mem_cons_self ..)))
        have hys' := List.pairwise_cons.1 hys
        have hka := keyR_le s (t : Nat) a0
        have hkb := keyR_le s (t : Nat) b0
        refine exI_as ((x'.length + 1 : Nat) : Int) rfl ?_
        refine wn ?_
        refine forkB_dec (fun _ => ?_) (fun h => absurd h (by omega))
        refine wn ?_
        refine exI_as ((x'.length + 1 : Nat) : Int) rfl ?_
        refine wn ?_
        refine exI_as ((y'.length + 1 : Nat) : Int) rfl ?_
        refine wn ?_
        refine forkB_dec (fun _ => ?_) (fun h => absurd h (by omega))
        refine wn ?_
        refine drawnX_tr (A1 := diC s a b t ((a0 :: x')) ((b0 :: y')) o2 ⟨(t : Nat), [], []⟩ ((-1))) ?_ (by rfl) ?_
        · refine Tr.trans (Tr.obj 4 (ob := ⟨60, 0, 0, [.int .i64 (t : Nat), nilC, nilC]⟩) (by rfl) (cells := chgC ⟨(t : Nat), [], []⟩) (box_le t)) ?_
          exact (tid ⟨⟨rfl, rfl, by decide⟩, ⟨rfl, rfl, by decide⟩, ⟨rfl, rfl, by decide⟩, ⟨(congrArg some (outO_ren o2 id)).symm, outO_lt _ _, by decide⟩, ⟨rfl, rfl, by decide⟩, trivial⟩)
        refine drawnX_phase env08_ok (fun id => id == 0) (List.range 14) (tks 0 5 (tks 6 5 (.one 5 (.one 11 (.one 12 (tks 13 1 (.stop))))))) 0 (lst 14 []) (by kernel_rfl) ?_
        refine wn ?_
        refine reqD_dec ⟨by omega, by show (0 : Int) < (((a0 :: x').length : Nat) : Int); exact lenP _ _⟩ ?_
        refine forceL_as (rowC1 a0) (flat_get (f := rowC1) rowC1_len (a0 :: x') 0 (by simp)) ?_
        refine wn ?_
        refine reqD_dec ⟨by omega, by show (0 : Int) < (((b0 :: y').length : Nat) : Int); exact lenP _ _⟩ ?_
        refine forceL_as (rowC1 b0) (flat_get (f := rowC1) rowC1_len (b0 :: y') 0 (by simp)) ?_
        refine wn ?_
        refine cle (key_spec s (t : Nat) a0 (by omega)) (callee_of Try.func43 rfl rfl) ?_
        rintro z hz rfl
        refine wn ?_
        refine cle (key_spec s (t : Nat) b0 (by omega)) (callee_of Try.func43 rfl rfl) ?_
        rintro z hz rfl
        refine wn ?_
        refine cle (compareRows_spec (keyR s (t : Nat) a0) (keyR s (t : Nat) b0) (by omega) (by omega)) callee42 ?_
        rcases ltR_tri (keyR s (t : Nat) a0) (keyR s (t : Nat) b0) with hk | hk | hk
        · rw [cmpR_lt' hk]
          rintro z hz rfl
          refine wn ?_
          refine drawnX_done (by kernel_rfl) ?_
          refine wn ?_
          refine drawnX_phase env08_ok (fun id => id < 4) (List.range 9) (tks 0 3 (tks 4 2 (.one 3 (tks 6 1 (.one 7 (tks 8 1 (.stop))))))) 0 (lst 9 []) (by kernel_rfl) ?_
          refine wn ?_
          refine reqD_dec ⟨by omega, by show (0 : Int) < (((a0 :: x').length : Nat) : Int); exact lenP _ _⟩ ?_
          refine forceL_as (rowC1 a0) (flat_get (f := rowC1) rowC1_len (a0 :: x') 0 (by simp)) ?_
          refine wn ?_
          refine reqD_dec (flat_len rowC1_len (a0 :: x')) ?_
          refine wn ?_
          refine reqD_dec (by have := lenP a0 x'; omega) ?_
          refine exV_as (.one (tabC x')) (slice_from (a0 :: x') _ 1 (by simp)) ?_
          refine wn ?_
          refine cle (copied_spec a0 (by omega)) callee44 ?_
          rintro z hz rfl
          refine wn ?_
          refine drawnX_done (by kernel_rfl) ?_
          refine wn ?_
          have Pn : DP s a b (t : Nat) px (ones a0 ++ x') py (ones [] ++ (b0 :: y')) o2 := by rw [ones_nil, ones_pos hap]; exact P
          have P' := Pn.next (k := keyR s (t : Nat) a0) g g' htr (fun _ => rfl) (fun h => absurd h (Nat.lt_irrefl _)) (.inl hap) hxs'.1 (fun r hr => by
            rcases List.mem_cons.1 hr with rfl | hr
            · exact hk
            · exact ltR_trans hk (hys'.1 r hr))
          refine cle (compareRows_spec (a0) (List.nil) (by first | omega | exact Nat.zero_le _) (by first | omega | exact Nat.zero_le _)) callee42 ?_
          rintro z hz rfl
          refine wn ?_
          refine forkB_intro (fun h9 => ?_) (fun h9 => ?_)
          · have h9 : cmpR (a0) (List.nil) ≠ 0 := by simpa using h9
            have h10 : (a0) ≠ (List.nil) := fun e => h9 (cmpR_eq.2 e)
            rw [if_neg h10] at P'
            refine wn ?_
            try (refine rq ?_)
            refine wn ?_
            refine reqD_dec (by show (outO o2).cells.length = (outO o2).cells.length / 3 * 3; exact flat_div chgC_len (by decide) _) ?_
            refine reqD_dec (by have := flat_len chgC_len o2; simp [outO, ty60, ty56, this]; omega) ?_
            refine forceL_as ((o2 ++ Chg.mk (t : Nat) (a0) (List.nil) :: List.nil).flatMap chgC) (by rw [List.flatMap_append]; rfl) ?_
            refine wn ?_
            refine ⟨(x', (b0 :: y'), o2 ++ Chg.mk (t : Nat) (a0) (List.nil) :: List.nil), ⟨⟨_, _, P'⟩, ?_⟩, ?_, ?_⟩
            · show (o2 ++ Chg.mk (t : Nat) (a0) (List.nil) :: List.nil).length + (x').length + ((b0 :: y')).length ≤ 1024 * (t + 1)
              simp at hlen ⊢
              omega
            · show (x').length + ((b0 :: y')).length < _
              simp
              try omega
            · exact (tmv 3 6 ⟨⟨rfl, rfl, by decide⟩, ⟨rfl, rfl, by decide⟩, ⟨rfl, rfl, by decide⟩, ⟨(congrArg some (outO_ren (o2 ++ Chg.mk (t : Nat) (a0) (List.nil) :: List.nil) (mv 3 6))).symm, outO_lt _ _, by decide⟩, trivial⟩)
          · have h9 : cmpR (a0) (List.nil) = 0 := by simpa using h9
            rw [if_pos (cmpR_eq.1 h9)] at P'
            refine wn ?_
            refine ⟨(x', (b0 :: y'), o2), ⟨⟨_, _, P'⟩, ?_⟩, ?_, ?_⟩
            · show o2.length + (x').length + ((b0 :: y')).length ≤ 1024 * (t + 1)
              simp at hlen ⊢
              omega
            · show (x').length + ((b0 :: y')).length < _
              simp
              try omega
            · exact (tid ⟨⟨rfl, rfl, by decide⟩, ⟨rfl, rfl, by decide⟩, ⟨rfl, rfl, by decide⟩, ⟨(congrArg some (outO_ren o2 id)).symm, outO_lt _ _, by decide⟩, trivial⟩)
        · rw [cmpR_eq.2 hk]
          rintro z hz rfl
          refine wn ?_
          refine drawnX_done (by kernel_rfl) ?_
          refine wn ?_
          refine drawnX_phase env08_ok (fun id => id < 4) (List.range 9) (tks 0 3 (tks 4 2 (.one 3 (tks 6 1 (.one 7 (tks 8 1 (.stop))))))) 0 (lst 9 []) (by kernel_rfl) ?_
          refine wn ?_
          refine reqD_dec ⟨by omega, by show (0 : Int) < (((a0 :: x').length : Nat) : Int); exact lenP _ _⟩ ?_
          refine forceL_as (rowC1 a0) (flat_get (f := rowC1) rowC1_len (a0 :: x') 0 (by simp)) ?_
          refine wn ?_
          refine reqD_dec (flat_len rowC1_len (a0 :: x')) ?_
          refine wn ?_
          refine reqD_dec (by have := lenP a0 x'; omega) ?_
          refine exV_as (.one (tabC x')) (slice_from (a0 :: x') _ 1 (by simp)) ?_
          refine wn ?_
          refine cle (copied_spec a0 (by omega)) callee44 ?_
          rintro z hz rfl
          refine wn ?_
          refine drawnX_done (by kernel_rfl) ?_
          refine wn ?_
          refine drawnX_phase env08_ok (fun id => id < 4) (List.range 9) (tks 0 3 (tks 4 2 (.one 3 (tks 6 1 (.one 7 (tks 8 1 (.stop))))))) 0 (lst 9 []) (by kernel_rfl) ?_
          refine wn ?_
          refine reqD_dec ⟨by omega, by show (0 : Int) < (((b0 :: y').length : Nat) : Int); exact lenP _ _⟩ ?_
          refine forceL_as (rowC1 b0) (flat_get (f := rowC1) rowC1_len (b0 :: y') 0 (by simp)) ?_
          refine wn ?_
          refine reqD_dec (flat_len rowC1_len (b0 :: y')) ?_
          refine wn ?_
          refine reqD_dec (by have := lenP b0 y'; omega) ?_
          refine exV_as (.one (tabC y')) (slice_from (b0 :: y') _ 1 (by simp)) ?_
          refine wn ?_
          refine cle (copied_spec b0 (by omega)) callee44 ?_
          rintro z hz rfl
          refine wn ?_
          refine drawnX_done (by kernel_rfl) ?_
          refine wn ?_
          have Pn : DP s a b (t : Nat) px (ones a0 ++ x') py (ones b0 ++ y') o2 := by rw [ones_pos hap, ones_pos hbp]; exact P
          have P' := Pn.next (k := keyR s (t : Nat) a0) g g' htr (fun _ => rfl) (fun _ => hk.symm) (.inl hap) hxs'.1 (fun r hr => by rw [hk]; exact hys'.1 r hr)
          refine cle (compareRows_spec (a0) (b0) (by first | omega | exact Nat.zero_le _) (by first | omega | exact Nat.zero_le _)) callee42 ?_
          rintro z hz rfl
          refine wn ?_
          refine forkB_intro (fun h9 => ?_) (fun h9 => ?_)
          · have h9 : cmpR (a0) (b0) ≠ 0 := by simpa using h9
            have h10 : (a0) ≠ (b0) := fun e => h9 (cmpR_eq.2 e)
            rw [if_neg h10] at P'
            refine wn ?_
            try (refine rq ?_)
            refine wn ?_
            refine reqD_dec (by show (outO o2).cells.length = (outO o2).cells.length / 3 * 3; exact flat_div chgC_len (by decide) _) ?_
            refine reqD_dec (by have := flat_len chgC_len o2; simp [outO, ty60, ty56, this]; omega) ?_
            refine forceL_as ((o2 ++ Chg.mk (t : Nat) (a0) (b0) :: List.nil).flatMap chgC) (by rw [List.flatMap_append]; rfl) ?_
            refine wn ?_
            refine ⟨(x', y', o2 ++ Chg.mk (t : Nat) (a0) (b0) :: List.nil), ⟨⟨_, _, P'⟩, ?_⟩, ?_, ?_⟩
            · show (o2 ++ Chg.mk (t : Nat) (a0) (b0) :: List.nil).length + (x').length + (y').length ≤ 1024 * (t + 1)
              simp at hlen ⊢
              omega
            · show (x').length + (y').length < _
              simp
              try omega
            · exact (tmv 3 6 ⟨⟨rfl, rfl, by decide⟩, ⟨rfl, rfl, by decide⟩, ⟨rfl, rfl, by decide⟩, ⟨(congrArg some (outO_ren (o2 ++ Chg.mk (t : Nat) (a0) (b0) :: List.nil) (mv 3 6))).symm, outO_lt _ _, by decide⟩, trivial⟩)
          · have h9 : cmpR (a0) (b0) = 0 := by simpa using h9
            rw [if_pos (cmpR_eq.1 h9)] at P'
            refine wn ?_
            refine ⟨(x', y', o2), ⟨⟨_, _, P'⟩, ?_⟩, ?_, ?_⟩
            · show o2.length + (x').length + (y').length ≤ 1024 * (t + 1)
              simp at hlen ⊢
              omega
            · show (x').length + (y').length < _
              simp
              try omega
            · exact (tid ⟨⟨rfl, rfl, by decide⟩, ⟨rfl, rfl, by decide⟩, ⟨rfl, rfl, by decide⟩, ⟨(congrArg some (outO_ren o2 id)).symm, outO_lt _ _, by decide⟩, trivial⟩)
        · rw [cmpR_gt' hk]
          rintro z hz rfl
          refine wn ?_
          refine drawnX_done (by kernel_rfl) ?_
          refine wn ?_
          refine drawnX_phase env08_ok (fun id => id < 4) (List.range 9) (tks 0 3 (tks 4 2 (.one 3 (tks 6 1 (.one 7 (tks 8 1 (.stop))))))) 0 (lst 9 []) (by kernel_rfl) ?_
          refine wn ?_
          refine reqD_dec ⟨by omega, by show (0 : Int) < (((b0 :: y').length : Nat) : Int); exact lenP _ _⟩ ?_
          refine forceL_as (rowC1 b0) (flat_get (f := rowC1) rowC1_len (b0 :: y') 0 (by simp)) ?_
          refine wn ?_
          refine reqD_dec (flat_len rowC1_len (b0 :: y')) ?_
          refine wn ?_
          refine reqD_dec (by have := lenP b0 y'; omega) ?_
          refine exV_as (.one (tabC y')) (slice_from (b0 :: y') _ 1 (by simp)) ?_
          refine wn ?_
          refine cle (copied_spec b0 (by omega)) callee44 ?_
          rintro z hz rfl
          refine wn ?_
          refine drawnX_done (by kernel_rfl) ?_
          refine wn ?_
          have Pn : DP s a b (t : Nat) px (ones [] ++ (a0 :: x')) py (ones b0 ++ y') o2 := by rw [ones_nil, ones_pos hbp]; exact P
          have P' := Pn.next (k := keyR s (t : Nat) b0) g g' htr (fun h => absurd h (Nat.lt_irrefl _)) (fun _ => rfl) (.inr hbp) (fun r hr => by
            rcases List.mem_cons.1 hr with rfl | hr
            · exact hk
            · exact ltR_trans hk (hxs'.1 r hr)) hys'.1
          refine cle (compareRows_spec (List.nil) (b0) (by first | omega | exact Nat.zero_le _) (by first | omega | exact Nat.zero_le _)) callee42 ?_
          rintro z hz rfl
          refine wn ?_
          refine forkB_intro (fun h9 => ?_) (fun h9 => ?_)
          · have h9 : cmpR (List.nil) (b0) ≠ 0 := by simpa using h9
            have h10 : (List.nil) ≠ (b0) := fun e => h9 (cmpR_eq.2 e)
            rw [if_neg h10] at P'
            refine wn ?_
            try (refine rq ?_)
            refine wn ?_
            refine reqD_dec (by show (outO o2).cells.length = (outO o2).cells.length / 3 * 3; exact flat_div chgC_len (by decide) _) ?_
            refine reqD_dec (by have := flat_len chgC_len o2; simp [outO, ty60, ty56, this]; omega) ?_
            refine forceL_as ((o2 ++ Chg.mk (t : Nat) (List.nil) (b0) :: List.nil).flatMap chgC) (by rw [List.flatMap_append]; rfl) ?_
            refine wn ?_
            refine ⟨((a0 :: x'), y', o2 ++ Chg.mk (t : Nat) (List.nil) (b0) :: List.nil), ⟨⟨_, _, P'⟩, ?_⟩, ?_, ?_⟩
            · show (o2 ++ Chg.mk (t : Nat) (List.nil) (b0) :: List.nil).length + ((a0 :: x')).length + (y').length ≤ 1024 * (t + 1)
              simp at hlen ⊢
              omega
            · show ((a0 :: x')).length + (y').length < _
              simp
              try omega
            · exact (tmv 3 6 ⟨⟨rfl, rfl, by decide⟩, ⟨rfl, rfl, by decide⟩, ⟨rfl, rfl, by decide⟩, ⟨(congrArg some (outO_ren (o2 ++ Chg.mk (t : Nat) (List.nil) (b0) :: List.nil) (mv 3 6))).symm, outO_lt _ _, by decide⟩, trivial⟩)
          · have h9 : cmpR (List.nil) (b0) = 0 := by simpa using h9
            rw [if_pos (cmpR_eq.1 h9)] at P'
            refine wn ?_
            refine ⟨((a0 :: x'), y', o2), ⟨⟨_, _, P'⟩, ?_⟩, ?_, ?_⟩
            · show o2.length + ((a0 :: x')).length + (y').length ≤ 1024 * (t + 1)
              simp at hlen ⊢
              omega
            · show ((a0 :: x')).length + (y').length < _
              simp
              try omega
            · exact (tid ⟨⟨rfl, rfl, by decide⟩, ⟨rfl, rfl, by decide⟩, ⟨rfl, rfl, by decide⟩, ⟨(congrArg some (outO_ren o2 id)).symm, outO_lt _ _, by decide⟩, trivial⟩)
  · have hte : t = s.tables.length := by have h1 : ¬ (t : Int) < s.tables.length := h1; omega
    subst hte
    have ho2 : o = out := D.difs.unique hout
    subst ho2
    refine wn ?_
    refine retX_tr (Tr.frz' (T := 60) (s := 3) (B := 56) (cells := o.flatMap chgC) 3 o.length (by rfl) (by decide) (flat_len chgC_len _) (all_flat chgC_deep' _)) ?_
    refine retX_val rfl ?_
    conv => whnf
    rfl
end Go.Proofs.Ve


/-
  VeJn: TableNetsApply: the walk.
-/
set_option linter.unusedVariables false
set_option linter.unusedSimpArgs false
set_option pp.maxSteps 2000
set_option maxHeartbeats 4000000
namespace Go.Proofs.Ve
open Go

theorem callee32 : callee Try.prog 32 := callee_of Try.func32 rfl rfl
theorem callee33 : callee Try.prog 33 := callee_of Try.func33 rfl rfl
theorem nets_spec (codes : List Int) (hcodes : ok8 codes) : PSpec Try.prog 7 [.one (slC byteC 1 codes)] (fun r => r = .one (.bool true)) := by
  refine pspec_x env08_ok mixed08 Try.func7 rfl 80 rfl _ rfl rfl ?_
  refine wn ?_
  refine callX_new (new_spec codes hcodes 160 (by decide)) callee9 (fun n => .one (.ptr n 0)) (fun n => by simp [AV.ren, AC.ren, cren]) (fun ρ => caseO_ren _ _ ρ) rfl rfl (.cons (AV.Le.refl _) (.cons (AV.Le.refl _) .nil)) rfl ?_
  have h : ok8 (codes.take 160) := ⟨by rw [List.length_take]; have := hcodes.len; omega, fun x hx => hcodes.byte x (List.mem_of_mem_take hx)⟩
  obtain ⟨cs, hcs⟩ : ∃ cs, codes.take 160 = cs := ⟨_, rfl⟩
  rw [hcs] at h ⊢
  refine wn ?_
  refine cm (gschema_spec cs h 0 (Nat.zero_le _)) (callee10) ?_
  refine wn ?_
  have hS := schemaG_of h 0
  have hp1 := schemaG_in (cs := cs) (p := 0) (Nat.zero_le _)
  obtain ⟨S, hSe⟩ : ∃ S, (schemaG cs 0).1 = S := ⟨_, rfl⟩
  obtain ⟨P1, hP1⟩ : ∃ P1, (schemaG cs 0).2 = P1 := ⟨_, rfl⟩
  rw [hSe] at hS ⊢
  rw [hP1] at hp1 ⊢
  have hcols2 : ∀ T ∈ S.tables, T.cols.length ≤ 1099511627776 := fun T hT => Nat.le_trans (hS.cols T hT).2 (by decide)
  have hnt := hS.len
  have hK := hS.okK
  have h53 := hS.spec h
  have m0 := intG_lo cs h 3 P1
  have m3 := intG_hi cs h 3 (by decide) P1
  refine cm (int_spec cs h 3 P1 hp1) (callee25) ?_
  refine wn ?_
  refine i64 ?_
  refine wn ?_
  obtain ⟨m, hm⟩ : ∃ m, 1 + intG cs 3 P1 = m := ⟨_, rfl⟩
  have hm3 : 1 ≤ m ∧ m ≤ 3 := by omega
  rw [hm]
  have hp2 := intP_in (n := 3) hp1
  generalize intP cs 3 P1 = P2 at hp2 ⊢
  refine wn ?_
  obtain ⟨g, hcnt⟩ := stateG_good h hK (by omega) hm3 P2
  have hW := (stateG_ok h hS.cols m hp2).2
  refine cm (state_spec cs h S hcols2 (by omega) m P2 hp2) (callee11) ?_
  refine wn ?_
  obtain ⟨st, hst⟩ : ∃ st, (stateG cs S m P2).1 = st := ⟨_, rfl⟩
  obtain ⟨P3, hP3⟩ : ∃ P3, (stateG cs S m P2).2 = P3 := ⟨_, rfl⟩
  rw [hst] at g hcnt ⊢
  rw [hP3] at hW ⊢
  refine wn ?_
  have hst6 := changesG_steps h hK (by omega) hm3 g (most := 7) (by decide) (by show _ + 7 ≤ 512; omega) P3
  have hl6 : (changesG cs S m st 7 P3).1.length ≤ 7 := by
    unfold changesG
    rw [chgsG_len]
    have := intG_hi cs h 8 (by decide) P3
    show (intG cs 8 P3).toNat ≤ 7
    omega
  refine cm (changes_spec cs h S hK hcols2 (by omega) m hm3 st g 7 (by decide) (by show _ + 7 ≤ 512; omega) P3 hW) (callee26) ?_
  refine wn ?_
  obtain ⟨l, hl⟩ : ∃ l, (changesG cs S m st 7 P3).1 = l := ⟨_, rfl⟩
  obtain ⟨st', hst'⟩ : ∃ st', (changesG cs S m st 7 P3).2.1 = st' := ⟨_, rfl⟩
  rw [hl, hst'] at hst6 ⊢
  rw [hl] at hl6
  refine wn ?_
  have g' := hst6.good g
  obtain ⟨E, I, hEl⟩ := difs_ex (NetI.nil S st) hst6
  obtain ⟨C, hC, hCs⟩ := sorted_ex I.apart E.length (Nat.le_refl _)
  have hD := I.difs hC hCs
  have hE7 : E.length ≤ 7 := by have h0 : ([] : List Ent).length = 0 := rfl; omega
  have hOl : (outN E C).length ≤ 7 := by
    unfold outN
    refine Nat.le_trans (List.length_filter_le _ _) ?_
    rw [List.length_map]
    have hnd : C.Nodup := hCs.imp (fun {a b} h e => by subst e; exact ltI_irr E a h)
    have := (List.perm_ext_iff_of_nodup hnd List.nodup_range).2 (fun a => (hC a).trans (List.mem_range (n := E.length)).symm)
    rw [this.length_eq, List.length_range]
    exact hE7
  obtain ⟨out, hout⟩ : ∃ out, outN E C = out := ⟨_, rfl⟩
  rw [hout] at hD hOl
  have hsteps := hD.steps hK g' g (by omega)
  have happ := apply_steps h53 hm3 hcols2 (by omega) g (by omega) hsteps
  have hokc := hsteps.okC hcols2
  refine cle (net_spec S m hm3 hK hcols2 (by omega) h53 st st' g l (by omega) hst6 out hD) callee32 ?_
  rintro x hx rfl
  refine wn ?_
  refine cle happ callee23 ?_
  rintro x hx rfl
  refine wn ?_
  refine cle (dif_spec S m hm3 hK hcols2 (by omega) h53 st st' g g' out hD) callee33 ?_
  rintro x hx rfl
  refine wn ?_
  refine cle begun_spec (callee_of Try.func22 rfl rfl) ?_
  rintro x hx rfl
  refine wm ?_
  repeat' (first | (refine i64 ?_; refine wm ?_) | (refine exI_as _ rfl ?_; refine wm ?_) | (refine forkB_dec (fun _ => ?_) (fun _ => ?_) <;> refine wm ?_) | (refine forkB_intro (fun _ => ?_) (fun _ => ?_) <;> refine wm ?_))
  refine cle (sameS_spec st' (by have := g'.len; omega) (fun l hl => (g'.okT hcols2 l hl).1)) callee28 ?_
  rintro x hx rfl
  refine wm ?_
  repeat' (first | (refine i64 ?_; refine wm ?_) | (refine exI_as _ rfl ?_; refine wm ?_) | (refine forkB_dec (fun _ => ?_) (fun _ => ?_) <;> refine wm ?_) | (refine forkB_intro (fun _ => ?_) (fun _ => ?_) <;> refine wm ?_))
  refine cle (sameC_spec out (by omega) hokc) callee29 ?_
  rintro x hx rfl
  refine wm ?_
  repeat' (first | (refine i64 ?_; refine wm ?_) | (refine exI_as _ rfl ?_; refine wm ?_) | (refine forkB_dec (fun _ => ?_) (fun _ => ?_) <;> refine wm ?_) | (refine forkB_intro (fun _ => ?_) (fun _ => ?_) <;> refine wm ?_))
  refine retX_val rfl ?_
  conv => whnf
  rfl
end Go.Proofs.Ve

