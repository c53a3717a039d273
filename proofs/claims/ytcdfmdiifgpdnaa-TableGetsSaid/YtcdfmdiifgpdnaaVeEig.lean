/-
  VeEig: joined by wip/tools/merge.py out of VeKe VeKf VeKg VeKh.
-/
import Derived.Test.YtcdfmdiifgpdnaaVeSev
import Derived.Test.YtcdfmdiifgpdnaaVeTri
import Derived.Test.YtcdfmdiifgpdnaaVeFiv
/-
  VeKe: the case generator: facts about schemas; rows of any cells.
-/
set_option linter.unusedVariables false
set_option linter.unusedSimpArgs false
set_option pp.maxSteps 2000
set_option maxHeartbeats 4000000
namespace Go.Proofs.Ve
open Go

theorem callee10 : callee Try.prog 10 := callee_of Try.func10 rfl rfl
def scIs (cs : List Int) (q : Sch × Nat) : Prop := (∃ n id r1 r2 r3 ck, q.1.tables = scTabs n id r1 r2 r3 ck) ∧ q.2 ≤ cs.length
theorem scG4_is {cs : List Int} {n : Nat} {ver id : Int} {r1 r2 r3 : List Ref} {p : Nat} (hp : p ≤ cs.length) : scIs cs (scG4 cs n ver id r1 r2 r3 p) := by
  unfold scG4
  cases boolG cs 3 p
  · exact ⟨⟨n, id, r1, r2, r3, _, rfl⟩, intP_in hp⟩
  · exact ⟨⟨n, id, r1, r2, r3, _, rfl⟩, treeG1_in (intP_in hp)⟩
theorem scG3_is {cs : List Int} {n : Nat} {ver id : Int} {r1 r2 : List Ref} {p : Nat} (hp : p ≤ cs.length) : scIs cs (scG3 cs n ver id r1 r2 p) := by
  unfold scG3
  split
  · cases boolG cs 3 p
    · exact scG4_is (intP_in hp)
    · exact scG4_is (intP_in hp)
  · exact scG4_is hp
theorem scG2_is {cs : List Int} {n : Nat} {ver id : Int} {r1 : List Ref} {p : Nat} (hp : p ≤ cs.length) : scIs cs (scG2 cs n ver id r1 p) := by
  unfold scG2
  split
  · exact scG3_is hp
  · cases boolG cs 3 p
    · exact scG3_is (intP_in hp)
    · exact scG3_is (intP_in hp)
theorem scG1_is {cs : List Int} {n : Nat} {ver id : Int} {p : Nat} (hp : p ≤ cs.length) : scIs cs (scG1 cs n ver id p) := by
  unfold scG1
  cases boolG cs 2 p
  · exact scG2_is (intP_in hp)
  · exact scG2_is (intP_in hp)
theorem schemaG_is {cs : List Int} {p : Nat} (hp : p ≤ cs.length) : scIs cs (schemaG cs p) := by
  unfold schemaG
  cases boolG cs 5 (intP cs 3 p)
  · exact scG1_is (intP_in (intP_in (intP_in hp)))
  · exact scG1_is (intP_in (intP_in (intP_in hp)))
theorem schemaG_cols {cs : List Int} {p : Nat} (hp : p ≤ cs.length) : ∀ T ∈ (schemaG cs p).1.tables, 1 ≤ T.cols.length ∧ T.cols.length ≤ 4 := by
  obtain ⟨⟨n, id, r1, r2, r3, ck, e⟩, _⟩ := schemaG_is hp
  rw [e]
  exact sc_hs n id r1 r2 r3 ck
theorem schemaG_len {cs : List Int} {p : Nat} (hp : p ≤ cs.length) : (schemaG cs p).1.tables.length ≤ 4 := by
  obtain ⟨⟨n, id, r1, r2, r3, ck, e⟩, _⟩ := schemaG_is hp
  rw [e]
  unfold scTabs
  split <;> simp
theorem schemaG_in {cs : List Int} {p : Nat} (hp : p ≤ cs.length) : (schemaG cs p).2 ≤ cs.length := (schemaG_is hp).2

/-- Any cells. -/
def cellsG (cs : List Int) : Nat → Nat → Row × Nat
  | 0, p => ([], p)
  | n + 1, p => (anyG cs p :: (cellsG cs n (anyP cs p)).1, (cellsG cs n (anyP cs p)).2)
theorem cellsG_in {cs : List Int} : ∀ {n p : Nat}, p ≤ cs.length → (cellsG cs n p).2 ≤ cs.length
  | 0, p, h => h
  | n + 1, p, h => cellsG_in (n := n) (anyP_in h)
theorem cellsG_len (cs : List Int) : ∀ (n p : Nat), (cellsG cs n p).1.length = n
  | 0, p => rfl
  | n + 1, p => congrArg (· + 1) (cellsG_len cs n _)
def clA (cs : List Int) (m p : Nat) (acc : Row) : AS := AS.of 16 1 2 [(0, .one (.ptr 0 0)), (1, .one (.int .i64 (m : Nat))), (5, .one (.gref 1))] [(0, caseO cs p), (1, ⟨58, 3, 32, acc.flatMap vC⟩)]
theorem cells_spec (cs : List Int) (h : ok8 cs) (n : Nat) (hn : n ≤ 1000) (p : Nat) (hp : p ≤ cs.length) :
    MSpec Try.prog 38 [.one (.ptr 0 0), .one (.int .i64 n)] (caseO cs p) (caseO cs (cellsG cs n p).2) (.one (rowC (cellsG cs n p).1)) := by
  refine mspec_x env08_ok mixed08 Try.func38 rfl 16 rfl _ rfl rfl ?_
  refine wn ?_
  obtain ⟨K, hK⟩ : ∃ K, cellsG cs n p = K := ⟨_, rfl⟩
  rw [hK]
  refine loopX_of env08_ok mixed08 (σ := Nat × Nat × Row) (fun q => clA cs q.1 q.2.1 q.2.2) (fun q => q.1 ≤ n ∧ q.2.2.length + q.1 = n ∧ q.2.1 ≤ cs.length ∧ K = (q.2.2 ++ (cellsG cs q.1 q.2.1).1, (cellsG cs q.1 q.2.1).2)) (fun q => q.1) (n, p, []) (fun _ => rfl)
    (Tr.trans (Tr.nilSlot 5 58 3 32 (by decide) rfl) (Tr.ofId rfl rfl (by decide) (by exact Nat.le_of_ble_eq_true rfl) ⟨⟨rfl, rfl⟩, ⟨rfl, rfl⟩, ⟨rfl, rfl⟩, trivial⟩ ⟨⟨rfl, rfl, by decide⟩, ⟨rfl, rfl, by decide⟩, trivial⟩)) ⟨Nat.le_refl _, Nat.zero_add _, hp, hK.symm⟩ ?_
  rintro ⟨m, p3, acc⟩ ⟨hm, hacc, hp3, hk⟩
  have hm : m ≤ n := hm
  have hacc : acc.length + m = n := hacc
  have hp3 : p3 ≤ cs.length := hp3
  have hk : K = (acc ++ (cellsG cs m p3).1, (cellsG cs m p3).2) := hk
  refine wn ?_
  refine forkB_dec (fun h5 => ?_) (fun h5 => ?_)
  · obtain ⟨k, rfl⟩ : ∃ k, m = k + 1 := ⟨m - 1, by have h5 : (m : Int) > 0 := h5; omega⟩
    rw [cellsG] at hk
    refine wn ?_
    refine callX_mut 0 (any_spec cs h p3 hp3) (callee39) rfl rfl rfl (.cons (AV.Le.refl _) .nil) rfl (by exact Nat.le_of_ble_eq_true rfl) rfl rfl (caseO_ren cs _) rfl ?_
    refine wn ?_
    try (refine rq ?_)
    refine wn ?_
    refine reqD_dec (flat_div vC_len (by decide) _) ?_
    refine reqD_dec (by simp only [flat_len vC_len]; simp [ty58, ty27]; omega) ?_
    refine forceL_as ((acc ++ [anyG cs p3]).flatMap vC) (by rw [List.flatMap_append]; rfl) ?_
    refine wn ?_
    refine exI_as (k : Int) (by show IntKind.i64.wrap (((k + 1 : Nat) : Int) - 1) = _; unfold IntKind.wrap; simp [IntKind.signed, IntKind.bits]; split <;> omega) ?_
    refine wn ?_
    refine ⟨(k, anyP cs p3, acc ++ [anyG cs p3]), ⟨by show k ≤ n; omega, by show (acc ++ [anyG cs p3]).length + k = n; rw [List.length_append]; show acc.length + 1 + k = n; omega, anyP_in hp3, by rw [hk]; simp⟩, by show k < k + 1; omega, ?_⟩
    exact (Tr.ofMv 1 3 rfl rfl (by decide) (by decide) (by exact Nat.le_of_ble_eq_true rfl) ⟨⟨rfl, rfl⟩, ⟨rfl, rfl⟩, ⟨rfl, rfl⟩, trivial⟩ ⟨⟨rfl, rfl, by decide⟩, ⟨(congrArg some (ob_ren_deep (mv 1 3) (all_flat vC_deep (acc ++ ((anyG cs p3) :: List.nil))))).symm, ob_lt_deep _ (all_flat vC_deep _), by decide⟩, trivial⟩)
  · have em : m = 0 := by have h5 : ¬ (m : Int) > 0 := h5; omega
    subst em
    rw [cellsG, List.append_nil] at hk
    rw [hk]
    refine wn ?_
    refine retX_tr (Tr.frz' (T := 58) (s := 3) (B := 32) (cells := acc.flatMap vC) 1 acc.length (by rfl) (by decide) (flat_len vC_len _) (all_flat vC_deep _)) ?_
    refine retX_mut rfl rfl (by exact Nat.le_of_ble_eq_true rfl) rfl rfl rfl rfl rfl ?_
    (conv => lhs; whnf)
    rfl
theorem callee38 : callee Try.prog 38 := callee_of Try.func38 rfl rfl
end Go.Proofs.Ve


/-
  VeKf: the reference's copy of a state: row k of table i is known as an object of its own.
-/
set_option linter.unusedVariables false
set_option linter.unusedSimpArgs false
set_option pp.maxSteps 2000
set_option maxHeartbeats 4000000
namespace Go.Proofs.Ve
open Go

theorem rcopyN_spec (r : Row) (hr : okR r) : NSpec Try.prog 40 [.one (rowC r)] (.one (.gref 0)) ⟨58, 3, 32, r.flatMap vC⟩ := by
  refine nspec_x env08_ok mixed08 Try.func40 rfl 5 rfl _ rfl rfl ?_
  unfold okR at hr
  refine wn ?_
  refine reqD_dec (flat_len vC_len _) ?_
  refine wn ?_
  refine reqD_dec (by simp [ty58]; omega) ?_
  refine forceL_as (r.flatMap vC) rfl ?_
  refine wn ?_
  exact retX_new 0 rfl (by exact Nat.le_of_ble_eq_true rfl) (congrArg some (ob_ren_deep _ (all_flat vC_deep r)).symm) (ob_lt_deep 1 (all_flat vC_deep r)) rfl rfl

def rowX (r : Row) : Ob := ⟨58, 3, 32, r.flatMap vC⟩
def tabX (l : Tab) (k R : Nat) : Ob := ⟨27, 1, 24, (l.flatMap rowC1).set k (.gref R)⟩
def stX (st : St) (i L : Nat) : Ob := ⟨41, 1, 24, (st.flatMap tabC1).set i (.gref L)⟩
theorem rowX_ren (r : Row) (ρ : Nat → Nat) : (rowX r).ren ρ = rowX r := ob_ren_deep ρ (all_flat vC_deep r)
theorem rowX_lt (r : Row) (n : Nat) : (rowX r).lt n = true := ob_lt_deep n (all_flat vC_deep r)
theorem tabX_ren (l : Tab) (k R : Nat) (ρ : Nat → Nat) : (tabX l k R).ren ρ = tabX l k (ρ R) := ob_ren_set ρ (all_flat rowC1_deep l)
theorem tabX_lt (l : Tab) (k R n : Nat) (h : R < n) : (tabX l k R).lt n = true := ob_lt_set n (all_flat rowC1_deep l) (by simp [AC.lt, h])
theorem stX_ren (st : St) (i L : Nat) (ρ : Nat → Nat) : (stX st i L).ren ρ = stX st i (ρ L) := ob_ren_set ρ (all_flat tabC1_deep st)
theorem stX_lt (st : St) (i L n : Nat) (h : L < n) : (stX st i L).lt n = true := ob_lt_set n (all_flat tabC1_deep st) (by simp [AC.lt, h])

def coA (st : St) (i k t : Nat) (LX : Tab) (RX : Row) : AS := AS.of 36 0 6 [(2, .one (.ptr 1 0)), (3, .one (.ptr 2 0)), (10, .one (tabsC st)), (11, .one (.int .i64 st.length)), (12, .one (.int .i64 (t : Nat)))]
  [(1, ⟨25, 0, 0, [nilC]⟩), (2, ⟨25, 0, 0, [.gref 3]⟩), (3, stX (st.take t) i 4), (4, tabX LX k 5), (5, rowX RX)]
/-- Within a table that is copied row by row. -/
def cpA (st : St) (i k t : Nat) (LX : Tab) (RX : Row) (l : Tab) (j : Nat) : AS := AS.of 36 0 7 [(2, .one (.ptr 1 0)), (3, .one (.ptr 2 0)), (10, .one (tabsC st)), (11, .one (.int .i64 st.length)), (12, .one (.int .i64 (t : Nat))), (6, .one (.gref 6)), (16, .one (tabC l)), (17, .one (.int .i64 l.length)), (18, .one (.int .i64 (j : Nat)))]
  [(1, ⟨25, 0, 0, [nilC]⟩), (2, ⟨25, 0, 0, [.gref 3]⟩), (3, stX (st.take t) i 4), (4, tabX LX k 5), (5, rowX RX), (6, ⟨27, 1, 24, (l.take j).flatMap rowC1⟩)]
def cqA (st : St) (i k t : Nat) (RX : Row) (l : Tab) (j : Nat) : AS := AS.of 36 0 7 [(2, .one (.ptr 1 0)), (3, .one (.ptr 2 0)), (10, .one (tabsC st)), (11, .one (.int .i64 st.length)), (12, .one (.int .i64 (t : Nat))), (6, .one (.gref 6)), (16, .one (tabC l)), (17, .one (.int .i64 l.length)), (18, .one (.int .i64 (j : Nat)))]
  [(1, ⟨25, 0, 0, [nilC]⟩), (2, ⟨25, 0, 0, [.gref 3]⟩), (3, stX (st.take t) i 4), (5, rowX RX), (6, tabX (l.take j) k 5)]
def copyL (st : St) (i : Nat) : Tab := st.getD i []
def copyR (st : St) (i k : Nat) : Row := (copyL st i).getD k []

def coB (st : St) (i k t : Nat) (LX : Tab) (RX : Row) (l : Tab) : AS := AS.of 36 0 6 [(2, .one (.ptr 1 0)), (3, .one (.ptr 2 0)), (10, .one (tabsC st)), (11, .one (.int .i64 st.length)), (12, .one (.int .i64 (t : Nat))), (6, .one (tabC l))]
  [(1, ⟨25, 0, 0, [nilC]⟩), (2, ⟨25, 0, 0, [.gref 3]⟩), (3, stX (st.take t) i 4), (4, tabX LX k 5), (5, rowX RX)]
theorem copy_spec (st : St) (i k : Nat) (h1 : st.length ≤ 1099511627776) (hok : ∀ l ∈ st, okT l) (hok2 : ∀ l ∈ st, l.length ≤ 1099511627776) :
    NSpec3 Try.prog 31 [.agg (stC st)] (.agg [.gref 0]) (stX st i 1) (tabX (copyL st i) k 2) (rowX (copyR st i k)) := by
  refine nspec3_x env08_ok mixed08 Try.func31 rfl 36 rfl _ rfl rfl ?_
  refine wn ?_
  refine exI_as _ rfl ?_
  refine wn ?_
  refine loopX_of env08_ok mixed08 (σ := Nat × Tab × Row) (fun q => coA st i k q.1 q.2.1 q.2.2) (fun q => q.1 ≤ st.length ∧ (q.1 ≤ i → q.2.1 = [] ∧ q.2.2 = []) ∧ (i < q.1 → q.2.1 = copyL st i ∧ q.2.2 = copyR st i k)) (fun q => st.length - q.1) (0, [], []) (fun _ => rfl)
    ?_ ⟨Nat.zero_le _, fun _ => ⟨rfl, rfl⟩, fun h => absurd h (Nat.not_lt_zero _)⟩ ?_
  · refine Tr.trans (Tr.nilCell 2 0 41 1 24 (by decide) (by rfl) (by rfl)) ?_
    refine Tr.trans (Tr.newNil 27 1 24 (by decide)) ?_
    refine Tr.trans (Tr.newNil 58 3 32 (by decide)) ?_
    exact (Tr.ofId rfl rfl (by decide) (by exact Nat.le_of_ble_eq_true rfl) ⟨⟨rfl, rfl⟩, ⟨rfl, rfl⟩, ⟨rfl, rfl⟩, ⟨rfl, rfl⟩, ⟨rfl, rfl⟩, trivial⟩ ⟨⟨rfl, rfl, by decide⟩, ⟨rfl, rfl, by decide⟩, ⟨rfl, rfl, by decide⟩, ⟨rfl, rfl, by decide⟩, ⟨rfl, rfl, by decide⟩, trivial⟩)
  rintro ⟨t, LX, RX⟩ ⟨ht, hA, hB⟩
  have ht : t ≤ st.length := ht
  have hA : t ≤ i → LX = [] ∧ RX = [] := hA
  have hB : i < t → LX = copyL st i ∧ RX = copyR st i k := hB
  refine wn ?_
  refine forkB_dec (fun h1 => ?_) (fun h1 => ?_)
  · have ht2 : t < st.length := by have h1 : (t : Int) < st.length := h1; omega
    have hl := hok _ (List.getElem_mem ht2)
    have hll := hok2 _ (List.getElem_mem ht2)
    have hgd : copyL st t = st[t] := by unfold copyL; rw [List.getD_eq_getElem?_getD, List.getElem?_eq_getElem ht2, Option.getD_some]
    obtain ⟨l, hle⟩ : ∃ l, st[t] = l := ⟨_, rfl⟩
    rw [hle] at hl hll hgd
    have htk : st.take (t + 1) = st.take t ++ [l] := by rw [List.take_succ_eq_append_getElem ht2, hle]
    have htl : ((st.take t).flatMap tabC1).length = t := by rw [flat_len tabC1_len, List.length_take]; omega
    refine wn ?_
    refine rq ?_
    refine forceL_as (tabC1 l) ((flat_get (f := tabC1) tabC1_len st t ht2).trans (by rw [hle])) ?_
    refine wn ?_
    refine exI_as _ rfl ?_
    refine wn ?_
    refine loopX_out ?_
    by_cases hti : t = i
    · subst hti
      obtain ⟨rfl, rfl⟩ := hA (Nat.le_refl _)
      have hgr : copyR st t k = l.getD k [] := by unfold copyR; rw [hgd]
      refine loopX_of env08_ok mixed08 (σ := Nat × Row) (fun q => cqA st t k t q.2 l q.1) (fun q => q.1 ≤ l.length ∧ (q.1 ≤ k → q.2 = []) ∧ (k < q.1 → q.2 = l.getD k [])) (fun q => l.length - q.1) (0, []) (fun _ => rfl) ?_ ⟨Nat.zero_le _, fun _ => rfl, fun h => absurd h (Nat.not_lt_zero _)⟩ ?_
      · refine Tr.trans (Tr.nilSlot 6 27 1 24 (by decide) rfl) ?_
        exact (Tr.ofId rfl rfl (by decide) (by exact Nat.le_of_ble_eq_true rfl) ⟨⟨rfl, rfl⟩, ⟨rfl, rfl⟩, ⟨rfl, rfl⟩, ⟨rfl, rfl⟩, ⟨rfl, rfl⟩, ⟨rfl, rfl⟩, ⟨rfl, rfl⟩, ⟨rfl, rfl⟩, ⟨rfl, rfl⟩, trivial⟩ ⟨⟨rfl, rfl, by decide⟩, ⟨rfl, rfl, by decide⟩, ⟨(congrArg some (stX_ren (st.take t) t 4 id)).symm, stX_lt _ _ _ _ (by decide), by decide⟩, ⟨(congrArg some (rowX_ren List.nil id)).symm, rowX_lt _ _, by decide⟩, ⟨rfl, rfl, by decide⟩, trivial⟩)
      rintro ⟨j, RX⟩ ⟨hj, hA, hB⟩
      have hj : j ≤ l.length := hj
      have hA : j ≤ k → RX = [] := hA
      have hB : k < j → RX = l.getD k [] := hB
      refine wn ?_
      refine forkB_dec (fun h2 => ?_) (fun h2 => ?_)
      · have hj2 : j < l.length := by have h2 : (j : Int) < l.length := h2; omega
        have hr := hl.2 _ (List.getElem_mem hj2)
        have hgk : l.getD j [] = l[j] := by rw [List.getD_eq_getElem?_getD, List.getElem?_eq_getElem hj2, Option.getD_some]
        obtain ⟨r, hre⟩ : ∃ r, l[j] = r := ⟨_, rfl⟩
        rw [hre] at hr hgk
        have hlk : l.take (j + 1) = l.take j ++ [r] := by rw [List.take_succ_eq_append_getElem hj2, hre]
        have hjl : ((l.take j).flatMap rowC1).length = j := by rw [flat_len rowC1_len, List.length_take]; omega
        by_cases hjk : j = k
        · subst hjk
          have hR := hA (Nat.le_refl _)
          subst hR
          refine wn ?_
          refine rq ?_
          refine forceL_as (rowC1 r) ((flat_get (f := rowC1) rowC1_len l j hj2).trans (by rw [hre])) ?_
          refine wn ?_
          refine callX_new (rcopyN_spec r hr) callee40 (fun n => .one (.gref n)) (fun n => by simp [AV.ren, AC.ren, cren]) (fun ρ => rowX_ren r ρ) rfl rfl (.cons (AV.Le.refl _) .nil) rfl ?_
          refine wn ?_
          try (refine rq ?_)
          refine wn ?_
          refine reqD_dec (by simp [ty27, tabX, flat_len rowC1_len]; omega) ?_
          refine forceL_as (((l.take (j + 1)).flatMap rowC1).set j (.gref 7)) (by rw [hlk, List.flatMap_append]; exact set_snoc_eq' _ _ _ _ _ hjl.symm) ?_
          refine wn ?_
          refine exI_i64 (by show -9223372036854775808 ≤ (j : Int) + 1; omega) (by show (j : Int) + 1 ≤ 9223372036854775807; omega) ?_
          refine wn ?_
          refine ⟨(j + 1, r), ⟨by show j + 1 ≤ l.length; omega, fun h => by have h : j + 1 ≤ j := h; omega, fun _ => hgk.symm⟩, by show l.length - (j + 1) < l.length - j; omega, ?_⟩
          exact (Tr.ofML [(5, 7), (6, 9)] 10 (by decide) (by exact Nat.le_of_ble_eq_true rfl) rfl rfl (by decide) ⟨⟨rfl, rfl⟩, ⟨rfl, rfl⟩, ⟨rfl, rfl⟩, ⟨rfl, rfl⟩, ⟨rfl, rfl⟩, ⟨rfl, rfl⟩, ⟨rfl, rfl⟩, ⟨rfl, rfl⟩, ⟨rfl, rfl⟩, trivial⟩ ⟨⟨rfl, rfl, by decide⟩, ⟨rfl, rfl, by decide⟩, ⟨(congrArg some (stX_ren (st.take t) t 4 (mvL [(5, 7), (6, 9)]))).symm, stX_lt _ _ _ _ (by decide), by decide⟩, ⟨(congrArg some (rowX_ren r (mvL [(5, 7), (6, 9)]))).symm, rowX_lt _ _, by decide⟩, ⟨(congrArg some (tabX_ren (l.take (j + 1)) j 5 (mvL [(5, 7), (6, 9)]))).symm, tabX_lt _ _ _ _ (by decide), by decide⟩, trivial⟩)
        · refine wn ?_
          refine rq ?_
          refine forceL_as (rowC1 r) ((flat_get (f := rowC1) rowC1_len l j hj2).trans (by rw [hre])) ?_
          refine wn ?_
          refine callX_le (rcopy_spec r hr) callee40 rfl rfl (.cons (AV.Le.refl _) .nil) rfl ?_
          rintro x hx rfl
          refine wn ?_
          try (refine rq ?_)
          refine wn ?_
          refine reqD_dec (by simp [ty27]) ?_
          refine reqD_dec (by simp [ty27, tabX, flat_len rowC1_len]; omega) ?_
          refine forceL_as (((l.take (j + 1)).flatMap rowC1).set k (.gref 5)) (by rw [hlk, List.flatMap_append]; exact set_snoc_ne ((l.take j).flatMap rowC1) _ _ k (by omega)) ?_
          refine wn ?_
          refine exI_i64 (by show -9223372036854775808 ≤ (j : Int) + 1; omega) (by show (j : Int) + 1 ≤ 9223372036854775807; omega) ?_
          refine wn ?_
          refine ⟨(j + 1, RX), ⟨by show j + 1 ≤ l.length; omega, fun h => by have h : j + 1 ≤ k := h; exact hA (by omega), fun h => by have h : k < j + 1 := h; exact hB (by omega)⟩, by show l.length - (j + 1) < l.length - j; omega, ?_⟩
          exact (Tr.ofML [(6, 8)] 9 (by decide) (by exact Nat.le_of_ble_eq_true rfl) rfl rfl (by decide) ⟨⟨rfl, rfl⟩, ⟨rfl, rfl⟩, ⟨rfl, rfl⟩, ⟨rfl, rfl⟩, ⟨rfl, rfl⟩, ⟨rfl, rfl⟩, ⟨rfl, rfl⟩, ⟨rfl, rfl⟩, ⟨rfl, rfl⟩, trivial⟩ ⟨⟨rfl, rfl, by decide⟩, ⟨rfl, rfl, by decide⟩, ⟨(congrArg some (stX_ren (st.take t) t 4 (mvL [(6, 8)]))).symm, stX_lt _ _ _ _ (by decide), by decide⟩, ⟨(congrArg some (rowX_ren RX (mvL [(6, 8)]))).symm, rowX_lt _ _, by decide⟩, ⟨(congrArg some (tabX_ren (l.take (j + 1)) k 5 (mvL [(6, 8)]))).symm, tabX_lt _ _ _ _ (by decide), by decide⟩, trivial⟩)
      · have ej : j = l.length := by have h2 : ¬ (j : Int) < l.length := h2; omega
        subst ej
        have hRX : RX = copyR st t k := by
          rw [hgr]
          by_cases hkl : k < l.length
          · exact hB hkl
          · rw [hA (by omega), List.getD_eq_getElem?_getD, List.getElem?_eq_none (by omega)]
            rfl
        refine wn ?_
        refine ⟨_, Tr.refl _, rfl, ?_⟩
        refine wn ?_
        try (refine rq ?_)
        refine wn ?_
        refine reqD_dec (by simp [ty41, stX, flat_len tabC1_len]; omega) ?_
        refine forceL_as (((st.take (t + 1)).flatMap tabC1).set t (.gref 6)) (by rw [htk, List.flatMap_append]; exact set_snoc_eq' _ _ _ _ _ htl.symm) ?_
        refine wn ?_
        refine exI_i64 (by show -9223372036854775808 ≤ (t : Int) + 1; omega) (by show (t : Int) + 1 ≤ 9223372036854775807; omega) ?_
        refine wn ?_
        refine ⟨(t + 1, l, RX), ⟨by show t + 1 ≤ st.length; omega, fun h => by have h : t + 1 ≤ t := h; omega, fun _ => ⟨hgd.symm, hRX⟩⟩, by show st.length - (t + 1) < st.length - t; omega, ?_⟩
        exact (Tr.ofML [(3, 8), (4, 6)] 9 (by decide) (by exact Nat.le_of_ble_eq_true rfl) rfl rfl (by decide) ⟨⟨rfl, rfl⟩, ⟨rfl, rfl⟩, ⟨rfl, rfl⟩, ⟨rfl, rfl⟩, ⟨rfl, rfl⟩, trivial⟩ ⟨⟨rfl, rfl, by decide⟩, ⟨rfl, rfl, by decide⟩, ⟨(congrArg some (stX_ren (st.take (t + 1)) t 4 (mvL [(3, 8), (4, 6)]))).symm, stX_lt _ _ _ _ (by decide), by decide⟩, ⟨(congrArg some ((tabX_ren l k 5 (mvL [(3, 8), (4, 6)])).trans (congrArg (fun z => Ob.mk 27 1 24 ((List.flatMap rowC1 z).set k (AC.gref 5))) (List.take_length (l := l)).symm))).symm, tabX_lt _ _ _ _ (by decide), by decide⟩, ⟨(congrArg some (rowX_ren RX (mvL [(3, 8), (4, 6)]))).symm, rowX_lt _ _, by decide⟩, trivial⟩)
    · refine loopX_of env08_ok mixed08 (σ := Nat) (cpA st i k t LX RX l) (fun j => j ≤ l.length) (fun j => l.length - j) 0 (fun _ => rfl) ?_ (Nat.zero_le _) ?_
      · refine Tr.trans (Tr.nilSlot 6 27 1 24 (by decide) rfl) ?_
        exact (Tr.ofId rfl rfl (by decide) (by exact Nat.le_of_ble_eq_true rfl) ⟨⟨rfl, rfl⟩, ⟨rfl, rfl⟩, ⟨rfl, rfl⟩, ⟨rfl, rfl⟩, ⟨rfl, rfl⟩, ⟨rfl, rfl⟩, ⟨rfl, rfl⟩, ⟨rfl, rfl⟩, ⟨rfl, rfl⟩, trivial⟩ ⟨⟨rfl, rfl, by decide⟩, ⟨rfl, rfl, by decide⟩, ⟨(congrArg some (stX_ren (st.take t) i 4 id)).symm, stX_lt _ _ _ _ (by decide), by decide⟩, ⟨(congrArg some (tabX_ren LX k 5 id)).symm, tabX_lt _ _ _ _ (by decide), by decide⟩, ⟨(congrArg some (rowX_ren RX id)).symm, rowX_lt _ _, by decide⟩, ⟨rfl, rfl, by decide⟩, trivial⟩)
      intro j hj
      have hj : j ≤ l.length := hj
      refine wn ?_
      refine forkB_dec (fun h2 => ?_) (fun h2 => ?_)
      · have hj2 : j < l.length := by have h2 : (j : Int) < l.length := h2; omega
        have hr := hl.2 _ (List.getElem_mem hj2)
        obtain ⟨r, hre⟩ : ∃ r, l[j] = r := ⟨_, rfl⟩
        rw [hre] at hr
        have hlk : l.take (j + 1) = l.take j ++ [r] := by rw [List.take_succ_eq_append_getElem hj2, hre]
        refine wn ?_
        refine rq ?_
        refine forceL_as (rowC1 r) ((flat_get (f := rowC1) rowC1_len l j hj2).trans (by rw [hre])) ?_
        refine wn ?_
        refine callX_le (rcopy_spec r hr) callee40 rfl rfl (.cons (AV.Le.refl _) .nil) rfl ?_
        rintro x hx rfl
        refine wn ?_
        try (refine rq ?_)
        refine wn ?_
        refine reqD_dec (flat_div rowC1_len (by decide) _) ?_
        refine reqD_dec (by simp only [flat_len rowC1_len]; simp [ty27]; omega) ?_
        refine forceL_as ((l.take (j + 1)).flatMap rowC1) (by rw [hlk, List.flatMap_append]; rfl) ?_
        refine wn ?_
        refine exI_i64 (by show -9223372036854775808 ≤ (j : Int) + 1; omega) (by show (j : Int) + 1 ≤ 9223372036854775807; omega) ?_
        refine wn ?_
        refine ⟨j + 1, by show j + 1 ≤ l.length; omega, by show l.length - (j + 1) < l.length - j; omega, ?_⟩
        exact (Tr.ofML [(6, 8)] 9 (by decide) (by exact Nat.le_of_ble_eq_true rfl) rfl rfl (by decide) ⟨⟨rfl, rfl⟩, ⟨rfl, rfl⟩, ⟨rfl, rfl⟩, ⟨rfl, rfl⟩, ⟨rfl, rfl⟩, ⟨rfl, rfl⟩, ⟨rfl, rfl⟩, ⟨rfl, rfl⟩, ⟨rfl, rfl⟩, trivial⟩ ⟨⟨rfl, rfl, by decide⟩, ⟨rfl, rfl, by decide⟩, ⟨(congrArg some (stX_ren (st.take t) i 4 (mvL [(6, 8)]))).symm, stX_lt _ _ _ _ (by decide), by decide⟩, ⟨(congrArg some (tabX_ren LX k 5 (mvL [(6, 8)]))).symm, tabX_lt _ _ _ _ (by decide), by decide⟩, ⟨(congrArg some (rowX_ren RX (mvL [(6, 8)]))).symm, rowX_lt _ _, by decide⟩, ⟨(congrArg some (ob_ren_deep (mvL [(6, 8)]) (all_flat rowC1_deep _))).symm, ob_lt_deep _ (all_flat rowC1_deep _), by decide⟩, trivial⟩)
      · have ej : j = l.length := by have h2 : ¬ (j : Int) < l.length := h2; omega
        subst ej
        refine wn ?_
        obtain ⟨v, hv⟩ : ∃ v, AC.sl false 24 l.length ((l.take l.length).flatMap rowC1) = v := ⟨_, rfl⟩
        have hvl : v = tabC l := by rw [← hv, List.take_length]; rfl
        have hS3 : ((st.take t).flatMap tabC1).set i (.gref 4) = (((st.take t).flatMap tabC1).set i (.gref 4)).map (·.sub 6 v) := (sub_set (i := i) (c := .gref 4) 6 v (all_flat tabC1_deep (st.take t))).symm
        have hS4 : (LX.flatMap rowC1).set k (.gref 5) = ((LX.flatMap rowC1).set k (.gref 5)).map (·.sub 6 v) := (sub_set (i := k) (c := .gref 5) 6 v (all_flat rowC1_deep LX)).symm
        have hS5 : RX.flatMap vC = (RX.flatMap vC).map (·.sub 6 v) := (map_deep (fun c h => AC.sub_deep 6 v h) _ (all_flat vC_deep RX)).symm
        subst hv
        refine ⟨coB st i k t LX RX l, Tr.trans (Tr.frz' (T := 27) (s := 1) (B := 24) (cells := (l.take l.length).flatMap rowC1) 6 l.length (by rfl) (by decide) (by rw [flat_len rowC1_len, List.take_length]) (all_flat rowC1_deep _)) ?_, rfl, ?_⟩
        · refine Tr.ofId rfl rfl (by decide) (by exact Nat.le_of_ble_eq_true rfl) ⟨⟨rfl, rfl⟩, ⟨rfl, rfl⟩, ⟨rfl, rfl⟩, ⟨rfl, rfl⟩, ⟨rfl, rfl⟩, ⟨congrArg AV.one hvl, rfl⟩, trivial⟩ ⟨⟨rfl, rfl, by decide⟩, ⟨rfl, rfl, by decide⟩, ⟨(congrArg some ((stX_ren (st.take t) i 4 id).trans (congrArg (Ob.mk 41 1 24) hS3))).symm, stX_lt _ _ _ _ (by decide), by decide⟩, ⟨(congrArg some ((tabX_ren LX k 5 id).trans (congrArg (Ob.mk 27 1 24) hS4))).symm, tabX_lt _ _ _ _ (by decide), by decide⟩, ⟨(congrArg some ((rowX_ren RX id).trans (congrArg (Ob.mk 58 3 32) hS5))).symm, rowX_lt _ _, by decide⟩, trivial⟩
        refine wn ?_
        try (refine rq ?_)
        refine wn ?_
        refine reqD_dec (by simp [ty41]) ?_
        refine reqD_dec (by simp [ty41, stX, flat_len tabC1_len]; omega) ?_
        refine forceL_as (((st.take (t + 1)).flatMap tabC1).set i (.gref 4)) (by rw [htk, List.flatMap_append]; exact set_snoc_ne ((st.take t).flatMap tabC1) _ _ i (by omega)) ?_
        refine wn ?_
        refine exI_i64 (by show -9223372036854775808 ≤ (t : Int) + 1; omega) (by show (t : Int) + 1 ≤ 9223372036854775807; omega) ?_
        refine wn ?_
        refine ⟨(t + 1, LX, RX), ⟨by show t + 1 ≤ st.length; omega, fun h => by have h : t + 1 ≤ i := h; exact hA (by omega), fun h => by have h : i < t + 1 := h; exact hB (by omega)⟩, by show st.length - (t + 1) < st.length - t; omega, ?_⟩
        exact (Tr.ofML [(3, 7)] 8 (by decide) (by exact Nat.le_of_ble_eq_true rfl) rfl rfl (by decide) ⟨⟨rfl, rfl⟩, ⟨rfl, rfl⟩, ⟨rfl, rfl⟩, ⟨rfl, rfl⟩, ⟨rfl, rfl⟩, trivial⟩ ⟨⟨rfl, rfl, by decide⟩, ⟨rfl, rfl, by decide⟩, ⟨(congrArg some (stX_ren (st.take (t + 1)) i 4 (mvL [(3, 7)]))).symm, stX_lt _ _ _ _ (by decide), by decide⟩, ⟨(congrArg some (tabX_ren LX k 5 (mvL [(3, 7)]))).symm, tabX_lt _ _ _ _ (by decide), by decide⟩, ⟨(congrArg some (rowX_ren RX (mvL [(3, 7)]))).symm, rowX_lt _ _, by decide⟩, trivial⟩)
  · have et : t = st.length := by have h1 : ¬ (t : Int) < st.length := h1; omega
    subst et
    have hLR : LX = copyL st i ∧ RX = copyR st i k := by
      by_cases hi : i < st.length
      · exact hB hi
      · have e1 : copyL st i = [] := by unfold copyL; rw [List.getD_eq_getElem?_getD, List.getElem?_eq_none (by omega)]; rfl
        refine ⟨(hA (by omega)).1.trans e1.symm, (hA (by omega)).2.trans ?_⟩
        unfold copyR
        rw [e1]
        rfl
    obtain ⟨rfl, rfl⟩ := hLR
    refine wn ?_
    exact retX_new3 3 4 5 rfl ⟨by exact Nat.le_of_ble_eq_true rfl, by exact Nat.le_of_ble_eq_true rfl, by exact Nat.le_of_ble_eq_true rfl⟩ (by decide) (congrArg some ((congrArg (fun z => stX z i 4) (List.take_length (l := st))).trans (stX_ren st i 1 (rho3 3 4 5)).symm)) (congrArg some (tabX_ren (copyL st i) k 2 (rho3 3 4 5)).symm) (congrArg some (rowX_ren (copyR st i k) (rho3 3 4 5)).symm) ⟨stX_lt _ _ _ _ (by decide), tabX_lt _ _ _ _ (by decide), rowX_lt _ _⟩ rfl rfl
theorem callee31 : callee Try.prog 31 := callee_of Try.func31 rfl rfl
end Go.Proofs.Ve


/-
  VeKg: the case generator: a state with one thing changed.
-/
set_option linter.unusedVariables false
set_option linter.unusedSimpArgs false
set_option pp.maxSteps 2000
set_option maxHeartbeats 4000000
namespace Go.Proofs.Ve
open Go

def swapT (l : Tab) : Tab := (l.set 0 (l.getD (l.length - 1) [])).set (l.length - 1) (l.getD 0 [])
def spoilB (cs : List Int) (st : St) (i : Nat) (l : Tab) (p : Nat) : St × Nat :=
  if l.length = 0 then (st.set i [(cellsG cs (intG cs 4 p).toNat (intP cs 4 p)).1], (cellsG cs (intG cs 4 p).toNat (intP cs 4 p)).2)
  else if intG cs 5 (intP cs l.length p) = 0 then (st.set i (l.set (intG cs l.length p).toNat (l.getD (intG cs l.length p).toNat [] ++ [anyG cs (intP cs 5 (intP cs l.length p))])), anyP cs (intP cs 5 (intP cs l.length p)))
  else if intG cs 5 (intP cs l.length p) = 1 then
    (st.set i (l.set (intG cs l.length p).toNat ((l.getD (intG cs l.length p).toNat []).set (intG cs (l.getD (intG cs l.length p).toNat []).length (intP cs 5 (intP cs l.length p))).toNat
      (anyG cs (intP cs (l.getD (intG cs l.length p).toNat []).length (intP cs 5 (intP cs l.length p)))))), anyP cs (intP cs (l.getD (intG cs l.length p).toNat []).length (intP cs 5 (intP cs l.length p))))
  else if intG cs 5 (intP cs l.length p) = 2 then (st.set i (l ++ [l.getD (intG cs l.length p).toNat []]), intP cs 5 (intP cs l.length p))
  else if intG cs 5 (intP cs l.length p) = 3 then (st.set i (swapT l), intP cs 5 (intP cs l.length p))
  else (st.set i (l.set (intG cs l.length p).toNat []), intP cs 5 (intP cs l.length p))
def spoilG (cs : List Int) (st : St) (p : Nat) : St × Nat :=
  if st.length = 0 then (st ++ [[]], p)
  else if boolG cs 6 p = true then (st ++ [[]], intP cs 6 p)
  else spoilB cs st (intG cs st.length (intP cs 6 p)).toNat (copyL st (intG cs st.length (intP cs 6 p)).toNat) (intP cs st.length (intP cs 6 p))

theorem set_flatR (l : Tab) (k : Nat) (r : Row) : (l.flatMap rowC1).set k (rowC r) = (l.set k r).flatMap rowC1 := by
  have : ∀ l : Tab, l.flatMap rowC1 = l.map rowC := fun l => by
    induction l with
    | nil => rfl
    | cons a l ih => rw [List.map_cons, List.flatMap_cons, ih]; rfl
  rw [this, this, List.map_set]

theorem setR_flat {α : Type} {f : α → List AC} {s : Nat} (hf : ∀ a, (f a).length = s) : ∀ (l : List α) (i : Nat) (x : α), i < l.length → setR (l.flatMap f) (i * s) (f x) = (l.set i x).flatMap f
  | a :: l, 0, x, _ => by
    unfold setR
    rw [Nat.zero_mul, List.take_zero, List.nil_append, Nat.zero_add, hf x, List.flatMap_cons, List.drop_append_of_le_length (by rw [hf a]; exact Nat.le_refl _), List.drop_eq_nil_of_le (by rw [hf a]; exact Nat.le_refl _)]
    rfl
  | a :: l, i + 1, x, h => by
    have ih := setR_flat hf l i x (by simpa using h)
    unfold setR at ih ⊢
    rw [List.flatMap_cons, List.set_cons_succ, List.flatMap_cons, ← ih]
    have e : (i + 1) * s = (f a).length + i * s := by rw [hf a, Nat.add_mul, Nat.one_mul, Nat.add_comm]
    rw [e, List.take_append, List.take_of_length_le (by omega), show (f a).length + i * s - (f a).length = i * s by omega, Nat.add_assoc, List.drop_append, List.drop_eq_nil_of_le (by omega), show (f a).length + (i * s + (f x).length) - (f a).length = i * s + (f x).length by omega]
    simp
def fiA (cs : List Int) (p : Nat) (st : St) : AS := AS.of 118 1 3 [(4, .one (.ptr 2 0))] [(0, caseO cs p), (2, ⟨25, 0, 0, [tabsC st]⟩)]
theorem fin1 (cs : List Int) (p : Nat) (st : St) : Tr (AS.of 118 1 4 [(4, .one (.ptr 2 0))] [(0, caseO cs p), (2, ⟨25, 0, 0, [.gref 3]⟩), (3, stO st)]) (fiA cs p st) := by
  refine Tr.trans (Tr.frz' (T := 41) (s := 1) (B := 24) (cells := st.flatMap tabC1) 3 st.length (by rfl) (by decide) (flat_len tabC1_len _) (all_flat tabC1_deep _)) ?_
  exact (Tr.ofId rfl rfl (by decide) (by exact Nat.le_of_ble_eq_true rfl) ⟨⟨rfl, rfl⟩, trivial⟩ ⟨⟨rfl, rfl, by decide⟩, ⟨rfl, rfl, by decide⟩, trivial⟩)
def tabO (l : Tab) : Ob := ⟨27, 1, 24, l.flatMap rowC1⟩
theorem tabO_ren (l : Tab) (ρ : Nat → Nat) : (tabO l).ren ρ = tabO l := ob_ren_deep ρ (all_flat rowC1_deep l)
theorem tabO_lt (l : Tab) (n : Nat) : (tabO l).lt n = true := ob_lt_deep n (all_flat rowC1_deep l)
theorem fin2 (cs : List Int) (p : Nat) (st : St) (i : Nat) (l : Tab) : Tr (AS.of 118 1 5 [(4, .one (.ptr 2 0))] [(0, caseO cs p), (2, ⟨25, 0, 0, [.gref 3]⟩), (3, stX st i 4), (4, tabO l)]) (fiA cs p (st.set i l)) := by
  refine Tr.trans (Tr.frz' (T := 27) (s := 1) (B := 24) (cells := l.flatMap rowC1) 4 l.length (by rfl) (by decide) (flat_len rowC1_len _) (all_flat rowC1_deep _)) ?_
  have e : (st.set i l).flatMap tabC1 = ((st.flatMap tabC1).set i (.gref 4)).map (·.sub 4 (.sl false 24 l.length (l.flatMap rowC1))) := by
    rw [sub_set 4 _ (all_flat tabC1_deep st), ← set_flat]
    rfl
  refine Tr.trans (B := AS.of 118 1 4 [(4, .one (.ptr 2 0))] [(0, caseO cs p), (2, ⟨25, 0, 0, [.gref 3]⟩), (3, stO (st.set i l))]) ?_ (fin1 cs p _)
  exact (Tr.ofId rfl rfl (by decide) (by exact Nat.le_of_ble_eq_true rfl) ⟨⟨rfl, rfl⟩, trivial⟩ ⟨⟨rfl, rfl, by decide⟩, ⟨rfl, rfl, by decide⟩, ⟨(congrArg some ((stO_ren (st.set i l) id).trans (congrArg (Ob.mk 41 1 24) e))).symm, stO_lt _ _, by decide⟩, trivial⟩)
theorem fin3 (cs : List Int) (p : Nat) (st : St) (i k : Nat) (l : Tab) (r : Row) : Tr (AS.of 118 1 6 [(4, .one (.ptr 2 0))] [(0, caseO cs p), (2, ⟨25, 0, 0, [.gref 3]⟩), (3, stX st i 4), (4, tabX l k 5), (5, rowX r)]) (fiA cs p (st.set i (l.set k r))) := by
  refine Tr.trans (Tr.frz' (T := 58) (s := 3) (B := 32) (cells := r.flatMap vC) 5 r.length (by rfl) (by decide) (flat_len vC_len _) (all_flat vC_deep _)) ?_
  have e : (l.set k r).flatMap rowC1 = ((l.flatMap rowC1).set k (.gref 5)).map (·.sub 5 (.sl false 32 r.length (r.flatMap vC))) := by
    rw [sub_set 5 _ (all_flat rowC1_deep l), ← set_flatR]
    rfl
  have e2 : (st.flatMap tabC1).set i (.gref 4) = ((st.flatMap tabC1).set i (.gref 4)).map (·.sub 5 (.sl false 32 r.length (r.flatMap vC))) := (sub_set (i := i) (c := .gref 4) 5 _ (all_flat tabC1_deep st)).symm
  refine Tr.trans (B := AS.of 118 1 5 [(4, .one (.ptr 2 0))] [(0, caseO cs p), (2, ⟨25, 0, 0, [.gref 3]⟩), (3, stX st i 4), (4, tabO (l.set k r))]) ?_ (fin2 cs p st i _)
  exact (Tr.ofId rfl rfl (by decide) (by exact Nat.le_of_ble_eq_true rfl) ⟨⟨rfl, rfl⟩, trivial⟩ ⟨⟨rfl, rfl, by decide⟩, ⟨rfl, rfl, by decide⟩, ⟨(congrArg some ((stX_ren st i 4 id).trans (congrArg (Ob.mk 41 1 24) e2))).symm, stX_lt _ _ _ _ (by decide), by decide⟩, ⟨(congrArg some ((tabO_ren (l.set k r) id).trans (congrArg (Ob.mk 27 1 24) e))).symm, tabO_lt _ _, by decide⟩, trivial⟩)

theorem spoil_spec (cs : List Int) (h : ok8 cs) (st : St) (h1 : st.length ≤ 1000) (hok : ∀ l ∈ st, okT l) (hl : ∀ l ∈ st, l.length ≤ 1000) (hr : ∀ l ∈ st, ∀ r ∈ l, 1 ≤ r.length ∧ r.length ≤ 1000) (p : Nat) (hp : p ≤ cs.length) :
    MSpec Try.prog 12 [.one (.ptr 0 0), .agg (stC st)] (caseO cs p) (caseO cs (spoilG cs st p).2) (.agg (stC (spoilG cs st p).1)) := by
  have hok2 : ∀ l ∈ st, l.length ≤ 1099511627776 := fun l hm => Nat.le_trans (hl l hm) (by decide)
  refine mspec_x env08_ok mixed08 Try.func12 rfl 118 rfl _ rfl rfl ?_
  by_cases h0 : st.length = 0
  · have e : spoilG cs st p = (st ++ [[]], p) := if_pos h0
    rw [e]
    refine wn ?_
    refine callX_new3 (copy_spec st (st.length) (0) (by omega) hok hok2) callee31 (fun n => .agg [.gref n]) (fun n => stX st (st.length) (n + 1)) (fun n => tabX (copyL st (st.length)) (0) (n + 2)) (fun n => rowX (copyR st (st.length) (0))) (fun n => by simp [AV.ren, AC.renL, AC.ren, cren]) (fun n => (stX_ren st (st.length) 1 _).trans (by simp [cren])) (fun n => (tabX_ren _ (0) 2 _).trans (by simp [cren])) (fun n => rowX_ren _ _) rfl rfl (.cons (AV.Le.refl _) .nil) rfl ?_
    refine wn ?_
    refine ⟨st.length, by simp [stX, flat_len tabC1_len], ?_⟩
    refine wn ?_
    refine forkB_intro (fun h2 => ?_) (fun h2 => ?_)
    · refine wn ?_
      try (refine rq ?_)
      refine wn ?_
      refine reqD_dec (by simp [ty41, stX, flat_len tabC1_len]; omega) ?_
      refine forceL_as (st.flatMap tabC1 ++ [nilC]) (by rw [show (stX st st.length 4).cells = st.flatMap tabC1 from List.set_eq_of_length_le (by rw [flat_len tabC1_len]; omega)]; rfl) ?_
      refine wn ?_
      refine retX_tr (Tr.trans (B := AS.of 118 1 4 [(4, .one (.ptr 2 0))] [(0, caseO cs (p)), (2, ⟨25, 0, 0, [.gref 3]⟩), (3, stO (st ++ [[]]))]) ?_ (fin1 cs (p) (st ++ [[]]))) ?_
      · refine Tr.trans (Tr.obj 7 (ob := ⟨41, 1, 24, st.flatMap tabC1 ++ [nilC]⟩) (by rfl) (cells := (st ++ [[]]).flatMap tabC1) ?_) ?_
        · rw [List.flatMap_append]
          exact Pw.append ⟨rfl, fun j x y hx hy => by rw [hx] at hy; cases hy; exact AC.LeV.refl _⟩ (Pw.one (AC.LeV.sl (AC.Le.nil (.inl rfl))))
        · exact (Tr.ofML [(3, 7)] 8 (by decide) (by exact Nat.le_of_ble_eq_true rfl) rfl rfl (by decide) ⟨⟨rfl, rfl⟩, trivial⟩ ⟨⟨rfl, rfl, by decide⟩, ⟨rfl, rfl, by decide⟩, ⟨(congrArg some (stO_ren (st ++ (List.nil :: List.nil)) (mvL [(3, 7)]))).symm, stO_lt _ _, by decide⟩, trivial⟩)
      · refine retX_mut rfl rfl (by exact Nat.le_of_ble_eq_true rfl) rfl rfl rfl rfl rfl ?_
        (conv => lhs; whnf)
        rfl
    · exfalso
      have h2 : ((st.length : Int) == 0) = false := h2
      rw [h0] at h2
      cases h2
  · have hp1 : intP cs 6 p ≤ cs.length := intP_in hp
    by_cases hb : boolG cs 6 p = true
    · have e : spoilG cs st p = (st ++ [[]], intP cs 6 p) := by rw [spoilG, if_neg h0, if_pos hb]
      rw [e]
      refine wn ?_
      refine callX_new3 (copy_spec st (st.length) (0) (by omega) hok hok2) callee31 (fun n => .agg [.gref n]) (fun n => stX st (st.length) (n + 1)) (fun n => tabX (copyL st (st.length)) (0) (n + 2)) (fun n => rowX (copyR st (st.length) (0))) (fun n => by simp [AV.ren, AC.renL, AC.ren, cren]) (fun n => (stX_ren st (st.length) 1 _).trans (by simp [cren])) (fun n => (tabX_ren _ (0) 2 _).trans (by simp [cren])) (fun n => rowX_ren _ _) rfl rfl (.cons (AV.Le.refl _) .nil) rfl ?_
      refine wn ?_
      refine ⟨st.length, by simp [stX, flat_len tabC1_len], ?_⟩
      refine wn ?_
      refine forkB_intro (fun h2 => ?_) (fun h2 => ?_)
      · exfalso
        have h2 : ((st.length : Int) == 0) = true := h2
        simp at h2
        rw [h2] at h0
        exact h0 rfl
      · refine wn ?_
        refine callX_mut 0 (bool_spec cs h 6 p hp (by decide)) (callee17) rfl rfl rfl (.cons (AV.Le.refl _) (.cons (AV.Le.refl _) .nil)) rfl (by exact Nat.le_of_ble_eq_true rfl) rfl rfl (caseO_ren cs _) rfl ?_
        refine wn ?_
        rw [hb]
        refine wn ?_
        try (refine rq ?_)
        refine wn ?_
        refine reqD_dec (by simp [ty41, stX, flat_len tabC1_len]; omega) ?_
        refine forceL_as (st.flatMap tabC1 ++ [nilC]) (by rw [show (stX st st.length 4).cells = st.flatMap tabC1 from List.set_eq_of_length_le (by rw [flat_len tabC1_len]; omega)]; rfl) ?_
        refine wn ?_
        refine retX_tr (Tr.trans (B := AS.of 118 1 4 [(4, .one (.ptr 2 0))] [(0, caseO cs (intP cs 6 p)), (2, ⟨25, 0, 0, [.gref 3]⟩), (3, stO (st ++ [[]]))]) ?_ (fin1 cs (intP cs 6 p) (st ++ [[]]))) ?_
        · refine Tr.trans (Tr.obj 7 (ob := ⟨41, 1, 24, st.flatMap tabC1 ++ [nilC]⟩) (by rfl) (cells := (st ++ [[]]).flatMap tabC1) ?_) ?_
          · rw [List.flatMap_append]
            exact Pw.append ⟨rfl, fun j x y hx hy => by rw [hx] at hy; cases hy; exact AC.LeV.refl _⟩ (Pw.one (AC.LeV.sl (AC.Le.nil (.inl rfl))))
          · exact (Tr.ofML [(3, 7)] 8 (by decide) (by exact Nat.le_of_ble_eq_true rfl) rfl rfl (by decide) ⟨⟨rfl, rfl⟩, trivial⟩ ⟨⟨rfl, rfl, by decide⟩, ⟨rfl, rfl, by decide⟩, ⟨(congrArg some (stO_ren (st ++ (List.nil :: List.nil)) (mvL [(3, 7)]))).symm, stO_lt _ _, by decide⟩, trivial⟩)
        · refine retX_mut rfl rfl (by exact Nat.le_of_ble_eq_true rfl) rfl rfl rfl rfl rfl ?_
          (conv => lhs; whnf)
          rfl
    · have hN : 1 ≤ (st.length : Int) := by omega
      have i0 := intG_lo cs h st.length (intP cs 6 p)
      have i1 := intG_hi cs h st.length hN (intP cs 6 p)
      obtain ⟨i, hi⟩ : ∃ i : Nat, intG cs st.length (intP cs 6 p) = i := ⟨(intG cs st.length (intP cs 6 p)).toNat, by omega⟩
      have hil : i < st.length := by omega
      obtain ⟨P2, hP2⟩ : ∃ P2, intP cs st.length (intP cs 6 p) = P2 := ⟨_, rfl⟩
      have hP2l : P2 ≤ cs.length := by rw [← hP2]; exact intP_in hp1
      have hcl : copyL st i = st[i] := by unfold copyL; rw [List.getD_eq_getElem?_getD, List.getElem?_eq_getElem hil, Option.getD_some]
      obtain ⟨l, hle⟩ : ∃ l, copyL st i = l := ⟨_, rfl⟩
      have hlm : l ∈ st := by rw [← hle, hcl]; exact List.getElem_mem _
      have hll := hl l hlm
      have e : spoilG cs st p = spoilB cs st i l P2 := by rw [spoilG, if_neg h0, if_neg hb, hi, Int.toNat_natCast, hle, hP2]
      rw [e]
      have hb : boolG cs 6 p = false := by cases hq : boolG cs 6 p <;> simp_all
      by_cases hl0 : l.length = 0
      · have e : spoilB cs st i l P2 = (st.set i [(cellsG cs (intG cs 4 P2).toNat (intP cs 4 P2)).1], (cellsG cs (intG cs 4 P2).toNat (intP cs 4 P2)).2) := if_pos hl0
        rw [e]
        obtain ⟨n, hn⟩ : ∃ n : Nat, intG cs 4 P2 = n := ⟨(intG cs 4 P2).toNat, by have := intG_lo cs h 4 P2; omega⟩
        have hn4 := intG_hi cs h 4 (by decide) P2
        have hP3l : intP cs 4 P2 ≤ cs.length := intP_in hP2l
        obtain ⟨P3, hP3⟩ : ∃ P3, intP cs 4 P2 = P3 := ⟨_, rfl⟩
        rw [hP3] at hP3l
        rw [hn, hP3, Int.toNat_natCast]
        refine wn ?_
        refine callX_new3 (copy_spec st (i) (0) (by omega) hok hok2) callee31 (fun n => .agg [.gref n]) (fun n => stX st (i) (n + 1)) (fun n => tabX (copyL st (i)) (0) (n + 2)) (fun n => rowX (copyR st (i) (0))) (fun n => by simp [AV.ren, AC.renL, AC.ren, cren]) (fun n => (stX_ren st (i) 1 _).trans (by simp [cren])) (fun n => (tabX_ren _ (0) 2 _).trans (by simp [cren])) (fun n => rowX_ren _ _) rfl rfl (.cons (AV.Le.refl _) .nil) rfl ?_
        refine wn ?_
        refine ⟨st.length, by simp [stX, flat_len tabC1_len], ?_⟩
        refine wn ?_
        refine forkB_intro (fun h2 => ?_) (fun h2 => ?_)
        · exfalso
          have h2 : ((st.length : Int) == 0) = true := h2
          simp at h2
          rw [h2] at h0
          exact h0 rfl
        refine wn ?_
        refine callX_mut 0 (bool_spec cs h 6 p hp (by decide)) (callee17) rfl rfl rfl (.cons (AV.Le.refl _) (.cons (AV.Le.refl _) .nil)) rfl (by exact Nat.le_of_ble_eq_true rfl) rfl rfl (caseO_ren cs _) rfl ?_
        refine wn ?_
        rw [hb]
        refine wn ?_
        refine ⟨st.length, by simp [stX, flat_len tabC1_len], ?_⟩
        refine wn ?_
        refine callX_mut 0 (int_spec cs h st.length (intP cs 6 p) hp1) (callee25) rfl rfl rfl (.cons (AV.Le.refl _) (.cons (AV.Le.refl _) .nil)) rfl (by exact Nat.le_of_ble_eq_true rfl) rfl rfl (caseO_ren cs _) rfl ?_
        refine wn ?_
        rw [hi, hP2]
        refine wn ?_
        refine reqD_dec (by simp [stX, ty41, flat_len tabC1_len]; omega) ?_
        refine forceL_as [.gref 4] ((take1 _ i (by simp [stX, flat_len tabC1_len]; omega)).trans (by simp [stX])) ?_
        refine wn ?_
        rw [hle]
        refine ⟨l.length, by simp [tabX, flat_len rowC1_len], ?_⟩
        refine wn ?_
        refine forkB_intro (fun h2 => ?_) (fun h2 => ?_)
        · refine wn ?_
          refine drawnX_phase env08_ok (fun id => id == 1 || id == 3) [0, 1, 2, 3, 4, 5, 6, 7, 8] (.take 0 (.take 1 (.take 2 (.take 3 (.take 4 (.one 5 (.one 6 (.one 7 (.take 8 (.stop)))))))))) 1 #[true, true, true, true, true, true, true, true, true, false] (by kernel_rfl) ?_
          refine wn ?_
          refine callX_mut 0 (int_spec cs h 4 P2 hP2l) (callee25) rfl rfl rfl (.cons (AV.Le.refl _) (.cons (AV.Le.refl _) .nil)) rfl (by exact Nat.le_of_ble_eq_true rfl) rfl rfl (caseO_ren cs _) rfl ?_
          refine wn ?_
          rw [hn, hP3]
          refine callX_mut 0 (cells_spec cs h n (by omega) P3 hP3l) (callee38) rfl rfl rfl (.cons (AV.Le.refl _) (.cons (AV.Le.refl _) .nil)) rfl (by exact Nat.le_of_ble_eq_true rfl) rfl rfl (caseO_ren cs _) rfl ?_
          refine wn ?_
          refine reqD_dec (by simp [stX, ty41, flat_len tabC1_len]; omega) ?_
          refine wn ?_
          refine drawnX_phase env08_ok (fun _ => false) [0, 1, 2, 3, 4, 5, 6, 7, 8, 9] (.one 9 (.stop)) 0 #[true, true, true, true, true, true, true, true, true, true] (by kernel_rfl) ?_
          refine wn ?_
          refine reqD_dec (by simp [stX, ty41, flat_len tabC1_len]; omega) ?_
          refine forceL_as ((st.flatMap tabC1).set i (.gref 6)) ((setR1 _ i _ (by simp [stX, flat_len tabC1_len]; omega)).trans (by simp [stX])) ?_
          refine wn ?_
          refine drawnX_done (by kernel_rfl) ?_
          refine wn ?_
          refine retX_tr (Tr.trans (B := AS.of 118 1 5 [(4, .one (.ptr 2 0))] [(0, caseO cs (cellsG cs n P3).2), (2, ⟨25, 0, 0, [.gref 3]⟩), (3, stX st i 4), (4, tabO [(cellsG cs n P3).1])]) ?_ (fin2 cs _ st i _)) ?_
          · exact (Tr.ofML [(4, 6)] 7 (by decide) (by exact Nat.le_of_ble_eq_true rfl) rfl rfl (by decide) ⟨⟨rfl, rfl⟩, trivial⟩ ⟨⟨rfl, rfl, by decide⟩, ⟨rfl, rfl, by decide⟩, ⟨(congrArg some (stX_ren st i 4 (mvL [(4, 6)]))).symm, stX_lt _ _ _ _ (by decide), by decide⟩, ⟨(congrArg some (tabO_ren ((cellsG cs n P3).1 :: List.nil) (mvL [(4, 6)]))).symm, tabO_lt _ _, by decide⟩, trivial⟩)
          · refine retX_mut rfl rfl (by exact Nat.le_of_ble_eq_true rfl) rfl rfl rfl rfl rfl ?_
            (conv => lhs; whnf)
            rfl
        · exfalso
          have h2 : ((l.length : Int) == 0) = false := h2
          rw [hl0] at h2
          cases h2
      · have hL : 1 ≤ (l.length : Int) := by omega
        have k0 := intG_lo cs h l.length P2
        have k1 := intG_hi cs h l.length hL P2
        obtain ⟨k, hk⟩ : ∃ k : Nat, intG cs l.length P2 = k := ⟨(intG cs l.length P2).toNat, by omega⟩
        have hkl : k < l.length := by omega
        obtain ⟨P3, hP3⟩ : ∃ P3, intP cs l.length P2 = P3 := ⟨_, rfl⟩
        have hP3l : P3 ≤ cs.length := by rw [← hP3]; exact intP_in hP2l
        obtain ⟨P4, hP4⟩ : ∃ P4, intP cs 5 P3 = P4 := ⟨_, rfl⟩
        have hP4l : P4 ≤ cs.length := by rw [← hP4]; exact intP_in hP3l
        have hrk : l.getD k [] = l[k] := by rw [List.getD_eq_getElem?_getD, List.getElem?_eq_getElem hkl, Option.getD_some]
        obtain ⟨row, hrow⟩ : ∃ row, l.getD k [] = row := ⟨_, rfl⟩
        have hrm : row ∈ l := by rw [← hrow, hrk]; exact List.getElem_mem _
        have hr1 := hr l hlm row hrm
        have hrok : okR row := by unfold okR; omega
        have hcr : copyR st i k = row := by unfold copyR; rw [hle, hrow]
        have o0 := intG_lo cs h 5 P3
        have o1 := intG_hi cs h 5 (by decide) P3
        by_cases ho : intG cs 5 P3 = 0
        · have e : spoilB cs st i l P2 = (st.set i (l.set k (row ++ [anyG cs P4])), anyP cs P4) := by rw [spoilB, if_neg hl0, hk, hP3, hP4, ho, if_pos rfl, Int.toNat_natCast, hrow]
          rw [e]
          refine wn ?_
          refine callX_new3 (copy_spec st (i) (k) (by omega) hok hok2) callee31 (fun n => .agg [.gref n]) (fun n => stX st (i) (n + 1)) (fun n => tabX (copyL st (i)) (k) (n + 2)) (fun n => rowX (copyR st (i) (k))) (fun n => by simp [AV.ren, AC.renL, AC.ren, cren]) (fun n => (stX_ren st (i) 1 _).trans (by simp [cren])) (fun n => (tabX_ren _ (k) 2 _).trans (by simp [cren])) (fun n => rowX_ren _ _) rfl rfl (.cons (AV.Le.refl _) .nil) rfl ?_
          refine wn ?_
          refine ⟨st.length, by simp [stX, flat_len tabC1_len], ?_⟩
          refine wn ?_
          refine forkB_intro (fun h2 => ?_) (fun h2 => ?_)
          · exfalso
            have h2 : ((st.length : Int) == 0) = true := h2
            simp at h2
            rw [h2] at h0
            exact h0 rfl
          refine wn ?_
          refine callX_mut 0 (bool_spec cs h 6 p hp (by decide)) (callee17) rfl rfl rfl (.cons (AV.Le.refl _) (.cons (AV.Le.refl _) .nil)) rfl (by exact Nat.le_of_ble_eq_true rfl) rfl rfl (caseO_ren cs _) rfl ?_
          refine wn ?_
          rw [hb]
          refine wn ?_
          refine ⟨st.length, by simp [stX, flat_len tabC1_len], ?_⟩
          refine wn ?_
          refine callX_mut 0 (int_spec cs h st.length (intP cs 6 p) hp1) (callee25) rfl rfl rfl (.cons (AV.Le.refl _) (.cons (AV.Le.refl _) .nil)) rfl (by exact Nat.le_of_ble_eq_true rfl) rfl rfl (caseO_ren cs _) rfl ?_
          refine wn ?_
          rw [hi, hP2]
          refine wn ?_
          refine reqD_dec (by simp [stX, ty41, flat_len tabC1_len]; omega) ?_
          refine forceL_as [.gref 4] ((take1 _ i (by simp [stX, flat_len tabC1_len]; omega)).trans (by simp [stX])) ?_
          refine wn ?_
          rw [hle]
          refine ⟨l.length, by simp [tabX, flat_len rowC1_len], ?_⟩
          refine wn ?_
          refine forkB_intro (fun h2 => ?_) (fun h2 => ?_)
          · exfalso
            have h2 : ((l.length : Int) == 0) = true := h2
            simp at h2
            rw [h2] at hl0
            exact hl0 rfl
          refine wn ?_
          refine ⟨l.length, by simp [tabX, flat_len rowC1_len], ?_⟩
          refine wn ?_
          refine callX_mut 0 (int_spec cs h l.length P2 hP2l) (callee25) rfl rfl rfl (.cons (AV.Le.refl _) (.cons (AV.Le.refl _) .nil)) rfl (by exact Nat.le_of_ble_eq_true rfl) rfl rfl (caseO_ren cs _) rfl ?_
          refine wn ?_
          rw [hk, hP3]
          refine callX_mut 0 (int_spec cs h 5 P3 hP3l) (callee25) rfl rfl rfl (.cons (AV.Le.refl _) (.cons (AV.Le.refl _) .nil)) rfl (by exact Nat.le_of_ble_eq_true rfl) rfl rfl (caseO_ren cs _) rfl ?_
          refine wn ?_
          rw [hP4]
          rw [hcr, ho]
          refine wn ?_
          refine drawnX_phase env08_ok (fun id => id == 4) [0, 1, 2, 3, 4, 5, 6, 7, 8, 9, 10] (.take 0 (.take 1 (.take 2 (.take 3 (.take 4 (.take 5 (.take 6 (.one 7 (.one 8 (.one 9 (.take 10 (.stop)))))))))))) 1 #[true, true, true, true, true, true, true, true, true, true, true, false] (by kernel_rfl) ?_
          refine wn ?_
          refine reqD_dec (by simp [tabX, ty27, flat_len rowC1_len]; omega) ?_
          refine forceL_as [.gref 5] ((take1 _ k (by simp [tabX, flat_len rowC1_len]; omega)).trans (by simp [tabX])) ?_
          refine wn ?_
          refine callX_mut 0 (any_spec cs h P4 hP4l) (callee39) rfl rfl rfl (.cons (AV.Le.refl _) .nil) rfl (by exact Nat.le_of_ble_eq_true rfl) rfl rfl (caseO_ren cs _) rfl ?_
          refine wn ?_
          try (refine rq ?_)
          refine wn ?_
          refine reqD_dec (flat_div vC_len (by decide) _) ?_
          refine reqD_dec (by simp only [rowX, flat_len vC_len]; simp [ty58, ty27]; omega) ?_
          refine forceL_as ((row ++ [anyG cs P4]).flatMap vC) (by rw [List.flatMap_append]; rfl) ?_
          refine wn ?_
          refine reqD_dec (by simp [tabX, ty27, flat_len rowC1_len]; omega) ?_
          refine wn ?_
          refine drawnX_phase env08_ok (fun _ => false) [0, 1, 2, 3, 4, 5, 6, 7, 8, 9, 10, 11] (.one 11 (.stop)) 0 #[true, true, true, true, true, true, true, true, true, true, true, true] (by kernel_rfl) ?_
          refine wn ?_
          refine reqD_dec (by simp [tabX, ty27, flat_len rowC1_len]; omega) ?_
          refine forceL_as ((l.flatMap rowC1).set k (.gref 7)) ((setR1 _ k _ (by simp [tabX, flat_len rowC1_len]; omega)).trans (by simp [tabX])) ?_
          refine wn ?_
          refine drawnX_done (by kernel_rfl) ?_
          refine wn ?_
          refine retX_tr (Tr.trans (B := AS.of 118 1 6 [(4, .one (.ptr 2 0))] [(0, caseO cs (anyP cs P4)), (2, ⟨25, 0, 0, [.gref 3]⟩), (3, stX st i 4), (4, tabX l k 5), (5, rowX (row ++ [anyG cs P4]))]) ?_ (fin3 cs _ st i k l _)) ?_
          · exact (Tr.ofML [(5, 7)] 8 (by decide) (by exact Nat.le_of_ble_eq_true rfl) rfl rfl (by decide) ⟨⟨rfl, rfl⟩, trivial⟩ ⟨⟨rfl, rfl, by decide⟩, ⟨rfl, rfl, by decide⟩, ⟨(congrArg some (stX_ren st i 4 (mvL [(5, 7)]))).symm, stX_lt _ _ _ _ (by decide), by decide⟩, ⟨(congrArg some (tabX_ren l k 5 (mvL [(5, 7)]))).symm, tabX_lt _ _ _ _ (by decide), by decide⟩, ⟨(congrArg some (rowX_ren (row ++ (anyG cs P4 :: List.nil)) (mvL [(5, 7)]))).symm, rowX_lt _ _, by decide⟩, trivial⟩)
          · refine retX_mut rfl rfl (by exact Nat.le_of_ble_eq_true rfl) rfl rfl rfl rfl rfl ?_
            (conv => lhs; whnf)
            rfl
        · by_cases ho1 : intG cs 5 P3 = 1
          · obtain ⟨j, hj⟩ : ∃ j : Nat, intG cs row.length P4 = j := ⟨(intG cs row.length P4).toNat, by have := intG_lo cs h row.length P4; omega⟩
            have hj2 := intG_hi cs h row.length (by omega) P4
            obtain ⟨P5, hP5⟩ : ∃ P5, intP cs row.length P4 = P5 := ⟨_, rfl⟩
            have hP5l : P5 ≤ cs.length := by rw [← hP5]; exact intP_in hP4l
            have e : spoilB cs st i l P2 = (st.set i (l.set k (row.set j (anyG cs P5))), anyP cs P5) := by rw [spoilB, if_neg hl0, hk, hP3, hP4, ho1, if_neg (by decide), if_pos rfl, Int.toNat_natCast, hrow, hj, hP5, Int.toNat_natCast]
            rw [e]
            refine wn ?_
            refine callX_new3 (copy_spec st (i) (k) (by omega) hok hok2) callee31 (fun n => .agg [.gref n]) (fun n => stX st (i) (n + 1)) (fun n => tabX (copyL st (i)) (k) (n + 2)) (fun n => rowX (copyR st (i) (k))) (fun n => by simp [AV.ren, AC.renL, AC.ren, cren]) (fun n => (stX_ren st (i) 1 _).trans (by simp [cren])) (fun n => (tabX_ren _ (k) 2 _).trans (by simp [cren])) (fun n => rowX_ren _ _) rfl rfl (.cons (AV.Le.refl _) .nil) rfl ?_
            refine wn ?_
            refine ⟨st.length, by simp [stX, flat_len tabC1_len], ?_⟩
            refine wn ?_
            refine forkB_intro (fun h2 => ?_) (fun h2 => ?_)
            · exfalso
              have h2 : ((st.length : Int) == 0) = true := h2
              simp at h2
              rw [h2] at h0
              exact h0 rfl
            refine wn ?_
            refine callX_mut 0 (bool_spec cs h 6 p hp (by decide)) (callee17) rfl rfl rfl (.cons (AV.Le.refl _) (.cons (AV.Le.refl _) .nil)) rfl (by exact Nat.le_of_ble_eq_true rfl) rfl rfl (caseO_ren cs _) rfl ?_
            refine wn ?_
            rw [hb]
            refine wn ?_
            refine ⟨st.length, by simp [stX, flat_len tabC1_len], ?_⟩
            refine wn ?_
            refine callX_mut 0 (int_spec cs h st.length (intP cs 6 p) hp1) (callee25) rfl rfl rfl (.cons (AV.Le.refl _) (.cons (AV.Le.refl _) .nil)) rfl (by exact Nat.le_of_ble_eq_true rfl) rfl rfl (caseO_ren cs _) rfl ?_
            refine wn ?_
            rw [hi, hP2]
            refine wn ?_
            refine reqD_dec (by simp [stX, ty41, flat_len tabC1_len]; omega) ?_
            refine forceL_as [.gref 4] ((take1 _ i (by simp [stX, flat_len tabC1_len]; omega)).trans (by simp [stX])) ?_
            refine wn ?_
            rw [hle]
            refine ⟨l.length, by simp [tabX, flat_len rowC1_len], ?_⟩
            refine wn ?_
            refine forkB_intro (fun h2 => ?_) (fun h2 => ?_)
            · exfalso
              have h2 : ((l.length : Int) == 0) = true := h2
              simp at h2
              rw [h2] at hl0
              exact hl0 rfl
            refine wn ?_
            refine ⟨l.length, by simp [tabX, flat_len rowC1_len], ?_⟩
            refine wn ?_
            refine callX_mut 0 (int_spec cs h l.length P2 hP2l) (callee25) rfl rfl rfl (.cons (AV.Le.refl _) (.cons (AV.Le.refl _) .nil)) rfl (by exact Nat.le_of_ble_eq_true rfl) rfl rfl (caseO_ren cs _) rfl ?_
            refine wn ?_
            rw [hk, hP3]
            refine callX_mut 0 (int_spec cs h 5 P3 hP3l) (callee25) rfl rfl rfl (.cons (AV.Le.refl _) (.cons (AV.Le.refl _) .nil)) rfl (by exact Nat.le_of_ble_eq_true rfl) rfl rfl (caseO_ren cs _) rfl ?_
            refine wn ?_
            rw [hP4]
            rw [hcr, ho1]
            refine wn ?_
            refine drawnX_phase env08_ok (fun id => id == 4 || id == 5) [0, 1, 2, 3, 4, 5, 6, 7, 8, 9, 10, 11, 12, 13] (.take 0 (.take 1 (.take 2 (.take 3 (.take 4 (.take 5 (.take 6 (.take 7 (.take 8 (.take 9 (.take 11 (.one 10 (.one 12 (.take 13 (.stop))))))))))))))) 1 #[true, true, true, true, true, true, true, true, true, true, true, true, true, true, false] (by kernel_rfl) ?_
            refine wn ?_
            refine reqD_dec (by simp [tabX, ty27, flat_len rowC1_len]; omega) ?_
            refine forceL_as [.gref 5] ((take1 _ k (by simp [tabX, flat_len rowC1_len]; omega)).trans (by simp [tabX])) ?_
            refine wn ?_
            refine reqD_dec (by simp [tabX, ty27, flat_len rowC1_len]; omega) ?_
            refine forceL_as [.gref 5] ((take1 _ k (by simp [tabX, flat_len rowC1_len]; omega)).trans (by simp [tabX])) ?_
            refine wn ?_
            refine ⟨row.length, by simp [rowX, flat_len vC_len], ?_⟩
            refine wn ?_
            refine callX_mut 0 (int_spec cs h row.length P4 hP4l) (callee25) rfl rfl rfl (.cons (AV.Le.refl _) (.cons (AV.Le.refl _) .nil)) rfl (by exact Nat.le_of_ble_eq_true rfl) rfl rfl (caseO_ren cs _) rfl ?_
            refine wn ?_
            rw [hj, hP5]
            refine callX_mut 0 (any_spec cs h P5 hP5l) (callee39) rfl rfl rfl (.cons (AV.Le.refl _) .nil) rfl (by exact Nat.le_of_ble_eq_true rfl) rfl rfl (caseO_ren cs _) rfl ?_
            refine wn ?_
            refine reqD_dec (by simp [rowX, ty58, flat_len vC_len]; omega) ?_
            refine wn ?_
            refine drawnX_phase env08_ok (fun _ => false) [0, 1, 2, 3, 4, 5, 6, 7, 8, 9, 10, 11, 12, 13, 14] (.one 14 (.stop)) 0 #[true, true, true, true, true, true, true, true, true, true, true, true, true, true, true] (by kernel_rfl) ?_
            refine wn ?_
            refine reqD_dec (by simp [rowX, ty58, flat_len vC_len]; omega) ?_
            refine forceL_as ((row.set j (anyG cs P5)).flatMap vC) (setR_flat vC_len row j _ (by omega)) ?_
            refine wn ?_
            refine drawnX_done (by kernel_rfl) ?_
            refine wn ?_
            refine retX_tr (Tr.trans (B := AS.of 118 1 6 [(4, .one (.ptr 2 0))] [(0, caseO cs (anyP cs P5)), (2, ⟨25, 0, 0, [.gref 3]⟩), (3, stX st i 4), (4, tabX l k 5), (5, rowX (row.set j (anyG cs P5)))]) ?_ (fin3 cs _ st i k l _)) ?_
            · exact (Tr.ofId rfl rfl (by decide) (by exact Nat.le_of_ble_eq_true rfl) ⟨⟨rfl, rfl⟩, trivial⟩ ⟨⟨rfl, rfl, by decide⟩, ⟨rfl, rfl, by decide⟩, ⟨(congrArg some (stX_ren st i 4 id)).symm, stX_lt _ _ _ _ (by decide), by decide⟩, ⟨(congrArg some (tabX_ren l k 5 id)).symm, tabX_lt _ _ _ _ (by decide), by decide⟩, ⟨(congrArg some (rowX_ren (row.set j (anyG cs P5)) id)).symm, rowX_lt _ _, by decide⟩, trivial⟩)
            · refine retX_mut rfl rfl (by exact Nat.le_of_ble_eq_true rfl) rfl rfl rfl rfl rfl ?_
              (conv => lhs; whnf)
              rfl
          · have hlX : (tabX l l.length 5) = tabO l := by unfold tabX tabO; rw [List.set_eq_of_length_le (by rw [flat_len rowC1_len]; omega)]
            have hlX2 : (tabX l l.length (2 + 1 + 2)) = tabO l := hlX
            by_cases ho2 : intG cs 5 P3 = 2
            · have e : spoilB cs st i l P2 = (st.set i (l ++ [row]), P4) := by rw [spoilB, if_neg hl0, hk, hP3, hP4, ho2, if_neg (by decide), if_neg (by decide), if_pos rfl, Int.toNat_natCast, hrow]
              rw [e]
              refine wn ?_
              refine callX_new3 (copy_spec st (i) (l.length) (by omega) hok hok2) callee31 (fun n => .agg [.gref n]) (fun n => stX st (i) (n + 1)) (fun n => tabX (copyL st (i)) (l.length) (n + 2)) (fun n => rowX (copyR st (i) (l.length))) (fun n => by simp [AV.ren, AC.renL, AC.ren, cren]) (fun n => (stX_ren st (i) 1 _).trans (by simp [cren])) (fun n => (tabX_ren _ (l.length) 2 _).trans (by simp [cren])) (fun n => rowX_ren _ _) rfl rfl (.cons (AV.Le.refl _) .nil) rfl ?_
              refine wn ?_
              refine ⟨st.length, by simp [stX, flat_len tabC1_len], ?_⟩
              refine wn ?_
              refine forkB_intro (fun h2 => ?_) (fun h2 => ?_)
              · exfalso
                have h2 : ((st.length : Int) == 0) = true := h2
                simp at h2
                rw [h2] at h0
                exact h0 rfl
              refine wn ?_
              refine callX_mut 0 (bool_spec cs h 6 p hp (by decide)) (callee17) rfl rfl rfl (.cons (AV.Le.refl _) (.cons (AV.Le.refl _) .nil)) rfl (by exact Nat.le_of_ble_eq_true rfl) rfl rfl (caseO_ren cs _) rfl ?_
              refine wn ?_
              rw [hb]
              refine wn ?_
              refine ⟨st.length, by simp [stX, flat_len tabC1_len], ?_⟩
              refine wn ?_
              refine callX_mut 0 (int_spec cs h st.length (intP cs 6 p) hp1) (callee25) rfl rfl rfl (.cons (AV.Le.refl _) (.cons (AV.Le.refl _) .nil)) rfl (by exact Nat.le_of_ble_eq_true rfl) rfl rfl (caseO_ren cs _) rfl ?_
              refine wn ?_
              rw [hi, hP2]
              refine wn ?_
              refine reqD_dec (by simp [stX, ty41, flat_len tabC1_len]; omega) ?_
              refine forceL_as [.gref 4] ((take1 _ i (by simp [stX, flat_len tabC1_len]; omega)).trans (by simp [stX])) ?_
              refine wn ?_
              rw [hle]
              refine ⟨l.length, by simp [tabX, flat_len rowC1_len], ?_⟩
              refine wn ?_
              refine forkB_intro (fun h2 => ?_) (fun h2 => ?_)
              · exfalso
                have h2 : ((l.length : Int) == 0) = true := h2
                simp at h2
                rw [h2] at hl0
                exact hl0 rfl
              refine wn ?_
              refine ⟨l.length, by simp [tabX, flat_len rowC1_len], ?_⟩
              refine wn ?_
              refine callX_mut 0 (int_spec cs h l.length P2 hP2l) (callee25) rfl rfl rfl (.cons (AV.Le.refl _) (.cons (AV.Le.refl _) .nil)) rfl (by exact Nat.le_of_ble_eq_true rfl) rfl rfl (caseO_ren cs _) rfl ?_
              refine wn ?_
              rw [hk, hP3]
              refine callX_mut 0 (int_spec cs h 5 P3 hP3l) (callee25) rfl rfl rfl (.cons (AV.Le.refl _) (.cons (AV.Le.refl _) .nil)) rfl (by exact Nat.le_of_ble_eq_true rfl) rfl rfl (caseO_ren cs _) rfl ?_
              refine wn ?_
              rw [hP4]
              rw [hlX2, ho2]
              refine wn ?_
              refine drawnX_phase env08_ok (fun id => id == 1 || id == 3) [0, 1, 2, 3, 4, 5, 6, 7, 8, 9, 10, 11] (.take 0 (.take 1 (.take 2 (.take 3 (.take 4 (.take 5 (.one 6 (.one 7 (.one 8 (.one 9 (.one 10 (.take 11 (.stop))))))))))))) 1 #[true, true, true, true, true, true, true, true, true, true, true, true, false] (by kernel_rfl) ?_
              refine wn ?_
              refine reqD_dec (by simp [tabO, ty27, flat_len rowC1_len]; omega) ?_
              refine wn ?_
              refine forceL_as (rowC1 row) ((flat_get (f := rowC1) rowC1_len l k hkl).trans (by rw [← hrk, hrow])) ?_
              refine wn ?_
              refine callX_le (rcopy_spec row hrok) callee40 rfl rfl (.cons (AV.Le.refl _) .nil) rfl ?_
              rintro x hx rfl
              refine wn ?_
              try (refine rq ?_)
              refine wn ?_
              refine reqD_dec (flat_div rowC1_len (by decide) _) ?_
              refine reqD_dec (by simp only [tabO, flat_len rowC1_len]; simp [ty27, ty41]; omega) ?_
              refine forceL_as ((l ++ [row]).flatMap rowC1) (by rw [List.flatMap_append]; rfl) ?_
              refine wn ?_
              refine reqD_dec (by simp [stX, ty41, flat_len tabC1_len]; omega) ?_
              refine wn ?_
              refine drawnX_phase env08_ok (fun _ => false) [0, 1, 2, 3, 4, 5, 6, 7, 8, 9, 10, 11, 12] (.one 12 (.stop)) 0 #[true, true, true, true, true, true, true, true, true, true, true, true, true] (by kernel_rfl) ?_
              refine wn ?_
              refine reqD_dec (by simp [stX, ty41, flat_len tabC1_len]; omega) ?_
              refine forceL_as ((st.flatMap tabC1).set i (.gref 7)) ((setR1 _ i _ (by simp [stX, flat_len tabC1_len]; omega)).trans (by simp [stX])) ?_
              refine wn ?_
              refine drawnX_done (by kernel_rfl) ?_
              refine wn ?_
              refine retX_tr (Tr.trans (B := AS.of 118 1 5 [(4, .one (.ptr 2 0))] [(0, caseO cs P4), (2, ⟨25, 0, 0, [.gref 3]⟩), (3, stX st i 4), (4, tabO (l ++ [row]))]) ?_ (fin2 cs _ st i _)) ?_
              · exact (Tr.ofML [(4, 7)] 8 (by decide) (by exact Nat.le_of_ble_eq_true rfl) rfl rfl (by decide) ⟨⟨rfl, rfl⟩, trivial⟩ ⟨⟨rfl, rfl, by decide⟩, ⟨rfl, rfl, by decide⟩, ⟨(congrArg some (stX_ren st i 4 (mvL [(4, 7)]))).symm, stX_lt _ _ _ _ (by decide), by decide⟩, ⟨(congrArg some (tabO_ren (l ++ (row :: List.nil)) (mvL [(4, 7)]))).symm, tabO_lt _ _, by decide⟩, trivial⟩)
              · refine retX_mut rfl rfl (by exact Nat.le_of_ble_eq_true rfl) rfl rfl rfl rfl rfl ?_
                (conv => lhs; whnf)
                rfl
            · by_cases ho3 : intG cs 5 P3 = 3
              · have e : spoilB cs st i l P2 = (st.set i (swapT l), P4) := by rw [spoilB, if_neg hl0, hk, hP3, hP4, ho3, if_neg (by decide), if_neg (by decide), if_neg (by decide), if_pos rfl]
                rw [e]
                refine wn ?_
                refine callX_new3 (copy_spec st (i) (l.length) (by omega) hok hok2) callee31 (fun n => .agg [.gref n]) (fun n => stX st (i) (n + 1)) (fun n => tabX (copyL st (i)) (l.length) (n + 2)) (fun n => rowX (copyR st (i) (l.length))) (fun n => by simp [AV.ren, AC.renL, AC.ren, cren]) (fun n => (stX_ren st (i) 1 _).trans (by simp [cren])) (fun n => (tabX_ren _ (l.length) 2 _).trans (by simp [cren])) (fun n => rowX_ren _ _) rfl rfl (.cons (AV.Le.refl _) .nil) rfl ?_
                refine wn ?_
                refine ⟨st.length, by simp [stX, flat_len tabC1_len], ?_⟩
                refine wn ?_
                refine forkB_intro (fun h2 => ?_) (fun h2 => ?_)
                · exfalso
                  have h2 : ((st.length : Int) == 0) = true := h2
                  simp at h2
                  rw [h2] at h0
                  exact h0 rfl
                refine wn ?_
                refine callX_mut 0 (bool_spec cs h 6 p hp (by decide)) (callee17) rfl rfl rfl (.cons (AV.Le.refl _) (.cons (AV.Le.refl _) .nil)) rfl (by exact Nat.le_of_ble_eq_true rfl) rfl rfl (caseO_ren cs _) rfl ?_
                refine wn ?_
                rw [hb]
                refine wn ?_
                refine ⟨st.length, by simp [stX, flat_len tabC1_len], ?_⟩
                refine wn ?_
                refine callX_mut 0 (int_spec cs h st.length (intP cs 6 p) hp1) (callee25) rfl rfl rfl (.cons (AV.Le.refl _) (.cons (AV.Le.refl _) .nil)) rfl (by exact Nat.le_of_ble_eq_true rfl) rfl rfl (caseO_ren cs _) rfl ?_
                refine wn ?_
                rw [hi, hP2]
                refine wn ?_
                refine reqD_dec (by simp [stX, ty41, flat_len tabC1_len]; omega) ?_
                refine forceL_as [.gref 4] ((take1 _ i (by simp [stX, flat_len tabC1_len]; omega)).trans (by simp [stX])) ?_
                refine wn ?_
                rw [hle]
                refine ⟨l.length, by simp [tabX, flat_len rowC1_len], ?_⟩
                refine wn ?_
                refine forkB_intro (fun h2 => ?_) (fun h2 => ?_)
                · exfalso
                  have h2 : ((l.length : Int) == 0) = true := h2
                  simp at h2
                  rw [h2] at hl0
                  exact hl0 rfl
                refine wn ?_
                refine ⟨l.length, by simp [tabX, flat_len rowC1_len], ?_⟩
                refine wn ?_
                refine callX_mut 0 (int_spec cs h l.length P2 hP2l) (callee25) rfl rfl rfl (.cons (AV.Le.refl _) (.cons (AV.Le.refl _) .nil)) rfl (by exact Nat.le_of_ble_eq_true rfl) rfl rfl (caseO_ren cs _) rfl ?_
                refine wn ?_
                rw [hk, hP3]
                refine callX_mut 0 (int_spec cs h 5 P3 hP3l) (callee25) rfl rfl rfl (.cons (AV.Le.refl _) (.cons (AV.Le.refl _) .nil)) rfl (by exact Nat.le_of_ble_eq_true rfl) rfl rfl (caseO_ren cs _) rfl ?_
                refine wn ?_
                rw [hP4]
                rw [hlX2, ho3]
                refine wn ?_
                refine drawnX_phase env08_ok (fun _ => false) [0, 1, 2, 3, 4, 5, 6, 7, 8, 9, 10, 11, 12, 13, 14, 15, 16, 17] (.take 0 (.take 1 (.take 2 (.take 3 (.take 4 (.take 5 (.take 6 (.take 7 (.take 8 (.take 9 (.take 11 (.take 12 (.two 10 13 (.one 13 (.take 14 (.one 15 (.take 16 (.one 17 (.stop)))))) (.one 10 (.take 14 (.one 15 (.take 16 (.one 17 (.stop))))))))))))))))))) 0 #[true, true, true, true, true, true, true, true, true, true, true, true, true, true, true, true, true, true] (by kernel_rfl) ?_
                refine wn ?_
                refine ⟨l.length, by simp [tabO, flat_len rowC1_len], ?_⟩
                refine wn ?_
                refine exI_as ((l.length - 1 : Nat) : Int) (by show IntKind.i64.wrap ((l.length : Int) - 1) = _; unfold IntKind.wrap; simp [IntKind.signed, IntKind.bits]; split <;> omega) ?_
                refine wn ?_
                refine ⟨l.length, by simp [tabO, flat_len rowC1_len], ?_⟩
                refine wn ?_
                refine exI_as ((l.length - 1 : Nat) : Int) (by show IntKind.i64.wrap ((l.length : Int) - 1) = _; unfold IntKind.wrap; simp [IntKind.signed, IntKind.bits]; split <;> omega) ?_
                refine wn ?_
                refine reqD_dec (by simp [tabO, ty27, flat_len rowC1_len]; omega) ?_
                refine wn ?_
                refine reqD_dec (by simp [tabO, ty27, flat_len rowC1_len]; omega) ?_
                refine wn ?_
                have hlast : l.length - 1 < l.length := by omega
                have hgl : l.getD (l.length - 1) [] = l[l.length - 1] := by rw [List.getD_eq_getElem?_getD, List.getElem?_eq_getElem hlast, Option.getD_some]
                have hgf : l.getD 0 [] = l[0] := by rw [List.getD_eq_getElem?_getD, List.getElem?_eq_getElem (by omega), Option.getD_some]
                obtain ⟨rl, hrl⟩ : ∃ rl, l.getD (l.length - 1) [] = rl := ⟨_, rfl⟩
                obtain ⟨rf, hrf⟩ : ∃ rf, l.getD 0 [] = rf := ⟨_, rfl⟩
                have hsw : swapT l = (l.set 0 rl).set (l.length - 1) rf := by unfold swapT; rw [hrl, hrf]
                rw [hsw]
                refine ⟨?_, ?_⟩
                · refine wn ?_
                  refine forceL_as (rowC1 rl) ((flat_get (f := rowC1) rowC1_len l (l.length - 1) hlast).trans (by rw [← hgl, hrl])) ?_
                  refine wn ?_
                  refine forceL_as (rowC1 rf) ((flat_get (f := rowC1) rowC1_len l 0 (by omega)).trans (by rw [← hgf, hrf])) ?_
                  refine wn ?_
                  refine reqD_dec (by simp [tabO, ty27, flat_len rowC1_len]; omega) ?_
                  refine wn ?_
                  refine reqD_dec (by simp [tabO, ty27, flat_len rowC1_len]; omega) ?_
                  refine forceL_as ((l.set 0 rl).flatMap rowC1) ((setR1 _ 0 _ (by simp [tabO, flat_len rowC1_len]; omega)).trans (set_flatR l 0 rl)) ?_
                  refine wn ?_
                  refine reqD_dec (by simp [tabO, ty27, flat_len rowC1_len]; omega) ?_
                  refine wn ?_
                  refine reqD_dec (by simp [tabO, ty27, flat_len rowC1_len]; omega) ?_
                  refine forceL_as (((l.set 0 rl).set (l.length - 1) rf).flatMap rowC1) ((setR1 _ (l.length - 1) _ (by simp [tabO, flat_len rowC1_len]; omega)).trans (set_flatR _ _ _)) ?_
                  refine wn ?_
                  refine drawnX_done (by kernel_rfl) ?_
                  refine wn ?_
                  refine retX_tr (Tr.trans (B := AS.of 118 1 5 [(4, .one (.ptr 2 0))] [(0, caseO cs P4), (2, ⟨25, 0, 0, [.gref 3]⟩), (3, stX st i 4), (4, tabO ((l.set 0 rl).set (l.length - 1) rf))]) ?_ (fin2 cs _ st i _)) ?_
                  · exact (Tr.ofId rfl rfl (by decide) (by exact Nat.le_of_ble_eq_true rfl) ⟨⟨rfl, rfl⟩, trivial⟩ ⟨⟨rfl, rfl, by decide⟩, ⟨rfl, rfl, by decide⟩, ⟨(congrArg some (stX_ren st i 4 id)).symm, stX_lt _ _ _ _ (by decide), by decide⟩, ⟨(congrArg some (tabO_ren ((l.set 0 rl).set (l.length - 1) rf) id)).symm, tabO_lt _ _, by decide⟩, trivial⟩)
                  · refine retX_mut rfl rfl (by exact Nat.le_of_ble_eq_true rfl) rfl rfl rfl rfl rfl ?_
                    (conv => lhs; whnf)
                    rfl
                · refine wn ?_
                  refine forceL_as (rowC1 rf) ((flat_get (f := rowC1) rowC1_len l 0 (by omega)).trans (by rw [← hgf, hrf])) ?_
                  refine wn ?_
                  refine forceL_as (rowC1 rl) ((flat_get (f := rowC1) rowC1_len l (l.length - 1) hlast).trans (by rw [← hgl, hrl])) ?_
                  refine wn ?_
                  refine reqD_dec (by simp [tabO, ty27, flat_len rowC1_len]; omega) ?_
                  refine wn ?_
                  refine reqD_dec (by simp [tabO, ty27, flat_len rowC1_len]; omega) ?_
                  refine forceL_as ((l.set 0 rl).flatMap rowC1) ((setR1 _ 0 _ (by simp [tabO, flat_len rowC1_len]; omega)).trans (set_flatR l 0 rl)) ?_
                  refine wn ?_
                  refine reqD_dec (by simp [tabO, ty27, flat_len rowC1_len]; omega) ?_
                  refine wn ?_
                  refine reqD_dec (by simp [tabO, ty27, flat_len rowC1_len]; omega) ?_
                  refine forceL_as (((l.set 0 rl).set (l.length - 1) rf).flatMap rowC1) ((setR1 _ (l.length - 1) _ (by simp [tabO, flat_len rowC1_len]; omega)).trans (set_flatR _ _ _)) ?_
                  refine wn ?_
                  refine drawnX_done (by kernel_rfl) ?_
                  refine wn ?_
                  refine retX_tr (Tr.trans (B := AS.of 118 1 5 [(4, .one (.ptr 2 0))] [(0, caseO cs P4), (2, ⟨25, 0, 0, [.gref 3]⟩), (3, stX st i 4), (4, tabO ((l.set 0 rl).set (l.length - 1) rf))]) ?_ (fin2 cs _ st i _)) ?_
                  · exact (Tr.ofId rfl rfl (by decide) (by exact Nat.le_of_ble_eq_true rfl) ⟨⟨rfl, rfl⟩, trivial⟩ ⟨⟨rfl, rfl, by decide⟩, ⟨rfl, rfl, by decide⟩, ⟨(congrArg some (stX_ren st i 4 id)).symm, stX_lt _ _ _ _ (by decide), by decide⟩, ⟨(congrArg some (tabO_ren ((l.set 0 rl).set (l.length - 1) rf) id)).symm, tabO_lt _ _, by decide⟩, trivial⟩)
                  · refine retX_mut rfl rfl (by exact Nat.le_of_ble_eq_true rfl) rfl rfl rfl rfl rfl ?_
                    (conv => lhs; whnf)
                    rfl
              · have e : spoilB cs st i l P2 = (st.set i (l.set k []), P4) := by rw [spoilB, if_neg hl0, hk, hP3, hP4, if_neg ho, if_neg ho1, if_neg ho2, if_neg ho3, Int.toNat_natCast]
                have ho4 : intG cs 5 P3 = 4 := by omega
                rw [e]
                refine wn ?_
                refine callX_new3 (copy_spec st (i) (l.length) (by omega) hok hok2) callee31 (fun n => .agg [.gref n]) (fun n => stX st (i) (n + 1)) (fun n => tabX (copyL st (i)) (l.length) (n + 2)) (fun n => rowX (copyR st (i) (l.length))) (fun n => by simp [AV.ren, AC.renL, AC.ren, cren]) (fun n => (stX_ren st (i) 1 _).trans (by simp [cren])) (fun n => (tabX_ren _ (l.length) 2 _).trans (by simp [cren])) (fun n => rowX_ren _ _) rfl rfl (.cons (AV.Le.refl _) .nil) rfl ?_
                refine wn ?_
                refine ⟨st.length, by simp [stX, flat_len tabC1_len], ?_⟩
                refine wn ?_
                refine forkB_intro (fun h2 => ?_) (fun h2 => ?_)
                · exfalso
                  have h2 : ((st.length : Int) == 0) = true := h2
                  simp at h2
                  rw [h2] at h0
                  exact h0 rfl
                refine wn ?_
                refine callX_mut 0 (bool_spec cs h 6 p hp (by decide)) (callee17) rfl rfl rfl (.cons (AV.Le.refl _) (.cons (AV.Le.refl _) .nil)) rfl (by exact Nat.le_of_ble_eq_true rfl) rfl rfl (caseO_ren cs _) rfl ?_
                refine wn ?_
                rw [hb]
                refine wn ?_
                refine ⟨st.length, by simp [stX, flat_len tabC1_len], ?_⟩
                refine wn ?_
                refine callX_mut 0 (int_spec cs h st.length (intP cs 6 p) hp1) (callee25) rfl rfl rfl (.cons (AV.Le.refl _) (.cons (AV.Le.refl _) .nil)) rfl (by exact Nat.le_of_ble_eq_true rfl) rfl rfl (caseO_ren cs _) rfl ?_
                refine wn ?_
                rw [hi, hP2]
                refine wn ?_
                refine reqD_dec (by simp [stX, ty41, flat_len tabC1_len]; omega) ?_
                refine forceL_as [.gref 4] ((take1 _ i (by simp [stX, flat_len tabC1_len]; omega)).trans (by simp [stX])) ?_
                refine wn ?_
                rw [hle]
                refine ⟨l.length, by simp [tabX, flat_len rowC1_len], ?_⟩
                refine wn ?_
                refine forkB_intro (fun h2 => ?_) (fun h2 => ?_)
                · exfalso
                  have h2 : ((l.length : Int) == 0) = true := h2
                  simp at h2
                  rw [h2] at hl0
                  exact hl0 rfl
                refine wn ?_
                refine ⟨l.length, by simp [tabX, flat_len rowC1_len], ?_⟩
                refine wn ?_
                refine callX_mut 0 (int_spec cs h l.length P2 hP2l) (callee25) rfl rfl rfl (.cons (AV.Le.refl _) (.cons (AV.Le.refl _) .nil)) rfl (by exact Nat.le_of_ble_eq_true rfl) rfl rfl (caseO_ren cs _) rfl ?_
                refine wn ?_
                rw [hk, hP3]
                refine callX_mut 0 (int_spec cs h 5 P3 hP3l) (callee25) rfl rfl rfl (.cons (AV.Le.refl _) (.cons (AV.Le.refl _) .nil)) rfl (by exact Nat.le_of_ble_eq_true rfl) rfl rfl (caseO_ren cs _) rfl ?_
                refine wn ?_
                rw [hP4]
                rw [hlX2, ho4]
                refine wn ?_
                refine reqD_dec (by simp [tabO, ty27, flat_len rowC1_len]; omega) ?_
                refine wn ?_
                refine reqD_dec (by simp [tabO, ty27, flat_len rowC1_len]; omega) ?_
                refine forceL_as ((l.flatMap rowC1).set k nilC) ((setR1 _ k _ (by simp [tabO, flat_len rowC1_len]; omega)).trans (by simp [tabO, nilC])) ?_
                refine wn ?_
                refine retX_tr (Tr.trans (B := AS.of 118 1 5 [(4, .one (.ptr 2 0))] [(0, caseO cs P4), (2, ⟨25, 0, 0, [.gref 3]⟩), (3, stX st i 4), (4, tabO (l.set k []))]) ?_ (fin2 cs _ st i _)) ?_
                · refine Tr.trans (Tr.obj 4 (ob := ⟨27, 1, 24, (l.flatMap rowC1).set k nilC⟩) (by rfl) (cells := (l.set k []).flatMap rowC1) ?_) ?_
                  · rw [← set_flatR]
                    exact Pw.set AC.LeV.refl (AC.LeV.sl (AC.Le.nil (.inl rfl)))
                  · exact (Tr.ofId rfl rfl (by decide) (by exact Nat.le_of_ble_eq_true rfl) ⟨⟨rfl, rfl⟩, trivial⟩ ⟨⟨rfl, rfl, by decide⟩, ⟨rfl, rfl, by decide⟩, ⟨(congrArg some (stX_ren st i 4 id)).symm, stX_lt _ _ _ _ (by decide), by decide⟩, ⟨(congrArg some (tabO_ren (l.set k List.nil) id)).symm, tabO_lt _ _, by decide⟩, trivial⟩)
                · refine retX_mut rfl rfl (by exact Nat.le_of_ble_eq_true rfl) rfl rfl rfl rfl rfl ?_
                  (conv => lhs; whnf)
                  rfl
theorem callee12 : callee Try.prog 12 := callee_of Try.func12 rfl rfl
end Go.Proofs.Ve


/-
  VeKh: facts about states that are made; then TableGets.
-/
set_option linter.unusedVariables false
set_option linter.unusedSimpArgs false
set_option pp.maxSteps 2000
set_option maxHeartbeats 4000000
namespace Go.Proofs.Ve
open Go

structure okW (st : St) (N n : Nat) : Prop where
  num : st.length = N
  len : ∀ l ∈ st, l.length ≤ n
  row : ∀ l ∈ st, ∀ r ∈ l, 1 ≤ r.length ∧ r.length ≤ 4
theorem okW.mono {st : St} {N n m : Nat} (h : okW st N n) (hm : n ≤ m) : okW st N m := ⟨h.num, fun l hl => Nat.le_trans (h.len l hl) hm, h.row⟩
theorem okW.put {s : Sch} {st : St} {N n : Nat} (h : okW st N n) {t : Int} (ht : t.toNat < N) {key row : Row} (hr : 1 ≤ row.length ∧ row.length ≤ 4) : okW (putS s st t key row) N (n + 1) := by
  have ht' : t.toNat < st.length := by rw [h.num]; exact ht
  have hm : tabAt st t ∈ st := by rw [tabAt_get ht']; exact List.getElem_mem ht'
  refine ⟨by unfold putS; rw [List.length_set]; exact h.num, ?_, ?_⟩
  · intro l hl
    rcases List.mem_or_eq_of_mem_set hl with h1 | h1
    · have := h.len l h1; omega
    · rw [h1]
      have h2 := putL_len s t key row (tabAt st t) (row.length == 0)
      have h3 := h.len _ hm
      unfold putT
      omega
  · intro l hl r hrl
    rcases List.mem_or_eq_of_mem_set hl with h1 | h1
    · exact h.row l h1 r hrl
    · rw [h1] at hrl
      rcases putL_mem s t key row _ _ r hrl with h2 | h2
      · rw [h2]; exact hr
      · exact h.row _ hm r h2
theorem kindsR_ok {s : Sch} (hs : ∀ T ∈ s.tables, 1 ≤ T.cols.length ∧ T.cols.length ≤ 4) {t : Int} (ht : 0 ≤ t ∧ t < s.tables.length) : 1 ≤ (kindsR s t).length ∧ (kindsR s t).length ≤ 4 := by
  unfold kindsR
  rw [dif_pos ht, tblKinds, kindsOf_len]
  exact hs _ (List.getElem_mem _)
theorem kindsR_le {s : Sch} (hs : ∀ T ∈ s.tables, 1 ≤ T.cols.length ∧ T.cols.length ≤ 4) (t : Int) : (kindsR s t).length ≤ 4 := by
  by_cases ht : 0 ≤ t ∧ t < s.tables.length
  · exact (kindsR_ok hs ht).2
  · unfold kindsR
    rw [dif_neg ht]
    exact Nat.zero_le _
theorem fillG_ok {cs : List Int} {s : Sch} (hs : ∀ T ∈ s.tables, 1 ≤ T.cols.length ∧ T.cols.length ≤ 4) {mode t : Int} (ht : 0 ≤ t ∧ t < s.tables.length) : ∀ (m : Nat) {st : St} {p n : Nat}, okW st s.tables.length n → p ≤ cs.length →
    okW (fillG cs s mode t m st p).1 s.tables.length (n + m) ∧ (fillG cs s mode t m st p).2 ≤ cs.length
  | 0, st, p, n, h, hp => ⟨h, hp⟩
  | m + 1, st, p, n, h, hp => by
    rw [fillG]
    have hr : 1 ≤ (rowG cs (keyAt s t) mode 0 (kindsR s t) p).1.length ∧ (rowG cs (keyAt s t) mode 0 (kindsR s t) p).1.length ≤ 4 := by rw [rowG_len]; exact kindsR_ok hs ht
    have h2 := fillG_ok hs ht m (h.put (s := s) (t := t) (by omega) (key := keyR s t (rowG cs (keyAt s t) mode 0 (kindsR s t) p).1) hr) (rowG_in (cs := cs) (keyAt s t) mode (kindsR s t) 0 p hp) (mode := mode)
    exact ⟨h2.1.mono (by omega), h2.2⟩
theorem tabsG_ok {cs : List Int} (hc : ok8 cs) {s : Sch} (hs : ∀ T ∈ s.tables, 1 ≤ T.cols.length ∧ T.cols.length ≤ 4) {mode : Int} : ∀ (k : Nat) {t : Nat} {st : St} {p : Nat}, t + k ≤ s.tables.length → okW st s.tables.length (4 * t) → p ≤ cs.length →
    okW (tabsG cs s mode k t st p).1 s.tables.length (4 * (t + k)) ∧ (tabsG cs s mode k t st p).2 ≤ cs.length
  | 0, t, st, p, _, h, hp => ⟨h, hp⟩
  | k + 1, t, st, p, ht, h, hp => by
    rw [tabsG]
    have g0 := intG_lo cs hc 5 p
    have g5 := intG_hi cs hc 5 (by decide) p
    have h1 := fillG_ok (cs := cs) hs (mode := mode) (t := (t : Int)) ⟨by omega, by omega⟩ (intG cs 5 p).toNat h (intP_in (n := 5) hp)
    have h2 := tabsG_ok hc hs (mode := mode) k (t := t + 1) (by omega) (h1.1.mono (by omega)) h1.2
    exact ⟨h2.1.mono (by omega), h2.2⟩
theorem stateG_ok {cs : List Int} (hc : ok8 cs) {s : Sch} (hs : ∀ T ∈ s.tables, 1 ≤ T.cols.length ∧ T.cols.length ≤ 4) (mode : Int) {p : Nat} (hp : p ≤ cs.length) :
    okW (stateG cs s mode p).1 s.tables.length (4 * s.tables.length) ∧ (stateG cs s mode p).2 ≤ cs.length := by
  unfold stateG
  have := tabsG_ok hc hs (mode := mode) s.tables.length (t := 0) (st := List.replicate s.tables.length []) (p := p) (by omega) ⟨List.length_replicate, fun l hl => by rw [List.eq_of_mem_replicate hl]; exact Nat.zero_le _, fun l hl r hr => by rw [List.eq_of_mem_replicate hl] at hr; cases hr⟩ hp
  exact ⟨this.1.mono (by omega), this.2⟩

def smallT (l : Tab) : Prop := l.length ≤ 50 ∧ ∀ r ∈ l, r.length ≤ 50
structure smallS (st : St) : Prop where
  num : st.length ≤ 50
  tab : ∀ l ∈ st, smallT l
structure goodS (st : St) : Prop where
  num : st.length ≤ 5864062014634
  tab : ∀ l ∈ st, okT l
theorem smallS.good {st : St} (h : smallS st) : goodS st :=
  ⟨Nat.le_trans h.num (by decide), fun l hl => ⟨Nat.le_trans (h.tab l hl).1 (by decide), fun r hr => Nat.le_trans ((h.tab l hl).2 r hr) (by decide)⟩⟩
theorem okW.small {st : St} {N n : Nat} (h : okW st N n) (hN : N ≤ 4) (hn : n ≤ 16) : smallS st :=
  ⟨by rw [h.num]; omega, fun l hl => ⟨by have := h.len l hl; omega, fun r hr => by have := h.row l hl r hr; omega⟩⟩
theorem smallT.set {l : Tab} (h : smallT l) (k : Nat) {r : Row} (hr : r.length ≤ 50) : smallT (l.set k r) :=
  ⟨by rw [List.length_set]; exact h.1, fun x hx => by
    rcases List.mem_or_eq_of_mem_set hx with h1 | h1
    · exact h.2 x h1
    · rw [h1]; exact hr⟩
theorem smallS.set {st : St} (h : smallS st) (i : Nat) {l : Tab} (hl : smallT l) : smallS (st.set i l) :=
  ⟨by rw [List.length_set]; exact h.num, fun x hx => by
    rcases List.mem_or_eq_of_mem_set hx with h1 | h1
    · exact h.tab x h1
    · rw [h1]; exact hl⟩
theorem getD_small {l : Tab} (h : ∀ r ∈ l, r.length ≤ 4) (k : Nat) : (l.getD k []).length ≤ 4 := by
  rw [List.getD_eq_getElem?_getD]
  cases e : l[k]? with
  | none => exact Nat.zero_le _
  | some r => exact h r (List.mem_of_getElem? e)
theorem spoilB_ok {cs : List Int} (hc : ok8 cs) {st : St} (h : smallS st) (i : Nat) {l : Tab} (hl : l.length ≤ 16) (hr : ∀ r ∈ l, r.length ≤ 4) {p : Nat} (hp : p ≤ cs.length) : smallS (spoilB cs st i l p).1 ∧ (spoilB cs st i l p).2 ≤ cs.length := by
  have hsl : smallT l := ⟨by omega, fun r h => by have := hr r h; omega⟩
  have hp2 : intP cs 5 (intP cs l.length p) ≤ cs.length := intP_in (intP_in hp)
  unfold spoilB
  split
  · refine ⟨h.set i ⟨by simp, fun r hr => ?_⟩, cellsG_in (intP_in hp)⟩
    rw [List.mem_singleton.1 hr, cellsG_len]
    have := intG_hi cs hc 4 (by decide) p
    omega
  · have hg := getD_small hr (intG cs l.length p).toNat
    split
    · exact ⟨h.set i (hsl.set _ (by rw [List.length_append]; show _ + 1 ≤ 50; omega)), anyP_in hp2⟩
    · split
      · exact ⟨h.set i (hsl.set _ (by rw [List.length_set]; omega)), anyP_in (intP_in hp2)⟩
      · split
        · refine ⟨h.set i ⟨by rw [List.length_append]; simp; omega, fun r hr' => ?_⟩, hp2⟩
          rcases List.mem_append.1 hr' with h1 | h1
          · exact hsl.2 r h1
          · rw [List.mem_singleton.1 h1]; omega
        · split
          · exact ⟨h.set i ((hsl.set 0 (by have := getD_small hr (l.length - 1); omega)).set _ (by have := getD_small hr 0; omega)), hp2⟩
          · exact ⟨h.set i (hsl.set _ (by simp)), hp2⟩
theorem spoilG_ok {cs : List Int} (hc : ok8 cs) {st : St} {N n : Nat} (hW : okW st N n) (hN : N ≤ 4) (hn : n ≤ 16) {p : Nat} (hp : p ≤ cs.length) : smallS (spoilG cs st p).1 ∧ (spoilG cs st p).2 ≤ cs.length := by
  have h := hW.small hN hn
  have ha : smallS (st ++ [[]]) := ⟨by rw [List.length_append]; have := hW.num; simp; omega, fun l hl => by
    rcases List.mem_append.1 hl with h1 | h1
    · exact h.tab l h1
    · rw [List.mem_singleton.1 h1]; exact ⟨by simp, fun r hr => by cases hr⟩⟩
  unfold spoilG
  split
  · exact ⟨ha, hp⟩
  · split
    · exact ⟨ha, intP_in hp⟩
    · have hm : copyL st (intG cs st.length (intP cs 6 p)).toNat = [] ∨ copyL st (intG cs st.length (intP cs 6 p)).toNat ∈ st := by
        unfold copyL
        rw [List.getD_eq_getElem?_getD]
        cases e : st[(intG cs st.length (intP cs 6 p)).toNat]? with
        | none => exact .inl rfl
        | some l => exact .inr (List.mem_of_getElem? e)
      refine spoilB_ok hc h _ ?_ (fun r hr => ?_) (intP_in (intP_in hp))
      · rcases hm with h1 | h1
        · rw [h1]; exact Nat.zero_le _
        · exact Nat.le_trans (hW.len _ h1) hn
      · rcases hm with h1 | h1
        · rw [h1] at hr; cases hr
        · exact (hW.row _ h1 r hr).2
theorem cmpV_self (v : V) : cmpV v v = 0 := cv7 (by omega) (by omega) (by omega) (by omega) (bl_irr _) (by rw [bl_irr]; simp)
theorem cmpR_self : ∀ r : Row, cmpR r r = 0
  | [] => rfl
  | v :: r => by rw [cmpR, cmpV_self]; simpa using cmpR_self r

/-- The three states that are asked. -/
def geX (st sp raw : St) : Nat → St
  | 0 => st
  | 1 => sp
  | _ => raw
def geO (s : Sch) (st : St) (cs : List Int) (raw : St) (p : Nat) (sp : St) : List (Nat × Ob) := [(1, caseO cs p), (2, ⟨32, 0, 0, schC s⟩), (3, ⟨25, 0, 0, stC st⟩), (4, ⟨25, 1, 24, [tabsC st, tabsC sp, tabsC raw]⟩)]
def geA (s : Sch) (st sp raw : St) (t : Int) (key : Row) (cs : List Int) (i p : Nat) : AS := AS.of 136 0 5 [(2, .one (.int .i64 t)), (3, .one (rowC key)), (9, .one (.ptr 1 0)), (10, .one (.ptr 2 0)), (11, .one (.ptr 3 0)), (36, .one (.gref 4)), (37, .one (.int .i64 3)), (38, .one (.int .i64 (i : Nat)))] (geO s st cs raw p sp)
def geB (s : Sch) (st sp raw X : St) (t : Int) (key : Row) (cs : List Int) (i j p : Nat) : AS := AS.of 136 0 6 [(2, .one (.int .i64 t)), (3, .one (rowC key)), (9, .one (.ptr 1 0)), (10, .one (.ptr 2 0)), (11, .one (.ptr 3 0)), (36, .one (.gref 4)), (37, .one (.int .i64 3)), (38, .one (.int .i64 (i : Nat))), (13, .one (.ptr 5 0)), (14, .one (.int .i64 (j : Nat)))] (geO s st cs raw p sp ++ [(5, ⟨25, 0, 0, stC X⟩)])
theorem getR_ok {s : Sch} {X : St} (h : ∀ l ∈ X, okT l) {t : Int} {key r : Row} (hg : getR s X t key = some r) : okR r := by
  unfold getR at hg
  split at hg
  · exact (h _ (List.getElem_mem _)).2 r (List.mem_of_find?_eq_some hg)
  · cases hg
theorem callee9 : callee Try.prog 9 := callee_of Try.func9 rfl rfl
theorem gets_spec (codes : List Int) (hcodes : ok8 codes) (raw : St) (hraw : goodS raw) (t : Int) (key : Row) (hkey : okR key) :
    PSpec Try.prog 3 [.one (slC byteC 1 codes), .agg (stC raw), .one (.int .i64 t), .one (rowC key)] (fun r => r = .one (.bool true)) := by
  refine pspec_x env08_ok mixed08 Try.func3 rfl 136 rfl _ rfl rfl ?_
  refine wn ?_
  refine callX_new (new_spec codes hcodes 160 (by decide)) callee9 (fun n => .one (.ptr n 0)) (fun n => by simp [AV.ren, AC.ren, cren]) (fun ρ => caseO_ren _ _ ρ) rfl rfl (.cons (AV.Le.refl _) (.cons (AV.Le.refl _) .nil)) rfl ?_
  have h : ok8 (codes.take 160) := ⟨by rw [List.length_take]; omega, fun x hx => hcodes.byte x (List.mem_of_mem_take hx)⟩
  obtain ⟨cs, hcs⟩ : ∃ cs, codes.take 160 = cs := ⟨_, rfl⟩
  rw [hcs] at h ⊢
  refine wn ?_
  refine callX_mut 1 (gschema_spec cs h 0 (Nat.zero_le _)) (callee10) rfl rfl rfl (.cons (AV.Le.refl _) .nil) rfl (by exact Nat.le_of_ble_eq_true rfl) rfl rfl (caseO_ren cs _) rfl ?_
  refine wn ?_
  have hcols := schemaG_cols (cs := cs) (p := 0) (Nat.zero_le _)
  have hnt := schemaG_len (cs := cs) (p := 0) (Nat.zero_le _)
  have hp1 := schemaG_in (cs := cs) (p := 0) (Nat.zero_le _)
  obtain ⟨S, hS⟩ : ∃ S, (schemaG cs 0).1 = S := ⟨_, rfl⟩
  obtain ⟨P1, hP1⟩ : ∃ P1, (schemaG cs 0).2 = P1 := ⟨_, rfl⟩
  rw [hS] at hcols hnt ⊢
  rw [hP1] at hp1 ⊢
  have hcols2 : ∀ T ∈ S.tables, T.cols.length ≤ 1099511627776 := fun T hT => Nat.le_trans (hcols T hT).2 (by decide)
  have hW := stateG_ok h hcols 3 hp1
  refine callX_mut 1 (state_spec cs h S hcols2 (by omega) 3 P1 hp1) (callee11) rfl rfl rfl (.cons (AV.Le.refl _) (.cons (AV.Le.refl _) (.cons (AV.Le.refl _) .nil))) rfl (by exact Nat.le_of_ble_eq_true rfl) rfl rfl (caseO_ren cs _) rfl ?_
  refine wn ?_
  obtain ⟨st, hst⟩ : ∃ st, (stateG cs S 3 P1).1 = st := ⟨_, rfl⟩
  obtain ⟨P2, hP2⟩ : ∃ P2, (stateG cs S 3 P1).2 = P2 := ⟨_, rfl⟩
  rw [hst, hP2] at hW ⊢
  obtain ⟨hW, hP2l⟩ := hW
  have hsm := hW.small hnt (by omega)
  have hsp := spoilG_ok h hW hnt (by omega) hP2l
  refine drawnX_phase env08_ok (fun id => id == 0 || id == 3) [0, 1, 2, 3, 4, 5, 6, 7] (.take 0 (.take 1 (.take 2 (.take 4 (.take 7 (.one 3 (.one 5 (.take 6 (.stop))))))))) 0 #[true, true, true, true, true, true, true, true] (by kernel_rfl) ?_
  refine wn ?_
  refine callX_mut 1 (spoil_spec cs h st (by have := hW.num; omega) hsm.good.tab (fun l hl => Nat.le_trans (hsm.tab l hl).1 (by decide)) (fun l hl r hr => ⟨(hW.row l hl r hr).1, Nat.le_trans (hW.row l hl r hr).2 (by decide)⟩) P2 hP2l) (callee12) rfl rfl rfl (.cons (AV.Le.refl _) (.cons (AV.Le.refl _) .nil)) rfl (by exact Nat.le_of_ble_eq_true rfl) rfl rfl (caseO_ren cs _) rfl ?_
  refine wn ?_
  obtain ⟨sp, hspe⟩ : ∃ sp, (spoilG cs st P2).1 = sp := ⟨_, rfl⟩
  obtain ⟨P3, hP3⟩ : ∃ P3, (spoilG cs st P2).2 = P3 := ⟨_, rfl⟩
  rw [hspe, hP3] at hsp ⊢
  obtain ⟨hsp, hP3l⟩ := hsp
  have hgood : ∀ i, goodS (geX st sp raw i) := fun i => by
    match i with
    | 0 => exact hsm.good
    | 1 => exact hsp.good
    | _ + 2 => exact hraw
  refine ⟨3, rfl, ?_⟩
  refine wn ?_
  refine drawnX_done (by kernel_rfl) ?_
  refine wn ?_
  refine loopX_of env08_ok mixed08 (σ := Nat × Nat) (fun q => geA S st sp raw t key cs q.1 q.2) (fun q => q.1 ≤ 3 ∧ q.2 ≤ cs.length) (fun q => 3 - q.1) (0, P3) (fun _ => rfl) (Tr.ofId rfl rfl (by decide) (by exact Nat.le_of_ble_eq_true rfl) ⟨⟨rfl, rfl⟩, ⟨rfl, rfl⟩, ⟨rfl, rfl⟩, ⟨rfl, rfl⟩, ⟨rfl, rfl⟩, ⟨rfl, rfl⟩, ⟨rfl, rfl⟩, ⟨rfl, rfl⟩, trivial⟩ ⟨⟨rfl, rfl, by decide⟩, ⟨rfl, rfl, by decide⟩, ⟨rfl, rfl, by decide⟩, ⟨rfl, rfl, by decide⟩, trivial⟩) ⟨Nat.zero_le _, hP3l⟩ ?_
  rintro ⟨i, p⟩ ⟨hi, hp⟩
  have hi : i ≤ 3 := hi
  have hp : p ≤ cs.length := hp
  refine wn ?_
  refine forkB_dec (fun h1 => ?_) (fun h1 => ?_)
  · have hi2 : i < 3 := by have h1 : (i : Int) < 3 := h1; omega
    obtain ⟨X, hX⟩ : ∃ X, geX st sp raw i = X := ⟨_, rfl⟩
    have hg := hgood i
    rw [hX] at hg
    refine wn ?_
    refine reqD_dec ⟨by omega, by simp [ty25]; omega⟩ ?_
    refine wn ?_
    refine forceL_as [tabsC X] (by have : i = 0 ∨ i = 1 ∨ i = 2 := by omega
                                   rcases this with rfl | rfl | rfl <;> (rw [← hX]; rfl)) ?_
    refine wn ?_
    refine drawnX_phase env08_ok (fun id => id == 5) [0, 1, 2, 3, 4] (.take 0 (.take 2 (.one 1 (.one 3 (.take 4 (.stop)))))) 0 #[true, true, true, true, true] (by kernel_rfl) ?_
    refine wn ?_
    refine callX_le (countW_spec X hg.num) callee13 rfl rfl (.cons (AV.Le.refl _) .nil) rfl ?_
    rintro x hx rfl
    refine wn ?_
    refine callX_le (rcountW_spec X hg.num) callee14 rfl rfl (.cons (AV.Le.refl _) .nil) rfl ?_
    rintro x hx rfl
    refine wn ?_
    refine forkB_intro (fun h2 => absurd h2 (by simp)) (fun _ => ?_)
    refine wn ?_
    refine drawnX_done (by kernel_rfl) ?_
    refine wn ?_
    refine loopX_of env08_ok mixed08 (σ := Nat × Nat) (fun q => geB S st sp raw X t key cs i q.1 q.2) (fun q => q.1 ≤ 4 ∧ q.2 ≤ cs.length) (fun q => 4 - q.1) (0, p) (fun _ => rfl) (Tr.ofId rfl rfl (by decide) (by exact Nat.le_of_ble_eq_true rfl) ⟨⟨rfl, rfl⟩, ⟨rfl, rfl⟩, ⟨rfl, rfl⟩, ⟨rfl, rfl⟩, ⟨rfl, rfl⟩, ⟨rfl, rfl⟩, ⟨rfl, rfl⟩, ⟨rfl, rfl⟩, ⟨rfl, rfl⟩, ⟨rfl, rfl⟩, trivial⟩ ⟨⟨rfl, rfl, by decide⟩, ⟨rfl, rfl, by decide⟩, ⟨rfl, rfl, by decide⟩, ⟨rfl, rfl, by decide⟩, ⟨rfl, rfl, by decide⟩, trivial⟩) ⟨Nat.zero_le _, hp⟩ ?_
    rintro ⟨j, p⟩ ⟨hj, hp⟩
    have hj : j ≤ 4 := hj
    have hp : p ≤ cs.length := hp
    refine wn ?_
    refine forkB_dec (fun h3 => ?_) (fun h3 => ?_)
    · have hj2 : j < 4 := by have h3 : (j : Int) < 4 := h3; omega
      have hkk : (keyKindsR S j).length ≤ 4 := by
        unfold keyKindsR
        split
        · rw [List.length_take]
          have := kindsR_le hcols j
          omega
        · exact Nat.zero_le _
      refine wn ?_
      refine callX_le (keyKinds_spec S j hcols2) callee16 rfl rfl (.cons (AV.Le.refl _) (.cons (AV.Le.refl _) .nil)) rfl ?_
      rintro x hx rfl
      refine wn ?_
      refine callX_mut 1 (row_spec cs h (keyKindsR S j) 9 1 (by omega) p hp) (callee15) rfl rfl rfl (.cons (AV.Le.refl _) (.cons (AV.Le.refl _) (.cons (AV.Le.refl _) (.cons (AV.Le.refl _) .nil)))) rfl (by exact Nat.le_of_ble_eq_true rfl) rfl rfl (caseO_ren cs _) rfl ?_
      refine wn ?_
      have hKl := rowG_len cs 9 1 (keyKindsR S j) 0 p
      have hPl := rowG_in (cs := cs) 9 1 (keyKindsR S j) 0 p hp
      obtain ⟨K, hK⟩ : ∃ K, (rowG cs 9 1 0 (keyKindsR S j) p).1 = K := ⟨_, rfl⟩
      obtain ⟨P, hP⟩ : ∃ P, (rowG cs 9 1 0 (keyKindsR S j) p).2 = P := ⟨_, rfl⟩
      rw [hK] at hKl
      rw [hP] at hPl
      rw [hK, hP]
      have hKo : okR K := by unfold okR; omega
      refine exI_as _ rfl ?_
      refine wn ?_
      refine forkB_dec (fun h4 => ?_) (fun h4 => ?_)
      · have hjs : j < st.length := by have h4 : (j : Int) < st.length := h4; omega
        obtain ⟨l, hl⟩ : ∃ l, st[j] = l := ⟨_, rfl⟩
        refine wn ?_
        refine rq ?_
        refine forceL_as (tabC1 l) ((flat_get (f := tabC1) tabC1_len st j hjs).trans (by rw [hl])) ?_
        refine wn ?_
        refine exI_as _ rfl ?_
        refine wn ?_
        refine forkB_dec (fun h5 => ?_) (fun h5 => ?_)
        · have hl0 : 0 < l.length := by have h5 : (l.length : Int) > 0 := h5; omega
          refine wn ?_
          refine callX_mut 1 (bool_spec cs h 2 P hPl (by decide)) (callee17) rfl rfl rfl (.cons (AV.Le.refl _) (.cons (AV.Le.refl _) .nil)) rfl (by exact Nat.le_of_ble_eq_true rfl) rfl rfl (caseO_ren cs _) rfl ?_
          refine wn ?_
          have hP2 : intP cs 2 P ≤ cs.length := intP_in hPl
          cases boolG cs 2 P with
          | true =>
            refine wn ?_
            have hr0 : okR l[0] := by
              have hlm : l ∈ st := by rw [← hl]; exact List.getElem_mem _
              exact (hsm.good.tab l hlm).2 _ (List.getElem_mem _)
            obtain ⟨r0, hr0e⟩ : ∃ r, l[0] = r := ⟨_, rfl⟩
            rw [hr0e] at hr0
            refine drawnX_phase env08_ok (fun id => id == 2 || id == 3) [0, 1, 2, 3, 4, 5, 6, 7, 8, 9, 10] (.take 0 (.take 1 (.take 2 (.take 3 (.take 4 (.take 5 (.take 6 (.take 7 (.take 8 (.one 9 (.take 10 (.stop)))))))))))) 0 #[true, true, true, true, true, true, true, true, true, true, true] (by kernel_rfl) ?_
            refine wn ?_
            refine rq ?_
            refine forceL_as (tabC1 l) ((flat_get (f := tabC1) tabC1_len st j hjs).trans (by rw [hl])) ?_
            refine wn ?_
            refine rq ?_
            refine forceL_as (rowC1 r0) ((flat_get (f := rowC1) rowC1_len l 0 hl0).trans (by rw [hr0e])) ?_
            refine wn ?_
            refine callX_le (rkey_spec S j r0 hr0) callee18 rfl rfl (.cons (AV.Le.refl _) (.cons (AV.Le.refl _) (.cons (AV.Le.refl _) .nil))) rfl ?_
            rintro x hx rfl
            refine wn ?_
            refine drawnX_done (by kernel_rfl) ?_
            refine wn ?_
            have hko : okR (keyR S j r0) := Nat.le_trans (keyR_le S j r0) hr0
            refine callX_le (get_spec S X (j) ((keyR S j r0)) hg.tab (hko)) callee19 rfl rfl (.cons (AV.Le.refl _) (.cons (AV.Le.refl _) (.cons (AV.Le.refl _) (.cons (AV.Le.refl _) .nil)))) rfl ?_
            rintro x hx rfl
            obtain ⟨g, hge⟩ : ∃ g, getR S X (j) ((keyR S j r0)) = g := ⟨_, rfl⟩
            rw [hge]
            cases g with
            | none =>
              refine wn ?_
              refine callX_le (rget_spec S X (j) ((keyR S j r0)) hg.tab (hko)) callee20 rfl rfl (.cons (AV.Le.refl _) (.cons (AV.Le.refl _) (.cons (AV.Le.refl _) (.cons (AV.Le.refl _) .nil)))) rfl ?_
              rintro x hx rfl
              rw [hge]
              refine wn ?_
              refine callX_le (rcompareRows_spec [] [] (by simp) (by simp)) callee21 rfl rfl (.cons (AV.Le.refl _) (.cons (AV.Le.refl _) .nil)) rfl ?_
              rintro x hx rfl
              rw [cmpR_self]
              refine wn ?_
              refine exI_i64 (by show -9223372036854775808 ≤ (j : Int) + 1; omega) (by show (j : Int) + 1 ≤ 9223372036854775807; omega) ?_
              refine wn ?_
              refine ⟨(j + 1, (intP cs 2 P)), ⟨by show j + 1 ≤ 4; omega, by assumption⟩, by show 4 - (j + 1) < 4 - j; omega, ?_⟩
              exact (Tr.ofId rfl rfl (by decide) (by exact Nat.le_of_ble_eq_true rfl) ⟨⟨rfl, rfl⟩, ⟨rfl, rfl⟩, ⟨rfl, rfl⟩, ⟨rfl, rfl⟩, ⟨rfl, rfl⟩, ⟨rfl, rfl⟩, ⟨rfl, rfl⟩, ⟨rfl, rfl⟩, ⟨rfl, rfl⟩, ⟨rfl, rfl⟩, trivial⟩ ⟨⟨rfl, rfl, by decide⟩, ⟨rfl, rfl, by decide⟩, ⟨rfl, rfl, by decide⟩, ⟨rfl, rfl, by decide⟩, ⟨rfl, rfl, by decide⟩, trivial⟩)
            | some r =>
              have hrr := getR_ok hg.tab hge
              have hr9 : r.length ≤ 9223372036854775807 := Nat.le_trans hrr (by decide)
              refine wn ?_
              refine callX_le (rget_spec S X (j) ((keyR S j r0)) hg.tab (hko)) callee20 rfl rfl (.cons (AV.Le.refl _) (.cons (AV.Le.refl _) (.cons (AV.Le.refl _) (.cons (AV.Le.refl _) .nil)))) rfl ?_
              rintro x hx rfl
              rw [hge]
              refine wn ?_
              refine callX_le (rcompareRows_spec r r hr9 hr9) callee21 rfl rfl (.cons (AV.Le.refl _) (.cons (AV.Le.refl _) .nil)) rfl ?_
              rintro x hx rfl
              rw [cmpR_self]
              refine wn ?_
              refine exI_i64 (by show -9223372036854775808 ≤ (j : Int) + 1; omega) (by show (j : Int) + 1 ≤ 9223372036854775807; omega) ?_
              refine wn ?_
              refine ⟨(j + 1, (intP cs 2 P)), ⟨by show j + 1 ≤ 4; omega, by assumption⟩, by show 4 - (j + 1) < 4 - j; omega, ?_⟩
              exact (Tr.ofId rfl rfl (by decide) (by exact Nat.le_of_ble_eq_true rfl) ⟨⟨rfl, rfl⟩, ⟨rfl, rfl⟩, ⟨rfl, rfl⟩, ⟨rfl, rfl⟩, ⟨rfl, rfl⟩, ⟨rfl, rfl⟩, ⟨rfl, rfl⟩, ⟨rfl, rfl⟩, ⟨rfl, rfl⟩, ⟨rfl, rfl⟩, trivial⟩ ⟨⟨rfl, rfl, by decide⟩, ⟨rfl, rfl, by decide⟩, ⟨rfl, rfl, by decide⟩, ⟨rfl, rfl, by decide⟩, ⟨rfl, rfl, by decide⟩, trivial⟩)
          | false =>
            refine wn ?_
            refine callX_le (get_spec S X (j) (K) hg.tab (hKo)) callee19 rfl rfl (.cons (AV.Le.refl _) (.cons (AV.Le.refl _) (.cons (AV.Le.refl _) (.cons (AV.Le.refl _) .nil)))) rfl ?_
            rintro x hx rfl
            obtain ⟨g, hge⟩ : ∃ g, getR S X (j) (K) = g := ⟨_, rfl⟩
            rw [hge]
            cases g with
            | none =>
              refine wn ?_
              refine callX_le (rget_spec S X (j) (K) hg.tab (hKo)) callee20 rfl rfl (.cons (AV.Le.refl _) (.cons (AV.Le.refl _) (.cons (AV.Le.refl _) (.cons (AV.Le.refl _) .nil)))) rfl ?_
              rintro x hx rfl
              rw [hge]
              refine wn ?_
              refine callX_le (rcompareRows_spec [] [] (by simp) (by simp)) callee21 rfl rfl (.cons (AV.Le.refl _) (.cons (AV.Le.refl _) .nil)) rfl ?_
              rintro x hx rfl
              rw [cmpR_self]
              refine wn ?_
              refine exI_i64 (by show -9223372036854775808 ≤ (j : Int) + 1; omega) (by show (j : Int) + 1 ≤ 9223372036854775807; omega) ?_
              refine wn ?_
              refine ⟨(j + 1, (intP cs 2 P)), ⟨by show j + 1 ≤ 4; omega, by assumption⟩, by show 4 - (j + 1) < 4 - j; omega, ?_⟩
              exact (Tr.ofId rfl rfl (by decide) (by exact Nat.le_of_ble_eq_true rfl) ⟨⟨rfl, rfl⟩, ⟨rfl, rfl⟩, ⟨rfl, rfl⟩, ⟨rfl, rfl⟩, ⟨rfl, rfl⟩, ⟨rfl, rfl⟩, ⟨rfl, rfl⟩, ⟨rfl, rfl⟩, ⟨rfl, rfl⟩, ⟨rfl, rfl⟩, trivial⟩ ⟨⟨rfl, rfl, by decide⟩, ⟨rfl, rfl, by decide⟩, ⟨rfl, rfl, by decide⟩, ⟨rfl, rfl, by decide⟩, ⟨rfl, rfl, by decide⟩, trivial⟩)
            | some r =>
              have hrr := getR_ok hg.tab hge
              have hr9 : r.length ≤ 9223372036854775807 := Nat.le_trans hrr (by decide)
              refine wn ?_
              refine callX_le (rget_spec S X (j) (K) hg.tab (hKo)) callee20 rfl rfl (.cons (AV.Le.refl _) (.cons (AV.Le.refl _) (.cons (AV.Le.refl _) (.cons (AV.Le.refl _) .nil)))) rfl ?_
              rintro x hx rfl
              rw [hge]
              refine wn ?_
              refine callX_le (rcompareRows_spec r r hr9 hr9) callee21 rfl rfl (.cons (AV.Le.refl _) (.cons (AV.Le.refl _) .nil)) rfl ?_
              rintro x hx rfl
              rw [cmpR_self]
              refine wn ?_
              refine exI_i64 (by show -9223372036854775808 ≤ (j : Int) + 1; omega) (by show (j : Int) + 1 ≤ 9223372036854775807; omega) ?_
              refine wn ?_
              refine ⟨(j + 1, (intP cs 2 P)), ⟨by show j + 1 ≤ 4; omega, by assumption⟩, by show 4 - (j + 1) < 4 - j; omega, ?_⟩
              exact (Tr.ofId rfl rfl (by decide) (by exact Nat.le_of_ble_eq_true rfl) ⟨⟨rfl, rfl⟩, ⟨rfl, rfl⟩, ⟨rfl, rfl⟩, ⟨rfl, rfl⟩, ⟨rfl, rfl⟩, ⟨rfl, rfl⟩, ⟨rfl, rfl⟩, ⟨rfl, rfl⟩, ⟨rfl, rfl⟩, ⟨rfl, rfl⟩, trivial⟩ ⟨⟨rfl, rfl, by decide⟩, ⟨rfl, rfl, by decide⟩, ⟨rfl, rfl, by decide⟩, ⟨rfl, rfl, by decide⟩, ⟨rfl, rfl, by decide⟩, trivial⟩)
        · refine wn ?_
          refine callX_le (get_spec S X (j) (K) hg.tab (hKo)) callee19 rfl rfl (.cons (AV.Le.refl _) (.cons (AV.Le.refl _) (.cons (AV.Le.refl _) (.cons (AV.Le.refl _) .nil)))) rfl ?_
          rintro x hx rfl
          obtain ⟨g, hge⟩ : ∃ g, getR S X (j) (K) = g := ⟨_, rfl⟩
          rw [hge]
          cases g with
          | none =>
            refine wn ?_
            refine callX_le (rget_spec S X (j) (K) hg.tab (hKo)) callee20 rfl rfl (.cons (AV.Le.refl _) (.cons (AV.Le.refl _) (.cons (AV.Le.refl _) (.cons (AV.Le.refl _) .nil)))) rfl ?_
            rintro x hx rfl
            rw [hge]
            refine wn ?_
            refine callX_le (rcompareRows_spec [] [] (by simp) (by simp)) callee21 rfl rfl (.cons (AV.Le.refl _) (.cons (AV.Le.refl _) .nil)) rfl ?_
            rintro x hx rfl
            rw [cmpR_self]
            refine wn ?_
            refine exI_i64 (by show -9223372036854775808 ≤ (j : Int) + 1; omega) (by show (j : Int) + 1 ≤ 9223372036854775807; omega) ?_
            refine wn ?_
            refine ⟨(j + 1, P), ⟨by show j + 1 ≤ 4; omega, by assumption⟩, by show 4 - (j + 1) < 4 - j; omega, ?_⟩
            exact (Tr.ofId rfl rfl (by decide) (by exact Nat.le_of_ble_eq_true rfl) ⟨⟨rfl, rfl⟩, ⟨rfl, rfl⟩, ⟨rfl, rfl⟩, ⟨rfl, rfl⟩, ⟨rfl, rfl⟩, ⟨rfl, rfl⟩, ⟨rfl, rfl⟩, ⟨rfl, rfl⟩, ⟨rfl, rfl⟩, ⟨rfl, rfl⟩, trivial⟩ ⟨⟨rfl, rfl, by decide⟩, ⟨rfl, rfl, by decide⟩, ⟨rfl, rfl, by decide⟩, ⟨rfl, rfl, by decide⟩, ⟨rfl, rfl, by decide⟩, trivial⟩)
          | some r =>
            have hrr := getR_ok hg.tab hge
            have hr9 : r.length ≤ 9223372036854775807 := Nat.le_trans hrr (by decide)
            refine wn ?_
            refine callX_le (rget_spec S X (j) (K) hg.tab (hKo)) callee20 rfl rfl (.cons (AV.Le.refl _) (.cons (AV.Le.refl _) (.cons (AV.Le.refl _) (.cons (AV.Le.refl _) .nil)))) rfl ?_
            rintro x hx rfl
            rw [hge]
            refine wn ?_
            refine callX_le (rcompareRows_spec r r hr9 hr9) callee21 rfl rfl (.cons (AV.Le.refl _) (.cons (AV.Le.refl _) .nil)) rfl ?_
            rintro x hx rfl
            rw [cmpR_self]
            refine wn ?_
            refine exI_i64 (by show -9223372036854775808 ≤ (j : Int) + 1; omega) (by show (j : Int) + 1 ≤ 9223372036854775807; omega) ?_
            refine wn ?_
            refine ⟨(j + 1, P), ⟨by show j + 1 ≤ 4; omega, by assumption⟩, by show 4 - (j + 1) < 4 - j; omega, ?_⟩
            exact (Tr.ofId rfl rfl (by decide) (by exact Nat.le_of_ble_eq_true rfl) ⟨⟨rfl, rfl⟩, ⟨rfl, rfl⟩, ⟨rfl, rfl⟩, ⟨rfl, rfl⟩, ⟨rfl, rfl⟩, ⟨rfl, rfl⟩, ⟨rfl, rfl⟩, ⟨rfl, rfl⟩, ⟨rfl, rfl⟩, ⟨rfl, rfl⟩, trivial⟩ ⟨⟨rfl, rfl, by decide⟩, ⟨rfl, rfl, by decide⟩, ⟨rfl, rfl, by decide⟩, ⟨rfl, rfl, by decide⟩, ⟨rfl, rfl, by decide⟩, trivial⟩)
      · refine wn ?_
        refine callX_le (get_spec S X (j) (K) hg.tab (hKo)) callee19 rfl rfl (.cons (AV.Le.refl _) (.cons (AV.Le.refl _) (.cons (AV.Le.refl _) (.cons (AV.Le.refl _) .nil)))) rfl ?_
        rintro x hx rfl
        obtain ⟨g, hge⟩ : ∃ g, getR S X (j) (K) = g := ⟨_, rfl⟩
        rw [hge]
        cases g with
        | none =>
          refine wn ?_
          refine callX_le (rget_spec S X (j) (K) hg.tab (hKo)) callee20 rfl rfl (.cons (AV.Le.refl _) (.cons (AV.Le.refl _) (.cons (AV.Le.refl _) (.cons (AV.Le.refl _) .nil)))) rfl ?_
          rintro x hx rfl
          rw [hge]
          refine wn ?_
          refine callX_le (rcompareRows_spec [] [] (by simp) (by simp)) callee21 rfl rfl (.cons (AV.Le.refl _) (.cons (AV.Le.refl _) .nil)) rfl ?_
          rintro x hx rfl
          rw [cmpR_self]
          refine wn ?_
          refine exI_i64 (by show -9223372036854775808 ≤ (j : Int) + 1; omega) (by show (j : Int) + 1 ≤ 9223372036854775807; omega) ?_
          refine wn ?_
          refine ⟨(j + 1, P), ⟨by show j + 1 ≤ 4; omega, by assumption⟩, by show 4 - (j + 1) < 4 - j; omega, ?_⟩
          exact (Tr.ofId rfl rfl (by decide) (by exact Nat.le_of_ble_eq_true rfl) ⟨⟨rfl, rfl⟩, ⟨rfl, rfl⟩, ⟨rfl, rfl⟩, ⟨rfl, rfl⟩, ⟨rfl, rfl⟩, ⟨rfl, rfl⟩, ⟨rfl, rfl⟩, ⟨rfl, rfl⟩, ⟨rfl, rfl⟩, ⟨rfl, rfl⟩, trivial⟩ ⟨⟨rfl, rfl, by decide⟩, ⟨rfl, rfl, by decide⟩, ⟨rfl, rfl, by decide⟩, ⟨rfl, rfl, by decide⟩, ⟨rfl, rfl, by decide⟩, trivial⟩)
        | some r =>
          have hrr := getR_ok hg.tab hge
          have hr9 : r.length ≤ 9223372036854775807 := Nat.le_trans hrr (by decide)
          refine wn ?_
          refine callX_le (rget_spec S X (j) (K) hg.tab (hKo)) callee20 rfl rfl (.cons (AV.Le.refl _) (.cons (AV.Le.refl _) (.cons (AV.Le.refl _) (.cons (AV.Le.refl _) .nil)))) rfl ?_
          rintro x hx rfl
          rw [hge]
          refine wn ?_
          refine callX_le (rcompareRows_spec r r hr9 hr9) callee21 rfl rfl (.cons (AV.Le.refl _) (.cons (AV.Le.refl _) .nil)) rfl ?_
          rintro x hx rfl
          rw [cmpR_self]
          refine wn ?_
          refine exI_i64 (by show -9223372036854775808 ≤ (j : Int) + 1; omega) (by show (j : Int) + 1 ≤ 9223372036854775807; omega) ?_
          refine wn ?_
          refine ⟨(j + 1, P), ⟨by show j + 1 ≤ 4; omega, by assumption⟩, by show 4 - (j + 1) < 4 - j; omega, ?_⟩
          exact (Tr.ofId rfl rfl (by decide) (by exact Nat.le_of_ble_eq_true rfl) ⟨⟨rfl, rfl⟩, ⟨rfl, rfl⟩, ⟨rfl, rfl⟩, ⟨rfl, rfl⟩, ⟨rfl, rfl⟩, ⟨rfl, rfl⟩, ⟨rfl, rfl⟩, ⟨rfl, rfl⟩, ⟨rfl, rfl⟩, ⟨rfl, rfl⟩, trivial⟩ ⟨⟨rfl, rfl, by decide⟩, ⟨rfl, rfl, by decide⟩, ⟨rfl, rfl, by decide⟩, ⟨rfl, rfl, by decide⟩, ⟨rfl, rfl, by decide⟩, trivial⟩)
    · refine wn ?_
      refine callX_le (get_spec S X (t) (key) hg.tab (hkey)) callee19 rfl rfl (.cons (AV.Le.refl _) (.cons (AV.Le.refl _) (.cons (AV.Le.refl _) (.cons (AV.Le.refl _) .nil)))) rfl ?_
      rintro x hx rfl
      obtain ⟨g, hge⟩ : ∃ g, getR S X (t) (key) = g := ⟨_, rfl⟩
      rw [hge]
      cases g with
      | none =>
        refine wn ?_
        refine callX_le (rget_spec S X (t) (key) hg.tab (hkey)) callee20 rfl rfl (.cons (AV.Le.refl _) (.cons (AV.Le.refl _) (.cons (AV.Le.refl _) (.cons (AV.Le.refl _) .nil)))) rfl ?_
        rintro x hx rfl
        rw [hge]
        refine wn ?_
        refine callX_le (rcompareRows_spec [] [] (by simp) (by simp)) callee21 rfl rfl (.cons (AV.Le.refl _) (.cons (AV.Le.refl _) .nil)) rfl ?_
        rintro x hx rfl
        rw [cmpR_self]
        refine wn ?_
        refine exI_i64 (by show -9223372036854775808 ≤ (i : Int) + 1; omega) (by show (i : Int) + 1 ≤ 9223372036854775807; omega) ?_
        refine wn ?_
        refine ⟨(i + 1, p), ⟨by show i + 1 ≤ 3; omega, by assumption⟩, by show 3 - (i + 1) < 3 - i; omega, ?_⟩
        exact (Tr.ofId rfl rfl (by decide) (by exact Nat.le_of_ble_eq_true rfl) ⟨⟨rfl, rfl⟩, ⟨rfl, rfl⟩, ⟨rfl, rfl⟩, ⟨rfl, rfl⟩, ⟨rfl, rfl⟩, ⟨rfl, rfl⟩, ⟨rfl, rfl⟩, ⟨rfl, rfl⟩, trivial⟩ ⟨⟨rfl, rfl, by decide⟩, ⟨rfl, rfl, by decide⟩, ⟨rfl, rfl, by decide⟩, ⟨rfl, rfl, by decide⟩, trivial⟩)
      | some r =>
        have hrr := getR_ok hg.tab hge
        have hr9 : r.length ≤ 9223372036854775807 := Nat.le_trans hrr (by decide)
        refine wn ?_
        refine callX_le (rget_spec S X (t) (key) hg.tab (hkey)) callee20 rfl rfl (.cons (AV.Le.refl _) (.cons (AV.Le.refl _) (.cons (AV.Le.refl _) (.cons (AV.Le.refl _) .nil)))) rfl ?_
        rintro x hx rfl
        rw [hge]
        refine wn ?_
        refine callX_le (rcompareRows_spec r r hr9 hr9) callee21 rfl rfl (.cons (AV.Le.refl _) (.cons (AV.Le.refl _) .nil)) rfl ?_
        rintro x hx rfl
        rw [cmpR_self]
        refine wn ?_
        refine exI_i64 (by show -9223372036854775808 ≤ (i : Int) + 1; omega) (by show (i : Int) + 1 ≤ 9223372036854775807; omega) ?_
        refine wn ?_
        refine ⟨(i + 1, p), ⟨by show i + 1 ≤ 3; omega, by assumption⟩, by show 3 - (i + 1) < 3 - i; omega, ?_⟩
        exact (Tr.ofId rfl rfl (by decide) (by exact Nat.le_of_ble_eq_true rfl) ⟨⟨rfl, rfl⟩, ⟨rfl, rfl⟩, ⟨rfl, rfl⟩, ⟨rfl, rfl⟩, ⟨rfl, rfl⟩, ⟨rfl, rfl⟩, ⟨rfl, rfl⟩, ⟨rfl, rfl⟩, trivial⟩ ⟨⟨rfl, rfl, by decide⟩, ⟨rfl, rfl, by decide⟩, ⟨rfl, rfl, by decide⟩, ⟨rfl, rfl, by decide⟩, trivial⟩)
  · refine wn ?_
    refine callX_le begun_spec (callee_of Try.func22 rfl rfl) rfl rfl .nil rfl ?_
    rintro x hx rfl
    refine wn ?_
    refine retX_val rfl ?_
    conv => whnf
    rfl
end Go.Proofs.Ve

