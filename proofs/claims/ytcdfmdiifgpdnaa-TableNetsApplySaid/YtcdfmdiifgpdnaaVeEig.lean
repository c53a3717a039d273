/-
  VeEig: joined by wip/tools/merge.py out of VeKe VeKf VeJ3 VeKj.
-/
import Derived.Test.YtcdfmdiifgpdnaaVeSev
import Derived.Test.YtcdfmdiifgpdnaaVeTri
import Derived.Test.YtcdfmdiifgpdnaaVeSix
import Derived.Test.YtcdfmdiifgpdnaaVeFiv
/-
  VeKe: the case generator: facts about schemas; rows of any cells.
-/
set_option linter.unusedVariables false
set_option linter.unusedSimpArgs false
set_option pp.maxSteps 2000
set_option maxHeartbeats 4000000
namespace Go.Proofs.Ve
open Go

theorem callee10 : callee Try.prog 10 := callee_of Try.func10 rfl rfl
def scIs (cs : List Int) (q : Sch × Nat) : Prop := (∃ n id r1 r2 r3 ck, q.1.tables = scTabs n id r1 r2 r3 ck) ∧ q.2 ≤ cs.length
theorem scG4_is {cs : List Int} {n : Nat} {ver id : Int} {r1 r2 r3 : List Ref} {p : Nat} (hp : p ≤ cs.length) : scIs cs (scG4 cs n ver id r1 r2 r3 p) := by
  unfold scG4
  cases boolG cs 3 p
  · exact ⟨⟨n, id, r1, r2, r3, _, rfl⟩, intP_in hp⟩
  · exact ⟨⟨n, id, r1, r2, r3, _, rfl⟩, treeG1_in (intP_in hp)⟩
theorem scG3_is {cs : List Int} {n : Nat} {ver id : Int} {r1 r2 : List Ref} {p : Nat} (hp : p ≤ cs.length) : scIs cs (scG3 cs n ver id r1 r2 p) := by
  unfold scG3
  split
  · cases boolG cs 3 p
    · exact scG4_is (intP_in hp)
    · exact scG4_is (intP_in hp)
  · exact scG4_is hp
theorem scG2_is {cs : List Int} {n : Nat} {ver id : Int} {r1 : List Ref} {p : Nat} (hp : p ≤ cs.length) : scIs cs (scG2 cs n ver id r1 p) := by
  unfold scG2
  split
  · exact scG3_is hp
  · cases boolG cs 3 p
    · exact scG3_is (intP_in hp)
    · exact scG3_is (intP_in hp)
theorem scG1_is {cs : List Int} {n : Nat} {ver id : Int} {p : Nat} (hp : p ≤ cs.length) : scIs cs (scG1 cs n ver id p) := by
  unfold scG1
  cases boolG cs 2 p
  · exact scG2_is (intP_in hp)
  · exact scG2_is (intP_in hp)
theorem schemaG_is {cs : List Int} {p : Nat} (hp : p ≤ cs.length) : scIs cs (schemaG cs p) := by
  unfold schemaG
  cases boolG cs 5 (intP cs 3 p)
  · exact scG1_is (intP_in (intP_in (intP_in hp)))
  · exact scG1_is (intP_in (intP_in (intP_in hp)))
theorem schemaG_cols {cs : List Int} {p : Nat} (hp : p ≤ cs.length) : ∀ T ∈ (schemaG cs p).1.tables, 1 ≤ T.cols.length ∧ T.cols.length ≤ 4 := by
  obtain ⟨⟨n, id, r1, r2, r3, ck, e⟩, _⟩ := schemaG_is hp
  rw [e]
  exact sc_hs n id r1 r2 r3 ck
theorem schemaG_len {cs : List Int} {p : Nat} (hp : p ≤ cs.length) : (schemaG cs p).1.tables.length ≤ 4 := by
  obtain ⟨⟨n, id, r1, r2, r3, ck, e⟩, _⟩ := schemaG_is hp
  rw [e]
  unfold scTabs
  split <;> simp
theorem schemaG_in {cs : List Int} {p : Nat} (hp : p ≤ cs.length) : (schemaG cs p).2 ≤ cs.length := (schemaG_is hp).2

/-- Any cells. -/
def cellsG (cs : List Int) : Nat → Nat → Row × Nat
  | 0, p => ([], p)
  | n + 1, p => (anyG cs p :: (cellsG cs n (anyP cs p)).1, (cellsG cs n (anyP cs p)).2)
theorem cellsG_in {cs : List Int} : ∀ {n p : Nat}, p ≤ cs.length → (cellsG cs n p).2 ≤ cs.length
  | 0, p, h => h
  | n + 1, p, h => cellsG_in (n := n) (anyP_in h)
theorem cellsG_len (cs : List Int) : ∀ (n p : Nat), (cellsG cs n p).1.length = n
  | 0, p => rfl
  | n + 1, p => congrArg (· + 1) (cellsG_len cs n _)
def clA (cs : List Int) (m p : Nat) (acc : Row) : AS := AS.of 16 1 2 [(0, .one (.ptr 0 0)), (1, .one (.int .i64 (m : Nat))), (5, .one (.gref 1))] [(0, caseO cs p), (1, ⟨58, 3, 32, acc.flatMap vC⟩)]
theorem cells_spec (cs : List Int) (h : ok8 cs) (n : Nat) (hn : n ≤ 1000) (p : Nat) (hp : p ≤ cs.length) :
    MSpec Try.prog 38 [.one (.ptr 0 0), .one (.int .i64 n)] (caseO cs p) (caseO cs (cellsG cs n p).2) (.one (rowC (cellsG cs n p).1)) := by
  refine mspec_x env08_ok mixed08 Try.func38 rfl 16 rfl _ rfl rfl ?_
  refine wn ?_
  obtain ⟨K, hK⟩ : ∃ K, cellsG cs n p = K := ⟨_, rfl⟩
  rw [hK]
  refine loopX_of env08_ok mixed08 (σ := Nat × Nat × Row) (fun q => clA cs q.1 q.2.1 q.2.2) (fun q => q.1 ≤ n ∧ q.2.2.length + q.1 = n ∧ q.2.1 ≤ cs.length ∧ K = (q.2.2 ++ (cellsG cs q.1 q.2.1).1, (cellsG cs q.1 q.2.1).2)) (fun q => q.1) (n, p, []) (fun _ => rfl)
    (Tr.trans (Tr.nilSlot 5 58 3 32 (by decide) rfl) tid) ⟨Nat.le_refl _, Nat.zero_add _, hp, hK.symm⟩ ?_
  rintro ⟨m, p3, acc⟩ ⟨hm, hacc, hp3, hk⟩
  have hm : m ≤ n := hm
  have hacc : acc.length + m = n := hacc
  have hp3 : p3 ≤ cs.length := hp3
  have hk : K = (acc ++ (cellsG cs m p3).1, (cellsG cs m p3).2) := hk
  refine wn ?_
  refine forkB_dec (fun h5 => ?_) (fun h5 => ?_)
  · obtain ⟨k, rfl⟩ : ∃ k, m = k + 1 := ⟨m - 1, by have h5 : (m : Int) > 0 := h5; omega⟩
    rw [cellsG] at hk
    refine wn ?_
    refine cm (any_spec cs h p3 hp3) (callee39) ?_
    refine wn ?_
    try (refine rq ?_)
    refine wn ?_
    refine reqD_dec (flat_div vC_len (by decide) _) ?_
    refine reqD_dec (by simp only [flat_len vC_len]; simp [ty58, ty27]; omega) ?_
    refine forceL_as ((acc ++ [anyG cs p3]).flatMap vC) (by rw [List.flatMap_append]; rfl) ?_
    refine wn ?_
    refine exI_as (k : Int) (by show IntKind.i64.wrap (((k + 1 : Nat) : Int) - 1) = _; unfold IntKind.wrap; simp [IntKind.signed, IntKind.bits]; split <;> omega) ?_
    refine wn ?_
    refine ⟨(k, anyP cs p3, acc ++ [anyG cs p3]), ⟨by show k ≤ n; omega, by show (acc ++ [anyG cs p3]).length + k = n; rw [List.length_append]; show acc.length + 1 + k = n; omega, anyP_in hp3, by rw [hk]; simp⟩, by show k < k + 1; omega, ?_⟩
    exact (tmv 1 3 ⟨⟨rfl, rfl, by decide⟩, ⟨(congrArg some (ob_ren_deep (mv 1 3) (all_flat vC_deep (acc ++ ((anyG cs p3) :: List.nil))))).symm, ob_lt_deep _ (all_flat vC_deep _), by decide⟩, trivial⟩)
  · have em : m = 0 := by have h5 : ¬ (m : Int) > 0 := h5; omega
    subst em
    rw [cellsG, List.append_nil] at hk
    rw [hk]
    refine wn ?_
    refine retX_tr (Tr.frz' (T := 58) (s := 3) (B := 32) (cells := acc.flatMap vC) 1 acc.length (by rfl) (by decide) (flat_len vC_len _) (all_flat vC_deep _)) ?_
    refine rtm ?_
    (conv => lhs; whnf)
    rfl
theorem callee38 : callee Try.prog 38 := callee_of Try.func38 rfl rfl
end Go.Proofs.Ve


/-
  VeKf: the reference's copy of a state: row k of table i is known as an object of its own.
-/
set_option linter.unusedVariables false
set_option linter.unusedSimpArgs false
set_option pp.maxSteps 2000
set_option maxHeartbeats 4000000
namespace Go.Proofs.Ve
open Go

theorem rcopyN_spec (r : Row) (hr : okR r) : NSpec Try.prog 40 [.one (rowC r)] (.one (.gref 0)) ⟨58, 3, 32, r.flatMap vC⟩ := by
  refine nspec_x env08_ok mixed08 Try.func40 rfl 5 rfl _ rfl rfl ?_
  unfold okR at hr
  refine wn ?_
  refine reqD_dec (flat_len vC_len _) ?_
  refine wn ?_
  refine reqD_dec (by simp [ty58]; omega) ?_
  refine forceL_as (r.flatMap vC) rfl ?_
  refine wn ?_
  exact retX_new 0 rfl (by exact Nat.le_of_ble_eq_true rfl) (congrArg some (ob_ren_deep _ (all_flat vC_deep r)).symm) (ob_lt_deep 1 (all_flat vC_deep r)) rfl rfl

def rowX (r : Row) : Ob := ⟨58, 3, 32, r.flatMap vC⟩
def tabX (l : Tab) (k R : Nat) : Ob := ⟨27, 1, 24, (l.flatMap rowC1).set k (.gref R)⟩
def stX (st : St) (i L : Nat) : Ob := ⟨41, 1, 24, (st.flatMap tabC1).set i (.gref L)⟩
theorem rowX_ren (r : Row) (ρ : Nat → Nat) : (rowX r).ren ρ = rowX r := ob_ren_deep ρ (all_flat vC_deep r)
theorem rowX_lt (r : Row) (n : Nat) : (rowX r).lt n = true := ob_lt_deep n (all_flat vC_deep r)
theorem tabX_ren (l : Tab) (k R : Nat) (ρ : Nat → Nat) : (tabX l k R).ren ρ = tabX l k (ρ R) := ob_ren_set ρ (all_flat rowC1_deep l)
theorem tabX_lt (l : Tab) (k R n : Nat) (h : R < n) : (tabX l k R).lt n = true := ob_lt_set n (all_flat rowC1_deep l) (by simp [AC.lt, h])
theorem stX_ren (st : St) (i L : Nat) (ρ : Nat → Nat) : (stX st i L).ren ρ = stX st i (ρ L) := ob_ren_set ρ (all_flat tabC1_deep st)
theorem stX_lt (st : St) (i L n : Nat) (h : L < n) : (stX st i L).lt n = true := ob_lt_set n (all_flat tabC1_deep st) (by simp [AC.lt, h])

def coA (st : St) (i k t : Nat) (LX : Tab) (RX : Row) : AS := AS.of 36 0 6 [(2, .one (.ptr 1 0)), (3, .one (.ptr 2 0)), (10, .one (tabsC st)), (11, .one (.int .i64 st.length)), (12, .one (.int .i64 (t : Nat)))]
  [(1, ⟨25, 0, 0, [nilC]⟩), (2, ⟨25, 0, 0, [.gref 3]⟩), (3, stX (st.take t) i 4), (4, tabX LX k 5), (5, rowX RX)]
/-- Within a table that is copied row by row. -/
def cpA (st : St) (i k t : Nat) (LX : Tab) (RX : Row) (l : Tab) (j : Nat) : AS := AS.of 36 0 7 [(2, .one (.ptr 1 0)), (3, .one (.ptr 2 0)), (10, .one (tabsC st)), (11, .one (.int .i64 st.length)), (12, .one (.int .i64 (t : Nat))), (6, .one (.gref 6)), (16, .one (tabC l)), (17, .one (.int .i64 l.length)), (18, .one (.int .i64 (j : Nat)))]
  [(1, ⟨25, 0, 0, [nilC]⟩), (2, ⟨25, 0, 0, [.gref 3]⟩), (3, stX (st.take t) i 4), (4, tabX LX k 5), (5, rowX RX), (6, ⟨27, 1, 24, (l.take j).flatMap rowC1⟩)]
def cqA (st : St) (i k t : Nat) (RX : Row) (l : Tab) (j : Nat) : AS := AS.of 36 0 7 [(2, .one (.ptr 1 0)), (3, .one (.ptr 2 0)), (10, .one (tabsC st)), (11, .one (.int .i64 st.length)), (12, .one (.int .i64 (t : Nat))), (6, .one (.gref 6)), (16, .one (tabC l)), (17, .one (.int .i64 l.length)), (18, .one (.int .i64 (j : Nat)))]
  [(1, ⟨25, 0, 0, [nilC]⟩), (2, ⟨25, 0, 0, [.gref 3]⟩), (3, stX (st.take t) i 4), (5, rowX RX), (6, tabX (l.take j) k 5)]
def copyL (st : St) (i : Nat) : Tab := st.getD i []
def copyR (st : St) (i k : Nat) : Row := (copyL st i).getD k []

def coB (st : St) (i k t : Nat) (LX : Tab) (RX : Row) (l : Tab) : AS := AS.of 36 0 6 [(2, .one (.ptr 1 0)), (3, .one (.ptr 2 0)), (10, .one (tabsC st)), (11, .one (.int .i64 st.length)), (12, .one (.int .i64 (t : Nat))), (6, .one (tabC l))]
  [(1, ⟨25, 0, 0, [nilC]⟩), (2, ⟨25, 0, 0, [.gref 3]⟩), (3, stX (st.take t) i 4), (4, tabX LX k 5), (5, rowX RX)]
theorem copy_spec (st : St) (i k : Nat) (h1 : st.length ≤ 1099511627776) (hok : ∀ l ∈ st, okT l) (hok2 : ∀ l ∈ st, l.length ≤ 1099511627776) :
    NSpec3 Try.prog 31 [.agg (stC st)] (.agg [.gref 0]) (stX st i 1) (tabX (copyL st i) k 2) (rowX (copyR st i k)) := by
  refine nspec3_x env08_ok mixed08 Try.func31 rfl 36 rfl _ rfl rfl ?_
  refine wn ?_
  refine exI_as _ rfl ?_
  refine wn ?_
  refine loopX_of env08_ok mixed08 (σ := Nat × Tab × Row) (fun q => coA st i k q.1 q.2.1 q.2.2) (fun q => q.1 ≤ st.length ∧ (q.1 ≤ i → q.2.1 = [] ∧ q.2.2 = []) ∧ (i < q.1 → q.2.1 = copyL st i ∧ q.2.2 = copyR st i k)) (fun q => st.length - q.1) (0, [], []) (fun _ => rfl)
    ?_ ⟨Nat.zero_le _, fun _ => ⟨rfl, rfl⟩, fun h => absurd h (Nat.not_lt_zero _)⟩ ?_
  · refine Tr.trans (Tr.nilCell 2 0 41 1 24 (by decide) (by rfl) (by rfl)) ?_
    refine Tr.trans (Tr.newNil 27 1 24 (by decide)) ?_
    refine Tr.trans (Tr.newNil 58 3 32 (by decide)) ?_
    exact tid
  rintro ⟨t, LX, RX⟩ ⟨ht, hA, hB⟩
  have ht : t ≤ st.length := ht
  have hA : t ≤ i → LX = [] ∧ RX = [] := hA
  have hB : i < t → LX = copyL st i ∧ RX = copyR st i k := hB
  refine wn ?_
  refine forkB_dec (fun h1 => ?_) (fun h1 => ?_)
  · have ht2 : t < st.length := by have h1 : (t : Int) < st.length := h1; omega
    have hl := hok _ (List.getElem_mem ht2)
    have hll := hok2 _ (List.getElem_mem ht2)
    have hgd : copyL st t = st[t] := by unfold copyL; rw [List.getD_eq_getElem?_getD, List.getElem?_eq_getElem ht2, Option.getD_some]
    obtain ⟨l, hle⟩ : ∃ l, st[t] = l := ⟨_, rfl⟩
    rw [hle] at hl hll hgd
    have htk : st.take (t + 1) = st.take t ++ [l] := by rw [List.take_succ_eq_append_getElem ht2, hle]
    have htl : ((st.take t).flatMap tabC1).length = t := by rw [flat_len tabC1_len, List.length_take]; omega
    refine wn ?_
    refine rq ?_
    refine forceL_as (tabC1 l) ((flat_get (f := tabC1) tabC1_len st t ht2).trans (by rw [hle])) ?_
    refine wn ?_
    refine exI_as _ rfl ?_
    refine wn ?_
    refine loopX_out ?_
    by_cases hti : t = i
    · subst hti
      obtain ⟨rfl, rfl⟩ := hA (Nat.le_refl _)
      have hgr : copyR st t k = l.getD k [] := by unfold copyR; rw [hgd]
      refine loopX_of env08_ok mixed08 (σ := Nat × Row) (fun q => cqA st t k t q.2 l q.1) (fun q => q.1 ≤ l.length ∧ (q.1 ≤ k → q.2 = []) ∧ (k < q.1 → q.2 = l.getD k [])) (fun q => l.length - q.1) (0, []) (fun _ => rfl) ?_ ⟨Nat.zero_le _, fun _ => rfl, fun h => absurd h (Nat.not_lt_zero _)⟩ ?_
      · refine Tr.trans (Tr.nilSlot 6 27 1 24 (by decide) rfl) ?_
        exact (tid ⟨⟨rfl, rfl, by decide⟩, ⟨rfl, rfl, by decide⟩, ⟨(congrArg some (stX_ren (st.take t) t 4 id)).symm, stX_lt _ _ _ _ (by decide), by decide⟩, ⟨(congrArg some (rowX_ren List.nil id)).symm, rowX_lt _ _, by decide⟩, ⟨rfl, rfl, by decide⟩, trivial⟩)
      rintro ⟨j, RX⟩ ⟨hj, hA, hB⟩
      have hj : j ≤ l.length := hj
      have hA : j ≤ k → RX = [] := hA
      have hB : k < j → RX = l.getD k [] := hB
      refine wn ?_
      refine forkB_dec (fun h2 => ?_) (fun h2 => ?_)
      · have hj2 : j < l.length := by have h2 : (j : Int) < l.length := h2; omega
        have hr := hl.2 _ (List.getElem_mem hj2)
        have hgk : l.getD j [] = l[j] := by rw [List.getD_eq_getElem?_getD, List.getElem?_eq_getElem hj2, Option.getD_some]
        obtain ⟨r, hre⟩ : ∃ r, l[j] = r := ⟨_, rfl⟩
        rw [hre] at hr hgk
        have hlk : l.take (j + 1) = l.take j ++ [r] := by rw [List.take_succ_eq_append_getElem hj2, hre]
        have hjl : ((l.take j).flatMap rowC1).length = j := by rw [flat_len rowC1_len, List.length_take]; omega
        by_cases hjk : j = k
        · subst hjk
          have hR := hA (Nat.le_refl _)
          subst hR
          refine wn ?_
          refine rq ?_
          refine forceL_as (rowC1 r) ((flat_get (f := rowC1) rowC1_len l j hj2).trans (by rw [hre])) ?_
          refine wn ?_
          refine callX_new (rcopyN_spec r hr) callee40 (fun n => .one (.gref n)) (fun n => by simp [AV.ren, AC.ren, cren]) (fun ρ => rowX_ren r ρ) rfl rfl (.cons (AV.Le.refl _) .nil) rfl ?_
          refine wn ?_
          try (refine rq ?_)
          refine wn ?_
          refine reqD_dec (by simp [ty27, tabX, flat_len rowC1_len]; omega) ?_
          refine forceL_as (((l.take (j + 1)).flatMap rowC1).set j (.gref 7)) (by rw [hlk, List.flatMap_append]; exact set_snoc_eq' _ _ _ _ _ hjl.symm) ?_
          refine wn ?_
          refine exI_i64 (by show -9223372036854775808 ≤ (j : Int) + 1; omega) (by show (j : Int) + 1 ≤ 9223372036854775807; omega) ?_
          refine wn ?_
          refine ⟨(j + 1, r), ⟨by show j + 1 ≤ l.length; omega, fun h => by have h : j + 1 ≤ j := h; omega, fun _ => hgk.symm⟩, by show l.length - (j + 1) < l.length - j; omega, ?_⟩
          exact (tml [(5, 7), (6, 9)] 10 ⟨⟨rfl, rfl, by decide⟩, ⟨rfl, rfl, by decide⟩, ⟨(congrArg some (stX_ren (st.take t) t 4 (mvL [(5, 7), (6, 9)]))).symm, stX_lt _ _ _ _ (by decide), by decide⟩, ⟨(congrArg some (rowX_ren r (mvL [(5, 7), (6, 9)]))).symm, rowX_lt _ _, by decide⟩, ⟨(congrArg some (tabX_ren (l.take (j + 1)) j 5 (mvL [(5, 7), (6, 9)]))).symm, tabX_lt _ _ _ _ (by decide), by decide⟩, trivial⟩)
        · refine wn ?_
          refine rq ?_
          refine forceL_as (rowC1 r) ((flat_get (f := rowC1) rowC1_len l j hj2).trans (by rw [hre])) ?_
          refine wn ?_
          refine cle (rcopy_spec r hr) callee40 ?_
          rintro x hx rfl
          refine wn ?_
          try (refine rq ?_)
          refine wn ?_
          refine reqD_dec (by simp [ty27]) ?_
          refine reqD_dec (by simp [ty27, tabX, flat_len rowC1_len]; omega) ?_
          refine forceL_as (((l.take (j + 1)).flatMap rowC1).set k (.gref 5)) (by rw [hlk, List.flatMap_append]; exact set_snoc_ne ((l.take j).flatMap rowC1) _ _ k (by omega)) ?_
          refine wn ?_
          refine exI_i64 (by show -9223372036854775808 ≤ (j : Int) + 1; omega) (by show (j : Int) + 1 ≤ 9223372036854775807; omega) ?_
          refine wn ?_
          refine ⟨(j + 1, RX), ⟨by show j + 1 ≤ l.length; omega, fun h => by have h : j + 1 ≤ k := h; exact hA (by omega), fun h => by have h : k < j + 1 := h; exact hB (by omega)⟩, by show l.length - (j + 1) < l.length - j; omega, ?_⟩
          exact (tml [(6, 8)] 9 ⟨⟨rfl, rfl, by decide⟩, ⟨rfl, rfl, by decide⟩, ⟨(congrArg some (stX_ren (st.take t) t 4 (mvL [(6, 8)]))).symm, stX_lt _ _ _ _ (by decide), by decide⟩, ⟨(congrArg some (rowX_ren RX (mvL [(6, 8)]))).symm, rowX_lt _ _, by decide⟩, ⟨(congrArg some (tabX_ren (l.take (j + 1)) k 5 (mvL [(6, 8)]))).symm, tabX_lt _ _ _ _ (by decide), by decide⟩, trivial⟩)
      · have ej : j = l.length := by have h2 : ¬ (j : Int) < l.length := h2; omega
        subst ej
        have hRX : RX = copyR st t k := by
          rw [hgr]
          by_cases hkl : k < l.length
          · exact hB hkl
          · rw [hA (by omega), List.getD_eq_getElem?_getD, List.getElem?_eq_none (by omega)]
            rfl
        refine wn ?_
        refine ⟨_, Tr.refl _, rfl, ?_⟩
        refine wn ?_
        try (refine rq ?_)
        refine wn ?_
        refine reqD_dec (by simp [ty41, stX, flat_len tabC1_len]; omega) ?_
        refine forceL_as (((st.take (t + 1)).flatMap tabC1).set t (.gref 6)) (by rw [htk, List.flatMap_append]; exact set_snoc_eq' _ _ _ _ _ htl.symm) ?_
        refine wn ?_
        refine exI_i64 (by show -9223372036854775808 ≤ (t : Int) + 1; omega) (by show (t : Int) + 1 ≤ 9223372036854775807; omega) ?_
        refine wn ?_
        refine ⟨(t + 1, l, RX), ⟨by show t + 1 ≤ st.length; omega, fun h => by have h : t + 1 ≤ t := h; omega, fun _ => ⟨hgd.symm, hRX⟩⟩, by show st.length - (t + 1) < st.length - t; omega, ?_⟩
        exact (tml [(3, 8), (4, 6)] 9 ⟨⟨rfl, rfl, by decide⟩, ⟨rfl, rfl, by decide⟩, ⟨(congrArg some (stX_ren (st.take (t + 1)) t 4 (mvL [(3, 8), (4, 6)]))).symm, stX_lt _ _ _ _ (by decide), by decide⟩, ⟨(congrArg some ((tabX_ren l k 5 (mvL [(3, 8), (4, 6)])).trans (congrArg (fun z => Ob.mk 27 1 24 ((List.flatMap rowC1 z).set k (AC.gref 5))) (List.take_length (l := l)).symm))).symm, tabX_lt _ _ _ _ (by decide), by decide⟩, ⟨(congrArg some (rowX_ren RX (mvL [(3, 8), (4, 6)]))).symm, rowX_lt _ _, by decide⟩, trivial⟩)
    · refine loopX_of env08_ok mixed08 (σ := Nat) (cpA st i k t LX RX l) (fun j => j ≤ l.length) (fun j => l.length - j) 0 (fun _ => rfl) ?_ (Nat.zero_le _) ?_
      · refine Tr.trans (Tr.nilSlot 6 27 1 24 (by decide) rfl) ?_
        exact (tid ⟨⟨rfl, rfl, by decide⟩, ⟨rfl, rfl, by decide⟩, ⟨(congrArg some (stX_ren (st.take t) i 4 id)).symm, stX_lt _ _ _ _ (by decide), by decide⟩, ⟨(congrArg some (tabX_ren LX k 5 id)).symm, tabX_lt _ _ _ _ (by decide), by decide⟩, ⟨(congrArg some (rowX_ren RX id)).symm, rowX_lt _ _, by decide⟩, ⟨rfl, rfl, by decide⟩, trivial⟩)
      intro j hj
      have hj : j ≤ l.length := hj
      refine wn ?_
      refine forkB_dec (fun h2 => ?_) (fun h2 => ?_)
      · have hj2 : j < l.length := by have h2 : (j : Int) < l.length := h2; omega
        have hr := hl.2 _ (List.getElem_mem hj2)
        obtain ⟨r, hre⟩ : ∃ r, l[j] = r := ⟨_, rfl⟩
        rw [hre] at hr
        have hlk : l.take (j + 1) = l.take j ++ [r] := by rw [List.take_succ_eq_append_getElem hj2, hre]
        refine wn ?_
        refine rq ?_
        refine forceL_as (rowC1 r) ((flat_get (f := rowC1) rowC1_len l j hj2).trans (by rw [hre])) ?_
        refine wn ?_
        refine cle (rcopy_spec r hr) callee40 ?_
        rintro x hx rfl
        refine wn ?_
        try (refine rq ?_)
        refine wn ?_
        refine reqD_dec (flat_div rowC1_len (by decide) _) ?_
        refine reqD_dec (by simp only [flat_len rowC1_len]; simp [ty27]; omega) ?_
        refine forceL_as ((l.take (j + 1)).flatMap rowC1) (by rw [hlk, List.flatMap_append]; rfl) ?_
        refine wn ?_
        refine exI_i64 (by show -9223372036854775808 ≤ (j : Int) + 1; omega) (by show (j : Int) + 1 ≤ 9223372036854775807; omega) ?_
        refine wn ?_
        refine ⟨j + 1, by show j + 1 ≤ l.length; omega, by show l.length - (j + 1) < l.length - j; omega, ?_⟩
        exact (tml [(6, 8)] 9 ⟨⟨rfl, rfl, by decide⟩, ⟨rfl, rfl, by decide⟩, ⟨(congrArg some (stX_ren (st.take t) i 4 (mvL [(6, 8)]))).symm, stX_lt _ _ _ _ (by decide), by decide⟩, ⟨(congrArg some (tabX_ren LX k 5 (mvL [(6, 8)]))).symm, tabX_lt _ _ _ _ (by decide), by decide⟩, ⟨(congrArg some (rowX_ren RX (mvL [(6, 8)]))).symm, rowX_lt _ _, by decide⟩, ⟨(congrArg some (ob_ren_deep (mvL [(6, 8)]) (all_flat rowC1_deep _))).symm, ob_lt_deep _ (all_flat rowC1_deep _), by decide⟩, trivial⟩)
      · have ej : j = l.length := by have h2 : ¬ (j : Int) < l.length := h2; omega
        subst ej
        refine wn ?_
        obtain ⟨v, hv⟩ : ∃ v, AC.sl false 24 l.length ((l.take l.length).flatMap rowC1) = v := ⟨_, rfl⟩
        have hvl : v = tabC l := by rw [← hv, List.take_length]; rfl
        have hS3 : ((st.take t).flatMap tabC1).set i (.gref 4) = (((st.take t).flatMap tabC1).set i (.gref 4)).map (·.sub 6 v) := (sub_set (i := i) (c := .gref 4) 6 v (all_flat tabC1_deep (st.take t))).symm
        have hS4 : (LX.flatMap rowC1).set k (.gref 5) = ((LX.flatMap rowC1).set k (.gref 5)).map (·.sub 6 v) := (sub_set (i := k) (c := .gref 5) 6 v (all_flat rowC1_deep LX)).symm
        have hS5 : RX.flatMap vC = (RX.flatMap vC).map (·.sub 6 v) := (map_deep (fun c h => AC.sub_deep 6 v h) _ (all_flat vC_deep RX)).symm
        subst hv
        refine ⟨coB st i k t LX RX l, Tr.trans (Tr.frz' (T := 27) (s := 1) (B := 24) (cells := (l.take l.length).flatMap rowC1) 6 l.length (by rfl) (by decide) (by rw [flat_len rowC1_len, List.take_length]) (all_flat rowC1_deep _)) ?_, rfl, ?_⟩
        · refine Tr.ofId rfl rfl (by decide) (by exact Nat.le_of_ble_eq_true rfl) ⟨⟨rfl, rfl⟩, ⟨rfl, rfl⟩, ⟨rfl, rfl⟩, ⟨rfl, rfl⟩, ⟨rfl, rfl⟩, ⟨congrArg AV.one hvl, rfl⟩, trivial⟩ ⟨⟨rfl, rfl, by decide⟩, ⟨rfl, rfl, by decide⟩, ⟨(congrArg some ((stX_ren (st.take t) i 4 id).trans (congrArg (Ob.mk 41 1 24) hS3))).symm, stX_lt _ _ _ _ (by decide), by decide⟩, ⟨(congrArg some ((tabX_ren LX k 5 id).trans (congrArg (Ob.mk 27 1 24) hS4))).symm, tabX_lt _ _ _ _ (by decide), by decide⟩, ⟨(congrArg some ((rowX_ren RX id).trans (congrArg (Ob.mk 58 3 32) hS5))).symm, rowX_lt _ _, by decide⟩, trivial⟩
        refine wn ?_
        try (refine rq ?_)
        refine wn ?_
        refine reqD_dec (by simp [ty41]) ?_
        refine reqD_dec (by simp [ty41, stX, flat_len tabC1_len]; omega) ?_
        refine forceL_as (((st.take (t + 1)).flatMap tabC1).set i (.gref 4)) (by rw [htk, List.flatMap_append]; exact set_snoc_ne ((st.take t).flatMap tabC1) _ _ i (by omega)) ?_
        refine wn ?_
        refine exI_i64 (by show -9223372036854775808 ≤ (t : Int) + 1; omega) (by show (t : Int) + 1 ≤ 9223372036854775807; omega) ?_
        refine wn ?_
        refine ⟨(t + 1, LX, RX), ⟨by show t + 1 ≤ st.length; omega, fun h => by have h : t + 1 ≤ i := h; exact hA (by omega), fun h => by have h : i < t + 1 := h; exact hB (by omega)⟩, by show st.length - (t + 1) < st.length - t; omega, ?_⟩
        exact (tml [(3, 7)] 8 ⟨⟨rfl, rfl, by decide⟩, ⟨rfl, rfl, by decide⟩, ⟨(congrArg some (stX_ren (st.take (t + 1)) i 4 (mvL [(3, 7)]))).symm, stX_lt _ _ _ _ (by decide), by decide⟩, ⟨(congrArg some (tabX_ren LX k 5 (mvL [(3, 7)]))).symm, tabX_lt _ _ _ _ (by decide), by decide⟩, ⟨(congrArg some (rowX_ren RX (mvL [(3, 7)]))).symm, rowX_lt _ _, by decide⟩, trivial⟩)
  · have et : t = st.length := by have h1 : ¬ (t : Int) < st.length := h1; omega
    subst et
    have hLR : LX = copyL st i ∧ RX = copyR st i k := by
      by_cases hi : i < st.length
      · exact hB hi
      · have e1 : copyL st i = [] := by unfold copyL; rw [List.getD_eq_getElem?_getD, List.getElem?_eq_none (by omega)]; rfl
        refine ⟨(hA (by omega)).1.trans e1.symm, (hA (by omega)).2.trans ?_⟩
        unfold copyR
        rw [e1]
        rfl
    obtain ⟨rfl, rfl⟩ := hLR
    refine wn ?_
    exact retX_new3 3 4 5 rfl ⟨by exact Nat.le_of_ble_eq_true rfl, by exact Nat.le_of_ble_eq_true rfl, by exact Nat.le_of_ble_eq_true rfl⟩ (by decide) (congrArg some ((congrArg (fun z => stX z i 4) (List.take_length (l := st))).trans (stX_ren st i 1 (rho3 3 4 5)).symm)) (congrArg some (tabX_ren (copyL st i) k 2 (rho3 3 4 5)).symm) (congrArg some (rowX_ren (copyR st i k) (rho3 3 4 5)).symm) ⟨stX_lt _ _ _ _ (by decide), tabX_lt _ _ _ _ (by decide), rowX_lt _ _⟩ rfl rfl
theorem callee31 : callee Try.prog 31 := callee_of Try.func31 rfl rfl
end Go.Proofs.Ve


/-
  VeJ3: the order of rows.
-/
set_option linter.unusedVariables false
set_option linter.unusedSimpArgs false
namespace Go.Proofs.Ve
open Go

theorem bl_trans : ∀ {a b c : List UInt8}, Op.bytesLess a b = true → Op.bytesLess b c = true → Op.bytesLess a c = true
  | _, [], _, h, _ => by simp [Op.bytesLess] at h
  | _, _ :: _, [], _, h => by simp [Op.bytesLess] at h
  | [], _ :: _, _ :: _, _, _ => rfl
  | x :: a, y :: b, z :: c, h, k => by
    unfold Op.bytesLess at h k ⊢
    simp only [Bool.or_eq_true, Bool.and_eq_true, decide_eq_true_eq, beq_iff_eq] at h k ⊢
    rcases h with h | ⟨rfl, h⟩
    · rcases k with k | ⟨rfl, k⟩
      · exact .inl (UInt8.lt_trans h k)
      · exact .inl h
    · rcases k with k | ⟨rfl, k⟩
      · exact .inl k
      · exact .inr ⟨rfl, bl_trans h k⟩
theorem bl_tri : ∀ (a b : List UInt8), Op.bytesLess a b = true ∨ a = b ∨ Op.bytesLess b a = true
  | [], [] => .inr (.inl rfl)
  | [], _ :: _ => .inl rfl
  | _ :: _, [] => .inr (.inr rfl)
  | x :: a, y :: b => by
    unfold Op.bytesLess
    simp only [Bool.or_eq_true, Bool.and_eq_true, decide_eq_true_eq, beq_iff_eq]
    rcases UInt8.lt_or_eq_of_le (a := x) (b := y) |> fun h => (Decidable.em (x < y)) with h | h
    · exact .inl (.inl h)
    · rcases Decidable.em (y < x) with k | k
      · exact .inr (.inr (.inl k))
      · have e : x = y := UInt8.le_antisymm (UInt8.not_lt.1 k) (UInt8.not_lt.1 h)
        subst e
        rcases bl_tri a b with h1 | h1 | h1
        · exact .inl (.inr ⟨rfl, h1⟩)
        · exact .inr (.inl (by rw [h1]))
        · exact .inr (.inr (.inr ⟨rfl, h1⟩))
theorem ba_ext {a b : ByteArray} (h : a.toList = b.toList) : a = b := by
  rw [ByteArray.toList_eq, ByteArray.toList_eq] at h
  cases a; cases b
  simp at h
  rw [h]

/-- Less than. -/
def ltV (a b : V) : Prop := a.k < b.k ∨ (a.k = b.k ∧ (a.n < b.n ∨ (a.n = b.n ∧ Op.bytesLess a.t.toList b.t.toList = true)))
theorem ltV_trans {a b c : V} (h : ltV a b) (k : ltV b c) : ltV a c := by
  unfold ltV at h k ⊢
  rcases h with h | ⟨h1, h | ⟨h2, h⟩⟩
  · rcases k with k | ⟨k1, _⟩
    · exact .inl (by omega)
    · exact .inl (by omega)
  · rcases k with k | ⟨k1, k | ⟨k2, _⟩⟩
    · exact .inl (by omega)
    · exact .inr ⟨by omega, .inl (by omega)⟩
    · exact .inr ⟨by omega, .inl (by omega)⟩
  · rcases k with k | ⟨k1, k | ⟨k2, k⟩⟩
    · exact .inl (by omega)
    · exact .inr ⟨by omega, .inl (by omega)⟩
    · exact .inr ⟨by omega, .inr ⟨by omega, bl_trans h k⟩⟩
theorem ltV_tri (a b : V) : ltV a b ∨ a = b ∨ ltV b a := by
  unfold ltV
  rcases Int.lt_trichotomy a.k b.k with h | h | h
  · exact .inl (.inl h)
  · rcases Int.lt_trichotomy a.n b.n with k | k | k
    · exact .inl (.inr ⟨h, .inl k⟩)
    · rcases bl_tri a.t.toList b.t.toList with m | m | m
      · exact .inl (.inr ⟨h, .inr ⟨k, m⟩⟩)
      · refine .inr (.inl ?_)
        cases a; cases b
        simp at h k m ⊢
        exact ⟨h, k, ba_ext m⟩
      · exact .inr (.inr (.inr ⟨h.symm, .inr ⟨k.symm, m⟩⟩))
    · exact .inr (.inr (.inr ⟨h.symm, .inl k⟩))
  · exact .inr (.inr (.inl h))
theorem ltV_irr (a : V) : ¬ ltV a a := by
  unfold ltV
  rintro (h | ⟨_, h | ⟨_, h⟩⟩)
  · omega
  · omega
  · rw [bl_irr] at h; cases h
theorem cmpV_lt {a b : V} (h : ltV a b) : cmpV a b = -1 := by
  rcases h with h | ⟨h1, h | ⟨h2, h⟩⟩
  · exact cv1 h
  · exact cv3 (by omega) (by omega) h
  · exact cv5 (by omega) (by omega) (by omega) (by omega) h
theorem cmpV_gt {a b : V} (h : ltV b a) : cmpV a b = 1 := by
  rcases h with h | ⟨h1, h | ⟨h2, h⟩⟩
  · exact cv2 h
  · exact cv4 (by omega) (by omega) h
  · refine cv6 (by omega) (by omega) (by omega) (by omega) ?_ ?_
    · cases hq : Op.bytesLess a.t.toList b.t.toList with
      | false => rfl
      | true => have := bl_trans h hq; rw [bl_irr] at this; cases this
    · cases hq : Op.bytesLess a.t.toList b.t.toList with
      | true => have := bl_trans h hq; rw [bl_irr] at this; cases this
      | false =>
        cases he : (a.t.toList == b.t.toList) with
        | false => rfl
        | true => rw [eq_of_beq he, bl_irr] at h; cases h
theorem cmpV_self (v : V) : cmpV v v = 0 := cv7 (by omega) (by omega) (by omega) (by omega) (bl_irr _) (by rw [bl_irr]; simp)
theorem cmpV_eq {a b : V} : cmpV a b = 0 ↔ a = b := by
  constructor
  · intro h
    rcases ltV_tri a b with k | k | k
    · rw [cmpV_lt k] at h; cases h
    · exact k
    · rw [cmpV_gt k] at h; cases h
  · rintro rfl
    exact cmpV_self a

def ltR : Row → Row → Prop
  | _, [] => False
  | [], _ :: _ => True
  | a :: r, b :: s => ltV a b ∨ (a = b ∧ ltR r s)
theorem ltR_nil {a : Row} (h : ltR a []) : False := by cases a <;> exact h
theorem ltR_trans : ∀ {a b c : Row}, ltR a b → ltR b c → ltR a c
  | _, [], _, h, _ => (ltR_nil h).elim
  | _, _ :: _, [], _, h => (ltR_nil h).elim
  | [], _ :: _, _ :: _, _, _ => trivial
  | a :: r, b :: s, c :: t, h, k => by
    rcases h with h | ⟨rfl, h⟩
    · rcases k with k | ⟨rfl, k⟩
      · exact .inl (ltV_trans h k)
      · exact .inl h
    · rcases k with k | ⟨rfl, k⟩
      · exact .inl k
      · exact .inr ⟨rfl, ltR_trans h k⟩
theorem ltR_irr : ∀ a : Row, ¬ ltR a a
  | [], h => h
  | a :: r, h => by
    rcases h with h | ⟨_, h⟩
    · exact ltV_irr a h
    · exact ltR_irr r h
theorem ltR_tri : ∀ a b : Row, ltR a b ∨ a = b ∨ ltR b a
  | [], [] => .inr (.inl rfl)
  | [], _ :: _ => .inl trivial
  | _ :: _, [] => .inr (.inr trivial)
  | a :: r, b :: s => by
    rcases ltV_tri a b with h | rfl | h
    · exact .inl (.inl h)
    · rcases ltR_tri r s with k | rfl | k
      · exact .inl (.inr ⟨rfl, k⟩)
      · exact .inr (.inl rfl)
      · exact .inr (.inr (.inr ⟨rfl, k⟩))
    · exact .inr (.inr (.inl h))
theorem cmpR_lt' : ∀ {a b : Row}, ltR a b → cmpR a b = -1
  | _, [], h => (ltR_nil h).elim
  | [], _ :: _, _ => rfl
  | a :: r, b :: s, h => by
    rw [cmpR]
    rcases h with h | ⟨rfl, h⟩
    · rw [cmpV_lt h]; rfl
    · rw [cmpV_self]; exact cmpR_lt' h
theorem cmpR_gt' : ∀ {a b : Row}, ltR b a → cmpR a b = 1
  | [], _, h => (ltR_nil h).elim
  | _ :: _, [], _ => rfl
  | a :: r, b :: s, h => by
    rw [cmpR]
    rcases h with h | ⟨rfl, h⟩
    · rw [cmpV_gt h]; rfl
    · rw [cmpV_self]; exact cmpR_gt' h
theorem cmpR_self : ∀ r : Row, cmpR r r = 0
  | [] => rfl
  | v :: r => by rw [cmpR, cmpV_self]; simpa using cmpR_self r
theorem cmpR_eq {a b : Row} : cmpR a b = 0 ↔ a = b := by
  constructor
  · intro h
    rcases ltR_tri a b with k | k | k
    · rw [cmpR_lt' k] at h; cases h
    · exact k
    · rw [cmpR_gt' k] at h; cases h
  · rintro rfl
    exact cmpR_self a
theorem cmpR_lt {a b : Row} : cmpR a b < 0 ↔ ltR a b := by
  constructor
  · intro h
    rcases ltR_tri a b with k | rfl | k
    · exact k
    · rw [cmpR_self] at h; omega
    · rw [cmpR_gt' k] at h; omega
  · intro h
    rw [cmpR_lt' h]
    decide
theorem cmpR_ge {a b : Row} : cmpR a b ≥ 0 ↔ ¬ ltR a b := by
  rw [← cmpR_lt]
  omega
end Go.Proofs.Ve


/-
  VeKj: how large made states are.
-/
set_option linter.unusedVariables false
set_option linter.unusedSimpArgs false
set_option pp.maxSteps 2000
set_option maxHeartbeats 4000000
namespace Go.Proofs.Ve
open Go

structure okW (st : St) (N n : Nat) : Prop where
  num : st.length = N
  len : ∀ l ∈ st, l.length ≤ n
  row : ∀ l ∈ st, ∀ r ∈ l, 1 ≤ r.length ∧ r.length ≤ 4
theorem okW.mono {st : St} {N n m : Nat} (h : okW st N n) (hm : n ≤ m) : okW st N m := ⟨h.num, fun l hl => Nat.le_trans (h.len l hl) hm, h.row⟩
theorem okW.put {s : Sch} {st : St} {N n : Nat} (h : okW st N n) {t : Int} (ht : t.toNat < N) {key row : Row} (hr : 1 ≤ row.length ∧ row.length ≤ 4) : okW (putS s st t key row) N (n + 1) := by
  have ht' : t.toNat < st.length := by rw [h.num]; exact ht
  have hm : tabAt st t ∈ st := by rw [tabAt_get ht']; exact List.getElem_mem ht'
  refine ⟨by unfold putS; rw [List.length_set]; exact h.num, ?_, ?_⟩
  · intro l hl
    rcases List.mem_or_eq_of_mem_set hl with h1 | h1
    · have := h.len l h1; omega
    · rw [h1]
      have h2 := putL_len s t key row (tabAt st t) (row.length == 0)
      have h3 := h.len _ hm
      unfold putT
      omega
  · intro l hl r hrl
    rcases List.mem_or_eq_of_mem_set hl with h1 | h1
    · exact h.row l h1 r hrl
    · rw [h1] at hrl
      rcases putL_mem s t key row _ _ r hrl with h2 | h2
      · rw [h2]; exact hr
      · exact h.row _ hm r h2
theorem kindsR_ok {s : Sch} (hs : ∀ T ∈ s.tables, 1 ≤ T.cols.length ∧ T.cols.length ≤ 4) {t : Int} (ht : 0 ≤ t ∧ t < s.tables.length) : 1 ≤ (kindsR s t).length ∧ (kindsR s t).length ≤ 4 := by
  unfold kindsR
  rw [dif_pos ht, tblKinds, kindsOf_len]
  exact hs _ (List.getElem_mem _)
theorem kindsR_le {s : Sch} (hs : ∀ T ∈ s.tables, 1 ≤ T.cols.length ∧ T.cols.length ≤ 4) (t : Int) : (kindsR s t).length ≤ 4 := by
  by_cases ht : 0 ≤ t ∧ t < s.tables.length
  · exact (kindsR_ok hs ht).2
  · unfold kindsR
    rw [dif_neg ht]
    exact Nat.zero_le _
theorem fillG_ok {cs : List Int} {s : Sch} (hs : ∀ T ∈ s.tables, 1 ≤ T.cols.length ∧ T.cols.length ≤ 4) {mode t : Int} (ht : 0 ≤ t ∧ t < s.tables.length) : ∀ (m : Nat) {st : St} {p n : Nat}, okW st s.tables.length n → p ≤ cs.length →
    okW (fillG cs s mode t m st p).1 s.tables.length (n + m) ∧ (fillG cs s mode t m st p).2 ≤ cs.length
  | 0, st, p, n, h, hp => ⟨h, hp⟩
  | m + 1, st, p, n, h, hp => by
    rw [fillG]
    have hr : 1 ≤ (rowG cs (keyAt s t) mode 0 (kindsR s t) p).1.length ∧ (rowG cs (keyAt s t) mode 0 (kindsR s t) p).1.length ≤ 4 := by rw [rowG_len]; exact kindsR_ok hs ht
    have h2 := fillG_ok hs ht m (h.put (s := s) (t := t) (by omega) (key := keyR s t (rowG cs (keyAt s t) mode 0 (kindsR s t) p).1) hr) (rowG_in (cs := cs) (keyAt s t) mode (kindsR s t) 0 p hp) (mode := mode)
    exact ⟨h2.1.mono (by omega), h2.2⟩
theorem tabsG_ok {cs : List Int} (hc : ok8 cs) {s : Sch} (hs : ∀ T ∈ s.tables, 1 ≤ T.cols.length ∧ T.cols.length ≤ 4) {mode : Int} : ∀ (k : Nat) {t : Nat} {st : St} {p : Nat}, t + k ≤ s.tables.length → okW st s.tables.length (4 * t) → p ≤ cs.length →
    okW (tabsG cs s mode k t st p).1 s.tables.length (4 * (t + k)) ∧ (tabsG cs s mode k t st p).2 ≤ cs.length
  | 0, t, st, p, _, h, hp => ⟨h, hp⟩
  | k + 1, t, st, p, ht, h, hp => by
    rw [tabsG]
    have g0 := intG_lo cs hc 5 p
    have g5 := intG_hi cs hc 5 (by decide) p
    have h1 := fillG_ok (cs := cs) hs (mode := mode) (t := (t : Int)) ⟨by omega, by omega⟩ (intG cs 5 p).toNat h (intP_in (n := 5) hp)
    have h2 := tabsG_ok hc hs (mode := mode) k (t := t + 1) (by omega) (h1.1.mono (by omega)) h1.2
    exact ⟨h2.1.mono (by omega), h2.2⟩
theorem stateG_ok {cs : List Int} (hc : ok8 cs) {s : Sch} (hs : ∀ T ∈ s.tables, 1 ≤ T.cols.length ∧ T.cols.length ≤ 4) (mode : Int) {p : Nat} (hp : p ≤ cs.length) :
    okW (stateG cs s mode p).1 s.tables.length (4 * s.tables.length) ∧ (stateG cs s mode p).2 ≤ cs.length := by
  unfold stateG
  have := tabsG_ok hc hs (mode := mode) s.tables.length (t := 0) (st := List.replicate s.tables.length []) (p := p) (by omega) ⟨List.length_replicate, fun l hl => by rw [List.eq_of_mem_replicate hl]; exact Nat.zero_le _, fun l hl r hr => by rw [List.eq_of_mem_replicate hl] at hr; cases hr⟩ hp
  exact ⟨this.1.mono (by omega), this.2⟩

theorem callee9 : callee Try.prog 9 := callee_of Try.func9 rfl rfl
end Go.Proofs.Ve

