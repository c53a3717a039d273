/-
  VeSev: joined by wip/tools/merge.py out of VeKb VeKc VeKd.
-/
import Derived.ChangeKeysEq
import Derived.Test.YtcdfmdiifgpdnaaVeSix
import Derived.Test.YtcdfmdiifgpdnaaVeTri
/-
  VeKb: the case generator: predicates with predicates in them.
-/
set_option linter.unusedVariables false
set_option linter.unusedSimpArgs false
set_option pp.maxSteps 2000
set_option maxHeartbeats 4000000
namespace Go.Proofs.Ve
open Go

structure P1 where
  op : Int
  cmp : Int
  l : Opd
  r : Opd
  args : List P0
def argC : List P0 → AC
  | [] => .sl true 0 0 []
  | q :: r => slC p0C 136 (q :: r)
def p1C (q : P1) : List AC := [.int .i64 q.op, .int .i64 q.cmp, .int .i64 q.l.kind, .int .i64 q.l.index, .int .i64 q.l.v.k, .int .i64 q.l.v.n, .str q.l.v.t, .int .i64 q.r.kind, .int .i64 q.r.index, .int .i64 q.r.v.k, .int .i64 q.r.v.n, .str q.r.v.t, argC q.args]
theorem p1C_len (q : P1) : (p1C q).length = 13 := rfl
theorem argC_deep (l : List P0) : (argC l).deep = true := by cases l <;> rfl
theorem p1C_deep (q : P1) : (p1C q).all (·.deep) = true := by
  obtain ⟨op, cmp, l, r, args⟩ := q
  cases args <;> rfl
def P0.up (q : P0) : P1 := ⟨q.op, q.cmp, q.l, q.r, []⟩

def kidsG (cs cols : List Int) : Nat → Nat → List P0 × Nat
  | 0, p => ([], p)
  | n + 1, p => ((treeG0 cs cols p).1 :: (kidsG cs cols n (treeG0 cs cols p).2).1, (kidsG cs cols n (treeG0 cs cols p).2).2)
def treeG1 (cs cols : List Int) (p : Nat) : P1 × Nat :=
  if (decide (intG cs 9 p = 0) && boolG cs 2 (intP cs 9 p)) = true then ((⟨1 + intG cs 2 (headP cs p), 0, zeroO, zeroO⟩ : P0).up, intP cs 2 (headP cs p))
  else if intG cs 9 p < 6 then ((leafG cs cols (headP cs p)).1.up, (leafG cs cols (headP cs p)).2)
  else if intG cs 9 p = 6 then (⟨6, 0, zeroO, zeroO, [(treeG0 cs cols (intP cs 9 p)).1]⟩, (treeG0 cs cols (intP cs 9 p)).2)
  else (⟨4 + intG cs 9 p - 7, 0, zeroO, zeroO, (kidsG cs cols ((intG cs 3 (intP cs 9 p)).toNat + 1) (intP cs 3 (intP cs 9 p))).1⟩, (kidsG cs cols ((intG cs 3 (intP cs 9 p)).toNat + 1) (intP cs 3 (intP cs 9 p))).2)
theorem leafK_in {cs cols : List Int} {k : Int} {p : Nat} (h : p ≤ cs.length) : (leafK cs cols k p).2 ≤ cs.length := intP_in (lp6_in h)
theorem leafG_in {cs cols : List Int} {p : Nat} (h : p ≤ cs.length) : (leafG cs cols p).2 ≤ cs.length := by
  unfold leafG
  split
  · exact leafK_in (intP_in h)
  · exact leafK_in h
theorem headP_in {cs : List Int} {p : Nat} (h : p ≤ cs.length) : headP cs p ≤ cs.length := by
  unfold headP
  split
  · exact intP_in (intP_in h)
  · exact intP_in h
theorem treeG0_in {cs cols : List Int} {p : Nat} (h : p ≤ cs.length) : (treeG0 cs cols p).2 ≤ cs.length := by
  unfold treeG0
  split
  · exact intP_in (headP_in h)
  · exact leafG_in (headP_in h)
theorem kidsG_in {cs cols : List Int} : ∀ {n p : Nat}, p ≤ cs.length → (kidsG cs cols n p).2 ≤ cs.length
  | 0, p, h => h
  | n + 1, p, h => kidsG_in (n := n) (treeG0_in h)
theorem treeG1_in {cs cols : List Int} {p : Nat} (h : p ≤ cs.length) : (treeG1 cs cols p).2 ≤ cs.length := by
  unfold treeG1
  split
  · exact intP_in (headP_in h)
  · split
    · exact leafG_in (headP_in h)
    · split
      · exact treeG0_in (intP_in h)
      · exact kidsG_in (intP_in (intP_in h))

def nodeC (op : Int) (a : AC) : List AC := [.int .i64 op, .int .i64 0, .int .i64 0, .int .i64 0, .int .i64 0, .int .i64 0, .str ⟨#[]⟩, .int .i64 0, .int .i64 0, .int .i64 0, .int .i64 0, .str ⟨#[]⟩, a]
def zpC : List AC := nodeC 0 (.sl true 0 0 [])
def tkA (cs cols : List Int) (op : Int) (m p : Nat) : List P0 → AS
  | [] => AS.of 107 1 3 [(0, .one (.ptr 0 0)), (1, .one (slC intC 8 cols)), (2, .one (slC intC 8 [])), (3, .one (.int .i64 1)), (8, .one (.ptr 1 0)), (12, .one (.ptr 2 0)), (13, .one (.int .i64 ((m : Int) - 1)))]
      [(0, caseO cs p), (1, ⟨85, 0, 0, zpC⟩), (2, ⟨85, 0, 0, nodeC op (.sl true 0 0 [])⟩)]
  | q :: r => AS.of 107 1 4 [(0, .one (.ptr 0 0)), (1, .one (slC intC 8 cols)), (2, .one (slC intC 8 [])), (3, .one (.int .i64 1)), (8, .one (.ptr 1 0)), (12, .one (.ptr 2 0)), (13, .one (.int .i64 ((m : Int) - 1)))]
      [(0, caseO cs p), (1, ⟨85, 0, 0, zpC⟩), (2, ⟨85, 0, 0, nodeC op (.gref 3)⟩), (3, ⟨85, 13, 136, (q :: r).flatMap p0C⟩)]

theorem tree1_spec (cs : List Int) (h : ok8 cs) (cols : List Int) (hc : cols.length ≤ 1099511627776) (p : Nat) (hp : p ≤ cs.length) :
    MSpec Try.prog 58 [.one (.ptr 0 0), .one (slC intC 8 cols), .one (slC intC 8 []), .one (.int .i64 1)] (caseO cs p) (caseO cs (treeG1 cs cols p).2) (.agg (p1C (treeG1 cs cols p).1)) := by
  refine mspec_x env08_ok mixed08 Try.func58 rfl 107 rfl _ rfl rfl ?_
  have g9 := intG_lo cs h 9 p
  have g99 := intG_hi cs h 9 (by decide) p
  refine wn ?_
  refine cm (int_spec cs h 9 p hp) (callee25) ?_
  refine wn ?_
  have hp1 : intP cs 9 p ≤ cs.length := intP_in hp
  refine forkB_intro (fun h1 => ?_) (fun h1 => ?_)
  · have h1 : intG cs 9 p = 0 := by simpa using h1
    refine wn ?_
    refine cm (bool_spec cs h 2 (intP cs 9 p) hp1 (by decide)) (callee17) ?_
    refine wn ?_
    have eh : headP cs p = intP cs 2 (intP cs 9 p) := if_pos h1
    obtain ⟨P, hP⟩ : ∃ P, intP cs 2 (intP cs 9 p) = P := ⟨_, rfl⟩
    have hPl : P ≤ cs.length := by rw [← hP]; exact intP_in hp1
    rw [hP] at eh ⊢
    cases hb : boolG cs 2 (intP cs 9 p) with
    | true =>
      have eT : treeG1 cs cols p = ((⟨1 + intG cs 2 P, 0, zeroO, zeroO⟩ : P0).up, intP cs 2 P) := by
        rw [treeG1, eh, if_pos (by rw [hb, decide_eq_true h1]; rfl)]
      rw [eT]
      have g0 := intG_lo cs h 2 P
      have g1 := intG_hi cs h 2 (by decide) P
      refine wn ?_
      refine cm (int_spec cs h 2 P hPl) (callee25) ?_
      refine wn ?_
      refine i64 ?_
      refine wn ?_
      refine rtm ?_
      (conv => lhs; whnf)
      rfl
    | false =>
      have eT : treeG1 cs cols p = ((leafG cs cols P).1.up, (leafG cs cols P).2) := by
        rw [treeG1, eh, if_neg (by rw [hb]; simp), if_pos (by omega)]
      rw [eT]
      refine wn ?_
      rw [h1]
      refine wn ?_
      refine exI_as _ rfl ?_
      refine wn ?_
      refine forkB_dec (fun h7 => ?_) (fun h7 => ?_)
      · have h7 : 0 < cols.length := by omega
        have eL : leafG cs cols P = leafK cs cols (cols.getD (intG cs cols.length P).toNat 0) (intP cs cols.length P) := if_pos h7
        have g0 := intG_lo cs h cols.length P
        have g1 := intG_hi cs h cols.length (by omega) P
        obtain ⟨j, hj⟩ : ∃ j : Nat, intG cs cols.length P = j := ⟨_, (Int.toNat_of_nonneg g0).symm⟩
        have hjl : j < cols.length := by omega
        rw [eL, hj, Int.toNat_natCast, List.getD_eq_getElem?_getD, List.getElem?_eq_getElem hjl, Option.getD_some]
        obtain ⟨Q, hQ⟩ : ∃ Q, intP cs cols.length P = Q := ⟨_, rfl⟩
        have hQl : Q ≤ cs.length := by rw [← hQ]; exact intP_in hPl
        rw [hQ]
        refine wn ?_
        refine exI_as _ rfl ?_
        refine wn ?_
        refine cm (int_spec cs h cols.length P hPl) (callee25) ?_
        refine wn ?_
        rw [hj, hQ]
        refine wn ?_
        refine reqD_dec (by omega) ?_
        refine wn ?_
        refine forceL_as (intC cols[j]) (flat_get (f := intC) intC_len cols j hjl) ?_
        refine wn ?_
        refine cm (int_spec cs h 6 (Q) (hQl)) (callee25) ?_
        refine wn ?_
        have c0 := intG_lo cs h 6 (Q)
        have c1 := intG_hi cs h 6 (by decide) (Q)
        refine i64 ?_
        refine wn ?_
        have hq1 : intP cs 6 (Q) ≤ cs.length := intP_in (hQl)
        refine cm (operand_spec cs h cols hc (cols[j]) (intP cs 6 (Q)) hq1) (callee75) ?_
        refine wn ?_
        have hq3 : lp3 cs cols (cols[j]) (Q) ≤ cs.length := operandP_in hq1
        have hq4 : lp4 cs cols (cols[j]) (Q) ≤ cs.length := valueP_in hq3
        refine cm (value_spec cs h (cols[j]) (lp3 cs cols (cols[j]) (Q)) hq3) (callee41) ?_
        refine wn ?_
        refine cm (bool_spec cs h 3 (lp4 cs cols (cols[j]) (Q)) hq4 (by decide)) (callee17) ?_
        refine wn ?_
        have hq5 : intP cs 3 (lp4 cs cols (cols[j]) (Q)) ≤ cs.length := intP_in hq4
        cases hb3 : boolG cs 3 (lp4 cs cols (cols[j]) (Q)) with
        | true =>
          refine wn ?_
          refine cm (operand_spec cs h cols hc (cols[j]) (intP cs 3 (lp4 cs cols (cols[j]) (Q))) hq5) (callee75) ?_
          refine wn ?_
          have e6 : lp6 cs cols (cols[j]) (Q) = operandP cs cols (cols[j]) (intP cs 3 (lp4 cs cols (cols[j]) (Q))) := by rw [lp6, hb3]; rfl
          have hq6 : lp6 cs cols (cols[j]) (Q) ≤ cs.length := lp6_in (hQl)
          rw [← e6]
          refine wn ?_
          refine cm (bool_spec cs h 6 (lp6 cs cols (cols[j]) (Q)) hq6 (by decide)) (callee17) ?_
          refine wn ?_
          cases hb6 : boolG cs 6 (lp6 cs cols (cols[j]) (Q)) with
          | true =>
            have eK : leafK cs cols (cols[j]) (Q) = (⟨3, 1 + intG cs 6 (Q), lright cs cols (cols[j]) (Q), lleft cs cols (cols[j]) (Q)⟩, intP cs 6 (lp6 cs cols (cols[j]) (Q))) := by rw [leafK, hb6]; rfl
            rw [eK]
            refine wn ?_
            refine rtm ?_
            (conv => lhs; whnf)
            unfold lright lleft
            rw [hb3]
            rfl
          | false =>
            have eK : leafK cs cols (cols[j]) (Q) = (⟨3, 1 + intG cs 6 (Q), lleft cs cols (cols[j]) (Q), lright cs cols (cols[j]) (Q)⟩, intP cs 6 (lp6 cs cols (cols[j]) (Q))) := by rw [leafK, hb6]; rfl
            rw [eK]
            refine wn ?_
            refine rtm ?_
            (conv => lhs; whnf)
            unfold lright lleft
            rw [hb3]
            rfl
        | false =>
          have e6 : lp6 cs cols (cols[j]) (Q) = intP cs 3 (lp4 cs cols (cols[j]) (Q)) := by rw [lp6, hb3]; rfl
          have hq6 : lp6 cs cols (cols[j]) (Q) ≤ cs.length := lp6_in (hQl)
          rw [← e6]
          refine wn ?_
          refine cm (bool_spec cs h 6 (lp6 cs cols (cols[j]) (Q)) hq6 (by decide)) (callee17) ?_
          refine wn ?_
          cases hb6 : boolG cs 6 (lp6 cs cols (cols[j]) (Q)) with
          | true =>
            have eK : leafK cs cols (cols[j]) (Q) = (⟨3, 1 + intG cs 6 (Q), lright cs cols (cols[j]) (Q), lleft cs cols (cols[j]) (Q)⟩, intP cs 6 (lp6 cs cols (cols[j]) (Q))) := by rw [leafK, hb6]; rfl
            rw [eK]
            refine wn ?_
            refine rtm ?_
            (conv => lhs; whnf)
            unfold lright lleft
            rw [hb3]
            rfl
          | false =>
            have eK : leafK cs cols (cols[j]) (Q) = (⟨3, 1 + intG cs 6 (Q), lleft cs cols (cols[j]) (Q), lright cs cols (cols[j]) (Q)⟩, intP cs 6 (lp6 cs cols (cols[j]) (Q))) := by rw [leafK, hb6]; rfl
            rw [eK]
            refine wn ?_
            refine rtm ?_
            (conv => lhs; whnf)
            unfold lright lleft
            rw [hb3]
            rfl
      · have eL : leafG cs cols P = leafK cs cols 4 P := if_neg (by omega)
        rw [eL]
        refine wn ?_
        refine cm (int_spec cs h 6 (P) (hPl)) (callee25) ?_
        refine wn ?_
        have c0 := intG_lo cs h 6 (P)
        have c1 := intG_hi cs h 6 (by decide) (P)
        refine i64 ?_
        refine wn ?_
        have hq1 : intP cs 6 (P) ≤ cs.length := intP_in (hPl)
        refine cm (operand_spec cs h cols hc (4) (intP cs 6 (P)) hq1) (callee75) ?_
        refine wn ?_
        have hq3 : lp3 cs cols (4) (P) ≤ cs.length := operandP_in hq1
        have hq4 : lp4 cs cols (4) (P) ≤ cs.length := valueP_in hq3
        refine cm (value_spec cs h (4) (lp3 cs cols (4) (P)) hq3) (callee41) ?_
        refine wn ?_
        refine cm (bool_spec cs h 3 (lp4 cs cols (4) (P)) hq4 (by decide)) (callee17) ?_
        refine wn ?_
        have hq5 : intP cs 3 (lp4 cs cols (4) (P)) ≤ cs.length := intP_in hq4
        cases hb3 : boolG cs 3 (lp4 cs cols (4) (P)) with
        | true =>
          refine wn ?_
          refine cm (operand_spec cs h cols hc (4) (intP cs 3 (lp4 cs cols (4) (P))) hq5) (callee75) ?_
          refine wn ?_
          have e6 : lp6 cs cols (4) (P) = operandP cs cols (4) (intP cs 3 (lp4 cs cols (4) (P))) := by rw [lp6, hb3]; rfl
          have hq6 : lp6 cs cols (4) (P) ≤ cs.length := lp6_in (hPl)
          rw [← e6]
          refine wn ?_
          refine cm (bool_spec cs h 6 (lp6 cs cols (4) (P)) hq6 (by decide)) (callee17) ?_
          refine wn ?_
          cases hb6 : boolG cs 6 (lp6 cs cols (4) (P)) with
          | true =>
            have eK : leafK cs cols (4) (P) = (⟨3, 1 + intG cs 6 (P), lright cs cols (4) (P), lleft cs cols (4) (P)⟩, intP cs 6 (lp6 cs cols (4) (P))) := by rw [leafK, hb6]; rfl
            rw [eK]
            refine wn ?_
            refine rtm ?_
            (conv => lhs; whnf)
            unfold lright lleft
            rw [hb3]
            rfl
          | false =>
            have eK : leafK cs cols (4) (P) = (⟨3, 1 + intG cs 6 (P), lleft cs cols (4) (P), lright cs cols (4) (P)⟩, intP cs 6 (lp6 cs cols (4) (P))) := by rw [leafK, hb6]; rfl
            rw [eK]
            refine wn ?_
            refine rtm ?_
            (conv => lhs; whnf)
            unfold lright lleft
            rw [hb3]
            rfl
        | false =>
          have e6 : lp6 cs cols (4) (P) = intP cs 3 (lp4 cs cols (4) (P)) := by rw [lp6, hb3]; rfl
          have hq6 : lp6 cs cols (4) (P) ≤ cs.length := lp6_in (hPl)
          rw [← e6]
          refine wn ?_
          refine cm (bool_spec cs h 6 (lp6 cs cols (4) (P)) hq6 (by decide)) (callee17) ?_
          refine wn ?_
          cases hb6 : boolG cs 6 (lp6 cs cols (4) (P)) with
          | true =>
            have eK : leafK cs cols (4) (P) = (⟨3, 1 + intG cs 6 (P), lright cs cols (4) (P), lleft cs cols (4) (P)⟩, intP cs 6 (lp6 cs cols (4) (P))) := by rw [leafK, hb6]; rfl
            rw [eK]
            refine wn ?_
            refine rtm ?_
            (conv => lhs; whnf)
            unfold lright lleft
            rw [hb3]
            rfl
          | false =>
            have eK : leafK cs cols (4) (P) = (⟨3, 1 + intG cs 6 (P), lleft cs cols (4) (P), lright cs cols (4) (P)⟩, intP cs 6 (lp6 cs cols (4) (P))) := by rw [leafK, hb6]; rfl
            rw [eK]
            refine wn ?_
            refine rtm ?_
            (conv => lhs; whnf)
            unfold lright lleft
            rw [hb3]
            rfl
  · have h1 : ¬ intG cs 9 p = 0 := by simpa using h1
    have eh : headP cs p = intP cs 9 p := if_neg h1
    obtain ⟨P, hP⟩ : ∃ P, intP cs 9 p = P := ⟨_, rfl⟩
    have hPl : P ≤ cs.length := by rw [← hP]; exact hp1
    rw [hP] at eh ⊢
    refine wn ?_
    refine forkB_dec (fun h2 => ?_) (fun h2 => ?_)
    · have h2 : intG cs 9 p < 6 := h2
      have eT : treeG1 cs cols p = ((leafG cs cols P).1.up, (leafG cs cols P).2) := by
        rw [treeG1, eh, if_neg (by rw [decide_eq_false h1]; simp), if_pos h2]
      rw [eT]
      refine wn ?_
      refine exI_as _ rfl ?_
      refine wn ?_
      refine forkB_dec (fun h7 => ?_) (fun h7 => ?_)
      · have h7 : 0 < cols.length := by omega
        have eL : leafG cs cols P = leafK cs cols (cols.getD (intG cs cols.length P).toNat 0) (intP cs cols.length P) := if_pos h7
        have g0 := intG_lo cs h cols.length P
        have g1 := intG_hi cs h cols.length (by omega) P
        obtain ⟨j, hj⟩ : ∃ j : Nat, intG cs cols.length P = j := ⟨_, (Int.toNat_of_nonneg g0).symm⟩
        have hjl : j < cols.length := by omega
        rw [eL, hj, Int.toNat_natCast, List.getD_eq_getElem?_getD, List.getElem?_eq_getElem hjl, Option.getD_some]
        obtain ⟨Q, hQ⟩ : ∃ Q, intP cs cols.length P = Q := ⟨_, rfl⟩
        have hQl : Q ≤ cs.length := by rw [← hQ]; exact intP_in hPl
        rw [hQ]
        refine wn ?_
        refine exI_as _ rfl ?_
        refine wn ?_
        refine cm (int_spec cs h cols.length P hPl) (callee25) ?_
        refine wn ?_
        rw [hj, hQ]
        refine wn ?_
        refine reqD_dec (by omega) ?_
        refine wn ?_
        refine forceL_as (intC cols[j]) (flat_get (f := intC) intC_len cols j hjl) ?_
        refine wn ?_
        refine cm (int_spec cs h 6 (Q) (hQl)) (callee25) ?_
        refine wn ?_
        have c0 := intG_lo cs h 6 (Q)
        have c1 := intG_hi cs h 6 (by decide) (Q)
        refine i64 ?_
        refine wn ?_
        have hq1 : intP cs 6 (Q) ≤ cs.length := intP_in (hQl)
        refine cm (operand_spec cs h cols hc (cols[j]) (intP cs 6 (Q)) hq1) (callee75) ?_
        refine wn ?_
        have hq3 : lp3 cs cols (cols[j]) (Q) ≤ cs.length := operandP_in hq1
        have hq4 : lp4 cs cols (cols[j]) (Q) ≤ cs.length := valueP_in hq3
        refine cm (value_spec cs h (cols[j]) (lp3 cs cols (cols[j]) (Q)) hq3) (callee41) ?_
        refine wn ?_
        refine cm (bool_spec cs h 3 (lp4 cs cols (cols[j]) (Q)) hq4 (by decide)) (callee17) ?_
        refine wn ?_
        have hq5 : intP cs 3 (lp4 cs cols (cols[j]) (Q)) ≤ cs.length := intP_in hq4
        cases hb3 : boolG cs 3 (lp4 cs cols (cols[j]) (Q)) with
        | true =>
          refine wn ?_
          refine cm (operand_spec cs h cols hc (cols[j]) (intP cs 3 (lp4 cs cols (cols[j]) (Q))) hq5) (callee75) ?_
          refine wn ?_
          have e6 : lp6 cs cols (cols[j]) (Q) = operandP cs cols (cols[j]) (intP cs 3 (lp4 cs cols (cols[j]) (Q))) := by rw [lp6, hb3]; rfl
          have hq6 : lp6 cs cols (cols[j]) (Q) ≤ cs.length := lp6_in (hQl)
          rw [← e6]
          refine wn ?_
          refine cm (bool_spec cs h 6 (lp6 cs cols (cols[j]) (Q)) hq6 (by decide)) (callee17) ?_
          refine wn ?_
          cases hb6 : boolG cs 6 (lp6 cs cols (cols[j]) (Q)) with
          | true =>
            have eK : leafK cs cols (cols[j]) (Q) = (⟨3, 1 + intG cs 6 (Q), lright cs cols (cols[j]) (Q), lleft cs cols (cols[j]) (Q)⟩, intP cs 6 (lp6 cs cols (cols[j]) (Q))) := by rw [leafK, hb6]; rfl
            rw [eK]
            refine wn ?_
            refine rtm ?_
            (conv => lhs; whnf)
            unfold lright lleft
            rw [hb3]
            rfl
          | false =>
            have eK : leafK cs cols (cols[j]) (Q) = (⟨3, 1 + intG cs 6 (Q), lleft cs cols (cols[j]) (Q), lright cs cols (cols[j]) (Q)⟩, intP cs 6 (lp6 cs cols (cols[j]) (Q))) := by rw [leafK, hb6]; rfl
            rw [eK]
            refine wn ?_
            refine rtm ?_
            (conv => lhs; whnf)
            unfold lright lleft
            rw [hb3]
            rfl
        | false =>
          have e6 : lp6 cs cols (cols[j]) (Q) = intP cs 3 (lp4 cs cols (cols[j]) (Q)) := by rw [lp6, hb3]; rfl
          have hq6 : lp6 cs cols (cols[j]) (Q) ≤ cs.length := lp6_in (hQl)
          rw [← e6]
          refine wn ?_
          refine cm (bool_spec cs h 6 (lp6 cs cols (cols[j]) (Q)) hq6 (by decide)) (callee17) ?_
          refine wn ?_
          cases hb6 : boolG cs 6 (lp6 cs cols (cols[j]) (Q)) with
          | true =>
            have eK : leafK cs cols (cols[j]) (Q) = (⟨3, 1 + intG cs 6 (Q), lright cs cols (cols[j]) (Q), lleft cs cols (cols[j]) (Q)⟩, intP cs 6 (lp6 cs cols (cols[j]) (Q))) := by rw [leafK, hb6]; rfl
            rw [eK]
            refine wn ?_
            refine rtm ?_
            (conv => lhs; whnf)
            unfold lright lleft
            rw [hb3]
            rfl
          | false =>
            have eK : leafK cs cols (cols[j]) (Q) = (⟨3, 1 + intG cs 6 (Q), lleft cs cols (cols[j]) (Q), lright cs cols (cols[j]) (Q)⟩, intP cs 6 (lp6 cs cols (cols[j]) (Q))) := by rw [leafK, hb6]; rfl
            rw [eK]
            refine wn ?_
            refine rtm ?_
            (conv => lhs; whnf)
            unfold lright lleft
            rw [hb3]
            rfl
      · have eL : leafG cs cols P = leafK cs cols 4 P := if_neg (by omega)
        rw [eL]
        refine wn ?_
        refine cm (int_spec cs h 6 (P) (hPl)) (callee25) ?_
        refine wn ?_
        have c0 := intG_lo cs h 6 (P)
        have c1 := intG_hi cs h 6 (by decide) (P)
        refine i64 ?_
        refine wn ?_
        have hq1 : intP cs 6 (P) ≤ cs.length := intP_in (hPl)
        refine cm (operand_spec cs h cols hc (4) (intP cs 6 (P)) hq1) (callee75) ?_
        refine wn ?_
        have hq3 : lp3 cs cols (4) (P) ≤ cs.length := operandP_in hq1
        have hq4 : lp4 cs cols (4) (P) ≤ cs.length := valueP_in hq3
        refine cm (value_spec cs h (4) (lp3 cs cols (4) (P)) hq3) (callee41) ?_
        refine wn ?_
        refine cm (bool_spec cs h 3 (lp4 cs cols (4) (P)) hq4 (by decide)) (callee17) ?_
        refine wn ?_
        have hq5 : intP cs 3 (lp4 cs cols (4) (P)) ≤ cs.length := intP_in hq4
        cases hb3 : boolG cs 3 (lp4 cs cols (4) (P)) with
        | true =>
          refine wn ?_
          refine cm (operand_spec cs h cols hc (4) (intP cs 3 (lp4 cs cols (4) (P))) hq5) (callee75) ?_
          refine wn ?_
          have e6 : lp6 cs cols (4) (P) = operandP cs cols (4) (intP cs 3 (lp4 cs cols (4) (P))) := by rw [lp6, hb3]; rfl
          have hq6 : lp6 cs cols (4) (P) ≤ cs.length := lp6_in (hPl)
          rw [← e6]
          refine wn ?_
          refine cm (bool_spec cs h 6 (lp6 cs cols (4) (P)) hq6 (by decide)) (callee17) ?_
          refine wn ?_
          cases hb6 : boolG cs 6 (lp6 cs cols (4) (P)) with
          | true =>
            have eK : leafK cs cols (4) (P) = (⟨3, 1 + intG cs 6 (P), lright cs cols (4) (P), lleft cs cols (4) (P)⟩, intP cs 6 (lp6 cs cols (4) (P))) := by rw [leafK, hb6]; rfl
            rw [eK]
            refine wn ?_
            refine rtm ?_
            (conv => lhs; whnf)
            unfold lright lleft
            rw [hb3]
            rfl
          | false =>
            have eK : leafK cs cols (4) (P) = (⟨3, 1 + intG cs 6 (P), lleft cs cols (4) (P), lright cs cols (4) (P)⟩, intP cs 6 (lp6 cs cols (4) (P))) := by rw [leafK, hb6]; rfl
            rw [eK]
            refine wn ?_
            refine rtm ?_
            (conv => lhs; whnf)
            unfold lright lleft
            rw [hb3]
            rfl
        | false =>
          have e6 : lp6 cs cols (4) (P) = intP cs 3 (lp4 cs cols (4) (P)) := by rw [lp6, hb3]; rfl
          have hq6 : lp6 cs cols (4) (P) ≤ cs.length := lp6_in (hPl)
          rw [← e6]
          refine wn ?_
          refine cm (bool_spec cs h 6 (lp6 cs cols (4) (P)) hq6 (by decide)) (callee17) ?_
          refine wn ?_
          cases hb6 : boolG cs 6 (lp6 cs cols (4) (P)) with
          | true =>
            have eK : leafK cs cols (4) (P) = (⟨3, 1 + intG cs 6 (P), lright cs cols (4) (P), lleft cs cols (4) (P)⟩, intP cs 6 (lp6 cs cols (4) (P))) := by rw [leafK, hb6]; rfl
            rw [eK]
            refine wn ?_
            refine rtm ?_
            (conv => lhs; whnf)
            unfold lright lleft
            rw [hb3]
            rfl
          | false =>
            have eK : leafK cs cols (4) (P) = (⟨3, 1 + intG cs 6 (P), lleft cs cols (4) (P), lright cs cols (4) (P)⟩, intP cs 6 (lp6 cs cols (4) (P))) := by rw [leafK, hb6]; rfl
            rw [eK]
            refine wn ?_
            refine rtm ?_
            (conv => lhs; whnf)
            unfold lright lleft
            rw [hb3]
            rfl
    · have h2 : ¬ intG cs 9 p < 6 := h2
      refine wn ?_
      refine forkB_intro (fun h3 => ?_) (fun h3 => ?_)
      · have h3 : intG cs 9 p = 6 := by simpa using h3
        have eT : treeG1 cs cols p = (⟨6, 0, zeroO, zeroO, [(treeG0 cs cols P).1]⟩, (treeG0 cs cols P).2) := by
          rw [treeG1, hP, if_neg (by rw [decide_eq_false h1]; simp), if_neg h2, if_pos h3]
        rw [eT]
        refine wn ?_
        refine exI_as 0 (by rfl) ?_
        refine wn ?_
        refine cm (tree0_spec cs h cols hc P hPl) (callee58) ?_
        refine wn ?_
        refine retX_tr (tfz 85 13 136 (p0C (treeG0 cs cols P).1) 2 1) ?_
        refine rtm ?_
        (conv => lhs; whnf)
        rfl
      · have h3 : ¬ intG cs 9 p = 6 := by simpa using h3
        have n0 := intG_lo cs h 3 P
        have n1 := intG_hi cs h 3 (by decide) P
        obtain ⟨n, hn⟩ : ∃ n, (intG cs 3 P).toNat = n := ⟨_, rfl⟩
        have hn2 : intG cs 3 P = ((n + 1 : Nat) : Int) - 1 := by omega
        obtain ⟨P2, hP2⟩ : ∃ P2, intP cs 3 P = P2 := ⟨_, rfl⟩
        have hP2l : P2 ≤ cs.length := by rw [← hP2]; exact intP_in hPl
        have eT : treeG1 cs cols p = (⟨4 + intG cs 9 p - 7, 0, zeroO, zeroO, (kidsG cs cols (n + 1) P2).1⟩, (kidsG cs cols (n + 1) P2).2) := by
          rw [treeG1, hP, if_neg (by rw [decide_eq_false h1]; simp), if_neg h2, if_neg h3, hn, hP2]
        obtain ⟨K, hK⟩ : ∃ K, kidsG cs cols (n + 1) P2 = K := ⟨_, rfl⟩
        rw [eT, hK]
        refine wn ?_
        refine i64 ?_
        refine wn ?_
        refine i64 ?_
        refine wn ?_
        refine cm (int_spec cs h 3 P hPl) (callee25) ?_
        refine wn ?_
        rw [hn2, hP2]
        refine loopX_of env08_ok mixed08 (σ := Nat × Nat × List P0) (fun q => tkA cs cols (4 + intG cs 9 p - 7) q.1 q.2.1 q.2.2)
          (fun q => q.1 ≤ n + 1 ∧ q.2.2.length + q.1 = n + 1 ∧ q.2.1 ≤ cs.length ∧ K = (q.2.2 ++ (kidsG cs cols q.1 q.2.1).1, (kidsG cs cols q.1 q.2.1).2)) (fun q => q.1) (n + 1, P2, []) (fun q => by obtain ⟨i, p, r⟩ := q; cases r <;> rfl) tid ⟨Nat.le_refl _, Nat.zero_add _, hP2l, hK.symm⟩ ?_
        rintro ⟨m, p3, acc⟩ ⟨hm, hacc, hp3, hk⟩
        have hm : m ≤ n + 1 := hm
        have hacc : acc.length + m = n + 1 := hacc
        have hp3 : p3 ≤ cs.length := hp3
        have hk : K = (acc ++ (kidsG cs cols m p3).1, (kidsG cs cols m p3).2) := hk
        cases acc with
        | nil =>
          refine wn ?_
          refine forkB_dec (fun h5 => ?_) (fun h5 => ?_)
          · obtain ⟨k, rfl⟩ : ∃ k, m = k + 1 := ⟨m - 1, by have h5 : (m : Int) - 1 ≥ 0 := h5; omega⟩
            rw [kidsG] at hk
            refine wn ?_
            refine drawnX_phase env08_ok (fun id => id == 2) (List.range 11) (tks 0 7 (.one 7 (.one 8 (.one 9 (tks 10 1 (.stop)))))) 1 (lst 12 [11]) (by kernel_rfl) ?_
            refine wn ?_
            refine exI_as 0 (by rfl) ?_
            refine wn ?_
            refine cm (tree0_spec cs h cols hc p3 hp3) (callee58) ?_
            refine wn ?_
            try (refine rq ?_)
            refine wn ?_
            try (refine forkB_intro (fun h => absurd h (by simp [ty85])) (fun _ => ?_))
            refine wn ?_
            try (refine rq ?_)
            refine wn ?_
            refine drawnX_phase env08_ok (fun _ => false) (List.range 12) (.one 11 (.stop)) 0 (lst 12 []) (by kernel_rfl) ?_
            refine wn ?_
            refine drawnX_done (by kernel_rfl) ?_
            refine wn ?_
            refine exI_as ((k : Int) - 1) (by show IntKind.i64.wrap (((k + 1 : Nat) : Int) - 1 - 1) = _; unfold IntKind.wrap; simp [IntKind.signed, IntKind.bits]; split <;> omega) ?_
            refine wn ?_
            refine ⟨(k, (treeG0 cs cols p3).2, [(treeG0 cs cols p3).1]), ⟨by show k ≤ n + 1; omega, by show 1 + k = n + 1; simp at hacc; omega, treeG0_in hp3, by rw [hk]; simp⟩, by show k < k + 1; omega, ?_⟩
            exact (tmv 3 4)
          · exfalso
            have h5 : ¬ (m : Int) - 1 ≥ 0 := h5
            simp at hacc
            omega
        | cons q acc =>
          refine wn ?_
          refine forkB_dec (fun h5 => ?_) (fun h5 => ?_)
          · obtain ⟨k, rfl⟩ : ∃ k, m = k + 1 := ⟨m - 1, by have h5 : (m : Int) - 1 ≥ 0 := h5; omega⟩
            rw [kidsG] at hk
            refine wn ?_
            refine drawnX_phase env08_ok (fun id => id == 2) (List.range 11) (tks 0 7 (.one 7 (.one 8 (.one 9 (tks 10 1 (.stop)))))) 1 (lst 12 [11]) (by kernel_rfl) ?_
            refine wn ?_
            refine exI_as 0 (by rfl) ?_
            refine wn ?_
            refine cm (tree0_spec cs h cols hc p3 hp3) (callee58) ?_
            refine wn ?_
            try (refine rq ?_)
            refine wn ?_
            refine reqD_dec (flat_div p0C_len (by decide) _) ?_
            refine reqD_dec (by simp only [flat_len p0C_len]; simp [ty85, ty53]; simp only [List.length_cons] at hacc; omega) ?_
            refine forceL_as (((q :: acc) ++ [(treeG0 cs cols p3).1]).flatMap p0C) (by rw [List.flatMap_append]; rfl) ?_
            refine wn ?_
            refine drawnX_phase env08_ok (fun _ => false) (List.range 12) (.one 11 (.stop)) 0 (lst 12 []) (by kernel_rfl) ?_
            refine wn ?_
            refine drawnX_done (by kernel_rfl) ?_
            refine wn ?_
            refine exI_as ((k : Int) - 1) (by show IntKind.i64.wrap (((k + 1 : Nat) : Int) - 1 - 1) = _; unfold IntKind.wrap; simp [IntKind.signed, IntKind.bits]; split <;> omega) ?_
            refine wn ?_
            refine ⟨(k, (treeG0 cs cols p3).2, (q :: acc) ++ [(treeG0 cs cols p3).1]), ⟨by show k ≤ n + 1; omega, by show ((q :: acc) ++ [(treeG0 cs cols p3).1]).length + k = n + 1; simp only [List.length_append, List.length_cons, List.length_nil] at hacc ⊢; omega, treeG0_in hp3, by rw [hk]; simp⟩, by show k < k + 1; omega, ?_⟩
            exact (tmv 3 5 ⟨⟨rfl, rfl, by decide⟩, ⟨rfl, rfl, by decide⟩, ⟨rfl, rfl, by decide⟩, ⟨(congrArg some (ob_ren_deep (mv 3 5) (all_flat p0C_deep (q :: (acc ++ ((treeG0 cs cols p3).1 :: List.nil)))))).symm, ob_lt_deep _ (all_flat p0C_deep _), by decide⟩, trivial⟩)
          · have em : m = 0 := by have h5 : ¬ (m : Int) - 1 ≥ 0 := h5; omega
            subst em
            rw [kidsG, List.append_nil] at hk
            rw [hk]
            refine wn ?_
            refine retX_tr (Tr.frz' (T := 85) (s := 13) (B := 136) (cells := (q :: acc).flatMap p0C) 3 (q :: acc).length (by rfl) (by decide) (flat_len p0C_len _) (all_flat p0C_deep _)) ?_
            refine rtm ?_
            (conv => lhs; whnf)
            rfl
end Go.Proofs.Ve


/-
  VeKc: the reference's check of a predicate: its parts.
-/
-- PX_ENV env9_ok
set_option linter.unusedVariables false
set_option linter.unusedSimpArgs false
set_option pp.maxSteps 2000
set_option maxHeartbeats 4000000
namespace Go.Proofs.Ve
open Go

theorem cells58 : Try.prog.cellsOf 58 = 3 := by kernel_rfl
theorem run_part58 (w : World) (a b x y z : Value) : (part 58 #[a, b, x, y, z] 2).run Try.prog w = .ok (.agg #[x, y, z]) w := by
  obtain ⟨i, hi⟩ := Go.info_of_underlying Try.underlying58
  simp [part, isAgg, run_underlying Try.underlying58, run_sizeOf w hi, cells58]
def env9 : Env := { L := lay, maps := fun t => t == 120, eqs := fun t => match t with
  | 58 => some [.int .i64 0, .int .i64 0, .str ⟨#[]⟩]
  | 83 => some [.int .i64 0, .int .i64 0, .int .i64 0, .int .i64 0, .str ⟨#[]⟩]
  | _ => none }
theorem env9_eqs (t : TypeId) (ks : List AC) (h : env9.eqs t = some ks) : EqOk Try.prog t ks := by
  unfold env9 at h
  simp only at h
  split at h
  · cases h
    exact eqOk_iis Try.underlying58 (by kernel_rfl) ⟨by decide, by decide, by decide⟩ ⟨rfl, rfl, rfl⟩ Try.underlying3 Try.underlying2 Try.underlying9 (by kernel_rfl) .i64 .i64
  · cases h
    exact eqOk_iiS Try.underlying83 (by kernel_rfl) ⟨by decide, by decide, by decide⟩ ⟨rfl, rfl, rfl⟩ Try.underlying3 Try.underlying3 run_part58 Try.underlying58 (by kernel_rfl) ⟨by decide, by decide, by decide⟩ ⟨rfl, rfl, rfl⟩ Try.underlying3 Try.underlying2 Try.underlying9 (by kernel_rfl) .i64 .i64 .i64 .i64
  · cases h
theorem env9_ok : env9.Ok Try.prog := ⟨lay_ok, env9_eqs, env08_maps⟩

abbrev isB (r : AV) : Prop := ∃ b : Bool, r = .one (.bool b)
theorem colKind_spec (k : Int) : PSpec Try.prog 94 [.one (.int .i64 k)] isB := by
  refine pspec_x env9_ok mixed08 Try.func94 rfl 13 rfl _ rfl rfl ?_
  refine wm ?_
  repeat' (first | (refine i64 ?_; refine wm ?_) | (refine exI_as _ rfl ?_; refine wm ?_) | (refine forkB_dec (fun _ => ?_) (fun _ => ?_) <;> refine wm ?_) | (refine forkB_intro (fun _ => ?_) (fun _ => ?_) <;> refine wm ?_))
  all_goals (refine retX_val rfl ?_; exact ⟨_, rfl⟩)
theorem callee94 : callee Try.prog 94 := callee_of Try.func94 rfl rfl
theorem rvalid_spec (v : V) : PSpec Try.prog 106 [.agg (vC v)] isB := by
  refine pspec_x env9_ok mixed08 Try.func106 rfl 47 rfl _ rfl rfl ?_
  refine wm ?_
  repeat' (first | (refine i64 ?_; refine wm ?_) | (refine exI_as _ rfl ?_; refine wm ?_) | (refine forkB_dec (fun _ => ?_) (fun _ => ?_) <;> refine wm ?_) | (refine forkB_intro (fun _ => ?_) (fun _ => ?_) <;> refine wm ?_))
  all_goals (refine retX_val rfl ?_; exact ⟨_, rfl⟩)
theorem callee106 : callee Try.prog 106 := callee_of Try.func106 rfl rfl
theorem rreal_spec (v : V) : PSpec Try.prog 103 [.agg (vC v)] isB := by
  refine pspec_x env9_ok mixed08 Try.func103 rfl 10 rfl _ rfl rfl ?_
  refine wn ?_
  refine cle (rvalid_spec v) callee106 ?_
  rintro x hx ⟨b, rfl⟩
  cases b
  · refine wm ?_
    repeat' (first | (refine i64 ?_; refine wm ?_) | (refine exI_as _ rfl ?_; refine wm ?_) | (refine forkB_dec (fun _ => ?_) (fun _ => ?_) <;> refine wm ?_) | (refine forkB_intro (fun _ => ?_) (fun _ => ?_) <;> refine wm ?_))
    all_goals (refine retX_val rfl ?_; exact ⟨_, rfl⟩)
  · refine wm ?_
    repeat' (first | (refine i64 ?_; refine wm ?_) | (refine exI_as _ rfl ?_; refine wm ?_) | (refine forkB_dec (fun _ => ?_) (fun _ => ?_) <;> refine wm ?_) | (refine forkB_intro (fun _ => ?_) (fun _ => ?_) <;> refine wm ?_))
    all_goals (refine retX_val rfl ?_; exact ⟨_, rfl⟩)
theorem callee103 : callee Try.prog 103 := callee_of Try.func103 rfl rfl
def p1A (q : P1) (a : AC) : List AC := [.int .i64 q.op, .int .i64 q.cmp, .int .i64 q.l.kind, .int .i64 q.l.index, .int .i64 q.l.v.k, .int .i64 q.l.v.n, .str q.l.v.t, .int .i64 q.r.kind, .int .i64 q.r.index, .int .i64 q.r.v.k, .int .i64 q.r.v.n, .str q.r.v.t, a]
theorem plainA_spec (q : P1) (a : AC) (ha : a.deep = true) (hb : a.lt 0 = true) : PSpec Try.prog 95 [.agg (p1A q a)] isB := by
  refine pspec_x env9_ok mixed08 Try.func95 rfl 18 rfl _ rfl rfl ?_
  refine wm ?_
  repeat' (first | (refine i64 ?_; refine wm ?_) | (refine exI_as _ rfl ?_; refine wm ?_) | (refine forkB_dec (fun _ => ?_) (fun _ => ?_) <;> refine wm ?_) | (refine forkB_intro (fun _ => ?_) (fun _ => ?_) <;> refine wm ?_))
  all_goals (refine retX_val rfl ?_; exact ⟨_, rfl⟩)
theorem plain_spec (q : P1) : PSpec Try.prog 95 [.agg (p1C q)] isB := by
  refine pspec_x env9_ok mixed08 Try.func95 rfl 18 rfl _ rfl rfl ?_
  refine wm ?_
  repeat' (first | (refine i64 ?_; refine wm ?_) | (refine exI_as _ rfl ?_; refine wm ?_) | (refine forkB_dec (fun _ => ?_) (fun _ => ?_) <;> refine wm ?_) | (refine forkB_intro (fun _ => ?_) (fun _ => ?_) <;> refine wm ?_))
  all_goals (refine retX_val rfl ?_; exact ⟨_, rfl⟩)
theorem callee95 : callee Try.prog 95 := callee_of Try.func95 rfl rfl
theorem colKinds_spec (l : List Int) (hl : l.length ≤ 1099511627776) : PSpec Try.prog 76 [.one (slC intC 8 l)] isB := by
  refine pspec_x env9_ok mixed08 Try.func76 rfl 15 rfl _ rfl rfl ?_
  refine wn ?_
  refine exI_as _ rfl ?_
  refine wn ?_
  refine loopX_of env9_ok mixed08 (σ := Nat) (fun i => AS.of 15 0 0 [(0, .one (slC intC 8 l)), (5, .one (slC intC 8 l)), (6, .one (.int .i64 l.length)), (7, .one (.int .i64 (i : Nat)))] [])
    (fun i => i ≤ l.length) (fun i => l.length - i) 0 (fun _ => rfl) tid (Nat.zero_le _) ?_
  rintro i hi
  have hi : i ≤ l.length := hi
  refine wn ?_
  refine forkB_dec (fun h1 => ?_) (fun h1 => ?_)
  · have hi2 : i < l.length := by have h1 : (i : Int) < l.length := h1; omega
    refine wn ?_
    try (refine rq ?_)
    refine wn ?_
    refine forceL_as (intC l[i]) (flat_get (f := intC) intC_len l i hi2) ?_
    refine wn ?_
    refine cle (colKind_spec l[i]) callee94 ?_
    rintro x hx ⟨b, rfl⟩
    cases b
    · refine wn ?_
      refine retX_val rfl ?_
      exact ⟨_, rfl⟩
    · refine wn ?_
      refine exI_i64 (by show -9223372036854775808 ≤ (i : Int) + 1; omega) (by show (i : Int) + 1 ≤ 9223372036854775807; omega) ?_
      refine wn ?_
      refine ⟨i + 1, by show i + 1 ≤ l.length; omega, by show l.length - (i + 1) < l.length - i; omega, ?_⟩
      exact tid
  · refine wn ?_
    refine retX_val rfl ?_
    exact ⟨_, rfl⟩
theorem callee76 : callee Try.prog 76 := callee_of Try.func76 rfl rfl
theorem kind_spec (cols : List Int) (o : Opd) : PSpec Try.prog 96 [.one (slC intC 8 cols), .one (slC intC 8 []), .agg (opdC o)] (fun r => ∃ k, r = .one (.int .i64 k)) := by
  refine pspec_x env9_ok mixed08 Try.func96 rfl 51 rfl _ rfl rfl ?_
  refine wm ?_
  repeat' (first | (refine i64 ?_; refine wm ?_) | (refine exI_as _ rfl ?_; refine wm ?_) | (refine forkB_dec (fun _ => ?_) (fun _ => ?_) <;> refine wm ?_) | (refine forkB_intro (fun _ => ?_) (fun _ => ?_) <;> refine wm ?_))
  all_goals (try (refine retX_val rfl ?_; exact ⟨_, rfl⟩))
  · refine cle (rreal_spec o.v) callee103 ?_
    rintro x hx ⟨b, rfl⟩
    cases b
    · refine wm ?_
      repeat' (first | (refine i64 ?_; refine wm ?_) | (refine exI_as _ rfl ?_; refine wm ?_) | (refine forkB_dec (fun _ => ?_) (fun _ => ?_) <;> refine wm ?_) | (refine forkB_intro (fun _ => ?_) (fun _ => ?_) <;> refine wm ?_))
      all_goals (refine retX_val rfl ?_; exact ⟨_, rfl⟩)
    · refine wm ?_
      repeat' (first | (refine i64 ?_; refine wm ?_) | (refine exI_as _ rfl ?_; refine wm ?_) | (refine forkB_dec (fun _ => ?_) (fun _ => ?_) <;> refine wm ?_) | (refine forkB_intro (fun _ => ?_) (fun _ => ?_) <;> refine wm ?_))
      all_goals (refine retX_val rfl ?_; exact ⟨_, rfl⟩)
  · exfalso
    rename_i h1 h2 h3
    simp at h2
    omega
  · rename_i h1 h2 h3
    obtain ⟨j, hj⟩ : ∃ j : Nat, o.index = j := ⟨o.index.toNat, by omega⟩
    have hjl : j < cols.length := by omega
    rw [hj]
    refine reqD_dec (by omega) ?_
    refine forceL_as (intC cols[j]) (flat_get (f := intC) intC_len cols j hjl) ?_
    refine wn ?_
    refine retX_val rfl ?_
    exact ⟨_, rfl⟩
theorem callee96 : callee Try.prog 96 := callee_of Try.func96 rfl rfl
theorem nodes0_spec (q : P0) (n : Int) (hn : 0 ≤ n ∧ n ≤ 20) : PSpec Try.prog 77 [.agg (p0C q), .one (.int .i64 n)] (fun r => r = .one (.int .i64 (n + 1))) := by
  refine pspec_x env9_ok mixed08 Try.func77 rfl 27 rfl _ rfl rfl ?_
  refine wm ?_
  repeat' (first | (refine retX_val rfl ?_; rfl) | (refine loopX_n env9_ok mixed08 1 ?_; refine wm ?_) | (refine i64 ?_; refine wm ?_) | (refine exI_as _ rfl ?_; refine wm ?_) | (refine forkB_dec (fun _ => ?_) (fun _ => ?_) <;> refine wm ?_) | (refine forkB_intro (fun _ => ?_) (fun _ => ?_) <;> refine wm ?_))
theorem callee77 : callee Try.prog 77 := callee_of Try.func77 rfl rfl
theorem deeper0_spec (q : P0) (n : Int) (hn : 0 < n ∧ n ≤ 20) : PSpec Try.prog 78 [.agg (p0C q), .one (.int .i64 n)] (fun r => r = .one (.bool false)) := by
  refine pspec_x env9_ok mixed08 Try.func78 rfl 23 rfl _ rfl rfl ?_
  refine wn ?_
  refine forkB_intro (fun h => ?_) (fun h => ?_)
  · exfalso
    have h : n = 0 := by simpa using h
    omega
  · refine wm ?_
    repeat' (first | (refine retX_val rfl ?_; rfl) | (refine loopX_n env9_ok mixed08 1 ?_; refine wm ?_) | (refine i64 ?_; refine wm ?_) | (refine exI_as _ rfl ?_; refine wm ?_) | (refine forkB_dec (fun _ => ?_) (fun _ => ?_) <;> refine wm ?_) | (refine forkB_intro (fun _ => ?_) (fun _ => ?_) <;> refine wm ?_))
theorem callee78 : callee Try.prog 78 := callee_of Try.func78 rfl rfl
theorem callee79 : callee Try.prog 79 := callee_of Try.func79 rfl rfl
theorem valid0_spec (cols : List Int) (q : P0) : PSpec Try.prog 79 [.one (slC intC 8 cols), .one (slC intC 8 []), .agg (p0C q)] isB := by
  refine pspec_x env9_ok mixed08 Try.func79 rfl 84 rfl _ rfl rfl ?_
  refine wm ?_
  repeat' (first | (refine retX_val rfl ?_; exact ⟨_, rfl⟩) | (refine callX_le (plain_spec q.up) callee95 rfl rfl (.cons (AV.Le.refl _) .nil) (by rfl) ?_; rintro x hx ⟨b, rfl⟩; cases b <;> refine wm ?_) | (refine callX_le (kind_spec cols q.l) callee96 rfl rfl (.cons (AV.Le.refl _) (.cons (AV.Le.refl _) (.cons (AV.Le.refl _) .nil))) (by rfl) ?_; rintro x hx ⟨k, rfl⟩; refine wm ?_) | (refine callX_le (kind_spec cols q.r) callee96 rfl rfl (.cons (AV.Le.refl _) (.cons (AV.Le.refl _) (.cons (AV.Le.refl _) .nil))) (by rfl) ?_; rintro x hx ⟨k, rfl⟩; refine wm ?_) | (refine loopX_n env9_ok mixed08 1 ?_; refine wm ?_) | (refine i64 ?_; refine wm ?_) | (refine exI_as _ rfl ?_; refine wm ?_) | (refine forkB_dec (fun _ => ?_) (fun _ => ?_) <;> refine wm ?_) | (refine forkB_intro (fun _ => ?_) (fun _ => ?_) <;> refine wm ?_))
theorem nodes1_spec (q : P1) (l : List P0) (hl : l.length ≤ 3) : PSpec Try.prog 77 [.agg (p1A q (slC p0C 136 l)), .one (.int .i64 0)] (fun r => r = .one (.int .i64 (l.length + 1))) := by
  refine pspec_x env9_ok mixed08 Try.func77 rfl 27 rfl _ rfl rfl ?_
  refine wn ?_
  refine i64 ?_
  refine wn ?_
  refine loopX_of env9_ok mixed08 (σ := Nat) (fun i => AS.of 27 0 1 [(1, .one (.int .i64 ((1 + i : Nat) : Int))), (2, .one (.ptr 0 0)), (5, .one (.int .i64 (i : Nat)))] [(0, ⟨85, 0, 0, p1A q (slC p0C 136 l)⟩)])
    (fun i => i ≤ l.length) (fun i => l.length - i) 0 (fun _ => rfl) tid (Nat.zero_le _) ?_
  rintro i hi
  have hi : i ≤ l.length := hi
  refine wn ?_
  refine exI_as _ rfl ?_
  refine wn ?_
  refine forkB_dec (fun h1 => ?_) (fun h1 => ?_)
  · have hi2 : i < l.length := by have h1 : (i : Int) < l.length := h1; omega
    refine wn ?_
    refine forkB_dec (fun h2 => ?_) (fun h2 => ?_)
    · refine wn ?_
      try (refine rq ?_)
      refine wn ?_
      refine forceL_as (p0C l[i]) (flat_get (f := p0C) p0C_len l i hi2) ?_
      refine wn ?_
      refine cle (nodes0_spec l[i] ((1 + i : Nat) : Int) ⟨by omega, by omega⟩) callee77 ?_
      rintro x hx rfl
      refine wn ?_
      refine exI_i64 (by show -9223372036854775808 ≤ (i : Int) + 1; omega) (by show (i : Int) + 1 ≤ 9223372036854775807; omega) ?_
      refine wn ?_
      refine ⟨i + 1, by show i + 1 ≤ l.length; omega, by show l.length - (i + 1) < l.length - i; omega, ?_⟩
      exact tid
    · exfalso
      have h2 : ¬ (((1 + i : Nat) : Int) ≤ 24) := h2
      omega
  · have ei : i = l.length := by have h1 : ¬ (i : Int) < l.length := h1; omega
    refine wn ?_
    refine retX_val rfl ?_
    show AV.one (AC.int .i64 ((1 + i : Nat) : Int)) = _
    rw [ei, show ((1 + l.length : Nat) : Int) = l.length + 1 by omega]
theorem deeper1_spec (q : P1) (l : List P0) (hl : l.length ≤ 3) : PSpec Try.prog 78 [.agg (p1A q (slC p0C 136 l)), .one (.int .i64 8)] (fun r => r = .one (.bool false)) := by
  refine pspec_x env9_ok mixed08 Try.func78 rfl 23 rfl _ rfl rfl ?_
  refine wn ?_
  refine exI_as _ rfl ?_
  refine wn ?_
  refine loopX_of env9_ok mixed08 (σ := Nat) (fun i => AS.of 23 0 1 [(1, .one (.int .i64 8)), (2, .one (.ptr 0 0)), (10, .one (.int .i64 l.length)), (11, .one (.int .i64 (i : Nat)))] [(0, ⟨85, 0, 0, p1A q (slC p0C 136 l)⟩)])
    (fun i => i ≤ l.length) (fun i => l.length - i) 0 (fun _ => rfl) tid (Nat.zero_le _) ?_
  rintro i hi
  have hi : i ≤ l.length := hi
  refine wn ?_
  refine forkB_dec (fun h1 => ?_) (fun h1 => ?_)
  · have hi2 : i < l.length := by have h1 : (i : Int) < l.length := h1; omega
    refine wn ?_
    try (refine rq ?_)
    refine wn ?_
    refine forceL_as (p0C l[i]) (flat_get (f := p0C) p0C_len l i hi2) ?_
    refine wn ?_
    refine i64 ?_
    refine wn ?_
    refine cle (deeper0_spec l[i] 7 ⟨by omega, by omega⟩) callee78 ?_
    rintro x hx rfl
    refine wn ?_
    refine exI_i64 (by show -9223372036854775808 ≤ (i : Int) + 1; omega) (by show (i : Int) + 1 ≤ 9223372036854775807; omega) ?_
    refine wn ?_
    refine ⟨i + 1, by show i + 1 ≤ l.length; omega, by show l.length - (i + 1) < l.length - i; omega, ?_⟩
    exact tid
  · have ei : i = l.length := by have h1 : ¬ (i : Int) < l.length := h1; omega
    refine wn ?_
    refine retX_val rfl ?_
    rfl
def vlA (cols : List Int) (q : P1) (l : List P0) (i : Nat) : AS := AS.of 84 0 1 [(0, .one (slC intC 8 cols)), (1, .one (slC intC 8 [])), (5, .one (.ptr 0 0)), (70, .one (.int .i64 l.length)), (71, .one (.int .i64 (i : Nat)))] [(0, ⟨85, 0, 0, p1A q (slC p0C 136 l)⟩)]
theorem valid1_spec (cols : List Int) (q : P1) (l : List P0) (hl : l.length ≤ 3) : PSpec Try.prog 79 [.one (slC intC 8 cols), .one (slC intC 8 []), .agg (p1A q (slC p0C 136 l))] isB := by
  refine pspec_x env9_ok mixed08 Try.func79 rfl 84 rfl _ rfl rfl ?_
  refine wm ?_
  repeat' (first | (refine retX_val rfl ?_; exact ⟨_, rfl⟩) | (refine callX_le (plainA_spec q (slC p0C 136 l) rfl rfl) callee95 rfl rfl (.cons (AV.Le.refl _) .nil) (by rfl) ?_; rintro x hx ⟨b, rfl⟩; cases b <;> refine wm ?_) | (refine callX_le (kind_spec cols q.l) callee96 rfl rfl (.cons (AV.Le.refl _) (.cons (AV.Le.refl _) (.cons (AV.Le.refl _) .nil))) (by rfl) ?_; rintro x hx ⟨k, rfl⟩; refine wm ?_) | (refine callX_le (kind_spec cols q.r) callee96 rfl rfl (.cons (AV.Le.refl _) (.cons (AV.Le.refl _) (.cons (AV.Le.refl _) .nil))) (by rfl) ?_; rintro x hx ⟨k, rfl⟩; refine wm ?_) | (refine i64 ?_; refine wm ?_) | (refine exI_as _ rfl ?_; refine wm ?_) | (refine forkB_dec (fun _ => ?_) (fun _ => ?_) <;> refine wm ?_) | (refine forkB_intro (fun _ => ?_) (fun _ => ?_) <;> refine wm ?_))
  · refine loopX_of env9_ok mixed08 (σ := Nat) (vlA cols q l) (fun i => i ≤ l.length) (fun i => l.length - i) 0 (fun _ => rfl) tid (Nat.zero_le _) ?_
    rintro i hi
    have hi : i ≤ l.length := hi
    refine wn ?_
    refine forkB_dec (fun h1 => ?_) (fun h1 => ?_)
    · have hi2 : i < l.length := by have h1 : (i : Int) < l.length := h1; omega
      refine wn ?_
      try (refine rq ?_)
      refine wn ?_
      refine forceL_as (p0C l[i]) (flat_get (f := p0C) p0C_len l i hi2) ?_
      refine wn ?_
      refine cle (valid0_spec cols l[i]) callee79 ?_
      rintro x hx ⟨b, rfl⟩
      cases b
      · refine wn ?_
        refine retX_val rfl ?_
        exact ⟨_, rfl⟩
      · refine wn ?_
        refine exI_i64 (by show -9223372036854775808 ≤ (i : Int) + 1; omega) (by show (i : Int) + 1 ≤ 9223372036854775807; omega) ?_
        refine wn ?_
        refine ⟨i + 1, by show i + 1 ≤ l.length; omega, by show l.length - (i + 1) < l.length - i; omega, ?_⟩
        exact tid
    · refine wn ?_
      refine retX_val rfl ?_
      exact ⟨_, rfl⟩
  · refine loopX_of env9_ok mixed08 (σ := Nat) (vlA cols q l) (fun i => i ≤ l.length) (fun i => l.length - i) 0 (fun _ => rfl) tid (Nat.zero_le _) ?_
    rintro i hi
    have hi : i ≤ l.length := hi
    refine wn ?_
    refine forkB_dec (fun h1 => ?_) (fun h1 => ?_)
    · have hi2 : i < l.length := by have h1 : (i : Int) < l.length := h1; omega
      refine wn ?_
      try (refine rq ?_)
      refine wn ?_
      refine forceL_as (p0C l[i]) (flat_get (f := p0C) p0C_len l i hi2) ?_
      refine wn ?_
      refine cle (valid0_spec cols l[i]) callee79 ?_
      rintro x hx ⟨b, rfl⟩
      cases b
      · refine wn ?_
        refine retX_val rfl ?_
        exact ⟨_, rfl⟩
      · refine wn ?_
        refine exI_i64 (by show -9223372036854775808 ≤ (i : Int) + 1; omega) (by show (i : Int) + 1 ≤ 9223372036854775807; omega) ?_
        refine wn ?_
        refine ⟨i + 1, by show i + 1 ≤ l.length; omega, by show l.length - (i + 1) < l.length - i; omega, ?_⟩
        exact tid
    · refine wn ?_
      refine retX_val rfl ?_
      exact ⟨_, rfl⟩
  · refine loopX_of env9_ok mixed08 (σ := Nat) (vlA cols q l) (fun i => i ≤ l.length) (fun i => l.length - i) 0 (fun _ => rfl) tid (Nat.zero_le _) ?_
    rintro i hi
    have hi : i ≤ l.length := hi
    refine wn ?_
    refine forkB_dec (fun h1 => ?_) (fun h1 => ?_)
    · have hi2 : i < l.length := by have h1 : (i : Int) < l.length := h1; omega
      refine wn ?_
      try (refine rq ?_)
      refine wn ?_
      refine forceL_as (p0C l[i]) (flat_get (f := p0C) p0C_len l i hi2) ?_
      refine wn ?_
      refine cle (valid0_spec cols l[i]) callee79 ?_
      rintro x hx ⟨b, rfl⟩
      cases b
      · refine wn ?_
        refine retX_val rfl ?_
        exact ⟨_, rfl⟩
      · refine wn ?_
        refine exI_i64 (by show -9223372036854775808 ≤ (i : Int) + 1; omega) (by show (i : Int) + 1 ≤ 9223372036854775807; omega) ?_
        refine wn ?_
        refine ⟨i + 1, by show i + 1 ≤ l.length; omega, by show l.length - (i + 1) < l.length - i; omega, ?_⟩
        exact tid
    · refine wn ?_
      refine retX_val rfl ?_
      exact ⟨_, rfl⟩
theorem p1C_cons (q : P1) (a : P0) (r : List P0) (h : q.args = a :: r) : p1C q = p1A q (slC p0C 136 (a :: r)) := by
  unfold p1C p1A
  rw [h]
  rfl
theorem p1C_nil (q : P1) (h : q.args = []) : p1C q = p0C ⟨q.op, q.cmp, q.l, q.r⟩ := by
  unfold p1C p0C
  rw [h]
  rfl
theorem pcheck_spec (cols : List Int) (hc : cols.length ≤ 1099511627776) (q : P1) (hl : q.args.length ≤ 3) : PSpec Try.prog 59 [.one (slC intC 8 cols), .one (slC intC 8 []), .agg (p1C q)] (fun r => ∃ e : Int, r = .one (.int .i64 e) ∧ e ≠ 2) := by
  cases ha : q.args with
  | nil =>
    rw [p1C_nil q ha]
    refine pspec_x env9_ok mixed08 Try.func59 rfl 27 rfl _ rfl rfl ?_
    refine wm ?_
    repeat' (first | (refine retX_val rfl ?_; exact ⟨_, rfl, by decide⟩) | (refine callX_le (colKinds_spec cols hc) callee76 rfl rfl (.cons (AV.Le.refl _) .nil) (by rfl) ?_; rintro x hx ⟨b, rfl⟩; cases b <;> refine wm ?_) | (refine callX_le (colKinds_spec [] (by decide)) callee76 rfl rfl (.cons (AV.Le.refl _) .nil) (by rfl) ?_; rintro x hx ⟨b, rfl⟩; cases b <;> refine wm ?_) | (refine callX_le (nodes0_spec ⟨q.op, q.cmp, q.l, q.r⟩ 0 (by decide)) callee77 rfl rfl (.cons (AV.Le.refl _) (.cons (AV.Le.refl _) .nil)) (by rfl) ?_; rintro x hx rfl; refine wm ?_) | (refine callX_le (deeper0_spec ⟨q.op, q.cmp, q.l, q.r⟩ 8 (by decide)) callee78 rfl rfl (.cons (AV.Le.refl _) (.cons (AV.Le.refl _) .nil)) (by rfl) ?_; rintro x hx rfl; refine wm ?_) | (refine callX_le (valid0_spec cols ⟨q.op, q.cmp, q.l, q.r⟩) callee79 rfl rfl (.cons (AV.Le.refl _) (.cons (AV.Le.refl _) (.cons (AV.Le.refl _) .nil))) (by rfl) ?_; rintro x hx ⟨b, rfl⟩; cases b <;> refine wm ?_) | (refine i64 ?_; refine wm ?_) | (refine exI_as _ rfl ?_; refine wm ?_) | (refine forkB_dec (fun _ => ?_) (fun _ => ?_) <;> refine wm ?_) | (refine forkB_intro (fun _ => ?_) (fun _ => ?_) <;> refine wm ?_))
  | cons a r =>
    rw [p1C_cons q a r ha]
    have hl : (a :: r).length ≤ 3 := by rw [← ha]; exact hl
    refine pspec_x env9_ok mixed08 Try.func59 rfl 27 rfl _ rfl rfl ?_
    refine wm ?_
    repeat' (first | (refine retX_val rfl ?_; exact ⟨_, rfl, by decide⟩) | (refine callX_le (colKinds_spec cols hc) callee76 rfl rfl (.cons (AV.Le.refl _) .nil) (by rfl) ?_; rintro x hx ⟨b, rfl⟩; cases b <;> refine wm ?_) | (refine callX_le (colKinds_spec [] (by decide)) callee76 rfl rfl (.cons (AV.Le.refl _) .nil) (by rfl) ?_; rintro x hx ⟨b, rfl⟩; cases b <;> refine wm ?_) | (refine callX_le (nodes1_spec q (a :: r) hl) callee77 rfl rfl (.cons (AV.Le.refl _) (.cons (AV.Le.refl _) .nil)) (by rfl) ?_; rintro x hx rfl; refine wm ?_) | (refine callX_le (deeper1_spec q (a :: r) hl) callee78 rfl rfl (.cons (AV.Le.refl _) (.cons (AV.Le.refl _) .nil)) (by rfl) ?_; rintro x hx rfl; refine wm ?_) | (refine callX_le (valid1_spec cols q (a :: r) hl) callee79 rfl rfl (.cons (AV.Le.refl _) (.cons (AV.Le.refl _) (.cons (AV.Le.refl _) .nil))) (by rfl) ?_; rintro x hx ⟨b, rfl⟩; cases b <;> refine wm ?_) | (refine i64 ?_; refine wm ?_) | (refine exI_as _ rfl ?_; refine wm ?_) | (refine forkB_dec (fun _ => ?_) (fun _ => ?_) <;> refine wm ?_) | (refine forkB_intro (fun _ => ?_) (fun _ => ?_) <;> refine wm ?_))
    exfalso
    rename_i h
    simp only [List.length_cons] at hl h
    omega
theorem callee59 : callee Try.prog 59 := callee_of Try.func59 rfl rfl
end Go.Proofs.Ve


/-
  VeKd: the case generator: a column, a valid predicate.
-/
set_option linter.unusedVariables false
set_option linter.unusedSimpArgs false
set_option pp.maxSteps 2000
set_option maxHeartbeats 4000000
namespace Go.Proofs.Ve
open Go

theorem column_spec (name : ByteArray) (kind : Int) : PSpec Try.prog 34 [.one (.str name), .one (.int .i64 kind)] (fun r => r = .agg (colC ⟨name, kind⟩)) := by
  refine pspec_x env08_ok mixed08 Try.func34 rfl 8 rfl _ rfl rfl ?_
  refine wn ?_
  refine retX_val rfl ?_
  conv => whnf
  rfl
theorem callee34 : callee Try.prog 34 := callee_of Try.func34 rfl rfl
theorem kidsG_len (cs cols : List Int) : ∀ (n p : Nat), (kidsG cs cols n p).1.length = n
  | 0, p => rfl
  | n + 1, p => congrArg (· + 1) (kidsG_len cs cols n _)
theorem treeG1_args (cs : List Int) (h : ok8 cs) (cols : List Int) (p : Nat) : (treeG1 cs cols p).1.args.length ≤ 3 := by
  unfold treeG1
  split
  · exact Nat.zero_le _
  · split
    · exact Nat.zero_le _
    · split
      · show 1 ≤ 3
        decide
      · show (kidsG cs cols _ _).1.length ≤ 3
        rw [kidsG_len]
        have := intG_lo cs h 3 (intP cs 9 p)
        have := intG_hi cs h 3 (by decide) (intP cs 9 p)
        omega
theorem p1C_lt (q : P1) : (AV.agg (p1C q)).lt 0 = true := by
  obtain ⟨op, cmp, l, r, args⟩ := q
  cases args <;> rfl
theorem predicate_spec (cs : List Int) (h : ok8 cs) (cols : List Int) (hc : cols.length ≤ 1099511627776) (p : Nat) (hp : p ≤ cs.length) :
    MSpec Try.prog 35 [.one (.ptr 0 0), .one (slC intC 8 cols), .one (slC intC 8 []), .one (.int .i64 1)] (caseO cs p) (caseO cs (treeG1 cs cols p).2) (.agg (p1C (treeG1 cs cols p).1)) := by
  refine mspec_x env08_ok mixed08 Try.func35 rfl 25 rfl _ rfl rfl ?_
  refine wn ?_
  refine callX_mut 0 (tree1_spec cs h cols hc p hp) (callee58) rfl rfl rfl (.cons (AV.Le.refl _) (.cons (AV.Le.refl _) (.cons (AV.Le.refl _) (.cons (AV.Le.refl _) .nil)))) rfl (by exact Nat.le_of_ble_eq_true rfl) rfl rfl (caseO_ren cs _) (p1C_lt _) ?_
  refine wn ?_
  refine callX_le (pcheck_spec cols hc (treeG1 cs cols p).1 (treeG1_args cs h cols p)) callee59 rfl rfl (.cons (AV.Le.refl _) (.cons (AV.Le.refl _) (.cons (AV.Le.refl _) .nil))) (by simp only [AV.ltL, p1C_lt]; rfl) ?_
  rintro x hx ⟨e, rfl, he⟩
  refine wn ?_
  refine forkB_intro (fun h1 => ?_) (fun h1 => ?_)
  · exfalso
    exact he (by simpa using h1)
  · refine wn ?_
    refine retX_mut rfl rfl (by exact Nat.le_of_ble_eq_true rfl) rfl rfl rfl (p1C_lt (treeG1 cs cols p).1) rfl rfl
theorem callee35 : callee Try.prog 35 := callee_of Try.func35 rfl rfl

abbrev nId : ByteArray := ⟨#[105, 100]⟩
abbrev nOwner : ByteArray := ⟨#[111, 119, 110, 101, 114]⟩
abbrev nProject : ByteArray := ⟨#[112, 114, 111, 106, 101, 99, 116]⟩
abbrev nTitle : ByteArray := ⟨#[116, 105, 116, 108, 101]⟩
abbrev nDone : ByteArray := ⟨#[100, 111, 110, 101]⟩
abbrev nPerson : ByteArray := ⟨#[112, 101, 114, 115, 111, 110]⟩
abbrev nTask : ByteArray := ⟨#[116, 97, 115, 107]⟩
def scC0 : List Col := [⟨nId, 4⟩, ⟨nOwner, 4⟩]
def scC1 (id : Int) : List Col := [⟨nId, id⟩, ⟨nProject, 4⟩, ⟨nTitle, 5⟩, ⟨nDone, 3⟩]
def scC2 : List Col := [⟨nProject, 4⟩, ⟨nPerson, 4⟩]
def scC3 (id : Int) : List Col := [⟨nTask, id⟩]
def scT0 : Tbl := ⟨⟨#[112, 114, 111, 106, 101, 99, 116, 115]⟩, scC0, 1, [], []⟩
def scT1 (id : Int) (r : List Ref) (ck : List Pred) : Tbl := ⟨⟨#[116, 97, 115, 107, 115]⟩, scC1 id, 1, r, ck⟩
def scT2 (r : List Ref) : Tbl := ⟨⟨#[109, 101, 109, 98, 101, 114, 115]⟩, scC2, 2, r, []⟩
def scT3 (id : Int) (r : List Ref) : Tbl := ⟨⟨#[97, 114, 99, 104, 105, 118, 101, 100]⟩, scC3 id, 1, r, []⟩
def scA (ex : List (Nat × AV)) (cs : List Int) (n ver : Int) (tabs : List Tbl) (p : Nat) : AS := AS.of 86 1 9 ([(0, .one (.ptr 0 0)), (2, .one (.ptr 1 0)), (3, .one (.int .i64 n)), (5, .one (.ptr 7 0))] ++ ex)
  [(0, caseO cs p), (1, ⟨32, 0, 0, [.int .i64 0, .sl true 0 0 []]⟩), (7, ⟨32, 0, 0, [.int .i64 ver, .gref 8]⟩), (8, ⟨55, 5, 96, tabs.flatMap tblC⟩)]
def ex7 : List (Nat × AV) := [(39, .one (.ptr 0 0))]
def ex9 : List (Nat × AV) := [(51, .one (.ptr 0 0)), (50, .one (.bool true))]
def ex11 : List (Nat × AV) := [(64, .one (.ptr 0 0)), (63, .one (.bool true))]
def ex13 : List (Nat × AV) := [(74, .one (.ptr 0 0))]
def ref1 : List Ref := [⟨0, [1]⟩]
def ref2 : List Ref := [⟨0, [0]⟩]
def ref3 : List Ref := [⟨1, [0]⟩]
def scTabs (n : Nat) (id : Int) (r1 r2 r3 : List Ref) (ck : List Pred) : List Tbl := match n with
  | 2 => [scT0, scT1 id r1 ck]
  | 3 => [scT0, scT1 id r1 ck, scT2 r2]
  | _ => [scT0, scT1 id r1 ck, scT2 r2, scT3 id r3]
def scG4 (cs : List Int) (n : Nat) (ver id : Int) (r1 r2 r3 : List Ref) (p : Nat) : Sch × Nat :=
  bif boolG cs 3 p then (⟨ver, scTabs n id r1 r2 r3 [p1C (treeG1 cs (kindsOf (scC1 id)) (intP cs 3 p)).1]⟩, (treeG1 cs (kindsOf (scC1 id)) (intP cs 3 p)).2) else (⟨ver, scTabs n id r1 r2 r3 []⟩, intP cs 3 p)
def scG3 (cs : List Int) (n : Nat) (ver id : Int) (r1 r2 : List Ref) (p : Nat) : Sch × Nat :=
  match n with
  | 4 => bif boolG cs 3 p then scG4 cs 4 ver id r1 r2 ref3 (intP cs 3 p) else scG4 cs 4 ver id r1 r2 [] (intP cs 3 p)
  | n => scG4 cs n ver id r1 r2 [] p
def scG2 (cs : List Int) (n : Nat) (ver id : Int) (r1 : List Ref) (p : Nat) : Sch × Nat :=
  match n with
  | 2 => scG3 cs 2 ver id r1 [] p
  | n => bif boolG cs 3 p then scG3 cs n ver id r1 ref2 (intP cs 3 p) else scG3 cs n ver id r1 [] (intP cs 3 p)
def scG1 (cs : List Int) (n : Nat) (ver id : Int) (p : Nat) : Sch × Nat := bif boolG cs 2 p then scG2 cs n ver id ref1 (intP cs 2 p) else scG2 cs n ver id [] (intP cs 2 p)
def schemaG (cs : List Int) (p : Nat) : Sch × Nat := bif boolG cs 5 (intP cs 3 p)
  then scG1 cs (2 + (intG cs 3 p).toNat) (intG cs 3 (intP cs 5 (intP cs 3 p))) 5 (intP cs 3 (intP cs 5 (intP cs 3 p)))
  else scG1 cs (2 + (intG cs 3 p).toNat) (intG cs 3 (intP cs 5 (intP cs 3 p))) 4 (intP cs 3 (intP cs 5 (intP cs 3 p)))
theorem sc_hs (n : Nat) (id : Int) (r1 r2 r3 : List Ref) (ck : List Pred) : ∀ T ∈ scTabs n id r1 r2 r3 ck, 1 ≤ T.cols.length ∧ T.cols.length ≤ 4 := by
  intro T hT
  have key : ∀ T ∈ [scT0, scT1 id r1 ck, scT2 r2, scT3 id r3], 1 ≤ T.cols.length ∧ T.cols.length ≤ 4 := by
    intro T hT
    simp only [List.mem_cons, List.not_mem_nil, or_false] at hT
    rcases hT with rfl | rfl | rfl | rfl <;> simp [scT0, scC0, scT1, scC1, scT2, scC2, scT3, scC3]
  unfold scTabs at hT
  split at hT
  · exact key T (by simp only [List.mem_cons, List.not_mem_nil, or_false] at hT ⊢; rcases hT with h | h <;> simp [h])
  · exact key T (by simp only [List.mem_cons, List.not_mem_nil, or_false] at hT ⊢; rcases hT with h | h | h <;> simp [h])
  · exact key T hT
def scO (n : Nat) (id : Int) (r1 r2 r3 : List Ref) : Ob := ⟨55, 5, 96, (scTabs n id r1 r2 r3 []).flatMap tblC⟩
theorem kinds_obs2 (ver id : Int) (r1 r2 r3 : List Ref) : OSpec Try.prog 36 [.agg [.int .i64 ver, .gref 0], .one (.int .i64 1)] [scO 2 id r1 r2 r3] (fun x => x = .one (slC intC 8 (kindsOf (scC1 id)))) := by
  refine ospec_x env08_ok mixed08 Try.func36 rfl 35 rfl _ rfl rfl ?_
  refine wm ?_
  repeat' (first | (refine i64 ?_; refine wm ?_) | (refine exI_as _ rfl ?_; refine wm ?_) | (refine forkB_dec (fun _ => ?_) (fun _ => ?_) <;> refine wm ?_) | (refine forkB_intro (fun _ => ?_) (fun _ => ?_) <;> refine wm ?_))
  refine ⟨2, rfl, ?_⟩
  refine wm ?_
  repeat' (first | (refine i64 ?_; refine wm ?_) | (refine exI_as _ rfl ?_; refine wm ?_) | (refine forkB_dec (fun _ => ?_) (fun _ => ?_) <;> refine wm ?_) | (refine forkB_intro (fun _ => ?_) (fun _ => ?_) <;> refine wm ?_))
  refine reqD_dec ⟨by decide, by exact Nat.le_of_ble_eq_true rfl⟩ ?_
  refine wm ?_
  repeat' (first | (refine i64 ?_; refine wm ?_) | (refine exI_as _ rfl ?_; refine wm ?_) | (refine forkB_dec (fun _ => ?_) (fun _ => ?_) <;> refine wm ?_) | (refine forkB_intro (fun _ => ?_) (fun _ => ?_) <;> refine wm ?_))
  refine loopX_n env08_ok mixed08 5 ?_
  refine wm ?_
  repeat' (first | (refine forkB_true ?_; refine wm ?_) | (refine forkB_false ?_; refine wm ?_) | (refine forkB_intro (fun h => absurd h (by simp [ty3, ty39])) (fun _ => ?_); refine wm ?_) | (refine reqD_dec (by exact of_decide_eq_true rfl) ?_; refine wm ?_) | (refine reqD_dec (by simp [ty3, ty39, ty50, ty51]; done) ?_; refine wm ?_) | (refine i64 ?_; refine wm ?_) | (refine exI_as _ rfl ?_; refine wm ?_) | (refine forkB_dec (fun _ => ?_) (fun _ => ?_) <;> refine wm ?_) | (refine forkB_intro (fun _ => ?_) (fun _ => ?_) <;> refine wm ?_))
  refine retX_tr (tfz 3 1 8 ((kindsOf (scC1 id)).flatMap intC) 13 4) ?_
  refine retX_obs rfl rfl (by exact Nat.le_of_ble_eq_true rfl) ⟨⟨rfl, rfl⟩, trivial⟩ ?_
  conv => whnf
  rfl
theorem kinds_obs3 (ver id : Int) (r1 r2 r3 : List Ref) : OSpec Try.prog 36 [.agg [.int .i64 ver, .gref 0], .one (.int .i64 1)] [scO 3 id r1 r2 r3] (fun x => x = .one (slC intC 8 (kindsOf (scC1 id)))) := by
  refine ospec_x env08_ok mixed08 Try.func36 rfl 35 rfl _ rfl rfl ?_
  refine wm ?_
  repeat' (first | (refine i64 ?_; refine wm ?_) | (refine exI_as _ rfl ?_; refine wm ?_) | (refine forkB_dec (fun _ => ?_) (fun _ => ?_) <;> refine wm ?_) | (refine forkB_intro (fun _ => ?_) (fun _ => ?_) <;> refine wm ?_))
  refine ⟨3, rfl, ?_⟩
  refine wm ?_
  repeat' (first | (refine i64 ?_; refine wm ?_) | (refine exI_as _ rfl ?_; refine wm ?_) | (refine forkB_dec (fun _ => ?_) (fun _ => ?_) <;> refine wm ?_) | (refine forkB_intro (fun _ => ?_) (fun _ => ?_) <;> refine wm ?_))
  refine reqD_dec ⟨by decide, by exact Nat.le_of_ble_eq_true rfl⟩ ?_
  refine wm ?_
  repeat' (first | (refine i64 ?_; refine wm ?_) | (refine exI_as _ rfl ?_; refine wm ?_) | (refine forkB_dec (fun _ => ?_) (fun _ => ?_) <;> refine wm ?_) | (refine forkB_intro (fun _ => ?_) (fun _ => ?_) <;> refine wm ?_))
  refine loopX_n env08_ok mixed08 5 ?_
  refine wm ?_
  repeat' (first | (refine forkB_true ?_; refine wm ?_) | (refine forkB_false ?_; refine wm ?_) | (refine forkB_intro (fun h => absurd h (by simp [ty3, ty39])) (fun _ => ?_); refine wm ?_) | (refine reqD_dec (by exact of_decide_eq_true rfl) ?_; refine wm ?_) | (refine reqD_dec (by simp [ty3, ty39, ty50, ty51]; done) ?_; refine wm ?_) | (refine i64 ?_; refine wm ?_) | (refine exI_as _ rfl ?_; refine wm ?_) | (refine forkB_dec (fun _ => ?_) (fun _ => ?_) <;> refine wm ?_) | (refine forkB_intro (fun _ => ?_) (fun _ => ?_) <;> refine wm ?_))
  refine retX_tr (tfz 3 1 8 ((kindsOf (scC1 id)).flatMap intC) 13 4) ?_
  refine retX_obs rfl rfl (by exact Nat.le_of_ble_eq_true rfl) ⟨⟨rfl, rfl⟩, trivial⟩ ?_
  conv => whnf
  rfl
theorem kinds_obs4 (ver id : Int) (r1 r2 r3 : List Ref) : OSpec Try.prog 36 [.agg [.int .i64 ver, .gref 0], .one (.int .i64 1)] [scO 4 id r1 r2 r3] (fun x => x = .one (slC intC 8 (kindsOf (scC1 id)))) := by
  refine ospec_x env08_ok mixed08 Try.func36 rfl 35 rfl _ rfl rfl ?_
  refine wm ?_
  repeat' (first | (refine i64 ?_; refine wm ?_) | (refine exI_as _ rfl ?_; refine wm ?_) | (refine forkB_dec (fun _ => ?_) (fun _ => ?_) <;> refine wm ?_) | (refine forkB_intro (fun _ => ?_) (fun _ => ?_) <;> refine wm ?_))
  refine ⟨4, rfl, ?_⟩
  refine wm ?_
  repeat' (first | (refine i64 ?_; refine wm ?_) | (refine exI_as _ rfl ?_; refine wm ?_) | (refine forkB_dec (fun _ => ?_) (fun _ => ?_) <;> refine wm ?_) | (refine forkB_intro (fun _ => ?_) (fun _ => ?_) <;> refine wm ?_))
  refine reqD_dec ⟨by decide, by exact Nat.le_of_ble_eq_true rfl⟩ ?_
  refine wm ?_
  repeat' (first | (refine i64 ?_; refine wm ?_) | (refine exI_as _ rfl ?_; refine wm ?_) | (refine forkB_dec (fun _ => ?_) (fun _ => ?_) <;> refine wm ?_) | (refine forkB_intro (fun _ => ?_) (fun _ => ?_) <;> refine wm ?_))
  refine loopX_n env08_ok mixed08 5 ?_
  refine wm ?_
  repeat' (first | (refine forkB_true ?_; refine wm ?_) | (refine forkB_false ?_; refine wm ?_) | (refine forkB_intro (fun h => absurd h (by simp [ty3, ty39])) (fun _ => ?_); refine wm ?_) | (refine reqD_dec (by exact of_decide_eq_true rfl) ?_; refine wm ?_) | (refine reqD_dec (by simp [ty3, ty39, ty50, ty51]; done) ?_; refine wm ?_) | (refine i64 ?_; refine wm ?_) | (refine exI_as _ rfl ?_; refine wm ?_) | (refine forkB_dec (fun _ => ?_) (fun _ => ?_) <;> refine wm ?_) | (refine forkB_intro (fun _ => ?_) (fun _ => ?_) <;> refine wm ?_))
  refine retX_tr (tfz 3 1 8 ((kindsOf (scC1 id)).flatMap intC) 13 4) ?_
  refine retX_obs rfl rfl (by exact Nat.le_of_ble_eq_true rfl) ⟨⟨rfl, rfl⟩, trivial⟩ ?_
  conv => whnf
  rfl
def scRaw (n : Nat) (id : Int) : List AC :=
  List.take (5 * n) [.str scT0.name, slC colC 24 scC0, .int .i64 1, nilC, nilC, .str (scT1 id [] []).name, slC colC 24 (scC1 id), .int .i64 1, nilC, nilC, .str (scT2 []).name, slC colC 24 scC2, .int .i64 2, nilC, nilC, .str (scT3 id []).name, slC colC 24 (scC3 id), .int .i64 1, nilC, nilC]
theorem gschema_spec (cs : List Int) (h : ok8 cs) (p : Nat) (hp : p ≤ cs.length) :
    MSpec Try.prog 10 [.one (.ptr 0 0)] (caseO cs p) (caseO cs (schemaG cs p).2) (.agg (schC (schemaG cs p).1)) := by
  refine mspec_x env08_ok mixed08 Try.func10 rfl 86 rfl _ rfl rfl ?_
  refine wn ?_
  refine cm (int_spec cs h 3 p hp) (callee25) ?_
  refine wn ?_
  have g0 := intG_lo cs h 3 p
  have g1 := intG_hi cs h 3 (by decide) p
  have hp1 : intP cs 3 p ≤ cs.length := intP_in hp
  have hn3 : intG cs 3 p = 0 ∨ intG cs 3 p = 1 ∨ intG cs 3 p = 2 := by omega
  rcases hn3 with h0 | h0 | h0
  · rw [h0]
    refine exI_as 2 (by rfl) ?_
    refine wn ?_
    refine cm (bool_spec cs h 5 (intP cs 3 p) hp1 (by decide)) (callee17) ?_
    refine wn ?_
    obtain ⟨P2, hP2⟩ : ∃ P2, intP cs 5 (intP cs 3 p) = P2 := ⟨_, rfl⟩
    have hP2l : P2 ≤ cs.length := by rw [← hP2]; exact intP_in hp1
    rw [hP2]
    obtain ⟨ver, hver⟩ : ∃ ver, intG cs 3 P2 = ver := ⟨_, rfl⟩
    obtain ⟨P3, hP3⟩ : ∃ P3, intP cs 3 P2 = P3 := ⟨_, rfl⟩
    have hP3l : P3 ≤ cs.length := by rw [← hP3]; exact intP_in hP2l
    cases hb : boolG cs 5 (intP cs 3 p) with
    | true =>
      have e : schemaG cs p = scG1 cs 2 ver 5 P3 := by rw [schemaG, hb, h0, hP2, hver, hP3]; rfl
      rw [e]
      refine wn ?_
      refine cm (int_spec cs h 3 P2 hP2l) (callee25) ?_
      refine wn ?_
      refine cle (column_spec nId 4) callee34 ?_
      rintro x hx rfl
      refine wn ?_
      refine cle (column_spec nOwner 4) callee34 ?_
      rintro x hx rfl
      refine wn ?_
      refine cle (column_spec nId 5) callee34 ?_
      rintro x hx rfl
      refine wn ?_
      refine cle (column_spec nProject 4) callee34 ?_
      rintro x hx rfl
      refine wn ?_
      refine cle (column_spec nTitle 5) callee34 ?_
      rintro x hx rfl
      refine wn ?_
      refine cle (column_spec nDone 3) callee34 ?_
      rintro x hx rfl
      refine wn ?_
      refine cle (column_spec nProject 4) callee34 ?_
      rintro x hx rfl
      refine wn ?_
      refine cle (column_spec nPerson 4) callee34 ?_
      rintro x hx rfl
      refine wn ?_
      refine cle (column_spec nTask 5) callee34 ?_
      rintro x hx rfl
      refine wn ?_
      refine callX_cut (id := 6) env08_ok rfl rfl rfl rfl rfl rfl (by decide) rfl (by simp) rfl (by decide) (by decide) ?_
      refine wn ?_
      refine callX_tr (A1 := scA ex7 cs 2 (intG cs 3 P2) (scTabs 2 5 [] [] [] []) (intP cs 3 P2)) ?_ rfl ?_
      · refine Tr.trans (tfz 50 2 24 (scC0.flatMap colC) 2 2) ?_
        refine Tr.trans (tfz 50 2 24 ((scC1 5).flatMap colC) 3 4) ?_
        refine Tr.trans (tfz 50 2 24 (scC2.flatMap colC) 4 2) ?_
        refine Tr.trans (tfz 50 2 24 ((scC3 5).flatMap colC) 5 1) ?_
        refine Tr.trans (Tr.obj 8 (ob := ⟨55, 5, 96, scRaw 2 5⟩) (by rfl) (cells := (scTabs 2 5 [] [] [] []).flatMap tblC) ?_) ?_
        · repeat (first | exact Pw.nil | refine Pw.cons (by first | exact AC.LeV.refl _ | exact AC.LeV.sl (AC.Le.nil (.inl rfl))) ?_)
        · exact tid
      rw [hver, hP3]
      refine cm (bool_spec cs h 2 P3 hP3l (by decide)) (callee17) ?_
      refine wn ?_
      obtain ⟨P4, hP4⟩ : ∃ P4, intP cs 2 P3 = P4 := ⟨_, rfl⟩
      have hP4l : P4 ≤ cs.length := by rw [← hP4]; exact intP_in hP3l
      rw [hP4]
      cases hb1 : boolG cs 2 P3 with
      | true =>
        have e : scG1 cs 2 ver 5 P3 = scG4 cs 2 ver 5 ref1 [] [] P4 := by rw [scG1, hb1, hP4]; rfl
        refine wn ?_
        refine callX_tr (A1 := (scA ex13 cs 2 ver (scTabs 2 5 ref1 [] [] []) P4)) ?_ rfl ?_
        · refine Tr.trans (tfz 3 1 8 ([.int .i64 1]) 9 1) ?_
          refine Tr.trans (tfz 81 2 32 (ref1.flatMap refC) 10 1) ?_
          exact tid
        refine cm (bool_spec cs h 3 P4 hP4l (by decide)) (callee17) ?_
        refine wn ?_
        obtain ⟨PE, hPE⟩ : ∃ PE, intP cs 3 P4 = PE := ⟨_, rfl⟩
        have hPEl : PE ≤ cs.length := by rw [← hPE]; exact intP_in hP4l
        rw [hPE]
        cases hbE : boolG cs 3 P4 with
        | true =>
          have eE : scG4 cs 2 ver 5 ref1 [] [] P4 = (⟨ver, scTabs 2 5 ref1 [] [] [p1C (treeG1 cs (kindsOf (scC1 5)) PE).1]⟩, (treeG1 cs (kindsOf (scC1 5)) PE).2) := by rw [scG4, hbE, hPE]; rfl
          rw [e, eE]
          refine wn ?_
          refine drawnX_phase env08_ok (fun id => id == 7) (List.range 9) (tks 0 4 (.one 4 (.one 5 (.one 6 (tks 7 2 (.stop)))))) 1 (lst 10 [9]) (by kernel_rfl) ?_
          refine wn ?_
          refine callX_obs (kinds_obs2 ver 5 ref1 [] []) callee36 (fun _ => 8) (fun j => if j = 8 then some 0 else none) (avs := [.agg [.int .i64 ver, .gref 8], .one (.int .i64 1)]) rfl rfl (.cons (AV.Le.refl _) (.cons (AV.Le.refl _) .nil)) (passed1 (args := [.agg [.int .i64 ver, .gref 0], .one (.int .i64 1)]) 8 rfl (by exact Nat.le_of_ble_eq_true rfl) rfl rfl) ?_
          rintro x hx rfl
          refine wn ?_
          refine callX_mut 0 (predicate_spec cs h (kindsOf (scC1 5)) (by simp [kindsOf, scC1]) PE hPEl) (callee35) rfl rfl rfl (.cons (AV.Le.refl _) (.cons (AV.Le.refl _) (.cons (AV.Le.nilOf rfl) (.cons (AV.Le.refl _) .nil)))) rfl (by exact Nat.le_of_ble_eq_true rfl) rfl rfl (caseO_ren cs _) (p1C_lt _) ?_
          refine wn ?_
          obtain ⟨Q, hQ⟩ : ∃ Q, (treeG1 cs (kindsOf (scC1 5)) PE).1 = Q := ⟨_, rfl⟩
          rw [hQ]
          refine drawnX_phase env08_ok (fun _ => false) (List.range 10) (.one 9 (.stop)) 0 (lst 10 []) (by kernel_rfl) ?_
          refine wn ?_
          refine drawnX_done (by kernel_rfl) ?_
          refine wn ?_
          refine retX_tr (Tr.trans (Tr.frz' (T := 85) (s := 13) (B := 136) (cells := p1C Q) 9 1 (by rfl) (by decide) rfl (p1C_deep Q)) (tfz 55 5 96 ((scTabs 2 5 ref1 [] [] [p1C Q]).flatMap tblC) 8 2)) ?_
          refine rtm ?_
          (conv => lhs; whnf)
          rfl
        | false =>
          have eE : scG4 cs 2 ver 5 ref1 [] [] P4 = (⟨ver, scTabs 2 5 ref1 [] [] []⟩, PE) := by rw [scG4, hbE, hPE]; rfl
          rw [e, eE]
          refine wn ?_
          refine retX_tr (tfz 55 5 96 ((scTabs 2 5 ref1 [] [] []).flatMap tblC) 8 2) ?_
          refine rtm ?_
          (conv => lhs; whnf)
          rfl
      | false =>
        have e : scG1 cs 2 ver 5 P3 = scG4 cs 2 ver 5 [] [] [] P4 := by rw [scG1, hb1, hP4]; rfl
        refine wn ?_
        refine callX_tr (A1 := (scA ex13 cs 2 ver (scTabs 2 5 [] [] [] []) P4)) ?_ rfl ?_
        · exact tid
        refine cm (bool_spec cs h 3 P4 hP4l (by decide)) (callee17) ?_
        refine wn ?_
        obtain ⟨PE, hPE⟩ : ∃ PE, intP cs 3 P4 = PE := ⟨_, rfl⟩
        have hPEl : PE ≤ cs.length := by rw [← hPE]; exact intP_in hP4l
        rw [hPE]
        cases hbE : boolG cs 3 P4 with
        | true =>
          have eE : scG4 cs 2 ver 5 [] [] [] P4 = (⟨ver, scTabs 2 5 [] [] [] [p1C (treeG1 cs (kindsOf (scC1 5)) PE).1]⟩, (treeG1 cs (kindsOf (scC1 5)) PE).2) := by rw [scG4, hbE, hPE]; rfl
          rw [e, eE]
          refine wn ?_
          refine drawnX_phase env08_ok (fun id => id == 7) (List.range 9) (tks 0 4 (.one 4 (.one 5 (.one 6 (tks 7 2 (.stop)))))) 1 (lst 10 [9]) (by kernel_rfl) ?_
          refine wn ?_
          refine callX_obs (kinds_obs2 ver 5 [] [] []) callee36 (fun _ => 8) (fun j => if j = 8 then some 0 else none) (avs := [.agg [.int .i64 ver, .gref 8], .one (.int .i64 1)]) rfl rfl (.cons (AV.Le.refl _) (.cons (AV.Le.refl _) .nil)) (passed1 (args := [.agg [.int .i64 ver, .gref 0], .one (.int .i64 1)]) 8 rfl (by exact Nat.le_of_ble_eq_true rfl) rfl rfl) ?_
          rintro x hx rfl
          refine wn ?_
          refine callX_mut 0 (predicate_spec cs h (kindsOf (scC1 5)) (by simp [kindsOf, scC1]) PE hPEl) (callee35) rfl rfl rfl (.cons (AV.Le.refl _) (.cons (AV.Le.refl _) (.cons (AV.Le.nilOf rfl) (.cons (AV.Le.refl _) .nil)))) rfl (by exact Nat.le_of_ble_eq_true rfl) rfl rfl (caseO_ren cs _) (p1C_lt _) ?_
          refine wn ?_
          obtain ⟨Q, hQ⟩ : ∃ Q, (treeG1 cs (kindsOf (scC1 5)) PE).1 = Q := ⟨_, rfl⟩
          rw [hQ]
          refine drawnX_phase env08_ok (fun _ => false) (List.range 10) (.one 9 (.stop)) 0 (lst 10 []) (by kernel_rfl) ?_
          refine wn ?_
          refine drawnX_done (by kernel_rfl) ?_
          refine wn ?_
          refine retX_tr (Tr.trans (Tr.frz' (T := 85) (s := 13) (B := 136) (cells := p1C Q) 9 1 (by rfl) (by decide) rfl (p1C_deep Q)) (tfz 55 5 96 ((scTabs 2 5 [] [] [] [p1C Q]).flatMap tblC) 8 2)) ?_
          refine rtm ?_
          (conv => lhs; whnf)
          rfl
        | false =>
          have eE : scG4 cs 2 ver 5 [] [] [] P4 = (⟨ver, scTabs 2 5 [] [] [] []⟩, PE) := by rw [scG4, hbE, hPE]; rfl
          rw [e, eE]
          refine wn ?_
          refine retX_tr (tfz 55 5 96 ((scTabs 2 5 [] [] [] []).flatMap tblC) 8 2) ?_
          refine rtm ?_
          (conv => lhs; whnf)
          rfl
    | false =>
      have e : schemaG cs p = scG1 cs 2 ver 4 P3 := by rw [schemaG, hb, h0, hP2, hver, hP3]; rfl
      rw [e]
      refine wn ?_
      refine cm (int_spec cs h 3 P2 hP2l) (callee25) ?_
      refine wn ?_
      refine cle (column_spec nId 4) callee34 ?_
      rintro x hx rfl
      refine wn ?_
      refine cle (column_spec nOwner 4) callee34 ?_
      rintro x hx rfl
      refine wn ?_
      refine cle (column_spec nId 4) callee34 ?_
      rintro x hx rfl
      refine wn ?_
      refine cle (column_spec nProject 4) callee34 ?_
      rintro x hx rfl
      refine wn ?_
      refine cle (column_spec nTitle 5) callee34 ?_
      rintro x hx rfl
      refine wn ?_
      refine cle (column_spec nDone 3) callee34 ?_
      rintro x hx rfl
      refine wn ?_
      refine cle (column_spec nProject 4) callee34 ?_
      rintro x hx rfl
      refine wn ?_
      refine cle (column_spec nPerson 4) callee34 ?_
      rintro x hx rfl
      refine wn ?_
      refine cle (column_spec nTask 4) callee34 ?_
      rintro x hx rfl
      refine wn ?_
      refine callX_cut (id := 6) env08_ok rfl rfl rfl rfl rfl rfl (by decide) rfl (by simp) rfl (by decide) (by decide) ?_
      refine wn ?_
      refine callX_tr (A1 := scA ex7 cs 2 (intG cs 3 P2) (scTabs 2 4 [] [] [] []) (intP cs 3 P2)) ?_ rfl ?_
      · refine Tr.trans (tfz 50 2 24 (scC0.flatMap colC) 2 2) ?_
        refine Tr.trans (tfz 50 2 24 ((scC1 4).flatMap colC) 3 4) ?_
        refine Tr.trans (tfz 50 2 24 (scC2.flatMap colC) 4 2) ?_
        refine Tr.trans (tfz 50 2 24 ((scC3 4).flatMap colC) 5 1) ?_
        refine Tr.trans (Tr.obj 8 (ob := ⟨55, 5, 96, scRaw 2 4⟩) (by rfl) (cells := (scTabs 2 4 [] [] [] []).flatMap tblC) ?_) ?_
        · repeat (first | exact Pw.nil | refine Pw.cons (by first | exact AC.LeV.refl _ | exact AC.LeV.sl (AC.Le.nil (.inl rfl))) ?_)
        · exact tid
      rw [hver, hP3]
      refine cm (bool_spec cs h 2 P3 hP3l (by decide)) (callee17) ?_
      refine wn ?_
      obtain ⟨P4, hP4⟩ : ∃ P4, intP cs 2 P3 = P4 := ⟨_, rfl⟩
      have hP4l : P4 ≤ cs.length := by rw [← hP4]; exact intP_in hP3l
      rw [hP4]
      cases hb1 : boolG cs 2 P3 with
      | true =>
        have e : scG1 cs 2 ver 4 P3 = scG4 cs 2 ver 4 ref1 [] [] P4 := by rw [scG1, hb1, hP4]; rfl
        refine wn ?_
        refine callX_tr (A1 := (scA ex13 cs 2 ver (scTabs 2 4 ref1 [] [] []) P4)) ?_ rfl ?_
        · refine Tr.trans (tfz 3 1 8 ([.int .i64 1]) 9 1) ?_
          refine Tr.trans (tfz 81 2 32 (ref1.flatMap refC) 10 1) ?_
          exact tid
        refine cm (bool_spec cs h 3 P4 hP4l (by decide)) (callee17) ?_
        refine wn ?_
        obtain ⟨PE, hPE⟩ : ∃ PE, intP cs 3 P4 = PE := ⟨_, rfl⟩
        have hPEl : PE ≤ cs.length := by rw [← hPE]; exact intP_in hP4l
        rw [hPE]
        cases hbE : boolG cs 3 P4 with
        | true =>
          have eE : scG4 cs 2 ver 4 ref1 [] [] P4 = (⟨ver, scTabs 2 4 ref1 [] [] [p1C (treeG1 cs (kindsOf (scC1 4)) PE).1]⟩, (treeG1 cs (kindsOf (scC1 4)) PE).2) := by rw [scG4, hbE, hPE]; rfl
          rw [e, eE]
          refine wn ?_
          refine drawnX_phase env08_ok (fun id => id == 7) (List.range 9) (tks 0 4 (.one 4 (.one 5 (.one 6 (tks 7 2 (.stop)))))) 1 (lst 10 [9]) (by kernel_rfl) ?_
          refine wn ?_
          refine callX_obs (kinds_obs2 ver 4 ref1 [] []) callee36 (fun _ => 8) (fun j => if j = 8 then some 0 else none) (avs := [.agg [.int .i64 ver, .gref 8], .one (.int .i64 1)]) rfl rfl (.cons (AV.Le.refl _) (.cons (AV.Le.refl _) .nil)) (passed1 (args := [.agg [.int .i64 ver, .gref 0], .one (.int .i64 1)]) 8 rfl (by exact Nat.le_of_ble_eq_true rfl) rfl rfl) ?_
          rintro x hx rfl
          refine wn ?_
          refine callX_mut 0 (predicate_spec cs h (kindsOf (scC1 4)) (by simp [kindsOf, scC1]) PE hPEl) (callee35) rfl rfl rfl (.cons (AV.Le.refl _) (.cons (AV.Le.refl _) (.cons (AV.Le.nilOf rfl) (.cons (AV.Le.refl _) .nil)))) rfl (by exact Nat.le_of_ble_eq_true rfl) rfl rfl (caseO_ren cs _) (p1C_lt _) ?_
          refine wn ?_
          obtain ⟨Q, hQ⟩ : ∃ Q, (treeG1 cs (kindsOf (scC1 4)) PE).1 = Q := ⟨_, rfl⟩
          rw [hQ]
          refine drawnX_phase env08_ok (fun _ => false) (List.range 10) (.one 9 (.stop)) 0 (lst 10 []) (by kernel_rfl) ?_
          refine wn ?_
          refine drawnX_done (by kernel_rfl) ?_
          refine wn ?_
          refine retX_tr (Tr.trans (Tr.frz' (T := 85) (s := 13) (B := 136) (cells := p1C Q) 9 1 (by rfl) (by decide) rfl (p1C_deep Q)) (tfz 55 5 96 ((scTabs 2 4 ref1 [] [] [p1C Q]).flatMap tblC) 8 2)) ?_
          refine rtm ?_
          (conv => lhs; whnf)
          rfl
        | false =>
          have eE : scG4 cs 2 ver 4 ref1 [] [] P4 = (⟨ver, scTabs 2 4 ref1 [] [] []⟩, PE) := by rw [scG4, hbE, hPE]; rfl
          rw [e, eE]
          refine wn ?_
          refine retX_tr (tfz 55 5 96 ((scTabs 2 4 ref1 [] [] []).flatMap tblC) 8 2) ?_
          refine rtm ?_
          (conv => lhs; whnf)
          rfl
      | false =>
        have e : scG1 cs 2 ver 4 P3 = scG4 cs 2 ver 4 [] [] [] P4 := by rw [scG1, hb1, hP4]; rfl
        refine wn ?_
        refine callX_tr (A1 := (scA ex13 cs 2 ver (scTabs 2 4 [] [] [] []) P4)) ?_ rfl ?_
        · exact tid
        refine cm (bool_spec cs h 3 P4 hP4l (by decide)) (callee17) ?_
        refine wn ?_
        obtain ⟨PE, hPE⟩ : ∃ PE, intP cs 3 P4 = PE := ⟨_, rfl⟩
        have hPEl : PE ≤ cs.length := by rw [← hPE]; exact intP_in hP4l
        rw [hPE]
        cases hbE : boolG cs 3 P4 with
        | true =>
          have eE : scG4 cs 2 ver 4 [] [] [] P4 = (⟨ver, scTabs 2 4 [] [] [] [p1C (treeG1 cs (kindsOf (scC1 4)) PE).1]⟩, (treeG1 cs (kindsOf (scC1 4)) PE).2) := by rw [scG4, hbE, hPE]; rfl
          rw [e, eE]
          refine wn ?_
          refine drawnX_phase env08_ok (fun id => id == 7) (List.range 9) (tks 0 4 (.one 4 (.one 5 (.one 6 (tks 7 2 (.stop)))))) 1 (lst 10 [9]) (by kernel_rfl) ?_
          refine wn ?_
          refine callX_obs (kinds_obs2 ver 4 [] [] []) callee36 (fun _ => 8) (fun j => if j = 8 then some 0 else none) (avs := [.agg [.int .i64 ver, .gref 8], .one (.int .i64 1)]) rfl rfl (.cons (AV.Le.refl _) (.cons (AV.Le.refl _) .nil)) (passed1 (args := [.agg [.int .i64 ver, .gref 0], .one (.int .i64 1)]) 8 rfl (by exact Nat.le_of_ble_eq_true rfl) rfl rfl) ?_
          rintro x hx rfl
          refine wn ?_
          refine callX_mut 0 (predicate_spec cs h (kindsOf (scC1 4)) (by simp [kindsOf, scC1]) PE hPEl) (callee35) rfl rfl rfl (.cons (AV.Le.refl _) (.cons (AV.Le.refl _) (.cons (AV.Le.nilOf rfl) (.cons (AV.Le.refl _) .nil)))) rfl (by exact Nat.le_of_ble_eq_true rfl) rfl rfl (caseO_ren cs _) (p1C_lt _) ?_
          refine wn ?_
          obtain ⟨Q, hQ⟩ : ∃ Q, (treeG1 cs (kindsOf (scC1 4)) PE).1 = Q := ⟨_, rfl⟩
          rw [hQ]
          refine drawnX_phase env08_ok (fun _ => false) (List.range 10) (.one 9 (.stop)) 0 (lst 10 []) (by kernel_rfl) ?_
          refine wn ?_
          refine drawnX_done (by kernel_rfl) ?_
          refine wn ?_
          refine retX_tr (Tr.trans (Tr.frz' (T := 85) (s := 13) (B := 136) (cells := p1C Q) 9 1 (by rfl) (by decide) rfl (p1C_deep Q)) (tfz 55 5 96 ((scTabs 2 4 [] [] [] [p1C Q]).flatMap tblC) 8 2)) ?_
          refine rtm ?_
          (conv => lhs; whnf)
          rfl
        | false =>
          have eE : scG4 cs 2 ver 4 [] [] [] P4 = (⟨ver, scTabs 2 4 [] [] [] []⟩, PE) := by rw [scG4, hbE, hPE]; rfl
          rw [e, eE]
          refine wn ?_
          refine retX_tr (tfz 55 5 96 ((scTabs 2 4 [] [] [] []).flatMap tblC) 8 2) ?_
          refine rtm ?_
          (conv => lhs; whnf)
          rfl
  · rw [h0]
    refine exI_as 3 (by rfl) ?_
    refine wn ?_
    refine cm (bool_spec cs h 5 (intP cs 3 p) hp1 (by decide)) (callee17) ?_
    refine wn ?_
    obtain ⟨P2, hP2⟩ : ∃ P2, intP cs 5 (intP cs 3 p) = P2 := ⟨_, rfl⟩
    have hP2l : P2 ≤ cs.length := by rw [← hP2]; exact intP_in hp1
    rw [hP2]
    obtain ⟨ver, hver⟩ : ∃ ver, intG cs 3 P2 = ver := ⟨_, rfl⟩
    obtain ⟨P3, hP3⟩ : ∃ P3, intP cs 3 P2 = P3 := ⟨_, rfl⟩
    have hP3l : P3 ≤ cs.length := by rw [← hP3]; exact intP_in hP2l
    cases hb : boolG cs 5 (intP cs 3 p) with
    | true =>
      have e : schemaG cs p = scG1 cs 3 ver 5 P3 := by rw [schemaG, hb, h0, hP2, hver, hP3]; rfl
      rw [e]
      refine wn ?_
      refine cm (int_spec cs h 3 P2 hP2l) (callee25) ?_
      refine wn ?_
      refine cle (column_spec nId 4) callee34 ?_
      rintro x hx rfl
      refine wn ?_
      refine cle (column_spec nOwner 4) callee34 ?_
      rintro x hx rfl
      refine wn ?_
      refine cle (column_spec nId 5) callee34 ?_
      rintro x hx rfl
      refine wn ?_
      refine cle (column_spec nProject 4) callee34 ?_
      rintro x hx rfl
      refine wn ?_
      refine cle (column_spec nTitle 5) callee34 ?_
      rintro x hx rfl
      refine wn ?_
      refine cle (column_spec nDone 3) callee34 ?_
      rintro x hx rfl
      refine wn ?_
      refine cle (column_spec nProject 4) callee34 ?_
      rintro x hx rfl
      refine wn ?_
      refine cle (column_spec nPerson 4) callee34 ?_
      rintro x hx rfl
      refine wn ?_
      refine cle (column_spec nTask 5) callee34 ?_
      rintro x hx rfl
      refine wn ?_
      refine callX_cut (id := 6) env08_ok rfl rfl rfl rfl rfl rfl (by decide) rfl (by simp) rfl (by decide) (by decide) ?_
      refine wn ?_
      refine callX_tr (A1 := scA ex7 cs 3 (intG cs 3 P2) (scTabs 3 5 [] [] [] []) (intP cs 3 P2)) ?_ rfl ?_
      · refine Tr.trans (tfz 50 2 24 (scC0.flatMap colC) 2 2) ?_
        refine Tr.trans (tfz 50 2 24 ((scC1 5).flatMap colC) 3 4) ?_
        refine Tr.trans (tfz 50 2 24 (scC2.flatMap colC) 4 2) ?_
        refine Tr.trans (tfz 50 2 24 ((scC3 5).flatMap colC) 5 1) ?_
        refine Tr.trans (Tr.obj 8 (ob := ⟨55, 5, 96, scRaw 3 5⟩) (by rfl) (cells := (scTabs 3 5 [] [] [] []).flatMap tblC) ?_) ?_
        · repeat (first | exact Pw.nil | refine Pw.cons (by first | exact AC.LeV.refl _ | exact AC.LeV.sl (AC.Le.nil (.inl rfl))) ?_)
        · exact tid
      rw [hver, hP3]
      refine cm (bool_spec cs h 2 P3 hP3l (by decide)) (callee17) ?_
      refine wn ?_
      obtain ⟨P4, hP4⟩ : ∃ P4, intP cs 2 P3 = P4 := ⟨_, rfl⟩
      have hP4l : P4 ≤ cs.length := by rw [← hP4]; exact intP_in hP3l
      rw [hP4]
      cases hb1 : boolG cs 2 P3 with
      | true =>
        have e : scG1 cs 3 ver 5 P3 = bif boolG cs 3 P4 then scG3 cs 3 ver 5 ref1 ref2 (intP cs 3 P4) else scG3 cs 3 ver 5 ref1 [] (intP cs 3 P4) := by rw [scG1, hb1, hP4]; rfl
        refine wn ?_
        refine callX_tr (A1 := (scA ex9 cs 3 ver (scTabs 3 5 ref1 [] [] []) P4)) ?_ rfl ?_
        · refine Tr.trans (tfz 3 1 8 ([.int .i64 1]) 9 1) ?_
          refine Tr.trans (tfz 81 2 32 (ref1.flatMap refC) 10 1) ?_
          exact tid
        rw [e]
        refine cm (bool_spec cs h 3 P4 hP4l (by decide)) (callee17) ?_
        refine wn ?_
        obtain ⟨P5, hP5⟩ : ∃ P5, intP cs 3 P4 = P5 := ⟨_, rfl⟩
        have hP5l : P5 ≤ cs.length := by rw [← hP5]; exact intP_in hP4l
        rw [hP5]
        cases hb2 : boolG cs 3 P4 with
        | true =>
          have e : (bif true then scG3 cs 3 ver 5 ref1 ref2 P5 else scG3 cs 3 ver 5 ref1 [] P5) = scG4 cs 3 ver 5 ref1 ref2 [] P5 := rfl
          refine wn ?_
          refine callX_tr (A1 := (scA ex13 cs 3 ver (scTabs 3 5 ref1 ref2 [] []) P5)) ?_ rfl ?_
          · refine Tr.trans (tfz 3 1 8 ([.int .i64 0]) 9 1) ?_
            refine Tr.trans (tfz 81 2 32 (ref2.flatMap refC) 10 1) ?_
            exact tid
          refine cm (bool_spec cs h 3 P5 hP5l (by decide)) (callee17) ?_
          refine wn ?_
          obtain ⟨PE, hPE⟩ : ∃ PE, intP cs 3 P5 = PE := ⟨_, rfl⟩
          have hPEl : PE ≤ cs.length := by rw [← hPE]; exact intP_in hP5l
          rw [hPE]
          cases hbE : boolG cs 3 P5 with
          | true =>
            have eE : scG4 cs 3 ver 5 ref1 ref2 [] P5 = (⟨ver, scTabs 3 5 ref1 ref2 [] [p1C (treeG1 cs (kindsOf (scC1 5)) PE).1]⟩, (treeG1 cs (kindsOf (scC1 5)) PE).2) := by rw [scG4, hbE, hPE]; rfl
            rw [e, eE]
            refine wn ?_
            refine drawnX_phase env08_ok (fun id => id == 7) (List.range 9) (tks 0 4 (.one 4 (.one 5 (.one 6 (tks 7 2 (.stop)))))) 1 (lst 10 [9]) (by kernel_rfl) ?_
            refine wn ?_
            refine callX_obs (kinds_obs3 ver 5 ref1 ref2 []) callee36 (fun _ => 8) (fun j => if j = 8 then some 0 else none) (avs := [.agg [.int .i64 ver, .gref 8], .one (.int .i64 1)]) rfl rfl (.cons (AV.Le.refl _) (.cons (AV.Le.refl _) .nil)) (passed1 (args := [.agg [.int .i64 ver, .gref 0], .one (.int .i64 1)]) 8 rfl (by exact Nat.le_of_ble_eq_true rfl) rfl rfl) ?_
            rintro x hx rfl
            refine wn ?_
            refine callX_mut 0 (predicate_spec cs h (kindsOf (scC1 5)) (by simp [kindsOf, scC1]) PE hPEl) (callee35) rfl rfl rfl (.cons (AV.Le.refl _) (.cons (AV.Le.refl _) (.cons (AV.Le.nilOf rfl) (.cons (AV.Le.refl _) .nil)))) rfl (by exact Nat.le_of_ble_eq_true rfl) rfl rfl (caseO_ren cs _) (p1C_lt _) ?_
            refine wn ?_
            obtain ⟨Q, hQ⟩ : ∃ Q, (treeG1 cs (kindsOf (scC1 5)) PE).1 = Q := ⟨_, rfl⟩
            rw [hQ]
            refine drawnX_phase env08_ok (fun _ => false) (List.range 10) (.one 9 (.stop)) 0 (lst 10 []) (by kernel_rfl) ?_
            refine wn ?_
            refine drawnX_done (by kernel_rfl) ?_
            refine wn ?_
            refine retX_tr (Tr.trans (Tr.frz' (T := 85) (s := 13) (B := 136) (cells := p1C Q) 9 1 (by rfl) (by decide) rfl (p1C_deep Q)) (tfz 55 5 96 ((scTabs 3 5 ref1 ref2 [] [p1C Q]).flatMap tblC) 8 3)) ?_
            refine rtm ?_
            (conv => lhs; whnf)
            rfl
          | false =>
            have eE : scG4 cs 3 ver 5 ref1 ref2 [] P5 = (⟨ver, scTabs 3 5 ref1 ref2 [] []⟩, PE) := by rw [scG4, hbE, hPE]; rfl
            rw [e, eE]
            refine wn ?_
            refine retX_tr (tfz 55 5 96 ((scTabs 3 5 ref1 ref2 [] []).flatMap tblC) 8 3) ?_
            refine rtm ?_
            (conv => lhs; whnf)
            rfl
        | false =>
          have e : (bif false then scG3 cs 3 ver 5 ref1 ref2 P5 else scG3 cs 3 ver 5 ref1 [] P5) = scG4 cs 3 ver 5 ref1 [] [] P5 := rfl
          refine wn ?_
          refine callX_tr (A1 := (scA ex13 cs 3 ver (scTabs 3 5 ref1 [] [] []) P5)) ?_ rfl ?_
          · exact tid
          refine cm (bool_spec cs h 3 P5 hP5l (by decide)) (callee17) ?_
          refine wn ?_
          obtain ⟨PE, hPE⟩ : ∃ PE, intP cs 3 P5 = PE := ⟨_, rfl⟩
          have hPEl : PE ≤ cs.length := by rw [← hPE]; exact intP_in hP5l
          rw [hPE]
          cases hbE : boolG cs 3 P5 with
          | true =>
            have eE : scG4 cs 3 ver 5 ref1 [] [] P5 = (⟨ver, scTabs 3 5 ref1 [] [] [p1C (treeG1 cs (kindsOf (scC1 5)) PE).1]⟩, (treeG1 cs (kindsOf (scC1 5)) PE).2) := by rw [scG4, hbE, hPE]; rfl
            rw [e, eE]
            refine wn ?_
            refine drawnX_phase env08_ok (fun id => id == 7) (List.range 9) (tks 0 4 (.one 4 (.one 5 (.one 6 (tks 7 2 (.stop)))))) 1 (lst 10 [9]) (by kernel_rfl) ?_
            refine wn ?_
            refine callX_obs (kinds_obs3 ver 5 ref1 [] []) callee36 (fun _ => 8) (fun j => if j = 8 then some 0 else none) (avs := [.agg [.int .i64 ver, .gref 8], .one (.int .i64 1)]) rfl rfl (.cons (AV.Le.refl _) (.cons (AV.Le.refl _) .nil)) (passed1 (args := [.agg [.int .i64 ver, .gref 0], .one (.int .i64 1)]) 8 rfl (by exact Nat.le_of_ble_eq_true rfl) rfl rfl) ?_
            rintro x hx rfl
            refine wn ?_
            refine callX_mut 0 (predicate_spec cs h (kindsOf (scC1 5)) (by simp [kindsOf, scC1]) PE hPEl) (callee35) rfl rfl rfl (.cons (AV.Le.refl _) (.cons (AV.Le.refl _) (.cons (AV.Le.nilOf rfl) (.cons (AV.Le.refl _) .nil)))) rfl (by exact Nat.le_of_ble_eq_true rfl) rfl rfl (caseO_ren cs _) (p1C_lt _) ?_
            refine wn ?_
            obtain ⟨Q, hQ⟩ : ∃ Q, (treeG1 cs (kindsOf (scC1 5)) PE).1 = Q := ⟨_, rfl⟩
            rw [hQ]
            refine drawnX_phase env08_ok (fun _ => false) (List.range 10) (.one 9 (.stop)) 0 (lst 10 []) (by kernel_rfl) ?_
            refine wn ?_
            refine drawnX_done (by kernel_rfl) ?_
            refine wn ?_
            refine retX_tr (Tr.trans (Tr.frz' (T := 85) (s := 13) (B := 136) (cells := p1C Q) 9 1 (by rfl) (by decide) rfl (p1C_deep Q)) (tfz 55 5 96 ((scTabs 3 5 ref1 [] [] [p1C Q]).flatMap tblC) 8 3)) ?_
            refine rtm ?_
            (conv => lhs; whnf)
            rfl
          | false =>
            have eE : scG4 cs 3 ver 5 ref1 [] [] P5 = (⟨ver, scTabs 3 5 ref1 [] [] []⟩, PE) := by rw [scG4, hbE, hPE]; rfl
            rw [e, eE]
            refine wn ?_
            refine retX_tr (tfz 55 5 96 ((scTabs 3 5 ref1 [] [] []).flatMap tblC) 8 3) ?_
            refine rtm ?_
            (conv => lhs; whnf)
            rfl
      | false =>
        have e : scG1 cs 3 ver 5 P3 = bif boolG cs 3 P4 then scG3 cs 3 ver 5 [] ref2 (intP cs 3 P4) else scG3 cs 3 ver 5 [] [] (intP cs 3 P4) := by rw [scG1, hb1, hP4]; rfl
        refine wn ?_
        refine callX_tr (A1 := (scA ex9 cs 3 ver (scTabs 3 5 [] [] [] []) P4)) ?_ rfl ?_
        · exact tid
        rw [e]
        refine cm (bool_spec cs h 3 P4 hP4l (by decide)) (callee17) ?_
        refine wn ?_
        obtain ⟨P5, hP5⟩ : ∃ P5, intP cs 3 P4 = P5 := ⟨_, rfl⟩
        have hP5l : P5 ≤ cs.length := by rw [← hP5]; exact intP_in hP4l
        rw [hP5]
        cases hb2 : boolG cs 3 P4 with
        | true =>
          have e : (bif true then scG3 cs 3 ver 5 [] ref2 P5 else scG3 cs 3 ver 5 [] [] P5) = scG4 cs 3 ver 5 [] ref2 [] P5 := rfl
          refine wn ?_
          refine callX_tr (A1 := (scA ex13 cs 3 ver (scTabs 3 5 [] ref2 [] []) P5)) ?_ rfl ?_
          · refine Tr.trans (tfz 3 1 8 ([.int .i64 0]) 9 1) ?_
            refine Tr.trans (tfz 81 2 32 (ref2.flatMap refC) 10 1) ?_
            exact tid
          refine cm (bool_spec cs h 3 P5 hP5l (by decide)) (callee17) ?_
          refine wn ?_
          obtain ⟨PE, hPE⟩ : ∃ PE, intP cs 3 P5 = PE := ⟨_, rfl⟩
          have hPEl : PE ≤ cs.length := by rw [← hPE]; exact intP_in hP5l
          rw [hPE]
          cases hbE : boolG cs 3 P5 with
          | true =>
            have eE : scG4 cs 3 ver 5 [] ref2 [] P5 = (⟨ver, scTabs 3 5 [] ref2 [] [p1C (treeG1 cs (kindsOf (scC1 5)) PE).1]⟩, (treeG1 cs (kindsOf (scC1 5)) PE).2) := by rw [scG4, hbE, hPE]; rfl
            rw [e, eE]
            refine wn ?_
            refine drawnX_phase env08_ok (fun id => id == 7) (List.range 9) (tks 0 4 (.one 4 (.one 5 (.one 6 (tks 7 2 (.stop)))))) 1 (lst 10 [9]) (by kernel_rfl) ?_
            refine wn ?_
            refine callX_obs (kinds_obs3 ver 5 [] ref2 []) callee36 (fun _ => 8) (fun j => if j = 8 then some 0 else none) (avs := [.agg [.int .i64 ver, .gref 8], .one (.int .i64 1)]) rfl rfl (.cons (AV.Le.refl _) (.cons (AV.Le.refl _) .nil)) (passed1 (args := [.agg [.int .i64 ver, .gref 0], .one (.int .i64 1)]) 8 rfl (by exact Nat.le_of_ble_eq_true rfl) rfl rfl) ?_
            rintro x hx rfl
            refine wn ?_
            refine callX_mut 0 (predicate_spec cs h (kindsOf (scC1 5)) (by simp [kindsOf, scC1]) PE hPEl) (callee35) rfl rfl rfl (.cons (AV.Le.refl _) (.cons (AV.Le.refl _) (.cons (AV.Le.nilOf rfl) (.cons (AV.Le.refl _) .nil)))) rfl (by exact Nat.le_of_ble_eq_true rfl) rfl rfl (caseO_ren cs _) (p1C_lt _) ?_
            refine wn ?_
            obtain ⟨Q, hQ⟩ : ∃ Q, (treeG1 cs (kindsOf (scC1 5)) PE).1 = Q := ⟨_, rfl⟩
            rw [hQ]
            refine drawnX_phase env08_ok (fun _ => false) (List.range 10) (.one 9 (.stop)) 0 (lst 10 []) (by kernel_rfl) ?_
            refine wn ?_
            refine drawnX_done (by kernel_rfl) ?_
            refine wn ?_
            refine retX_tr (Tr.trans (Tr.frz' (T := 85) (s := 13) (B := 136) (cells := p1C Q) 9 1 (by rfl) (by decide) rfl (p1C_deep Q)) (tfz 55 5 96 ((scTabs 3 5 [] ref2 [] [p1C Q]).flatMap tblC) 8 3)) ?_
            refine rtm ?_
            (conv => lhs; whnf)
            rfl
          | false =>
            have eE : scG4 cs 3 ver 5 [] ref2 [] P5 = (⟨ver, scTabs 3 5 [] ref2 [] []⟩, PE) := by rw [scG4, hbE, hPE]; rfl
            rw [e, eE]
            refine wn ?_
            refine retX_tr (tfz 55 5 96 ((scTabs 3 5 [] ref2 [] []).flatMap tblC) 8 3) ?_
            refine rtm ?_
            (conv => lhs; whnf)
            rfl
        | false =>
          have e : (bif false then scG3 cs 3 ver 5 [] ref2 P5 else scG3 cs 3 ver 5 [] [] P5) = scG4 cs 3 ver 5 [] [] [] P5 := rfl
          refine wn ?_
          refine callX_tr (A1 := (scA ex13 cs 3 ver (scTabs 3 5 [] [] [] []) P5)) ?_ rfl ?_
          · exact tid
          refine cm (bool_spec cs h 3 P5 hP5l (by decide)) (callee17) ?_
          refine wn ?_
          obtain ⟨PE, hPE⟩ : ∃ PE, intP cs 3 P5 = PE := ⟨_, rfl⟩
          have hPEl : PE ≤ cs.length := by rw [← hPE]; exact intP_in hP5l
          rw [hPE]
          cases hbE : boolG cs 3 P5 with
          | true =>
            have eE : scG4 cs 3 ver 5 [] [] [] P5 = (⟨ver, scTabs 3 5 [] [] [] [p1C (treeG1 cs (kindsOf (scC1 5)) PE).1]⟩, (treeG1 cs (kindsOf (scC1 5)) PE).2) := by rw [scG4, hbE, hPE]; rfl
            rw [e, eE]
            refine wn ?_
            refine drawnX_phase env08_ok (fun id => id == 7) (List.range 9) (tks 0 4 (.one 4 (.one 5 (.one 6 (tks 7 2 (.stop)))))) 1 (lst 10 [9]) (by kernel_rfl) ?_
            refine wn ?_
            refine callX_obs (kinds_obs3 ver 5 [] [] []) callee36 (fun _ => 8) (fun j => if j = 8 then some 0 else none) (avs := [.agg [.int .i64 ver, .gref 8], .one (.int .i64 1)]) rfl rfl (.cons (AV.Le.refl _) (.cons (AV.Le.refl _) .nil)) (passed1 (args := [.agg [.int .i64 ver, .gref 0], .one (.int .i64 1)]) 8 rfl (by exact Nat.le_of_ble_eq_true rfl) rfl rfl) ?_
            rintro x hx rfl
            refine wn ?_
            refine callX_mut 0 (predicate_spec cs h (kindsOf (scC1 5)) (by simp [kindsOf, scC1]) PE hPEl) (callee35) rfl rfl rfl (.cons (AV.Le.refl _) (.cons (AV.Le.refl _) (.cons (AV.Le.nilOf rfl) (.cons (AV.Le.refl _) .nil)))) rfl (by exact Nat.le_of_ble_eq_true rfl) rfl rfl (caseO_ren cs _) (p1C_lt _) ?_
            refine wn ?_
            obtain ⟨Q, hQ⟩ : ∃ Q, (treeG1 cs (kindsOf (scC1 5)) PE).1 = Q := ⟨_, rfl⟩
            rw [hQ]
            refine drawnX_phase env08_ok (fun _ => false) (List.range 10) (.one 9 (.stop)) 0 (lst 10 []) (by kernel_rfl) ?_
            refine wn ?_
            refine drawnX_done (by kernel_rfl) ?_
            refine wn ?_
            refine retX_tr (Tr.trans (Tr.frz' (T := 85) (s := 13) (B := 136) (cells := p1C Q) 9 1 (by rfl) (by decide) rfl (p1C_deep Q)) (tfz 55 5 96 ((scTabs 3 5 [] [] [] [p1C Q]).flatMap tblC) 8 3)) ?_
            refine rtm ?_
            (conv => lhs; whnf)
            rfl
          | false =>
            have eE : scG4 cs 3 ver 5 [] [] [] P5 = (⟨ver, scTabs 3 5 [] [] [] []⟩, PE) := by rw [scG4, hbE, hPE]; rfl
            rw [e, eE]
            refine wn ?_
            refine retX_tr (tfz 55 5 96 ((scTabs 3 5 [] [] [] []).flatMap tblC) 8 3) ?_
            refine rtm ?_
            (conv => lhs; whnf)
            rfl
    | false =>
      have e : schemaG cs p = scG1 cs 3 ver 4 P3 := by rw [schemaG, hb, h0, hP2, hver, hP3]; rfl
      rw [e]
      refine wn ?_
      refine cm (int_spec cs h 3 P2 hP2l) (callee25) ?_
      refine wn ?_
      refine cle (column_spec nId 4) callee34 ?_
      rintro x hx rfl
      refine wn ?_
      refine cle (column_spec nOwner 4) callee34 ?_
      rintro x hx rfl
      refine wn ?_
      refine cle (column_spec nId 4) callee34 ?_
      rintro x hx rfl
      refine wn ?_
      refine cle (column_spec nProject 4) callee34 ?_
      rintro x hx rfl
      refine wn ?_
      refine cle (column_spec nTitle 5) callee34 ?_
      rintro x hx rfl
      refine wn ?_
      refine cle (column_spec nDone 3) callee34 ?_
      rintro x hx rfl
      refine wn ?_
      refine cle (column_spec nProject 4) callee34 ?_
      rintro x hx rfl
      refine wn ?_
      refine cle (column_spec nPerson 4) callee34 ?_
      rintro x hx rfl
      refine wn ?_
      refine cle (column_spec nTask 4) callee34 ?_
      rintro x hx rfl
      refine wn ?_
      refine callX_cut (id := 6) env08_ok rfl rfl rfl rfl rfl rfl (by decide) rfl (by simp) rfl (by decide) (by decide) ?_
      refine wn ?_
      refine callX_tr (A1 := scA ex7 cs 3 (intG cs 3 P2) (scTabs 3 4 [] [] [] []) (intP cs 3 P2)) ?_ rfl ?_
      · refine Tr.trans (tfz 50 2 24 (scC0.flatMap colC) 2 2) ?_
        refine Tr.trans (tfz 50 2 24 ((scC1 4).flatMap colC) 3 4) ?_
        refine Tr.trans (tfz 50 2 24 (scC2.flatMap colC) 4 2) ?_
        refine Tr.trans (tfz 50 2 24 ((scC3 4).flatMap colC) 5 1) ?_
        refine Tr.trans (Tr.obj 8 (ob := ⟨55, 5, 96, scRaw 3 4⟩) (by rfl) (cells := (scTabs 3 4 [] [] [] []).flatMap tblC) ?_) ?_
        · repeat (first | exact Pw.nil | refine Pw.cons (by first | exact AC.LeV.refl _ | exact AC.LeV.sl (AC.Le.nil (.inl rfl))) ?_)
        · exact tid
      rw [hver, hP3]
      refine cm (bool_spec cs h 2 P3 hP3l (by decide)) (callee17) ?_
      refine wn ?_
      obtain ⟨P4, hP4⟩ : ∃ P4, intP cs 2 P3 = P4 := ⟨_, rfl⟩
      have hP4l : P4 ≤ cs.length := by rw [← hP4]; exact intP_in hP3l
      rw [hP4]
      cases hb1 : boolG cs 2 P3 with
      | true =>
        have e : scG1 cs 3 ver 4 P3 = bif boolG cs 3 P4 then scG3 cs 3 ver 4 ref1 ref2 (intP cs 3 P4) else scG3 cs 3 ver 4 ref1 [] (intP cs 3 P4) := by rw [scG1, hb1, hP4]; rfl
        refine wn ?_
        refine callX_tr (A1 := (scA ex9 cs 3 ver (scTabs 3 4 ref1 [] [] []) P4)) ?_ rfl ?_
        · refine Tr.trans (tfz 3 1 8 ([.int .i64 1]) 9 1) ?_
          refine Tr.trans (tfz 81 2 32 (ref1.flatMap refC) 10 1) ?_
          exact tid
        rw [e]
        refine cm (bool_spec cs h 3 P4 hP4l (by decide)) (callee17) ?_
        refine wn ?_
        obtain ⟨P5, hP5⟩ : ∃ P5, intP cs 3 P4 = P5 := ⟨_, rfl⟩
        have hP5l : P5 ≤ cs.length := by rw [← hP5]; exact intP_in hP4l
        rw [hP5]
        cases hb2 : boolG cs 3 P4 with
        | true =>
          have e : (bif true then scG3 cs 3 ver 4 ref1 ref2 P5 else scG3 cs 3 ver 4 ref1 [] P5) = scG4 cs 3 ver 4 ref1 ref2 [] P5 := rfl
          refine wn ?_
          refine callX_tr (A1 := (scA ex13 cs 3 ver (scTabs 3 4 ref1 ref2 [] []) P5)) ?_ rfl ?_
          · refine Tr.trans (tfz 3 1 8 ([.int .i64 0]) 9 1) ?_
            refine Tr.trans (tfz 81 2 32 (ref2.flatMap refC) 10 1) ?_
            exact tid
          refine cm (bool_spec cs h 3 P5 hP5l (by decide)) (callee17) ?_
          refine wn ?_
          obtain ⟨PE, hPE⟩ : ∃ PE, intP cs 3 P5 = PE := ⟨_, rfl⟩
          have hPEl : PE ≤ cs.length := by rw [← hPE]; exact intP_in hP5l
          rw [hPE]
          cases hbE : boolG cs 3 P5 with
          | true =>
            have eE : scG4 cs 3 ver 4 ref1 ref2 [] P5 = (⟨ver, scTabs 3 4 ref1 ref2 [] [p1C (treeG1 cs (kindsOf (scC1 4)) PE).1]⟩, (treeG1 cs (kindsOf (scC1 4)) PE).2) := by rw [scG4, hbE, hPE]; rfl
            rw [e, eE]
            refine wn ?_
            refine drawnX_phase env08_ok (fun id => id == 7) (List.range 9) (tks 0 4 (.one 4 (.one 5 (.one 6 (tks 7 2 (.stop)))))) 1 (lst 10 [9]) (by kernel_rfl) ?_
            refine wn ?_
            refine callX_obs (kinds_obs3 ver 4 ref1 ref2 []) callee36 (fun _ => 8) (fun j => if j = 8 then some 0 else none) (avs := [.agg [.int .i64 ver, .gref 8], .one (.int .i64 1)]) rfl rfl (.cons (AV.Le.refl _) (.cons (AV.Le.refl _) .nil)) (passed1 (args := [.agg [.int .i64 ver, .gref 0], .one (.int .i64 1)]) 8 rfl (by exact Nat.le_of_ble_eq_true rfl) rfl rfl) ?_
            rintro x hx rfl
            refine wn ?_
            refine callX_mut 0 (predicate_spec cs h (kindsOf (scC1 4)) (by simp [kindsOf, scC1]) PE hPEl) (callee35) rfl rfl rfl (.cons (AV.Le.refl _) (.cons (AV.Le.refl _) (.cons (AV.Le.nilOf rfl) (.cons (AV.Le.refl _) .nil)))) rfl (by exact Nat.le_of_ble_eq_true rfl) rfl rfl (caseO_ren cs _) (p1C_lt _) ?_
            refine wn ?_
            obtain ⟨Q, hQ⟩ : ∃ Q, (treeG1 cs (kindsOf (scC1 4)) PE).1 = Q := ⟨_, rfl⟩
            rw [hQ]
            refine drawnX_phase env08_ok (fun _ => false) (List.range 10) (.one 9 (.stop)) 0 (lst 10 []) (by kernel_rfl) ?_
            refine wn ?_
            refine drawnX_done (by kernel_rfl) ?_
            refine wn ?_
            refine retX_tr (Tr.trans (Tr.frz' (T := 85) (s := 13) (B := 136) (cells := p1C Q) 9 1 (by rfl) (by decide) rfl (p1C_deep Q)) (tfz 55 5 96 ((scTabs 3 4 ref1 ref2 [] [p1C Q]).flatMap tblC) 8 3)) ?_
            refine rtm ?_
            (conv => lhs; whnf)
            rfl
          | false =>
            have eE : scG4 cs 3 ver 4 ref1 ref2 [] P5 = (⟨ver, scTabs 3 4 ref1 ref2 [] []⟩, PE) := by rw [scG4, hbE, hPE]; rfl
            rw [e, eE]
            refine wn ?_
            refine retX_tr (tfz 55 5 96 ((scTabs 3 4 ref1 ref2 [] []).flatMap tblC) 8 3) ?_
            refine rtm ?_
            (conv => lhs; whnf)
            rfl
        | false =>
          have e : (bif false then scG3 cs 3 ver 4 ref1 ref2 P5 else scG3 cs 3 ver 4 ref1 [] P5) = scG4 cs 3 ver 4 ref1 [] [] P5 := rfl
          refine wn ?_
          refine callX_tr (A1 := (scA ex13 cs 3 ver (scTabs 3 4 ref1 [] [] []) P5)) ?_ rfl ?_
          · exact tid
          refine cm (bool_spec cs h 3 P5 hP5l (by decide)) (callee17) ?_
          refine wn ?_
          obtain ⟨PE, hPE⟩ : ∃ PE, intP cs 3 P5 = PE := ⟨_, rfl⟩
          have hPEl : PE ≤ cs.length := by rw [← hPE]; exact intP_in hP5l
          rw [hPE]
          cases hbE : boolG cs 3 P5 with
          | true =>
            have eE : scG4 cs 3 ver 4 ref1 [] [] P5 = (⟨ver, scTabs 3 4 ref1 [] [] [p1C (treeG1 cs (kindsOf (scC1 4)) PE).1]⟩, (treeG1 cs (kindsOf (scC1 4)) PE).2) := by rw [scG4, hbE, hPE]; rfl
            rw [e, eE]
            refine wn ?_
            refine drawnX_phase env08_ok (fun id => id == 7) (List.range 9) (tks 0 4 (.one 4 (.one 5 (.one 6 (tks 7 2 (.stop)))))) 1 (lst 10 [9]) (by kernel_rfl) ?_
            refine wn ?_
            refine callX_obs (kinds_obs3 ver 4 ref1 [] []) callee36 (fun _ => 8) (fun j => if j = 8 then some 0 else none) (avs := [.agg [.int .i64 ver, .gref 8], .one (.int .i64 1)]) rfl rfl (.cons (AV.Le.refl _) (.cons (AV.Le.refl _) .nil)) (passed1 (args := [.agg [.int .i64 ver, .gref 0], .one (.int .i64 1)]) 8 rfl (by exact Nat.le_of_ble_eq_true rfl) rfl rfl) ?_
            rintro x hx rfl
            refine wn ?_
            refine callX_mut 0 (predicate_spec cs h (kindsOf (scC1 4)) (by simp [kindsOf, scC1]) PE hPEl) (callee35) rfl rfl rfl (.cons (AV.Le.refl _) (.cons (AV.Le.refl _) (.cons (AV.Le.nilOf rfl) (.cons (AV.Le.refl _) .nil)))) rfl (by exact Nat.le_of_ble_eq_true rfl) rfl rfl (caseO_ren cs _) (p1C_lt _) ?_
            refine wn ?_
            obtain ⟨Q, hQ⟩ : ∃ Q, (treeG1 cs (kindsOf (scC1 4)) PE).1 = Q := ⟨_, rfl⟩
            rw [hQ]
            refine drawnX_phase env08_ok (fun _ => false) (List.range 10) (.one 9 (.stop)) 0 (lst 10 []) (by kernel_rfl) ?_
            refine wn ?_
            refine drawnX_done (by kernel_rfl) ?_
            refine wn ?_
            refine retX_tr (Tr.trans (Tr.frz' (T := 85) (s := 13) (B := 136) (cells := p1C Q) 9 1 (by rfl) (by decide) rfl (p1C_deep Q)) (tfz 55 5 96 ((scTabs 3 4 ref1 [] [] [p1C Q]).flatMap tblC) 8 3)) ?_
            refine rtm ?_
            (conv => lhs; whnf)
            rfl
          | false =>
            have eE : scG4 cs 3 ver 4 ref1 [] [] P5 = (⟨ver, scTabs 3 4 ref1 [] [] []⟩, PE) := by rw [scG4, hbE, hPE]; rfl
            rw [e, eE]
            refine wn ?_
            refine retX_tr (tfz 55 5 96 ((scTabs 3 4 ref1 [] [] []).flatMap tblC) 8 3) ?_
            refine rtm ?_
            (conv => lhs; whnf)
            rfl
      | false =>
        have e : scG1 cs 3 ver 4 P3 = bif boolG cs 3 P4 then scG3 cs 3 ver 4 [] ref2 (intP cs 3 P4) else scG3 cs 3 ver 4 [] [] (intP cs 3 P4) := by rw [scG1, hb1, hP4]; rfl
        refine wn ?_
        refine callX_tr (A1 := (scA ex9 cs 3 ver (scTabs 3 4 [] [] [] []) P4)) ?_ rfl ?_
        · exact tid
        rw [e]
        refine cm (bool_spec cs h 3 P4 hP4l (by decide)) (callee17) ?_
        refine wn ?_
        obtain ⟨P5, hP5⟩ : ∃ P5, intP cs 3 P4 = P5 := ⟨_, rfl⟩
        have hP5l : P5 ≤ cs.length := by rw [← hP5]; exact intP_in hP4l
        rw [hP5]
        cases hb2 : boolG cs 3 P4 with
        | true =>
          have e : (bif true then scG3 cs 3 ver 4 [] ref2 P5 else scG3 cs 3 ver 4 [] [] P5) = scG4 cs 3 ver 4 [] ref2 [] P5 := rfl
          refine wn ?_
          refine callX_tr (A1 := (scA ex13 cs 3 ver (scTabs 3 4 [] ref2 [] []) P5)) ?_ rfl ?_
          · refine Tr.trans (tfz 3 1 8 ([.int .i64 0]) 9 1) ?_
            refine Tr.trans (tfz 81 2 32 (ref2.flatMap refC) 10 1) ?_
            exact tid
          refine cm (bool_spec cs h 3 P5 hP5l (by decide)) (callee17) ?_
          refine wn ?_
          obtain ⟨PE, hPE⟩ : ∃ PE, intP cs 3 P5 = PE := ⟨_, rfl⟩
          have hPEl : PE ≤ cs.length := by rw [← hPE]; exact intP_in hP5l
          rw [hPE]
          cases hbE : boolG cs 3 P5 with
          | true =>
            have eE : scG4 cs 3 ver 4 [] ref2 [] P5 = (⟨ver, scTabs 3 4 [] ref2 [] [p1C (treeG1 cs (kindsOf (scC1 4)) PE).1]⟩, (treeG1 cs (kindsOf (scC1 4)) PE).2) := by rw [scG4, hbE, hPE]; rfl
            rw [e, eE]
            refine wn ?_
            refine drawnX_phase env08_ok (fun id => id == 7) (List.range 9) (tks 0 4 (.one 4 (.one 5 (.one 6 (tks 7 2 (.stop)))))) 1 (lst 10 [9]) (by kernel_rfl) ?_
            refine wn ?_
            refine callX_obs (kinds_obs3 ver 4 [] ref2 []) callee36 (fun _ => 8) (fun j => if j = 8 then some 0 else none) (avs := [.agg [.int .i64 ver, .gref 8], .one (.int .i64 1)]) rfl rfl (.cons (AV.Le.refl _) (.cons (AV.Le.refl _) .nil)) (passed1 (args := [.agg [.int .i64 ver, .gref 0], .one (.int .i64 1)]) 8 rfl (by exact Nat.le_of_ble_eq_true rfl) rfl rfl) ?_
            rintro x hx rfl
            refine wn ?_
            refine callX_mut 0 (predicate_spec cs h (kindsOf (scC1 4)) (by simp [kindsOf, scC1]) PE hPEl) (callee35) rfl rfl rfl (.cons (AV.Le.refl _) (.cons (AV.Le.refl _) (.cons (AV.Le.nilOf rfl) (.cons (AV.Le.refl _) .nil)))) rfl (by exact Nat.le_of_ble_eq_true rfl) rfl rfl (caseO_ren cs _) (p1C_lt _) ?_
            refine wn ?_
            obtain ⟨Q, hQ⟩ : ∃ Q, (treeG1 cs (kindsOf (scC1 4)) PE).1 = Q := ⟨_, rfl⟩
            rw [hQ]
            refine drawnX_phase env08_ok (fun _ => false) (List.range 10) (.one 9 (.stop)) 0 (lst 10 []) (by kernel_rfl) ?_
            refine wn ?_
            refine drawnX_done (by kernel_rfl) ?_
            refine wn ?_
            refine retX_tr (Tr.trans (Tr.frz' (T := 85) (s := 13) (B := 136) (cells := p1C Q) 9 1 (by rfl) (by decide) rfl (p1C_deep Q)) (tfz 55 5 96 ((scTabs 3 4 [] ref2 [] [p1C Q]).flatMap tblC) 8 3)) ?_
            refine rtm ?_
            (conv => lhs; whnf)
            rfl
          | false =>
            have eE : scG4 cs 3 ver 4 [] ref2 [] P5 = (⟨ver, scTabs 3 4 [] ref2 [] []⟩, PE) := by rw [scG4, hbE, hPE]; rfl
            rw [e, eE]
            refine wn ?_
            refine retX_tr (tfz 55 5 96 ((scTabs 3 4 [] ref2 [] []).flatMap tblC) 8 3) ?_
            refine rtm ?_
            (conv => lhs; whnf)
            rfl
        | false =>
          have e : (bif false then scG3 cs 3 ver 4 [] ref2 P5 else scG3 cs 3 ver 4 [] [] P5) = scG4 cs 3 ver 4 [] [] [] P5 := rfl
          refine wn ?_
          refine callX_tr (A1 := (scA ex13 cs 3 ver (scTabs 3 4 [] [] [] []) P5)) ?_ rfl ?_
          · exact tid
          refine cm (bool_spec cs h 3 P5 hP5l (by decide)) (callee17) ?_
          refine wn ?_
          obtain ⟨PE, hPE⟩ : ∃ PE, intP cs 3 P5 = PE := ⟨_, rfl⟩
          have hPEl : PE ≤ cs.length := by rw [← hPE]; exact intP_in hP5l
          rw [hPE]
          cases hbE : boolG cs 3 P5 with
          | true =>
            have eE : scG4 cs 3 ver 4 [] [] [] P5 = (⟨ver, scTabs 3 4 [] [] [] [p1C (treeG1 cs (kindsOf (scC1 4)) PE).1]⟩, (treeG1 cs (kindsOf (scC1 4)) PE).2) := by rw [scG4, hbE, hPE]; rfl
            rw [e, eE]
            refine wn ?_
            refine drawnX_phase env08_ok (fun id => id == 7) (List.range 9) (tks 0 4 (.one 4 (.one 5 (.one 6 (tks 7 2 (.stop)))))) 1 (lst 10 [9]) (by kernel_rfl) ?_
            refine wn ?_
            refine callX_obs (kinds_obs3 ver 4 [] [] []) callee36 (fun _ => 8) (fun j => if j = 8 then some 0 else none) (avs := [.agg [.int .i64 ver, .gref 8], .one (.int .i64 1)]) rfl rfl (.cons (AV.Le.refl _) (.cons (AV.Le.refl _) .nil)) (passed1 (args := [.agg [.int .i64 ver, .gref 0], .one (.int .i64 1)]) 8 rfl (by exact Nat.le_of_ble_eq_true rfl) rfl rfl) ?_
            rintro x hx rfl
            refine wn ?_
            refine callX_mut 0 (predicate_spec cs h (kindsOf (scC1 4)) (by simp [kindsOf, scC1]) PE hPEl) (callee35) rfl rfl rfl (.cons (AV.Le.refl _) (.cons (AV.Le.refl _) (.cons (AV.Le.nilOf rfl) (.cons (AV.Le.refl _) .nil)))) rfl (by exact Nat.le_of_ble_eq_true rfl) rfl rfl (caseO_ren cs _) (p1C_lt _) ?_
            refine wn ?_
            obtain ⟨Q, hQ⟩ : ∃ Q, (treeG1 cs (kindsOf (scC1 4)) PE).1 = Q := ⟨_, rfl⟩
            rw [hQ]
            refine drawnX_phase env08_ok (fun _ => false) (List.range 10) (.one 9 (.stop)) 0 (lst 10 []) (by kernel_rfl) ?_
            refine wn ?_
            refine drawnX_done (by kernel_rfl) ?_
            refine wn ?_
            refine retX_tr (Tr.trans (Tr.frz' (T := 85) (s := 13) (B := 136) (cells := p1C Q) 9 1 (by rfl) (by decide) rfl (p1C_deep Q)) (tfz 55 5 96 ((scTabs 3 4 [] [] [] [p1C Q]).flatMap tblC) 8 3)) ?_
            refine rtm ?_
            (conv => lhs; whnf)
            rfl
          | false =>
            have eE : scG4 cs 3 ver 4 [] [] [] P5 = (⟨ver, scTabs 3 4 [] [] [] []⟩, PE) := by rw [scG4, hbE, hPE]; rfl
            rw [e, eE]
            refine wn ?_
            refine retX_tr (tfz 55 5 96 ((scTabs 3 4 [] [] [] []).flatMap tblC) 8 3) ?_
            refine rtm ?_
            (conv => lhs; whnf)
            rfl
  · rw [h0]
    refine exI_as 4 (by rfl) ?_
    refine wn ?_
    refine cm (bool_spec cs h 5 (intP cs 3 p) hp1 (by decide)) (callee17) ?_
    refine wn ?_
    obtain ⟨P2, hP2⟩ : ∃ P2, intP cs 5 (intP cs 3 p) = P2 := ⟨_, rfl⟩
    have hP2l : P2 ≤ cs.length := by rw [← hP2]; exact intP_in hp1
    rw [hP2]
    obtain ⟨ver, hver⟩ : ∃ ver, intG cs 3 P2 = ver := ⟨_, rfl⟩
    obtain ⟨P3, hP3⟩ : ∃ P3, intP cs 3 P2 = P3 := ⟨_, rfl⟩
    have hP3l : P3 ≤ cs.length := by rw [← hP3]; exact intP_in hP2l
    cases hb : boolG cs 5 (intP cs 3 p) with
    | true =>
      have e : schemaG cs p = scG1 cs 4 ver 5 P3 := by rw [schemaG, hb, h0, hP2, hver, hP3]; rfl
      rw [e]
      refine wn ?_
      refine cm (int_spec cs h 3 P2 hP2l) (callee25) ?_
      refine wn ?_
      refine cle (column_spec nId 4) callee34 ?_
      rintro x hx rfl
      refine wn ?_
      refine cle (column_spec nOwner 4) callee34 ?_
      rintro x hx rfl
      refine wn ?_
      refine cle (column_spec nId 5) callee34 ?_
      rintro x hx rfl
      refine wn ?_
      refine cle (column_spec nProject 4) callee34 ?_
      rintro x hx rfl
      refine wn ?_
      refine cle (column_spec nTitle 5) callee34 ?_
      rintro x hx rfl
      refine wn ?_
      refine cle (column_spec nDone 3) callee34 ?_
      rintro x hx rfl
      refine wn ?_
      refine cle (column_spec nProject 4) callee34 ?_
      rintro x hx rfl
      refine wn ?_
      refine cle (column_spec nPerson 4) callee34 ?_
      rintro x hx rfl
      refine wn ?_
      refine cle (column_spec nTask 5) callee34 ?_
      rintro x hx rfl
      refine wn ?_
      refine callX_cut (id := 6) env08_ok rfl rfl rfl rfl rfl rfl (by decide) rfl (by simp) rfl (by decide) (by decide) ?_
      refine wn ?_
      refine callX_tr (A1 := scA ex7 cs 4 (intG cs 3 P2) (scTabs 4 5 [] [] [] []) (intP cs 3 P2)) ?_ rfl ?_
      · refine Tr.trans (tfz 50 2 24 (scC0.flatMap colC) 2 2) ?_
        refine Tr.trans (tfz 50 2 24 ((scC1 5).flatMap colC) 3 4) ?_
        refine Tr.trans (tfz 50 2 24 (scC2.flatMap colC) 4 2) ?_
        refine Tr.trans (tfz 50 2 24 ((scC3 5).flatMap colC) 5 1) ?_
        refine Tr.trans (Tr.obj 8 (ob := ⟨55, 5, 96, scRaw 4 5⟩) (by rfl) (cells := (scTabs 4 5 [] [] [] []).flatMap tblC) ?_) ?_
        · repeat (first | exact Pw.nil | refine Pw.cons (by first | exact AC.LeV.refl _ | exact AC.LeV.sl (AC.Le.nil (.inl rfl))) ?_)
        · exact tid
      rw [hver, hP3]
      refine cm (bool_spec cs h 2 P3 hP3l (by decide)) (callee17) ?_
      refine wn ?_
      obtain ⟨P4, hP4⟩ : ∃ P4, intP cs 2 P3 = P4 := ⟨_, rfl⟩
      have hP4l : P4 ≤ cs.length := by rw [← hP4]; exact intP_in hP3l
      rw [hP4]
      cases hb1 : boolG cs 2 P3 with
      | true =>
        have e : scG1 cs 4 ver 5 P3 = bif boolG cs 3 P4 then scG3 cs 4 ver 5 ref1 ref2 (intP cs 3 P4) else scG3 cs 4 ver 5 ref1 [] (intP cs 3 P4) := by rw [scG1, hb1, hP4]; rfl
        refine wn ?_
        refine callX_tr (A1 := (scA ex9 cs 4 ver (scTabs 4 5 ref1 [] [] []) P4)) ?_ rfl ?_
        · refine Tr.trans (tfz 3 1 8 ([.int .i64 1]) 9 1) ?_
          refine Tr.trans (tfz 81 2 32 (ref1.flatMap refC) 10 1) ?_
          exact tid
        rw [e]
        refine cm (bool_spec cs h 3 P4 hP4l (by decide)) (callee17) ?_
        refine wn ?_
        obtain ⟨P5, hP5⟩ : ∃ P5, intP cs 3 P4 = P5 := ⟨_, rfl⟩
        have hP5l : P5 ≤ cs.length := by rw [← hP5]; exact intP_in hP4l
        rw [hP5]
        cases hb2 : boolG cs 3 P4 with
        | true =>
          have e : (bif true then scG3 cs 4 ver 5 ref1 ref2 P5 else scG3 cs 4 ver 5 ref1 [] P5) = bif boolG cs 3 P5 then scG4 cs 4 ver 5 ref1 ref2 ref3 (intP cs 3 P5) else scG4 cs 4 ver 5 ref1 ref2 [] (intP cs 3 P5) := rfl
          refine wn ?_
          refine callX_tr (A1 := (scA ex11 cs 4 ver (scTabs 4 5 ref1 ref2 [] []) P5)) ?_ rfl ?_
          · refine Tr.trans (tfz 3 1 8 ([.int .i64 0]) 9 1) ?_
            refine Tr.trans (tfz 81 2 32 (ref2.flatMap refC) 10 1) ?_
            exact tid
          rw [e]
          refine cm (bool_spec cs h 3 P5 hP5l (by decide)) (callee17) ?_
          refine wn ?_
          obtain ⟨P6, hP6⟩ : ∃ P6, intP cs 3 P5 = P6 := ⟨_, rfl⟩
          have hP6l : P6 ≤ cs.length := by rw [← hP6]; exact intP_in hP5l
          rw [hP6]
          cases hb3 : boolG cs 3 P5 with
          | true =>
            have e : (bif true then scG4 cs 4 ver 5 ref1 ref2 ref3 P6 else scG4 cs 4 ver 5 ref1 ref2 [] P6) = scG4 cs 4 ver 5 ref1 ref2 ref3 P6 := rfl
            refine wn ?_
            refine callX_tr (A1 := (scA ex13 cs 4 ver (scTabs 4 5 ref1 ref2 ref3 []) P6)) ?_ rfl ?_
            · refine Tr.trans (tfz 3 1 8 ([.int .i64 0]) 9 1) ?_
              refine Tr.trans (tfz 81 2 32 (ref3.flatMap refC) 10 1) ?_
              exact tid
            refine cm (bool_spec cs h 3 P6 hP6l (by decide)) (callee17) ?_
            refine wn ?_
            obtain ⟨PE, hPE⟩ : ∃ PE, intP cs 3 P6 = PE := ⟨_, rfl⟩
            have hPEl : PE ≤ cs.length := by rw [← hPE]; exact intP_in hP6l
            rw [hPE]
            cases hbE : boolG cs 3 P6 with
            | true =>
              have eE : scG4 cs 4 ver 5 ref1 ref2 ref3 P6 = (⟨ver, scTabs 4 5 ref1 ref2 ref3 [p1C (treeG1 cs (kindsOf (scC1 5)) PE).1]⟩, (treeG1 cs (kindsOf (scC1 5)) PE).2) := by rw [scG4, hbE, hPE]; rfl
              rw [e, eE]
              refine wn ?_
              refine drawnX_phase env08_ok (fun id => id == 7) (List.range 9) (tks 0 4 (.one 4 (.one 5 (.one 6 (tks 7 2 (.stop)))))) 1 (lst 10 [9]) (by kernel_rfl) ?_
              refine wn ?_
              refine callX_obs (kinds_obs4 ver 5 ref1 ref2 ref3) callee36 (fun _ => 8) (fun j => if j = 8 then some 0 else none) (avs := [.agg [.int .i64 ver, .gref 8], .one (.int .i64 1)]) rfl rfl (.cons (AV.Le.refl _) (.cons (AV.Le.refl _) .nil)) (passed1 (args := [.agg [.int .i64 ver, .gref 0], .one (.int .i64 1)]) 8 rfl (by exact Nat.le_of_ble_eq_true rfl) rfl rfl) ?_
              rintro x hx rfl
              refine wn ?_
              refine callX_mut 0 (predicate_spec cs h (kindsOf (scC1 5)) (by simp [kindsOf, scC1]) PE hPEl) (callee35) rfl rfl rfl (.cons (AV.Le.refl _) (.cons (AV.Le.refl _) (.cons (AV.Le.nilOf rfl) (.cons (AV.Le.refl _) .nil)))) rfl (by exact Nat.le_of_ble_eq_true rfl) rfl rfl (caseO_ren cs _) (p1C_lt _) ?_
              refine wn ?_
              obtain ⟨Q, hQ⟩ : ∃ Q, (treeG1 cs (kindsOf (scC1 5)) PE).1 = Q := ⟨_, rfl⟩
              rw [hQ]
              refine drawnX_phase env08_ok (fun _ => false) (List.range 10) (.one 9 (.stop)) 0 (lst 10 []) (by kernel_rfl) ?_
              refine wn ?_
              refine drawnX_done (by kernel_rfl) ?_
              refine wn ?_
              refine retX_tr (Tr.trans (Tr.frz' (T := 85) (s := 13) (B := 136) (cells := p1C Q) 9 1 (by rfl) (by decide) rfl (p1C_deep Q)) (tfz 55 5 96 ((scTabs 4 5 ref1 ref2 ref3 [p1C Q]).flatMap tblC) 8 4)) ?_
              refine rtm ?_
              (conv => lhs; whnf)
              rfl
            | false =>
              have eE : scG4 cs 4 ver 5 ref1 ref2 ref3 P6 = (⟨ver, scTabs 4 5 ref1 ref2 ref3 []⟩, PE) := by rw [scG4, hbE, hPE]; rfl
              rw [e, eE]
              refine wn ?_
              refine retX_tr (tfz 55 5 96 ((scTabs 4 5 ref1 ref2 ref3 []).flatMap tblC) 8 4) ?_
              refine rtm ?_
              (conv => lhs; whnf)
              rfl
          | false =>
            have e : (bif false then scG4 cs 4 ver 5 ref1 ref2 ref3 P6 else scG4 cs 4 ver 5 ref1 ref2 [] P6) = scG4 cs 4 ver 5 ref1 ref2 [] P6 := rfl
            refine wn ?_
            refine callX_tr (A1 := (scA ex13 cs 4 ver (scTabs 4 5 ref1 ref2 [] []) P6)) ?_ rfl ?_
            · exact tid
            refine cm (bool_spec cs h 3 P6 hP6l (by decide)) (callee17) ?_
            refine wn ?_
            obtain ⟨PE, hPE⟩ : ∃ PE, intP cs 3 P6 = PE := ⟨_, rfl⟩
            have hPEl : PE ≤ cs.length := by rw [← hPE]; exact intP_in hP6l
            rw [hPE]
            cases hbE : boolG cs 3 P6 with
            | true =>
              have eE : scG4 cs 4 ver 5 ref1 ref2 [] P6 = (⟨ver, scTabs 4 5 ref1 ref2 [] [p1C (treeG1 cs (kindsOf (scC1 5)) PE).1]⟩, (treeG1 cs (kindsOf (scC1 5)) PE).2) := by rw [scG4, hbE, hPE]; rfl
              rw [e, eE]
              refine wn ?_
              refine drawnX_phase env08_ok (fun id => id == 7) (List.range 9) (tks 0 4 (.one 4 (.one 5 (.one 6 (tks 7 2 (.stop)))))) 1 (lst 10 [9]) (by kernel_rfl) ?_
              refine wn ?_
              refine callX_obs (kinds_obs4 ver 5 ref1 ref2 []) callee36 (fun _ => 8) (fun j => if j = 8 then some 0 else none) (avs := [.agg [.int .i64 ver, .gref 8], .one (.int .i64 1)]) rfl rfl (.cons (AV.Le.refl _) (.cons (AV.Le.refl _) .nil)) (passed1 (args := [.agg [.int .i64 ver, .gref 0], .one (.int .i64 1)]) 8 rfl (by exact Nat.le_of_ble_eq_true rfl) rfl rfl) ?_
              rintro x hx rfl
              refine wn ?_
              refine callX_mut 0 (predicate_spec cs h (kindsOf (scC1 5)) (by simp [kindsOf, scC1]) PE hPEl) (callee35) rfl rfl rfl (.cons (AV.Le.refl _) (.cons (AV.Le.refl _) (.cons (AV.Le.nilOf rfl) (.cons (AV.Le.refl _) .nil)))) rfl (by exact Nat.le_of_ble_eq_true rfl) rfl rfl (caseO_ren cs _) (p1C_lt _) ?_
              refine wn ?_
              obtain ⟨Q, hQ⟩ : ∃ Q, (treeG1 cs (kindsOf (scC1 5)) PE).1 = Q := ⟨_, rfl⟩
              rw [hQ]
              refine drawnX_phase env08_ok (fun _ => false) (List.range 10) (.one 9 (.stop)) 0 (lst 10 []) (by kernel_rfl) ?_
              refine wn ?_
              refine drawnX_done (by kernel_rfl) ?_
              refine wn ?_
              refine retX_tr (Tr.trans (Tr.frz' (T := 85) (s := 13) (B := 136) (cells := p1C Q) 9 1 (by rfl) (by decide) rfl (p1C_deep Q)) (tfz 55 5 96 ((scTabs 4 5 ref1 ref2 [] [p1C Q]).flatMap tblC) 8 4)) ?_
              refine rtm ?_
              (conv => lhs; whnf)
              rfl
            | false =>
              have eE : scG4 cs 4 ver 5 ref1 ref2 [] P6 = (⟨ver, scTabs 4 5 ref1 ref2 [] []⟩, PE) := by rw [scG4, hbE, hPE]; rfl
              rw [e, eE]
              refine wn ?_
              refine retX_tr (tfz 55 5 96 ((scTabs 4 5 ref1 ref2 [] []).flatMap tblC) 8 4) ?_
              refine rtm ?_
              (conv => lhs; whnf)
              rfl
        | false =>
          have e : (bif false then scG3 cs 4 ver 5 ref1 ref2 P5 else scG3 cs 4 ver 5 ref1 [] P5) = bif boolG cs 3 P5 then scG4 cs 4 ver 5 ref1 [] ref3 (intP cs 3 P5) else scG4 cs 4 ver 5 ref1 [] [] (intP cs 3 P5) := rfl
          refine wn ?_
          refine callX_tr (A1 := (scA ex11 cs 4 ver (scTabs 4 5 ref1 [] [] []) P5)) ?_ rfl ?_
          · exact tid
          rw [e]
          refine cm (bool_spec cs h 3 P5 hP5l (by decide)) (callee17) ?_
          refine wn ?_
          obtain ⟨P6, hP6⟩ : ∃ P6, intP cs 3 P5 = P6 := ⟨_, rfl⟩
          have hP6l : P6 ≤ cs.length := by rw [← hP6]; exact intP_in hP5l
          rw [hP6]
          cases hb3 : boolG cs 3 P5 with
          | true =>
            have e : (bif true then scG4 cs 4 ver 5 ref1 [] ref3 P6 else scG4 cs 4 ver 5 ref1 [] [] P6) = scG4 cs 4 ver 5 ref1 [] ref3 P6 := rfl
            refine wn ?_
            refine callX_tr (A1 := (scA ex13 cs 4 ver (scTabs 4 5 ref1 [] ref3 []) P6)) ?_ rfl ?_
            · refine Tr.trans (tfz 3 1 8 ([.int .i64 0]) 9 1) ?_
              refine Tr.trans (tfz 81 2 32 (ref3.flatMap refC) 10 1) ?_
              exact tid
            refine cm (bool_spec cs h 3 P6 hP6l (by decide)) (callee17) ?_
            refine wn ?_
            obtain ⟨PE, hPE⟩ : ∃ PE, intP cs 3 P6 = PE := ⟨_, rfl⟩
            have hPEl : PE ≤ cs.length := by rw [← hPE]; exact intP_in hP6l
            rw [hPE]
            cases hbE : boolG cs 3 P6 with
            | true =>
              have eE : scG4 cs 4 ver 5 ref1 [] ref3 P6 = (⟨ver, scTabs 4 5 ref1 [] ref3 [p1C (treeG1 cs (kindsOf (scC1 5)) PE).1]⟩, (treeG1 cs (kindsOf (scC1 5)) PE).2) := by rw [scG4, hbE, hPE]; rfl
              rw [e, eE]
              refine wn ?_
              refine drawnX_phase env08_ok (fun id => id == 7) (List.range 9) (tks 0 4 (.one 4 (.one 5 (.one 6 (tks 7 2 (.stop)))))) 1 (lst 10 [9]) (by kernel_rfl) ?_
              refine wn ?_
              refine callX_obs (kinds_obs4 ver 5 ref1 [] ref3) callee36 (fun _ => 8) (fun j => if j = 8 then some 0 else none) (avs := [.agg [.int .i64 ver, .gref 8], .one (.int .i64 1)]) rfl rfl (.cons (AV.Le.refl _) (.cons (AV.Le.refl _) .nil)) (passed1 (args := [.agg [.int .i64 ver, .gref 0], .one (.int .i64 1)]) 8 rfl (by exact Nat.le_of_ble_eq_true rfl) rfl rfl) ?_
              rintro x hx rfl
              refine wn ?_
              refine callX_mut 0 (predicate_spec cs h (kindsOf (scC1 5)) (by simp [kindsOf, scC1]) PE hPEl) (callee35) rfl rfl rfl (.cons (AV.Le.refl _) (.cons (AV.Le.refl _) (.cons (AV.Le.nilOf rfl) (.cons (AV.Le.refl _) .nil)))) rfl (by exact Nat.le_of_ble_eq_true rfl) rfl rfl (caseO_ren cs _) (p1C_lt _) ?_
              refine wn ?_
              obtain ⟨Q, hQ⟩ : ∃ Q, (treeG1 cs (kindsOf (scC1 5)) PE).1 = Q := ⟨_, rfl⟩
              rw [hQ]
              refine drawnX_phase env08_ok (fun _ => false) (List.range 10) (.one 9 (.stop)) 0 (lst 10 []) (by kernel_rfl) ?_
              refine wn ?_
              refine drawnX_done (by kernel_rfl) ?_
              refine wn ?_
              refine retX_tr (Tr.trans (Tr.frz' (T := 85) (s := 13) (B := 136) (cells := p1C Q) 9 1 (by rfl) (by decide) rfl (p1C_deep Q)) (tfz 55 5 96 ((scTabs 4 5 ref1 [] ref3 [p1C Q]).flatMap tblC) 8 4)) ?_
              refine rtm ?_
              (conv => lhs; whnf)
              rfl
            | false =>
              have eE : scG4 cs 4 ver 5 ref1 [] ref3 P6 = (⟨ver, scTabs 4 5 ref1 [] ref3 []⟩, PE) := by rw [scG4, hbE, hPE]; rfl
              rw [e, eE]
              refine wn ?_
              refine retX_tr (tfz 55 5 96 ((scTabs 4 5 ref1 [] ref3 []).flatMap tblC) 8 4) ?_
              refine rtm ?_
              (conv => lhs; whnf)
              rfl
          | false =>
            have e : (bif false then scG4 cs 4 ver 5 ref1 [] ref3 P6 else scG4 cs 4 ver 5 ref1 [] [] P6) = scG4 cs 4 ver 5 ref1 [] [] P6 := rfl
            refine wn ?_
            refine callX_tr (A1 := (scA ex13 cs 4 ver (scTabs 4 5 ref1 [] [] []) P6)) ?_ rfl ?_
            · exact tid
            refine cm (bool_spec cs h 3 P6 hP6l (by decide)) (callee17) ?_
            refine wn ?_
            obtain ⟨PE, hPE⟩ : ∃ PE, intP cs 3 P6 = PE := ⟨_, rfl⟩
            have hPEl : PE ≤ cs.length := by rw [← hPE]; exact intP_in hP6l
            rw [hPE]
            cases hbE : boolG cs 3 P6 with
            | true =>
              have eE : scG4 cs 4 ver 5 ref1 [] [] P6 = (⟨ver, scTabs 4 5 ref1 [] [] [p1C (treeG1 cs (kindsOf (scC1 5)) PE).1]⟩, (treeG1 cs (kindsOf (scC1 5)) PE).2) := by rw [scG4, hbE, hPE]; rfl
              rw [e, eE]
              refine wn ?_
              refine drawnX_phase env08_ok (fun id => id == 7) (List.range 9) (tks 0 4 (.one 4 (.one 5 (.one 6 (tks 7 2 (.stop)))))) 1 (lst 10 [9]) (by kernel_rfl) ?_
              refine wn ?_
              refine callX_obs (kinds_obs4 ver 5 ref1 [] []) callee36 (fun _ => 8) (fun j => if j = 8 then some 0 else none) (avs := [.agg [.int .i64 ver, .gref 8], .one (.int .i64 1)]) rfl rfl (.cons (AV.Le.refl _) (.cons (AV.Le.refl _) .nil)) (passed1 (args := [.agg [.int .i64 ver, .gref 0], .one (.int .i64 1)]) 8 rfl (by exact Nat.le_of_ble_eq_true rfl) rfl rfl) ?_
              rintro x hx rfl
              refine wn ?_
              refine callX_mut 0 (predicate_spec cs h (kindsOf (scC1 5)) (by simp [kindsOf, scC1]) PE hPEl) (callee35) rfl rfl rfl (.cons (AV.Le.refl _) (.cons (AV.Le.refl _) (.cons (AV.Le.nilOf rfl) (.cons (AV.Le.refl _) .nil)))) rfl (by exact Nat.le_of_ble_eq_true rfl) rfl rfl (caseO_ren cs _) (p1C_lt _) ?_
              refine wn ?_
              obtain ⟨Q, hQ⟩ : ∃ Q, (treeG1 cs (kindsOf (scC1 5)) PE).1 = Q := ⟨_, rfl⟩
              rw [hQ]
              refine drawnX_phase env08_ok (fun _ => false) (List.range 10) (.one 9 (.stop)) 0 (lst 10 []) (by kernel_rfl) ?_
              refine wn ?_
              refine drawnX_done (by kernel_rfl) ?_
              refine wn ?_
              refine retX_tr (Tr.trans (Tr.frz' (T := 85) (s := 13) (B := 136) (cells := p1C Q) 9 1 (by rfl) (by decide) rfl (p1C_deep Q)) (tfz 55 5 96 ((scTabs 4 5 ref1 [] [] [p1C Q]).flatMap tblC) 8 4)) ?_
              refine rtm ?_
              (conv => lhs; whnf)
              rfl
            | false =>
              have eE : scG4 cs 4 ver 5 ref1 [] [] P6 = (⟨ver, scTabs 4 5 ref1 [] [] []⟩, PE) := by rw [scG4, hbE, hPE]; rfl
              rw [e, eE]
              refine wn ?_
              refine retX_tr (tfz 55 5 96 ((scTabs 4 5 ref1 [] [] []).flatMap tblC) 8 4) ?_
              refine rtm ?_
              (conv => lhs; whnf)
              rfl
      | false =>
        have e : scG1 cs 4 ver 5 P3 = bif boolG cs 3 P4 then scG3 cs 4 ver 5 [] ref2 (intP cs 3 P4) else scG3 cs 4 ver 5 [] [] (intP cs 3 P4) := by rw [scG1, hb1, hP4]; rfl
        refine wn ?_
        refine callX_tr (A1 := (scA ex9 cs 4 ver (scTabs 4 5 [] [] [] []) P4)) ?_ rfl ?_
        · exact tid
        rw [e]
        refine cm (bool_spec cs h 3 P4 hP4l (by decide)) (callee17) ?_
        refine wn ?_
        obtain ⟨P5, hP5⟩ : ∃ P5, intP cs 3 P4 = P5 := ⟨_, rfl⟩
        have hP5l : P5 ≤ cs.length := by rw [← hP5]; exact intP_in hP4l
        rw [hP5]
        cases hb2 : boolG cs 3 P4 with
        | true =>
          have e : (bif true then scG3 cs 4 ver 5 [] ref2 P5 else scG3 cs 4 ver 5 [] [] P5) = bif boolG cs 3 P5 then scG4 cs 4 ver 5 [] ref2 ref3 (intP cs 3 P5) else scG4 cs 4 ver 5 [] ref2 [] (intP cs 3 P5) := rfl
          refine wn ?_
          refine callX_tr (A1 := (scA ex11 cs 4 ver (scTabs 4 5 [] ref2 [] []) P5)) ?_ rfl ?_
          · refine Tr.trans (tfz 3 1 8 ([.int .i64 0]) 9 1) ?_
            refine Tr.trans (tfz 81 2 32 (ref2.flatMap refC) 10 1) ?_
            exact tid
          rw [e]
          refine cm (bool_spec cs h 3 P5 hP5l (by decide)) (callee17) ?_
          refine wn ?_
          obtain ⟨P6, hP6⟩ : ∃ P6, intP cs 3 P5 = P6 := ⟨_, rfl⟩
          have hP6l : P6 ≤ cs.length := by rw [← hP6]; exact intP_in hP5l
          rw [hP6]
          cases hb3 : boolG cs 3 P5 with
          | true =>
            have e : (bif true then scG4 cs 4 ver 5 [] ref2 ref3 P6 else scG4 cs 4 ver 5 [] ref2 [] P6) = scG4 cs 4 ver 5 [] ref2 ref3 P6 := rfl
            refine wn ?_
            refine callX_tr (A1 := (scA ex13 cs 4 ver (scTabs 4 5 [] ref2 ref3 []) P6)) ?_ rfl ?_
            · refine Tr.trans (tfz 3 1 8 ([.int .i64 0]) 9 1) ?_
              refine Tr.trans (tfz 81 2 32 (ref3.flatMap refC) 10 1) ?_
              exact tid
            refine cm (bool_spec cs h 3 P6 hP6l (by decide)) (callee17) ?_
            refine wn ?_
            obtain ⟨PE, hPE⟩ : ∃ PE, intP cs 3 P6 = PE := ⟨_, rfl⟩
            have hPEl : PE ≤ cs.length := by rw [← hPE]; exact intP_in hP6l
            rw [hPE]
            cases hbE : boolG cs 3 P6 with
            | true =>
              have eE : scG4 cs 4 ver 5 [] ref2 ref3 P6 = (⟨ver, scTabs 4 5 [] ref2 ref3 [p1C (treeG1 cs (kindsOf (scC1 5)) PE).1]⟩, (treeG1 cs (kindsOf (scC1 5)) PE).2) := by rw [scG4, hbE, hPE]; rfl
              rw [e, eE]
              refine wn ?_
              refine drawnX_phase env08_ok (fun id => id == 7) (List.range 9) (tks 0 4 (.one 4 (.one 5 (.one 6 (tks 7 2 (.stop)))))) 1 (lst 10 [9]) (by kernel_rfl) ?_
              refine wn ?_
              refine callX_obs (kinds_obs4 ver 5 [] ref2 ref3) callee36 (fun _ => 8) (fun j => if j = 8 then some 0 else none) (avs := [.agg [.int .i64 ver, .gref 8], .one (.int .i64 1)]) rfl rfl (.cons (AV.Le.refl _) (.cons (AV.Le.refl _) .nil)) (passed1 (args := [.agg [.int .i64 ver, .gref 0], .one (.int .i64 1)]) 8 rfl (by exact Nat.le_of_ble_eq_true rfl) rfl rfl) ?_
              rintro x hx rfl
              refine wn ?_
              refine callX_mut 0 (predicate_spec cs h (kindsOf (scC1 5)) (by simp [kindsOf, scC1]) PE hPEl) (callee35) rfl rfl rfl (.cons (AV.Le.refl _) (.cons (AV.Le.refl _) (.cons (AV.Le.nilOf rfl) (.cons (AV.Le.refl _) .nil)))) rfl (by exact Nat.le_of_ble_eq_true rfl) rfl rfl (caseO_ren cs _) (p1C_lt _) ?_
              refine wn ?_
              obtain ⟨Q, hQ⟩ : ∃ Q, (treeG1 cs (kindsOf (scC1 5)) PE).1 = Q := ⟨_, rfl⟩
              rw [hQ]
              refine drawnX_phase env08_ok (fun _ => false) (List.range 10) (.one 9 (.stop)) 0 (lst 10 []) (by kernel_rfl) ?_
              refine wn ?_
              refine drawnX_done (by kernel_rfl) ?_
              refine wn ?_
              refine retX_tr (Tr.trans (Tr.frz' (T := 85) (s := 13) (B := 136) (cells := p1C Q) 9 1 (by rfl) (by decide) rfl (p1C_deep Q)) (tfz 55 5 96 ((scTabs 4 5 [] ref2 ref3 [p1C Q]).flatMap tblC) 8 4)) ?_
              refine rtm ?_
              (conv => lhs; whnf)
              rfl
            | false =>
              have eE : scG4 cs 4 ver 5 [] ref2 ref3 P6 = (⟨ver, scTabs 4 5 [] ref2 ref3 []⟩, PE) := by rw [scG4, hbE, hPE]; rfl
              rw [e, eE]
              refine wn ?_
              refine retX_tr (tfz 55 5 96 ((scTabs 4 5 [] ref2 ref3 []).flatMap tblC) 8 4) ?_
              refine rtm ?_
              (conv => lhs; whnf)
              rfl
          | false =>
            have e : (bif false then scG4 cs 4 ver 5 [] ref2 ref3 P6 else scG4 cs 4 ver 5 [] ref2 [] P6) = scG4 cs 4 ver 5 [] ref2 [] P6 := rfl
            refine wn ?_
            refine callX_tr (A1 := (scA ex13 cs 4 ver (scTabs 4 5 [] ref2 [] []) P6)) ?_ rfl ?_
            · exact tid
            refine cm (bool_spec cs h 3 P6 hP6l (by decide)) (callee17) ?_
            refine wn ?_
            obtain ⟨PE, hPE⟩ : ∃ PE, intP cs 3 P6 = PE := ⟨_, rfl⟩
            have hPEl : PE ≤ cs.length := by rw [← hPE]; exact intP_in hP6l
            rw [hPE]
            cases hbE : boolG cs 3 P6 with
            | true =>
              have eE : scG4 cs 4 ver 5 [] ref2 [] P6 = (⟨ver, scTabs 4 5 [] ref2 [] [p1C (treeG1 cs (kindsOf (scC1 5)) PE).1]⟩, (treeG1 cs (kindsOf (scC1 5)) PE).2) := by rw [scG4, hbE, hPE]; rfl
              rw [e, eE]
              refine wn ?_
              refine drawnX_phase env08_ok (fun id => id == 7) (List.range 9) (tks 0 4 (.one 4 (.one 5 (.one 6 (tks 7 2 (.stop)))))) 1 (lst 10 [9]) (by kernel_rfl) ?_
              refine wn ?_
              refine callX_obs (kinds_obs4 ver 5 [] ref2 []) callee36 (fun _ => 8) (fun j => if j = 8 then some 0 else none) (avs := [.agg [.int .i64 ver, .gref 8], .one (.int .i64 1)]) rfl rfl (.cons (AV.Le.refl _) (.cons (AV.Le.refl _) .nil)) (passed1 (args := [.agg [.int .i64 ver, .gref 0], .one (.int .i64 1)]) 8 rfl (by exact Nat.le_of_ble_eq_true rfl) rfl rfl) ?_
              rintro x hx rfl
              refine wn ?_
              refine callX_mut 0 (predicate_spec cs h (kindsOf (scC1 5)) (by simp [kindsOf, scC1]) PE hPEl) (callee35) rfl rfl rfl (.cons (AV.Le.refl _) (.cons (AV.Le.refl _) (.cons (AV.Le.nilOf rfl) (.cons (AV.Le.refl _) .nil)))) rfl (by exact Nat.le_of_ble_eq_true rfl) rfl rfl (caseO_ren cs _) (p1C_lt _) ?_
              refine wn ?_
              obtain ⟨Q, hQ⟩ : ∃ Q, (treeG1 cs (kindsOf (scC1 5)) PE).1 = Q := ⟨_, rfl⟩
              rw [hQ]
              refine drawnX_phase env08_ok (fun _ => false) (List.range 10) (.one 9 (.stop)) 0 (lst 10 []) (by kernel_rfl) ?_
              refine wn ?_
              refine drawnX_done (by kernel_rfl) ?_
              refine wn ?_
              refine retX_tr (Tr.trans (Tr.frz' (T := 85) (s := 13) (B := 136) (cells := p1C Q) 9 1 (by rfl) (by decide) rfl (p1C_deep Q)) (tfz 55 5 96 ((scTabs 4 5 [] ref2 [] [p1C Q]).flatMap tblC) 8 4)) ?_
              refine rtm ?_
              (conv => lhs; whnf)
              rfl
            | false =>
              have eE : scG4 cs 4 ver 5 [] ref2 [] P6 = (⟨ver, scTabs 4 5 [] ref2 [] []⟩, PE) := by rw [scG4, hbE, hPE]; rfl
              rw [e, eE]
              refine wn ?_
              refine retX_tr (tfz 55 5 96 ((scTabs 4 5 [] ref2 [] []).flatMap tblC) 8 4) ?_
              refine rtm ?_
              (conv => lhs; whnf)
              rfl
        | false =>
          have e : (bif false then scG3 cs 4 ver 5 [] ref2 P5 else scG3 cs 4 ver 5 [] [] P5) = bif boolG cs 3 P5 then scG4 cs 4 ver 5 [] [] ref3 (intP cs 3 P5) else scG4 cs 4 ver 5 [] [] [] (intP cs 3 P5) := rfl
          refine wn ?_
          refine callX_tr (A1 := (scA ex11 cs 4 ver (scTabs 4 5 [] [] [] []) P5)) ?_ rfl ?_
          · exact tid
          rw [e]
          refine cm (bool_spec cs h 3 P5 hP5l (by decide)) (callee17) ?_
          refine wn ?_
          obtain ⟨P6, hP6⟩ : ∃ P6, intP cs 3 P5 = P6 := ⟨_, rfl⟩
          have hP6l : P6 ≤ cs.length := by rw [← hP6]; exact intP_in hP5l
          rw [hP6]
          cases hb3 : boolG cs 3 P5 with
          | true =>
            have e : (bif true then scG4 cs 4 ver 5 [] [] ref3 P6 else scG4 cs 4 ver 5 [] [] [] P6) = scG4 cs 4 ver 5 [] [] ref3 P6 := rfl
            refine wn ?_
            refine callX_tr (A1 := (scA ex13 cs 4 ver (scTabs 4 5 [] [] ref3 []) P6)) ?_ rfl ?_
            · refine Tr.trans (tfz 3 1 8 ([.int .i64 0]) 9 1) ?_
              refine Tr.trans (tfz 81 2 32 (ref3.flatMap refC) 10 1) ?_
              exact tid
            refine cm (bool_spec cs h 3 P6 hP6l (by decide)) (callee17) ?_
            refine wn ?_
            obtain ⟨PE, hPE⟩ : ∃ PE, intP cs 3 P6 = PE := ⟨_, rfl⟩
            have hPEl : PE ≤ cs.length := by rw [← hPE]; exact intP_in hP6l
            rw [hPE]
            cases hbE : boolG cs 3 P6 with
            | true =>
              have eE : scG4 cs 4 ver 5 [] [] ref3 P6 = (⟨ver, scTabs 4 5 [] [] ref3 [p1C (treeG1 cs (kindsOf (scC1 5)) PE).1]⟩, (treeG1 cs (kindsOf (scC1 5)) PE).2) := by rw [scG4, hbE, hPE]; rfl
              rw [e, eE]
              refine wn ?_
              refine drawnX_phase env08_ok (fun id => id == 7) (List.range 9) (tks 0 4 (.one 4 (.one 5 (.one 6 (tks 7 2 (.stop)))))) 1 (lst 10 [9]) (by kernel_rfl) ?_
              refine wn ?_
              refine callX_obs (kinds_obs4 ver 5 [] [] ref3) callee36 (fun _ => 8) (fun j => if j = 8 then some 0 else none) (avs := [.agg [.int .i64 ver, .gref 8], .one (.int .i64 1)]) rfl rfl (.cons (AV.Le.refl _) (.cons (AV.Le.refl _) .nil)) (passed1 (args := [.agg [.int .i64 ver, .gref 0], .one (.int .i64 1)]) 8 rfl (by exact Nat.le_of_ble_eq_true rfl) rfl rfl) ?_
              rintro x hx rfl
              refine wn ?_
              refine callX_mut 0 (predicate_spec cs h (kindsOf (scC1 5)) (by simp [kindsOf, scC1]) PE hPEl) (callee35) rfl rfl rfl (.cons (AV.Le.refl _) (.cons (AV.Le.refl _) (.cons (AV.Le.nilOf rfl) (.cons (AV.Le.refl _) .nil)))) rfl (by exact Nat.le_of_ble_eq_true rfl) rfl rfl (caseO_ren cs _) (p1C_lt _) ?_
              refine wn ?_
              obtain ⟨Q, hQ⟩ : ∃ Q, (treeG1 cs (kindsOf (scC1 5)) PE).1 = Q := ⟨_, rfl⟩
              rw [hQ]
              refine drawnX_phase env08_ok (fun _ => false) (List.range 10) (.one 9 (.stop)) 0 (lst 10 []) (by kernel_rfl) ?_
              refine wn ?_
              refine drawnX_done (by kernel_rfl) ?_
              refine wn ?_
              refine retX_tr (Tr.trans (Tr.frz' (T := 85) (s := 13) (B := 136) (cells := p1C Q) 9 1 (by rfl) (by decide) rfl (p1C_deep Q)) (tfz 55 5 96 ((scTabs 4 5 [] [] ref3 [p1C Q]).flatMap tblC) 8 4)) ?_
              refine rtm ?_
              (conv => lhs; whnf)
              rfl
            | false =>
              have eE : scG4 cs 4 ver 5 [] [] ref3 P6 = (⟨ver, scTabs 4 5 [] [] ref3 []⟩, PE) := by rw [scG4, hbE, hPE]; rfl
              rw [e, eE]
              refine wn ?_
              refine retX_tr (tfz 55 5 96 ((scTabs 4 5 [] [] ref3 []).flatMap tblC) 8 4) ?_
              refine rtm ?_
              (conv => lhs; whnf)
              rfl
          | false =>
            have e : (bif false then scG4 cs 4 ver 5 [] [] ref3 P6 else scG4 cs 4 ver 5 [] [] [] P6) = scG4 cs 4 ver 5 [] [] [] P6 := rfl
            refine wn ?_
            refine callX_tr (A1 := (scA ex13 cs 4 ver (scTabs 4 5 [] [] [] []) P6)) ?_ rfl ?_
            · exact tid
            refine cm (bool_spec cs h 3 P6 hP6l (by decide)) (callee17) ?_
            refine wn ?_
            obtain ⟨PE, hPE⟩ : ∃ PE, intP cs 3 P6 = PE := ⟨_, rfl⟩
            have hPEl : PE ≤ cs.length := by rw [← hPE]; exact intP_in hP6l
            rw [hPE]
            cases hbE : boolG cs 3 P6 with
            | true =>
              have eE : scG4 cs 4 ver 5 [] [] [] P6 = (⟨ver, scTabs 4 5 [] [] [] [p1C (treeG1 cs (kindsOf (scC1 5)) PE).1]⟩, (treeG1 cs (kindsOf (scC1 5)) PE).2) := by rw [scG4, hbE, hPE]; rfl
              rw [e, eE]
              refine wn ?_
              refine drawnX_phase env08_ok (fun id => id == 7) (List.range 9) (tks 0 4 (.one 4 (.one 5 (.one 6 (tks 7 2 (.stop)))))) 1 (lst 10 [9]) (by kernel_rfl) ?_
              refine wn ?_
              refine callX_obs (kinds_obs4 ver 5 [] [] []) callee36 (fun _ => 8) (fun j => if j = 8 then some 0 else none) (avs := [.agg [.int .i64 ver, .gref 8], .one (.int .i64 1)]) rfl rfl (.cons (AV.Le.refl _) (.cons (AV.Le.refl _) .nil)) (passed1 (args := [.agg [.int .i64 ver, .gref 0], .one (.int .i64 1)]) 8 rfl (by exact Nat.le_of_ble_eq_true rfl) rfl rfl) ?_
              rintro x hx rfl
              refine wn ?_
              refine callX_mut 0 (predicate_spec cs h (kindsOf (scC1 5)) (by simp [kindsOf, scC1]) PE hPEl) (callee35) rfl rfl rfl (.cons (AV.Le.refl _) (.cons (AV.Le.refl _) (.cons (AV.Le.nilOf rfl) (.cons (AV.Le.refl _) .nil)))) rfl (by exact Nat.le_of_ble_eq_true rfl) rfl rfl (caseO_ren cs _) (p1C_lt _) ?_
              refine wn ?_
              obtain ⟨Q, hQ⟩ : ∃ Q, (treeG1 cs (kindsOf (scC1 5)) PE).1 = Q := ⟨_, rfl⟩
              rw [hQ]
              refine drawnX_phase env08_ok (fun _ => false) (List.range 10) (.one 9 (.stop)) 0 (lst 10 []) (by kernel_rfl) ?_
              refine wn ?_
              refine drawnX_done (by kernel_rfl) ?_
              refine wn ?_
              refine retX_tr (Tr.trans (Tr.frz' (T := 85) (s := 13) (B := 136) (cells := p1C Q) 9 1 (by rfl) (by decide) rfl (p1C_deep Q)) (tfz 55 5 96 ((scTabs 4 5 [] [] [] [p1C Q]).flatMap tblC) 8 4)) ?_
              refine rtm ?_
              (conv => lhs; whnf)
              rfl
            | false =>
              have eE : scG4 cs 4 ver 5 [] [] [] P6 = (⟨ver, scTabs 4 5 [] [] [] []⟩, PE) := by rw [scG4, hbE, hPE]; rfl
              rw [e, eE]
              refine wn ?_
              refine retX_tr (tfz 55 5 96 ((scTabs 4 5 [] [] [] []).flatMap tblC) 8 4) ?_
              refine rtm ?_
              (conv => lhs; whnf)
              rfl
    | false =>
      have e : schemaG cs p = scG1 cs 4 ver 4 P3 := by rw [schemaG, hb, h0, hP2, hver, hP3]; rfl
      rw [e]
      refine wn ?_
      refine cm (int_spec cs h 3 P2 hP2l) (callee25) ?_
      refine wn ?_
      refine cle (column_spec nId 4) callee34 ?_
      rintro x hx rfl
      refine wn ?_
      refine cle (column_spec nOwner 4) callee34 ?_
      rintro x hx rfl
      refine wn ?_
      refine cle (column_spec nId 4) callee34 ?_
      rintro x hx rfl
      refine wn ?_
      refine cle (column_spec nProject 4) callee34 ?_
      rintro x hx rfl
      refine wn ?_
      refine cle (column_spec nTitle 5) callee34 ?_
      rintro x hx rfl
      refine wn ?_
      refine cle (column_spec nDone 3) callee34 ?_
      rintro x hx rfl
      refine wn ?_
      refine cle (column_spec nProject 4) callee34 ?_
      rintro x hx rfl
      refine wn ?_
      refine cle (column_spec nPerson 4) callee34 ?_
      rintro x hx rfl
      refine wn ?_
      refine cle (column_spec nTask 4) callee34 ?_
      rintro x hx rfl
      refine wn ?_
      refine callX_cut (id := 6) env08_ok rfl rfl rfl rfl rfl rfl (by decide) rfl (by simp) rfl (by decide) (by decide) ?_
      refine wn ?_
      refine callX_tr (A1 := scA ex7 cs 4 (intG cs 3 P2) (scTabs 4 4 [] [] [] []) (intP cs 3 P2)) ?_ rfl ?_
      · refine Tr.trans (tfz 50 2 24 (scC0.flatMap colC) 2 2) ?_
        refine Tr.trans (tfz 50 2 24 ((scC1 4).flatMap colC) 3 4) ?_
        refine Tr.trans (tfz 50 2 24 (scC2.flatMap colC) 4 2) ?_
        refine Tr.trans (tfz 50 2 24 ((scC3 4).flatMap colC) 5 1) ?_
        refine Tr.trans (Tr.obj 8 (ob := ⟨55, 5, 96, scRaw 4 4⟩) (by rfl) (cells := (scTabs 4 4 [] [] [] []).flatMap tblC) ?_) ?_
        · repeat (first | exact Pw.nil | refine Pw.cons (by first | exact AC.LeV.refl _ | exact AC.LeV.sl (AC.Le.nil (.inl rfl))) ?_)
        · exact tid
      rw [hver, hP3]
      refine cm (bool_spec cs h 2 P3 hP3l (by decide)) (callee17) ?_
      refine wn ?_
      obtain ⟨P4, hP4⟩ : ∃ P4, intP cs 2 P3 = P4 := ⟨_, rfl⟩
      have hP4l : P4 ≤ cs.length := by rw [← hP4]; exact intP_in hP3l
      rw [hP4]
      cases hb1 : boolG cs 2 P3 with
      | true =>
        have e : scG1 cs 4 ver 4 P3 = bif boolG cs 3 P4 then scG3 cs 4 ver 4 ref1 ref2 (intP cs 3 P4) else scG3 cs 4 ver 4 ref1 [] (intP cs 3 P4) := by rw [scG1, hb1, hP4]; rfl
        refine wn ?_
        refine callX_tr (A1 := (scA ex9 cs 4 ver (scTabs 4 4 ref1 [] [] []) P4)) ?_ rfl ?_
        · refine Tr.trans (tfz 3 1 8 ([.int .i64 1]) 9 1) ?_
          refine Tr.trans (tfz 81 2 32 (ref1.flatMap refC) 10 1) ?_
          exact tid
        rw [e]
        refine cm (bool_spec cs h 3 P4 hP4l (by decide)) (callee17) ?_
        refine wn ?_
        obtain ⟨P5, hP5⟩ : ∃ P5, intP cs 3 P4 = P5 := ⟨_, rfl⟩
        have hP5l : P5 ≤ cs.length := by rw [← hP5]; exact intP_in hP4l
        rw [hP5]
        cases hb2 : boolG cs 3 P4 with
        | true =>
          have e : (bif true then scG3 cs 4 ver 4 ref1 ref2 P5 else scG3 cs 4 ver 4 ref1 [] P5) = bif boolG cs 3 P5 then scG4 cs 4 ver 4 ref1 ref2 ref3 (intP cs 3 P5) else scG4 cs 4 ver 4 ref1 ref2 [] (intP cs 3 P5) := rfl
          refine wn ?_
          refine callX_tr (A1 := (scA ex11 cs 4 ver (scTabs 4 4 ref1 ref2 [] []) P5)) ?_ rfl ?_
          · refine Tr.trans (tfz 3 1 8 ([.int .i64 0]) 9 1) ?_
            refine Tr.trans (tfz 81 2 32 (ref2.flatMap refC) 10 1) ?_
            exact tid
          rw [e]
          refine cm (bool_spec cs h 3 P5 hP5l (by decide)) (callee17) ?_
          refine wn ?_
          obtain ⟨P6, hP6⟩ : ∃ P6, intP cs 3 P5 = P6 := ⟨_, rfl⟩
          have hP6l : P6 ≤ cs.length := by rw [← hP6]; exact intP_in hP5l
          rw [hP6]
          cases hb3 : boolG cs 3 P5 with
          | true =>
            have e : (bif true then scG4 cs 4 ver 4 ref1 ref2 ref3 P6 else scG4 cs 4 ver 4 ref1 ref2 [] P6) = scG4 cs 4 ver 4 ref1 ref2 ref3 P6 := rfl
            refine wn ?_
            refine callX_tr (A1 := (scA ex13 cs 4 ver (scTabs 4 4 ref1 ref2 ref3 []) P6)) ?_ rfl ?_
            · refine Tr.trans (tfz 3 1 8 ([.int .i64 0]) 9 1) ?_
              refine Tr.trans (tfz 81 2 32 (ref3.flatMap refC) 10 1) ?_
              exact tid
            refine cm (bool_spec cs h 3 P6 hP6l (by decide)) (callee17) ?_
            refine wn ?_
            obtain ⟨PE, hPE⟩ : ∃ PE, intP cs 3 P6 = PE := ⟨_, rfl⟩
            have hPEl : PE ≤ cs.length := by rw [← hPE]; exact intP_in hP6l
            rw [hPE]
            cases hbE : boolG cs 3 P6 with
            | true =>
              have eE : scG4 cs 4 ver 4 ref1 ref2 ref3 P6 = (⟨ver, scTabs 4 4 ref1 ref2 ref3 [p1C (treeG1 cs (kindsOf (scC1 4)) PE).1]⟩, (treeG1 cs (kindsOf (scC1 4)) PE).2) := by rw [scG4, hbE, hPE]; rfl
              rw [e, eE]
              refine wn ?_
              refine drawnX_phase env08_ok (fun id => id == 7) (List.range 9) (tks 0 4 (.one 4 (.one 5 (.one 6 (tks 7 2 (.stop)))))) 1 (lst 10 [9]) (by kernel_rfl) ?_
              refine wn ?_
              refine callX_obs (kinds_obs4 ver 4 ref1 ref2 ref3) callee36 (fun _ => 8) (fun j => if j = 8 then some 0 else none) (avs := [.agg [.int .i64 ver, .gref 8], .one (.int .i64 1)]) rfl rfl (.cons (AV.Le.refl _) (.cons (AV.Le.refl _) .nil)) (passed1 (args := [.agg [.int .i64 ver, .gref 0], .one (.int .i64 1)]) 8 rfl (by exact Nat.le_of_ble_eq_true rfl) rfl rfl) ?_
              rintro x hx rfl
              refine wn ?_
              refine callX_mut 0 (predicate_spec cs h (kindsOf (scC1 4)) (by simp [kindsOf, scC1]) PE hPEl) (callee35) rfl rfl rfl (.cons (AV.Le.refl _) (.cons (AV.Le.refl _) (.cons (AV.Le.nilOf rfl) (.cons (AV.Le.refl _) .nil)))) rfl (by exact Nat.le_of_ble_eq_true rfl) rfl rfl (caseO_ren cs _) (p1C_lt _) ?_
              refine wn ?_
              obtain ⟨Q, hQ⟩ : ∃ Q, (treeG1 cs (kindsOf (scC1 4)) PE).1 = Q := ⟨_, rfl⟩
              rw [hQ]
              refine drawnX_phase env08_ok (fun _ => false) (List.range 10) (.one 9 (.stop)) 0 (lst 10 []) (by kernel_rfl) ?_
              refine wn ?_
              refine drawnX_done (by kernel_rfl) ?_
              refine wn ?_
              refine retX_tr (Tr.trans (Tr.frz' (T := 85) (s := 13) (B := 136) (cells := p1C Q) 9 1 (by rfl) (by decide) rfl (p1C_deep Q)) (tfz 55 5 96 ((scTabs 4 4 ref1 ref2 ref3 [p1C Q]).flatMap tblC) 8 4)) ?_
              refine rtm ?_
              (conv => lhs; whnf)
              rfl
            | false =>
              have eE : scG4 cs 4 ver 4 ref1 ref2 ref3 P6 = (⟨ver, scTabs 4 4 ref1 ref2 ref3 []⟩, PE) := by rw [scG4, hbE, hPE]; rfl
              rw [e, eE]
              refine wn ?_
              refine retX_tr (tfz 55 5 96 ((scTabs 4 4 ref1 ref2 ref3 []).flatMap tblC) 8 4) ?_
              refine rtm ?_
              (conv => lhs; whnf)
              rfl
          | false =>
            have e : (bif false then scG4 cs 4 ver 4 ref1 ref2 ref3 P6 else scG4 cs 4 ver 4 ref1 ref2 [] P6) = scG4 cs 4 ver 4 ref1 ref2 [] P6 := rfl
            refine wn ?_
            refine callX_tr (A1 := (scA ex13 cs 4 ver (scTabs 4 4 ref1 ref2 [] []) P6)) ?_ rfl ?_
            · exact tid
            refine cm (bool_spec cs h 3 P6 hP6l (by decide)) (callee17) ?_
            refine wn ?_
            obtain ⟨PE, hPE⟩ : ∃ PE, intP cs 3 P6 = PE := ⟨_, rfl⟩
            have hPEl : PE ≤ cs.length := by rw [← hPE]; exact intP_in hP6l
            rw [hPE]
            cases hbE : boolG cs 3 P6 with
            | true =>
              have eE : scG4 cs 4 ver 4 ref1 ref2 [] P6 = (⟨ver, scTabs 4 4 ref1 ref2 [] [p1C (treeG1 cs (kindsOf (scC1 4)) PE).1]⟩, (treeG1 cs (kindsOf (scC1 4)) PE).2) := by rw [scG4, hbE, hPE]; rfl
              rw [e, eE]
              refine wn ?_
              refine drawnX_phase env08_ok (fun id => id == 7) (List.range 9) (tks 0 4 (.one 4 (.one 5 (.one 6 (tks 7 2 (.stop)))))) 1 (lst 10 [9]) (by kernel_rfl) ?_
              refine wn ?_
              refine callX_obs (kinds_obs4 ver 4 ref1 ref2 []) callee36 (fun _ => 8) (fun j => if j = 8 then some 0 else none) (avs := [.agg [.int .i64 ver, .gref 8], .one (.int .i64 1)]) rfl rfl (.cons (AV.Le.refl _) (.cons (AV.Le.refl _) .nil)) (passed1 (args := [.agg [.int .i64 ver, .gref 0], .one (.int .i64 1)]) 8 rfl (by exact Nat.le_of_ble_eq_true rfl) rfl rfl) ?_
              rintro x hx rfl
              refine wn ?_
              refine callX_mut 0 (predicate_spec cs h (kindsOf (scC1 4)) (by simp [kindsOf, scC1]) PE hPEl) (callee35) rfl rfl rfl (.cons (AV.Le.refl _) (.cons (AV.Le.refl _) (.cons (AV.Le.nilOf rfl) (.cons (AV.Le.refl _) .nil)))) rfl (by exact Nat.le_of_ble_eq_true rfl) rfl rfl (caseO_ren cs _) (p1C_lt _) ?_
              refine wn ?_
              obtain ⟨Q, hQ⟩ : ∃ Q, (treeG1 cs (kindsOf (scC1 4)) PE).1 = Q := ⟨_, rfl⟩
              rw [hQ]
              refine drawnX_phase env08_ok (fun _ => false) (List.range 10) (.one 9 (.stop)) 0 (lst 10 []) (by kernel_rfl) ?_
              refine wn ?_
              refine drawnX_done (by kernel_rfl) ?_
              refine wn ?_
              refine retX_tr (Tr.trans (Tr.frz' (T := 85) (s := 13) (B := 136) (cells := p1C Q) 9 1 (by rfl) (by decide) rfl (p1C_deep Q)) (tfz 55 5 96 ((scTabs 4 4 ref1 ref2 [] [p1C Q]).flatMap tblC) 8 4)) ?_
              refine rtm ?_
              (conv => lhs; whnf)
              rfl
            | false =>
              have eE : scG4 cs 4 ver 4 ref1 ref2 [] P6 = (⟨ver, scTabs 4 4 ref1 ref2 [] []⟩, PE) := by rw [scG4, hbE, hPE]; rfl
              rw [e, eE]
              refine wn ?_
              refine retX_tr (tfz 55 5 96 ((scTabs 4 4 ref1 ref2 [] []).flatMap tblC) 8 4) ?_
              refine rtm ?_
              (conv => lhs; whnf)
              rfl
        | false =>
          have e : (bif false then scG3 cs 4 ver 4 ref1 ref2 P5 else scG3 cs 4 ver 4 ref1 [] P5) = bif boolG cs 3 P5 then scG4 cs 4 ver 4 ref1 [] ref3 (intP cs 3 P5) else scG4 cs 4 ver 4 ref1 [] [] (intP cs 3 P5) := rfl
          refine wn ?_
          refine callX_tr (A1 := (scA ex11 cs 4 ver (scTabs 4 4 ref1 [] [] []) P5)) ?_ rfl ?_
          · exact tid
          rw [e]
          refine cm (bool_spec cs h 3 P5 hP5l (by decide)) (callee17) ?_
          refine wn ?_
          obtain ⟨P6, hP6⟩ : ∃ P6, intP cs 3 P5 = P6 := ⟨_, rfl⟩
          have hP6l : P6 ≤ cs.length := by rw [← hP6]; exact intP_in hP5l
          rw [hP6]
          cases hb3 : boolG cs 3 P5 with
          | true =>
            have e : (bif true then scG4 cs 4 ver 4 ref1 [] ref3 P6 else scG4 cs 4 ver 4 ref1 [] [] P6) = scG4 cs 4 ver 4 ref1 [] ref3 P6 := rfl
            refine wn ?_
            refine callX_tr (A1 := (scA ex13 cs 4 ver (scTabs 4 4 ref1 [] ref3 []) P6)) ?_ rfl ?_
            · refine Tr.trans (tfz 3 1 8 ([.int .i64 0]) 9 1) ?_
              refine Tr.trans (tfz 81 2 32 (ref3.flatMap refC) 10 1) ?_
              exact tid
            refine cm (bool_spec cs h 3 P6 hP6l (by decide)) (callee17) ?_
            refine wn ?_
            obtain ⟨PE, hPE⟩ : ∃ PE, intP cs 3 P6 = PE := ⟨_, rfl⟩
            have hPEl : PE ≤ cs.length := by rw [← hPE]; exact intP_in hP6l
            rw [hPE]
            cases hbE : boolG cs 3 P6 with
            | true =>
              have eE : scG4 cs 4 ver 4 ref1 [] ref3 P6 = (⟨ver, scTabs 4 4 ref1 [] ref3 [p1C (treeG1 cs (kindsOf (scC1 4)) PE).1]⟩, (treeG1 cs (kindsOf (scC1 4)) PE).2) := by rw [scG4, hbE, hPE]; rfl
              rw [e, eE]
              refine wn ?_
              refine drawnX_phase env08_ok (fun id => id == 7) (List.range 9) (tks 0 4 (.one 4 (.one 5 (.one 6 (tks 7 2 (.stop)))))) 1 (lst 10 [9]) (by kernel_rfl) ?_
              refine wn ?_
              refine callX_obs (kinds_obs4 ver 4 ref1 [] ref3) callee36 (fun _ => 8) (fun j => if j = 8 then some 0 else none) (avs := [.agg [.int .i64 ver, .gref 8], .one (.int .i64 1)]) rfl rfl (.cons (AV.Le.refl _) (.cons (AV.Le.refl _) .nil)) (passed1 (args := [.agg [.int .i64 ver, .gref 0], .one (.int .i64 1)]) 8 rfl (by exact Nat.le_of_ble_eq_true rfl) rfl rfl) ?_
              rintro x hx rfl
              refine wn ?_
              refine callX_mut 0 (predicate_spec cs h (kindsOf (scC1 4)) (by simp [kindsOf, scC1]) PE hPEl) (callee35) rfl rfl rfl (.cons (AV.Le.refl _) (.cons (AV.Le.refl _) (.cons (AV.Le.nilOf rfl) (.cons (AV.Le.refl _) .nil)))) rfl (by exact Nat.le_of_ble_eq_true rfl) rfl rfl (caseO_ren cs _) (p1C_lt _) ?_
              refine wn ?_
              obtain ⟨Q, hQ⟩ : ∃ Q, (treeG1 cs (kindsOf (scC1 4)) PE).1 = Q := ⟨_, rfl⟩
              rw [hQ]
              refine drawnX_phase env08_ok (fun _ => false) (List.range 10) (.one 9 (.stop)) 0 (lst 10 []) (by kernel_rfl) ?_
              refine wn ?_
              refine drawnX_done (by kernel_rfl) ?_
              refine wn ?_
              refine retX_tr (Tr.trans (Tr.frz' (T := 85) (s := 13) (B := 136) (cells := p1C Q) 9 1 (by rfl) (by decide) rfl (p1C_deep Q)) (tfz 55 5 96 ((scTabs 4 4 ref1 [] ref3 [p1C Q]).flatMap tblC) 8 4)) ?_
              refine rtm ?_
              (conv => lhs; whnf)
              rfl
            | false =>
              have eE : scG4 cs 4 ver 4 ref1 [] ref3 P6 = (⟨ver, scTabs 4 4 ref1 [] ref3 []⟩, PE) := by rw [scG4, hbE, hPE]; rfl
              rw [e, eE]
              refine wn ?_
              refine retX_tr (tfz 55 5 96 ((scTabs 4 4 ref1 [] ref3 []).flatMap tblC) 8 4) ?_
              refine rtm ?_
              (conv => lhs; whnf)
              rfl
          | false =>
            have e : (bif false then scG4 cs 4 ver 4 ref1 [] ref3 P6 else scG4 cs 4 ver 4 ref1 [] [] P6) = scG4 cs 4 ver 4 ref1 [] [] P6 := rfl
            refine wn ?_
            refine callX_tr (A1 := (scA ex13 cs 4 ver (scTabs 4 4 ref1 [] [] []) P6)) ?_ rfl ?_
            · exact tid
            refine cm (bool_spec cs h 3 P6 hP6l (by decide)) (callee17) ?_
            refine wn ?_
            obtain ⟨PE, hPE⟩ : ∃ PE, intP cs 3 P6 = PE := ⟨_, rfl⟩
            have hPEl : PE ≤ cs.length := by rw [← hPE]; exact intP_in hP6l
            rw [hPE]
            cases hbE : boolG cs 3 P6 with
            | true =>
              have eE : scG4 cs 4 ver 4 ref1 [] [] P6 = (⟨ver, scTabs 4 4 ref1 [] [] [p1C (treeG1 cs (kindsOf (scC1 4)) PE).1]⟩, (treeG1 cs (kindsOf (scC1 4)) PE).2) := by rw [scG4, hbE, hPE]; rfl
              rw [e, eE]
              refine wn ?_
              refine drawnX_phase env08_ok (fun id => id == 7) (List.range 9) (tks 0 4 (.one 4 (.one 5 (.one 6 (tks 7 2 (.stop)))))) 1 (lst 10 [9]) (by kernel_rfl) ?_
              refine wn ?_
              refine callX_obs (kinds_obs4 ver 4 ref1 [] []) callee36 (fun _ => 8) (fun j => if j = 8 then some 0 else none) (avs := [.agg [.int .i64 ver, .gref 8], .one (.int .i64 1)]) rfl rfl (.cons (AV.Le.refl _) (.cons (AV.Le.refl _) .nil)) (passed1 (args := [.agg [.int .i64 ver, .gref 0], .one (.int .i64 1)]) 8 rfl (by exact Nat.le_of_ble_eq_true rfl) rfl rfl) ?_
              rintro x hx rfl
              refine wn ?_
              refine callX_mut 0 (predicate_spec cs h (kindsOf (scC1 4)) (by simp [kindsOf, scC1]) PE hPEl) (callee35) rfl rfl rfl (.cons (AV.Le.refl _) (.cons (AV.Le.refl _) (.cons (AV.Le.nilOf rfl) (.cons (AV.Le.refl _) .nil)))) rfl (by exact Nat.le_of_ble_eq_true rfl) rfl rfl (caseO_ren cs _) (p1C_lt _) ?_
              refine wn ?_
              obtain ⟨Q, hQ⟩ : ∃ Q, (treeG1 cs (kindsOf (scC1 4)) PE).1 = Q := ⟨_, rfl⟩
              rw [hQ]
              refine drawnX_phase env08_ok (fun _ => false) (List.range 10) (.one 9 (.stop)) 0 (lst 10 []) (by kernel_rfl) ?_
              refine wn ?_
              refine drawnX_done (by kernel_rfl) ?_
              refine wn ?_
              refine retX_tr (Tr.trans (Tr.frz' (T := 85) (s := 13) (B := 136) (cells := p1C Q) 9 1 (by rfl) (by decide) rfl (p1C_deep Q)) (tfz 55 5 96 ((scTabs 4 4 ref1 [] [] [p1C Q]).flatMap tblC) 8 4)) ?_
              refine rtm ?_
              (conv => lhs; whnf)
              rfl
            | false =>
              have eE : scG4 cs 4 ver 4 ref1 [] [] P6 = (⟨ver, scTabs 4 4 ref1 [] [] []⟩, PE) := by rw [scG4, hbE, hPE]; rfl
              rw [e, eE]
              refine wn ?_
              refine retX_tr (tfz 55 5 96 ((scTabs 4 4 ref1 [] [] []).flatMap tblC) 8 4) ?_
              refine rtm ?_
              (conv => lhs; whnf)
              rfl
      | false =>
        have e : scG1 cs 4 ver 4 P3 = bif boolG cs 3 P4 then scG3 cs 4 ver 4 [] ref2 (intP cs 3 P4) else scG3 cs 4 ver 4 [] [] (intP cs 3 P4) := by rw [scG1, hb1, hP4]; rfl
        refine wn ?_
        refine callX_tr (A1 := (scA ex9 cs 4 ver (scTabs 4 4 [] [] [] []) P4)) ?_ rfl ?_
        · exact tid
        rw [e]
        refine cm (bool_spec cs h 3 P4 hP4l (by decide)) (callee17) ?_
        refine wn ?_
        obtain ⟨P5, hP5⟩ : ∃ P5, intP cs 3 P4 = P5 := ⟨_, rfl⟩
        have hP5l : P5 ≤ cs.length := by rw [← hP5]; exact intP_in hP4l
        rw [hP5]
        cases hb2 : boolG cs 3 P4 with
        | true =>
          have e : (bif true then scG3 cs 4 ver 4 [] ref2 P5 else scG3 cs 4 ver 4 [] [] P5) = bif boolG cs 3 P5 then scG4 cs 4 ver 4 [] ref2 ref3 (intP cs 3 P5) else scG4 cs 4 ver 4 [] ref2 [] (intP cs 3 P5) := rfl
          refine wn ?_
          refine callX_tr (A1 := (scA ex11 cs 4 ver (scTabs 4 4 [] ref2 [] []) P5)) ?_ rfl ?_
          · refine Tr.trans (tfz 3 1 8 ([.int .i64 0]) 9 1) ?_
            refine Tr.trans (tfz 81 2 32 (ref2.flatMap refC) 10 1) ?_
            exact tid
          rw [e]
          refine cm (bool_spec cs h 3 P5 hP5l (by decide)) (callee17) ?_
          refine wn ?_
          obtain ⟨P6, hP6⟩ : ∃ P6, intP cs 3 P5 = P6 := ⟨_, rfl⟩
          have hP6l : P6 ≤ cs.length := by rw [← hP6]; exact intP_in hP5l
          rw [hP6]
          cases hb3 : boolG cs 3 P5 with
          | true =>
            have e : (bif true then scG4 cs 4 ver 4 [] ref2 ref3 P6 else scG4 cs 4 ver 4 [] ref2 [] P6) = scG4 cs 4 ver 4 [] ref2 ref3 P6 := rfl
            refine wn ?_
            refine callX_tr (A1 := (scA ex13 cs 4 ver (scTabs 4 4 [] ref2 ref3 []) P6)) ?_ rfl ?_
            · refine Tr.trans (tfz 3 1 8 ([.int .i64 0]) 9 1) ?_
              refine Tr.trans (tfz 81 2 32 (ref3.flatMap refC) 10 1) ?_
              exact tid
            refine cm (bool_spec cs h 3 P6 hP6l (by decide)) (callee17) ?_
            refine wn ?_
            obtain ⟨PE, hPE⟩ : ∃ PE, intP cs 3 P6 = PE := ⟨_, rfl⟩
            have hPEl : PE ≤ cs.length := by rw [← hPE]; exact intP_in hP6l
            rw [hPE]
            cases hbE : boolG cs 3 P6 with
            | true =>
              have eE : scG4 cs 4 ver 4 [] ref2 ref3 P6 = (⟨ver, scTabs 4 4 [] ref2 ref3 [p1C (treeG1 cs (kindsOf (scC1 4)) PE).1]⟩, (treeG1 cs (kindsOf (scC1 4)) PE).2) := by rw [scG4, hbE, hPE]; rfl
              rw [e, eE]
              refine wn ?_
              refine drawnX_phase env08_ok (fun id => id == 7) (List.range 9) (tks 0 4 (.one 4 (.one 5 (.one 6 (tks 7 2 (.stop)))))) 1 (lst 10 [9]) (by kernel_rfl) ?_
              refine wn ?_
              refine callX_obs (kinds_obs4 ver 4 [] ref2 ref3) callee36 (fun _ => 8) (fun j => if j = 8 then some 0 else none) (avs := [.agg [.int .i64 ver, .gref 8], .one (.int .i64 1)]) rfl rfl (.cons (AV.Le.refl _) (.cons (AV.Le.refl _) .nil)) (passed1 (args := [.agg [.int .i64 ver, .gref 0], .one (.int .i64 1)]) 8 rfl (by exact Nat.le_of_ble_eq_true rfl) rfl rfl) ?_
              rintro x hx rfl
              refine wn ?_
              refine callX_mut 0 (predicate_spec cs h (kindsOf (scC1 4)) (by simp [kindsOf, scC1]) PE hPEl) (callee35) rfl rfl rfl (.cons (AV.Le.refl _) (.cons (AV.Le.refl _) (.cons (AV.Le.nilOf rfl) (.cons (AV.Le.refl _) .nil)))) rfl (by exact Nat.le_of_ble_eq_true rfl) rfl rfl (caseO_ren cs _) (p1C_lt _) ?_
              refine wn ?_
              obtain ⟨Q, hQ⟩ : ∃ Q, (treeG1 cs (kindsOf (scC1 4)) PE).1 = Q := ⟨_, rfl⟩
              rw [hQ]
              refine drawnX_phase env08_ok (fun _ => false) (List.range 10) (.one 9 (.stop)) 0 (lst 10 []) (by kernel_rfl) ?_
              refine wn ?_
              refine drawnX_done (by kernel_rfl) ?_
              refine wn ?_
              refine retX_tr (Tr.trans (Tr.frz' (T := 85) (s := 13) (B := 136) (cells := p1C Q) 9 1 (by rfl) (by decide) rfl (p1C_deep Q)) (tfz 55 5 96 ((scTabs 4 4 [] ref2 ref3 [p1C Q]).flatMap tblC) 8 4)) ?_
              refine rtm ?_
              (conv => lhs; whnf)
              rfl
            | false =>
              have eE : scG4 cs 4 ver 4 [] ref2 ref3 P6 = (⟨ver, scTabs 4 4 [] ref2 ref3 []⟩, PE) := by rw [scG4, hbE, hPE]; rfl
              rw [e, eE]
              refine wn ?_
              refine retX_tr (tfz 55 5 96 ((scTabs 4 4 [] ref2 ref3 []).flatMap tblC) 8 4) ?_
              refine rtm ?_
              (conv => lhs; whnf)
              rfl
          | false =>
            have e : (bif false then scG4 cs 4 ver 4 [] ref2 ref3 P6 else scG4 cs 4 ver 4 [] ref2 [] P6) = scG4 cs 4 ver 4 [] ref2 [] P6 := rfl
            refine wn ?_
            refine callX_tr (A1 := (scA ex13 cs 4 ver (scTabs 4 4 [] ref2 [] []) P6)) ?_ rfl ?_
            · exact tid
            refine cm (bool_spec cs h 3 P6 hP6l (by decide)) (callee17) ?_
            refine wn ?_
            obtain ⟨PE, hPE⟩ : ∃ PE, intP cs 3 P6 = PE := ⟨_, rfl⟩
            have hPEl : PE ≤ cs.length := by rw [← hPE]; exact intP_in hP6l
            rw [hPE]
            cases hbE : boolG cs 3 P6 with
            | true =>
              have eE : scG4 cs 4 ver 4 [] ref2 [] P6 = (⟨ver, scTabs 4 4 [] ref2 [] [p1C (treeG1 cs (kindsOf (scC1 4)) PE).1]⟩, (treeG1 cs (kindsOf (scC1 4)) PE).2) := by rw [scG4, hbE, hPE]; rfl
              rw [e, eE]
              refine wn ?_
              refine drawnX_phase env08_ok (fun id => id == 7) (List.range 9) (tks 0 4 (.one 4 (.one 5 (.one 6 (tks 7 2 (.stop)))))) 1 (lst 10 [9]) (by kernel_rfl) ?_
              refine wn ?_
              refine callX_obs (kinds_obs4 ver 4 [] ref2 []) callee36 (fun _ => 8) (fun j => if j = 8 then some 0 else none) (avs := [.agg [.int .i64 ver, .gref 8], .one (.int .i64 1)]) rfl rfl (.cons (AV.Le.refl _) (.cons (AV.Le.refl _) .nil)) (passed1 (args := [.agg [.int .i64 ver, .gref 0], .one (.int .i64 1)]) 8 rfl (by exact Nat.le_of_ble_eq_true rfl) rfl rfl) ?_
              rintro x hx rfl
              refine wn ?_
              refine callX_mut 0 (predicate_spec cs h (kindsOf (scC1 4)) (by simp [kindsOf, scC1]) PE hPEl) (callee35) rfl rfl rfl (.cons (AV.Le.refl _) (.cons (AV.Le.refl _) (.cons (AV.Le.nilOf rfl) (.cons (AV.Le.refl _) .nil)))) rfl (by exact Nat.le_of_ble_eq_true rfl) rfl rfl (caseO_ren cs _) (p1C_lt _) ?_
              refine wn ?_
              obtain ⟨Q, hQ⟩ : ∃ Q, (treeG1 cs (kindsOf (scC1 4)) PE).1 = Q := ⟨_, rfl⟩
              rw [hQ]
              refine drawnX_phase env08_ok (fun _ => false) (List.range 10) (.one 9 (.stop)) 0 (lst 10 []) (by kernel_rfl) ?_
              refine wn ?_
              refine drawnX_done (by kernel_rfl) ?_
              refine wn ?_
              refine retX_tr (Tr.trans (Tr.frz' (T := 85) (s := 13) (B := 136) (cells := p1C Q) 9 1 (by rfl) (by decide) rfl (p1C_deep Q)) (tfz 55 5 96 ((scTabs 4 4 [] ref2 [] [p1C Q]).flatMap tblC) 8 4)) ?_
              refine rtm ?_
              (conv => lhs; whnf)
              rfl
            | false =>
              have eE : scG4 cs 4 ver 4 [] ref2 [] P6 = (⟨ver, scTabs 4 4 [] ref2 [] []⟩, PE) := by rw [scG4, hbE, hPE]; rfl
              rw [e, eE]
              refine wn ?_
              refine retX_tr (tfz 55 5 96 ((scTabs 4 4 [] ref2 [] []).flatMap tblC) 8 4) ?_
              refine rtm ?_
              (conv => lhs; whnf)
              rfl
        | false =>
          have e : (bif false then scG3 cs 4 ver 4 [] ref2 P5 else scG3 cs 4 ver 4 [] [] P5) = bif boolG cs 3 P5 then scG4 cs 4 ver 4 [] [] ref3 (intP cs 3 P5) else scG4 cs 4 ver 4 [] [] [] (intP cs 3 P5) := rfl
          refine wn ?_
          refine callX_tr (A1 := (scA ex11 cs 4 ver (scTabs 4 4 [] [] [] []) P5)) ?_ rfl ?_
          · exact tid
          rw [e]
          refine cm (bool_spec cs h 3 P5 hP5l (by decide)) (callee17) ?_
          refine wn ?_
          obtain ⟨P6, hP6⟩ : ∃ P6, intP cs 3 P5 = P6 := ⟨_, rfl⟩
          have hP6l : P6 ≤ cs.length := by rw [← hP6]; exact intP_in hP5l
          rw [hP6]
          cases hb3 : boolG cs 3 P5 with
          | true =>
            have e : (bif true then scG4 cs 4 ver 4 [] [] ref3 P6 else scG4 cs 4 ver 4 [] [] [] P6) = scG4 cs 4 ver 4 [] [] ref3 P6 := rfl
            refine wn ?_
            refine callX_tr (A1 := (scA ex13 cs 4 ver (scTabs 4 4 [] [] ref3 []) P6)) ?_ rfl ?_
            · refine Tr.trans (tfz 3 1 8 ([.int .i64 0]) 9 1) ?_
              refine Tr.trans (tfz 81 2 32 (ref3.flatMap refC) 10 1) ?_
              exact tid
            refine cm (bool_spec cs h 3 P6 hP6l (by decide)) (callee17) ?_
            refine wn ?_
            obtain ⟨PE, hPE⟩ : ∃ PE, intP cs 3 P6 = PE := ⟨_, rfl⟩
            have hPEl : PE ≤ cs.length := by rw [← hPE]; exact intP_in hP6l
            rw [hPE]
            cases hbE : boolG cs 3 P6 with
            | true =>
              have eE : scG4 cs 4 ver 4 [] [] ref3 P6 = (⟨ver, scTabs 4 4 [] [] ref3 [p1C (treeG1 cs (kindsOf (scC1 4)) PE).1]⟩, (treeG1 cs (kindsOf (scC1 4)) PE).2) := by rw [scG4, hbE, hPE]; rfl
              rw [e, eE]
              refine wn ?_
              refine drawnX_phase env08_ok (fun id => id == 7) (List.range 9) (tks 0 4 (.one 4 (.one 5 (.one 6 (tks 7 2 (.stop)))))) 1 (lst 10 [9]) (by kernel_rfl) ?_
              refine wn ?_
              refine callX_obs (kinds_obs4 ver 4 [] [] ref3) callee36 (fun _ => 8) (fun j => if j = 8 then some 0 else none) (avs := [.agg [.int .i64 ver, .gref 8], .one (.int .i64 1)]) rfl rfl (.cons (AV.Le.refl _) (.cons (AV.Le.refl _) .nil)) (passed1 (args := [.agg [.int .i64 ver, .gref 0], .one (.int .i64 1)]) 8 rfl (by exact Nat.le_of_ble_eq_true rfl) rfl rfl) ?_
              rintro x hx rfl
              refine wn ?_
              refine callX_mut 0 (predicate_spec cs h (kindsOf (scC1 4)) (by simp [kindsOf, scC1]) PE hPEl) (callee35) rfl rfl rfl (.cons (AV.Le.refl _) (.cons (AV.Le.refl _) (.cons (AV.Le.nilOf rfl) (.cons (AV.Le.refl _) .nil)))) rfl (by exact Nat.le_of_ble_eq_true rfl) rfl rfl (caseO_ren cs _) (p1C_lt _) ?_
              refine wn ?_
              obtain ⟨Q, hQ⟩ : ∃ Q, (treeG1 cs (kindsOf (scC1 4)) PE).1 = Q := ⟨_, rfl⟩
              rw [hQ]
              refine drawnX_phase env08_ok (fun _ => false) (List.range 10) (.one 9 (.stop)) 0 (lst 10 []) (by kernel_rfl) ?_
              refine wn ?_
              refine drawnX_done (by kernel_rfl) ?_
              refine wn ?_
              refine retX_tr (Tr.trans (Tr.frz' (T := 85) (s := 13) (B := 136) (cells := p1C Q) 9 1 (by rfl) (by decide) rfl (p1C_deep Q)) (tfz 55 5 96 ((scTabs 4 4 [] [] ref3 [p1C Q]).flatMap tblC) 8 4)) ?_
              refine rtm ?_
              (conv => lhs; whnf)
              rfl
            | false =>
              have eE : scG4 cs 4 ver 4 [] [] ref3 P6 = (⟨ver, scTabs 4 4 [] [] ref3 []⟩, PE) := by rw [scG4, hbE, hPE]; rfl
              rw [e, eE]
              refine wn ?_
              refine retX_tr (tfz 55 5 96 ((scTabs 4 4 [] [] ref3 []).flatMap tblC) 8 4) ?_
              refine rtm ?_
              (conv => lhs; whnf)
              rfl
          | false =>
            have e : (bif false then scG4 cs 4 ver 4 [] [] ref3 P6 else scG4 cs 4 ver 4 [] [] [] P6) = scG4 cs 4 ver 4 [] [] [] P6 := rfl
            refine wn ?_
            refine callX_tr (A1 := (scA ex13 cs 4 ver (scTabs 4 4 [] [] [] []) P6)) ?_ rfl ?_
            · exact tid
            refine cm (bool_spec cs h 3 P6 hP6l (by decide)) (callee17) ?_
            refine wn ?_
            obtain ⟨PE, hPE⟩ : ∃ PE, intP cs 3 P6 = PE := ⟨_, rfl⟩
            have hPEl : PE ≤ cs.length := by rw [← hPE]; exact intP_in hP6l
            rw [hPE]
            cases hbE : boolG cs 3 P6 with
            | true =>
              have eE : scG4 cs 4 ver 4 [] [] [] P6 = (⟨ver, scTabs 4 4 [] [] [] [p1C (treeG1 cs (kindsOf (scC1 4)) PE).1]⟩, (treeG1 cs (kindsOf (scC1 4)) PE).2) := by rw [scG4, hbE, hPE]; rfl
              rw [e, eE]
              refine wn ?_
              refine drawnX_phase env08_ok (fun id => id == 7) (List.range 9) (tks 0 4 (.one 4 (.one 5 (.one 6 (tks 7 2 (.stop)))))) 1 (lst 10 [9]) (by kernel_rfl) ?_
              refine wn ?_
              refine callX_obs (kinds_obs4 ver 4 [] [] []) callee36 (fun _ => 8) (fun j => if j = 8 then some 0 else none) (avs := [.agg [.int .i64 ver, .gref 8], .one (.int .i64 1)]) rfl rfl (.cons (AV.Le.refl _) (.cons (AV.Le.refl _) .nil)) (passed1 (args := [.agg [.int .i64 ver, .gref 0], .one (.int .i64 1)]) 8 rfl (by exact Nat.le_of_ble_eq_true rfl) rfl rfl) ?_
              rintro x hx rfl
              refine wn ?_
              refine callX_mut 0 (predicate_spec cs h (kindsOf (scC1 4)) (by simp [kindsOf, scC1]) PE hPEl) (callee35) rfl rfl rfl (.cons (AV.Le.refl _) (.cons (AV.Le.refl _) (.cons (AV.Le.nilOf rfl) (.cons (AV.Le.refl _) .nil)))) rfl (by exact Nat.le_of_ble_eq_true rfl) rfl rfl (caseO_ren cs _) (p1C_lt _) ?_
              refine wn ?_
              obtain ⟨Q, hQ⟩ : ∃ Q, (treeG1 cs (kindsOf (scC1 4)) PE).1 = Q := ⟨_, rfl⟩
              rw [hQ]
              refine drawnX_phase env08_ok (fun _ => false) (List.range 10) (.one 9 (.stop)) 0 (lst 10 []) (by kernel_rfl) ?_
              refine wn ?_
              refine drawnX_done (by kernel_rfl) ?_
              refine wn ?_
              refine retX_tr (Tr.trans (Tr.frz' (T := 85) (s := 13) (B := 136) (cells := p1C Q) 9 1 (by rfl) (by decide) rfl (p1C_deep Q)) (tfz 55 5 96 ((scTabs 4 4 [] [] [] [p1C Q]).flatMap tblC) 8 4)) ?_
              refine rtm ?_
              (conv => lhs; whnf)
              rfl
            | false =>
              have eE : scG4 cs 4 ver 4 [] [] [] P6 = (⟨ver, scTabs 4 4 [] [] [] []⟩, PE) := by rw [scG4, hbE, hPE]; rfl
              rw [e, eE]
              refine wn ?_
              refine retX_tr (tfz 55 5 96 ((scTabs 4 4 [] [] [] []).flatMap tblC) 8 4) ?_
              refine rtm ?_
              (conv => lhs; whnf)
              rfl
-- END CASES
end Go.Proofs.Ve

