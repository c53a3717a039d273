/-
  VeNin: joined by wip/tools/merge.py out of VeJ1 VeJ2 VeJ4 VeJ5 VeJ6 VeJ7 VeJ8 VeJ9 VeJc VeJa VeJb VeJd VeJe.
-/
import Derived.Test.YtcdfmdiifgpdnaaVeSev
import Derived.Test.YtcdfmdiifgpdnaaVeFiv
import Derived.Test.YtcdfmdiifgpdnaaVeSix
import Derived.Test.YtcdfmdiifgpdnaaVeTri
import Derived.Test.YtcdfmdiifgpdnaaVeEig
/-
  VeJ1: predicates as trees; the check of predicates.
-/
-- PX_ENV env9_ok
set_option linter.unusedVariables false
set_option linter.unusedSimpArgs false
set_option pp.maxSteps 2000
set_option maxHeartbeats 4000000
namespace Go.Proofs.Ve
open Go

/-- A predicate. -/
inductive PT where
  | node (op cmp : Int) (l r : Opd) (args : List PT)
def PT.op : PT → Int | .node a _ _ _ _ => a
def PT.cmp : PT → Int | .node _ a _ _ _ => a
def PT.l : PT → Opd | .node _ _ a _ _ => a
def PT.r : PT → Opd | .node _ _ _ a _ => a
def PT.args : PT → List PT | .node _ _ _ _ a => a
mutual
def PT.cells : PT → List AC
  | .node op cmp l r args => [.int .i64 op, .int .i64 cmp, .int .i64 l.kind, .int .i64 l.index, .int .i64 l.v.k, .int .i64 l.v.n, .str l.v.t, .int .i64 r.kind, .int .i64 r.index, .int .i64 r.v.k, .int .i64 r.v.n, .str r.v.t, .sl false 136 args.length (PT.cellsL args)]
def PT.cellsL : List PT → List AC
  | [] => []
  | p :: r => PT.cells p ++ PT.cellsL r
end
mutual
def PT.h : PT → Nat
  | .node _ _ _ _ args => PT.hL args + 1
def PT.hL : List PT → Nat
  | [] => 0
  | p :: r => max (PT.h p) (PT.hL r)
end
theorem PT.cellsL_eq : ∀ l : List PT, PT.cellsL l = l.flatMap PT.cells
  | [] => by rw [PT.cellsL]; rfl
  | p :: r => by rw [PT.cellsL, PT.cellsL_eq r]; rfl
def ptA (p : PT) (a : AC) : List AC := [.int .i64 p.op, .int .i64 p.cmp, .int .i64 p.l.kind, .int .i64 p.l.index, .int .i64 p.l.v.k, .int .i64 p.l.v.n, .str p.l.v.t, .int .i64 p.r.kind, .int .i64 p.r.index, .int .i64 p.r.v.k, .int .i64 p.r.v.n, .str p.r.v.t, a]
theorem PT.cells_eq (p : PT) : p.cells = ptA p (slC PT.cells 136 p.args) := by
  cases p
  rw [PT.cells, PT.cellsL_eq]
  rfl
theorem PT.cells_len (p : PT) : p.cells.length = 13 := by rw [PT.cells_eq]; rfl
theorem PT.h_mem : ∀ {l : List PT} {p : PT}, p ∈ l → p.h ≤ PT.hL l
  | q :: r, p, h => by
    rw [PT.hL]
    rcases List.mem_cons.1 h with rfl | h
    · exact Nat.le_max_left _ _
    · exact Nat.le_trans (PT.h_mem h) (Nat.le_max_right _ _)
theorem PT.h_arg {p q : PT} (h : q ∈ p.args) : q.h + 1 ≤ p.h := by
  cases p
  rw [PT.h]
  exact Nat.succ_le_succ (PT.h_mem h)

def realV (v : V) : Bool := validV v && decide (v.k ≥ 3)
theorem real_spec (v : V) : PSpec Try.prog 104 [.agg (vC v)] (fun r => r = .one (.bool (realV v))) := by
  refine pspec_x env9_ok mixed08 Try.func104 rfl 10 rfl _ rfl rfl ?_
  refine wn ?_
  refine cle (valid_spec v) callee72 ?_
  rintro x hx rfl
  cases h : validV v
  · refine wm ?_
    repeat' (first | (refine i64 ?_; refine wm ?_) | (refine exI_as _ rfl ?_; refine wm ?_) | (refine forkB_dec (fun _ => ?_) (fun _ => ?_) <;> refine wm ?_) | (refine forkB_intro (fun _ => ?_) (fun _ => ?_) <;> refine wm ?_))
    all_goals (refine retX_val rfl ?_; (conv => whnf); (first | refine resT ?_ | refine resF ?_); simp_all [realV])
  · refine wm ?_
    repeat' (first | (refine i64 ?_; refine wm ?_) | (refine exI_as _ rfl ?_; refine wm ?_) | (refine forkB_dec (fun _ => ?_) (fun _ => ?_) <;> refine wm ?_) | (refine forkB_intro (fun _ => ?_) (fun _ => ?_) <;> refine wm ?_))
    all_goals (refine retX_val rfl ?_; (conv => whnf); (first | refine resT ?_ | refine resF ?_); simp_all [realV])
theorem callee104 : callee Try.prog 104 := callee_of Try.func104 rfl rfl
def ckB (k : Int) : Bool := decide (k = 3 ∨ k = 4 ∨ k = 5)
theorem colKindP_spec (k : Int) : PSpec Try.prog 81 [.one (.int .i64 k)] (fun r => r = .one (.bool (ckB k))) := by
  refine pspec_x env9_ok mixed08 Try.func81 rfl 13 rfl _ rfl rfl ?_
  refine wm ?_
  repeat' (first | (refine i64 ?_; refine wm ?_) | (refine exI_as _ rfl ?_; refine wm ?_) | (refine forkB_dec (fun _ => ?_) (fun _ => ?_) <;> refine wm ?_) | (refine forkB_intro (fun _ => ?_) (fun _ => ?_) <;> refine wm ?_))
  all_goals (refine retX_val rfl ?_; (conv => whnf); (first | refine resT ?_ | refine resF ?_); simp_all [ckB])
theorem callee81 : callee Try.prog 81 := callee_of Try.func81 rfl rfl

def kindT (cols ps : List Int) (o : Opd) : Int :=
  if o.kind = 1 ∨ o.kind = 2 then
    (if 0 ≤ o.index ∧ o.index < (if o.kind = 2 then ps else cols).length ∧ eqV o.v zeroV = true then (if o.kind = 2 then ps else cols).getD o.index.toNat 0 else 0)
  else if o.kind = 3 then (if o.index = 0 ∧ realV o.v = true then o.v.k else 0) else 0
theorem kindOf_spec (cols ps : List Int) (o : Opd) : PSpec Try.prog 97 [.agg (opdC o), .one (slC intC 8 cols), .one (slC intC 8 ps)] (fun r => r = .one (.int .i64 (kindT cols ps o))) := by
  refine pspec_x env9_ok mixed08 Try.func97 rfl 52 rfl _ rfl rfl ?_
  refine wm ?_
  repeat' (first | (refine i64 ?_; refine wm ?_) | (refine exI_as _ rfl ?_; refine wm ?_) | (refine forkB_dec (fun _ => ?_) (fun _ => ?_) <;> refine wm ?_) | (refine forkB_intro (fun _ => ?_) (fun _ => ?_) <;> refine wm ?_))
  all_goals first
    | (exfalso; omega)
    | (refine retX_val rfl ?_; (conv => whnf); refine resI ?_; first | (simp_all [kindT]; done) | (simp_all [kindT]; omega) | (rename_i hz; have hz2 : eqV o.v zeroV = false := by { have h : (!(eqV o.v zeroV)) = true := hz; simpa using h }; clear hz; simp_all [kindT]))
    | skip
  · rename_i hz
    have hz2 : eqV o.v zeroV = true := by
      have h : (!(eqV o.v zeroV)) = false := hz
      simpa using h
    obtain ⟨j, hj⟩ : ∃ j : Nat, o.index = j := ⟨o.index.toNat, by omega⟩
    have hjl : j < (cols).length := by omega
    have e : kindT cols ps o = (cols)[j] := by
      clear hz
      simp_all [kindT]
    rw [e, hj]
    refine reqD_dec (by omega) ?_
    refine forceL_as (intC (cols)[j]) (flat_get (f := intC) intC_len (cols) j hjl) ?_
    refine wn ?_
    refine retX_val rfl ?_
    rfl
  · rename_i hz
    have hz2 : eqV o.v zeroV = true := by
      have h : (!(eqV o.v zeroV)) = false := hz
      simpa using h
    obtain ⟨j, hj⟩ : ∃ j : Nat, o.index = j := ⟨o.index.toNat, by omega⟩
    have hjl : j < (ps).length := by omega
    have e : kindT cols ps o = (ps)[j] := by
      clear hz
      simp_all [kindT]
    rw [e, hj]
    refine reqD_dec (by omega) ?_
    refine forceL_as (intC (ps)[j]) (flat_get (f := intC) intC_len (ps) j hjl) ?_
    refine wn ?_
    refine retX_val rfl ?_
    rfl
  · refine cle (real_spec o.v) callee104 ?_
    rintro x hx rfl
    cases hr : realV o.v
    · refine wm ?_
      repeat' (first | (refine i64 ?_; refine wm ?_) | (refine exI_as _ rfl ?_; refine wm ?_) | (refine forkB_dec (fun _ => ?_) (fun _ => ?_) <;> refine wm ?_) | (refine forkB_intro (fun _ => ?_) (fun _ => ?_) <;> refine wm ?_))
      all_goals (refine retX_val rfl ?_; (conv => whnf); refine resI ?_; simp_all [kindT])
    · refine wm ?_
      repeat' (first | (refine i64 ?_; refine wm ?_) | (refine exI_as _ rfl ?_; refine wm ?_) | (refine forkB_dec (fun _ => ?_) (fun _ => ?_) <;> refine wm ?_) | (refine forkB_intro (fun _ => ?_) (fun _ => ?_) <;> refine wm ?_))
      all_goals (refine retX_val rfl ?_; (conv => whnf); refine resI ?_; simp_all [kindT])
theorem callee97 : callee Try.prog 97 := callee_of Try.func97 rfl rfl

mutual
def meaT : PT → Int → Int → Int × Bool
  | .node _ _ _ _ args, d, n => if d > 8 ∨ n + 1 > 24 then (n + 1, false) else meaL args (d + 1) (n + 1)
def meaL : List PT → Int → Int → Int × Bool
  | [], _, n => (n, true)
  | p :: r, d, n => bif (meaT p d n).2 then meaL r d (meaT p d n).1 else ((meaT p d n).1, false)
end
theorem meaT_eq (p : PT) (d n : Int) : meaT p d n = if d > 8 ∨ n + 1 > 24 then (n + 1, false) else meaL p.args (d + 1) (n + 1) := by
  cases p
  rw [meaT]
  rfl
mutual
theorem meaT_le : ∀ (p : PT) (d n : Int), (meaT p d n).2 = true → n + 1 ≤ (meaT p d n).1 ∧ (meaT p d n).1 ≤ 24
  | .node _ _ _ _ args, d, n, h => by
    rw [meaT] at h ⊢
    split at h
    · cases h
    · rename_i hc
      rw [if_neg hc]
      exact meaL_le args (d + 1) (n + 1) (by omega) h
theorem meaL_le : ∀ (l : List PT) (d n : Int), n ≤ 24 → (meaL l d n).2 = true → n ≤ (meaL l d n).1 ∧ (meaL l d n).1 ≤ 24
  | [], d, n, hn, h => by
    rw [meaL]
    exact ⟨Int.le_refl _, hn⟩
  | p :: r, d, n, hn, h => by
    rw [meaL] at h ⊢
    cases hp : (meaT p d n).2 with
    | false => rw [hp] at h; cases h
    | true =>
      rw [hp] at h
      rw [cond_true] at h ⊢
      have h1 := meaT_le p d n hp
      have h2 := meaL_le r d (meaT p d n).1 h1.2 h
      exact ⟨by omega, h2.2⟩
end
def cntO (n : Int) : Ob := ⟨3, 0, 0, [.int .i64 n]⟩
def meA (p : PT) (d : Int) (q : Nat × Int) : AS := AS.of 36 1 2 [(1, .one (.int .i64 d)), (2, .one (.ptr 0 0)), (3, .one (.ptr 1 0)), (23, .one (slC PT.cells 136 p.args)), (24, .one (.int .i64 p.args.length)), (25, .one (.int .i64 (q.1 : Nat)))] [(0, cntO q.2), (1, ⟨85, 0, 0, ptA p (slC PT.cells 136 p.args)⟩)]
theorem callee82 : callee Try.prog 82 := callee_of Try.func82 rfl rfl
theorem measure_spec : ∀ (D : Nat) (p : PT), p.h ≤ D → ∀ (d n : Int), 1 ≤ d ∧ d ≤ 9 → 0 ≤ n ∧ n ≤ 24 →
    MSpec Try.prog 82 [.agg (ptA p (slC PT.cells 136 p.args)), .one (.int .i64 d), .one (.ptr 0 0)] (cntO n) (cntO (meaT p d n).1) (.one (.bool (meaT p d n).2))
  | 0, p, h => by
    cases p
    rw [PT.h] at h
    omega
  | D + 1, p, h => by
    intro d n hd hn
    refine mspec_x env9_ok mixed08 Try.func82 rfl 36 rfl _ rfl rfl ?_
    have em := meaT_eq p d n
    obtain ⟨M, hM⟩ : ∃ M, meaT p d n = M := ⟨_, rfl⟩
    rw [hM] at em ⊢
    refine wn ?_
    refine i64 ?_
    refine wn ?_
    refine forkB_dec (fun h1 => ?_) (fun h1 => ?_)
    · rw [if_pos (.inl h1)] at em
      subst em
      refine wn ?_
      refine rtm ?_
      (conv => lhs; whnf)
    · refine wn ?_
      refine forkB_dec (fun h2 => ?_) (fun h2 => ?_)
      · rw [if_pos (.inr h2)] at em
        subst em
        refine wn ?_
        refine rtm ?_
        (conv => lhs; whnf)
      · rw [if_neg (by omega)] at em
        refine wn ?_
        refine exI_as _ rfl ?_
        refine wn ?_
        refine loopX_of env9_ok mixed08 (σ := Nat × Int) (meA p d) (fun q => q.1 ≤ p.args.length ∧ M = meaL (p.args.drop q.1) (d + 1) q.2 ∧ (q.1 : Int) + n + 1 ≤ q.2 ∧ q.2 ≤ 24) (fun q => p.args.length - q.1) (0, n + 1) (fun _ => rfl) tid ⟨Nat.zero_le _, em, by show ((0 : Nat) : Int) + n + 1 ≤ n + 1; omega, by show n + 1 ≤ 24; omega⟩ ?_
        clear em
        rintro ⟨i, m⟩ ⟨hi, em, hm1, hm2⟩
        have hi : i ≤ p.args.length := hi
        have em : M = meaL (p.args.drop i) (d + 1) m := em
        have hm1 : (i : Int) + n + 1 ≤ m := hm1
        have hm2 : m ≤ 24 := hm2
        refine wn ?_
        refine forkB_dec (fun h3 => ?_) (fun h3 => ?_)
        · have hi2 : i < p.args.length := by have h3 : (i : Int) < p.args.length := h3; omega
          rw [List.drop_eq_getElem_cons hi2, meaL] at em
          have hha := PT.h_arg (p := p) (List.getElem_mem hi2)
          obtain ⟨a, ha⟩ : ∃ a, p.args[i] = a := ⟨_, rfl⟩
          rw [ha] at em hha
          refine wn ?_
          refine rq ?_
          refine forceL_as a.cells ((flat_get (f := PT.cells) PT.cells_len p.args i hi2).trans (by rw [ha])) ?_
          rw [PT.cells_eq]
          refine wn ?_
          refine i64 ?_
          refine wn ?_
          refine callX_mut 0 (measure_spec D a (by omega) (d + 1) m (by omega) (by omega)) callee82 rfl rfl rfl (.cons (AV.Le.refl _) (.cons (AV.Le.refl _) (.cons (AV.Le.refl _) .nil))) rfl (by exact Nat.le_of_ble_eq_true rfl) rfl rfl (fun _ => rfl) rfl ?_
          have hle := meaT_le a (d + 1) m
          generalize meaT a (d + 1) m = X at em hle ⊢
          obtain ⟨m2, b⟩ := X
          have em : M = bif b then meaL (p.args.drop (i + 1)) (d + 1) m2 else (m2, false) := em
          cases b with
          | false =>
            rw [cond_false] at em
            subst em
            refine wn ?_
            refine rtm ?_
            (conv => lhs; whnf)
          | true =>
            rw [cond_true] at em
            have hle := hle rfl
            refine wn ?_
            refine exI_i64 (by show -9223372036854775808 ≤ (i : Int) + 1; omega) (by show (i : Int) + 1 ≤ 9223372036854775807; omega) ?_
            refine wn ?_
            exact ⟨(i + 1, m2), ⟨hi2, em, by show ((i + 1 : Nat) : Int) + n + 1 ≤ m2; have hle1 : m + 1 ≤ m2 := hle.1; omega, hle.2⟩, by show p.args.length - (i + 1) < p.args.length - i; omega, tid⟩
        · rw [List.drop_eq_nil_of_le (by have h3 : ¬ (i : Int) < p.args.length := h3; omega), meaL] at em
          subst em
          refine wn ?_
          refine rtm ?_
          (conv => lhs; whnf)
def eqO (o : Opd) : Bool := o.kind == 0 && (o.index == 0 && (o.v.k == 0 && (o.v.n == 0 && (o.v.t == (⟨#[]⟩ : ByteArray) && true))))
def plainT (p : PT) : Bool := p.cmp == 0 && (eqO p.l && eqO p.r)
def headT (cols ps : List Int) (p : PT) : Bool :=
  if p.op = 1 ∨ p.op = 2 then plainT p && decide (p.args.length = 0)
  else if p.op = 3 then decide (p.args.length = 0) && (decide (1 ≤ p.cmp ∧ p.cmp ≤ 6 ∧ kindT cols ps p.l ≠ 0) && decide (kindT cols ps p.l = kindT cols ps p.r))
  else if p.op = 4 ∨ p.op = 5 then plainT p
  else if p.op = 6 then plainT p && decide (p.args.length = 1)
  else false
mutual
def nodeT (cols ps : List Int) : PT → Bool
  | .node op cmp l r args => headT cols ps (.node op cmp l r args) && nodeL cols ps args
def nodeL (cols ps : List Int) : List PT → Bool
  | [] => true
  | p :: r => nodeT cols ps p && nodeL cols ps r
end
theorem nodeT_eq (cols ps : List Int) (p : PT) : nodeT cols ps p = (headT cols ps p && nodeL cols ps p.args) := by
  cases p
  rw [nodeT]
  rfl
theorem nodeT_bad {cols ps : List Int} {p : PT} (h : headT cols ps p = false) : nodeT cols ps p = false := by rw [nodeT_eq, h]; rfl
theorem nodeT_ok {cols ps : List Int} {p : PT} (h : headT cols ps p = true) : nodeT cols ps p = nodeL cols ps p.args := by rw [nodeT_eq, h]; rfl
/-- A tree within the limits. -/
def small (p : PT) : Prop := ∃ d n, 0 ≤ n ∧ (meaT p d n).2 = true
theorem meaL_small : ∀ (l : List PT) (d n : Int), 0 ≤ n → n ≤ 24 → (meaL l d n).2 = true → (l.length : Int) + n ≤ 24 ∧ ∀ a ∈ l, small a
  | [], d, n, hn, h24, h => by
    rw [meaL] at h
    exact ⟨by simp; omega, fun a ha => by cases ha⟩
  | p :: r, d, n, hn, h24, h => by
    rw [meaL] at h
    cases hp : (meaT p d n).2 with
    | false => rw [hp] at h; cases h
    | true =>
      rw [hp] at h
      have h1 := meaT_le p d n hp
      have h2 := meaL_small r d (meaT p d n).1 (by omega) h1.2 h
      refine ⟨by rw [List.length_cons]; omega, fun a ha => ?_⟩
      rcases List.mem_cons.1 ha with rfl | ha
      · exact ⟨d, n, hn, hp⟩
      · exact h2.2 a ha
theorem small_args {p : PT} (h : small p) : p.args.length ≤ 24 ∧ ∀ a ∈ p.args, small a := by
  obtain ⟨d, n, hn, h⟩ := h
  rw [meaT_eq] at h
  split at h
  · cases h
  · rename_i hc
    have := meaL_small p.args (d + 1) (n + 1) (by omega) (by omega) h
    exact ⟨by omega, this.2⟩
theorem callee83 : callee Try.prog 83 := callee_of Try.func83 rfl rfl
def noA (cols ps : List Int) (p : PT) (i : Nat) : AS := AS.of 103 0 2 [(1, .one (slC intC 8 cols)), (2, .one (slC intC 8 ps)), (3, .one (.ptr 0 0)), (91, .one (slC PT.cells 136 p.args)), (92, .one (.int .i64 p.args.length)), (93, .one (.int .i64 (i : Nat)))] [(0, ⟨85, 0, 0, ptA p (slC PT.cells 136 p.args)⟩)]
theorem node_spec (cols ps : List Int) : ∀ (D : Nat) (p : PT), p.h ≤ D → small p →
    PSpec Try.prog 83 [.agg (ptA p (slC PT.cells 136 p.args)), .one (slC intC 8 cols), .one (slC intC 8 ps)] (fun r => r = .one (.bool (nodeT cols ps p)))
  | 0, p, h, _ => by
    cases p
    rw [PT.h] at h
    omega
  | D + 1, p, h, hs => by
    obtain ⟨hlen, hsm⟩ := small_args hs
    refine pspec_x env9_ok mixed08 Try.func83 rfl 103 rfl _ rfl rfl ?_
    refine wm ?_
    repeat' (first | (refine callX_le (kindOf_spec cols ps p.l) callee97 rfl rfl (.cons (AV.Le.refl _) (.cons (AV.Le.refl _) (.cons (AV.Le.refl _) .nil))) (by rfl) ?_; rintro x hx rfl; refine wm ?_) | (refine callX_le (kindOf_spec cols ps p.r) callee97 rfl rfl (.cons (AV.Le.refl _) (.cons (AV.Le.refl _) (.cons (AV.Le.refl _) .nil))) (by rfl) ?_; rintro x hx rfl; refine wm ?_) | (refine i64 ?_; refine wm ?_) | (refine exI_as _ rfl ?_; refine wm ?_) | (refine forkB_dec (fun _ => ?_) (fun _ => ?_) <;> refine wm ?_) | (refine forkB_intro (fun _ => ?_) (fun _ => ?_) <;> refine wm ?_))
    all_goals first
      | (refine retX_val rfl ?_; (conv => whnf); refine resF (nodeT_bad ?_); clear hs hsm; first | (simp_all [headT, plainT, eqO]; done) | (simp_all [headT, plainT, eqO]; omega) | (simp_all [headT, plainT, eqO]; intro hh; simp_all; done))
      | have e : nodeT cols ps p = nodeL cols ps p.args := nodeT_ok (by clear hs hsm h; first | (simp_all [headT, plainT, eqO]; done) | (simp_all [headT, plainT, eqO]; omega))
    all_goals
      refine loopX_of env9_ok mixed08 (σ := Nat) (noA cols ps p) (fun i => i ≤ p.args.length ∧ nodeT cols ps p = nodeL cols ps (p.args.drop i)) (fun i => p.args.length - i) 0 (fun _ => rfl) tid ⟨Nat.zero_le _, e⟩ ?_
      clear e
      rintro i ⟨hi, e⟩
      have hi : i ≤ p.args.length := hi
      have e : nodeT cols ps p = nodeL cols ps (p.args.drop i) := e
      refine wn ?_
      refine forkB_dec (fun hj => ?_) (fun hj => ?_)
      · have hi2 : i < p.args.length := by have hj : (i : Int) < p.args.length := hj; omega
        rw [List.drop_eq_getElem_cons hi2, nodeL] at e
        have hha := PT.h_arg (p := p) (List.getElem_mem hi2)
        have hsa := hsm _ (List.getElem_mem hi2)
        obtain ⟨a, ha⟩ : ∃ a, p.args[i] = a := ⟨_, rfl⟩
        rw [ha] at e hha hsa
        refine wn ?_
        refine rq ?_
        refine forceL_as a.cells ((flat_get (f := PT.cells) PT.cells_len p.args i hi2).trans (by rw [ha])) ?_
        rw [PT.cells_eq]
        refine wn ?_
        refine cle (node_spec cols ps D a (by omega) hsa) callee83 ?_
        rintro x hx rfl
        cases hb : nodeT cols ps a
        · rw [hb, Bool.false_and] at e
          refine wn ?_
          refine retX_val rfl ?_
          (conv => whnf)
          exact resF e
        · rw [hb, Bool.true_and] at e
          refine wn ?_
          refine exI_i64 (by show -9223372036854775808 ≤ (i : Int) + 1; omega) (by show (i : Int) + 1 ≤ 9223372036854775807; omega) ?_
          refine wn ?_
          exact ⟨i + 1, ⟨hi2, e⟩, by show p.args.length - (i + 1) < p.args.length - i; omega, tid⟩
      · rw [List.drop_eq_nil_of_le (by have hj : ¬ (i : Int) < p.args.length := hj; omega), nodeL] at e
        refine wn ?_
        refine retX_val rfl ?_
        (conv => whnf)
        exact resT e

/-- The error of a predicate over columns of these kinds. -/
def predE (cols : List Int) (p : PT) : Int := bif !cols.all ckB then 1 else bif !(meaT p 1 0).2 then 2 else bif !nodeT cols [] p then 50 else 0
theorem callee70 : callee Try.prog 70 := callee_of Try.func70 rfl rfl
theorem all_step' (f : Int → Bool) (l : List Int) (i : Nat) (h : i < l.length) : (l.drop i).all f = (f l[i] && (l.drop (i + 1)).all f) := by
  rw [List.drop_eq_getElem_cons h, List.all_cons]
def pcA (cols : List Int) (p : PT) (k i : Nat) : AS := AS.of 39 0 2 [(0, .one (slC intC 8 cols)), (1, .one (.sl true 0 0 [])), (5, .one (.ptr 0 0)), (6, .one (.int .i64 0)), (14, .one (.gref 1)), (15, .one (.int .i64 2)), (16, .one (.int .i64 (k : Nat))), (20, .one (slC intC 8 cols)), (21, .one (.int .i64 cols.length)), (22, .one (.int .i64 (i : Nat)))] [(0, ⟨85, 0, 0, ptA p (slC PT.cells 136 p.args)⟩), (1, ⟨39, 1, 24, [slC intC 8 cols, .sl true 0 0 []]⟩)]
theorem predicateCheck_spec (cols : List Int) (hc : cols.length ≤ 1099511627776) (p : PT) : PSpec Try.prog 70 [.one (slC intC 8 cols), .one (.sl true 0 0 []), .agg (ptA p (slC PT.cells 136 p.args))] (fun r => r = .one (.int .i64 (predE cols p))) := by
  refine pspec_x env9_ok mixed08 Try.func70 rfl 39 rfl _ rfl rfl ?_
  refine wn ?_
  refine ⟨2, rfl, ?_⟩
  refine wn ?_
  refine loopX_n env9_ok mixed08 3 ?_
  refine wn ?_
  refine exI_as _ rfl ?_
  refine wn ?_
  refine loopX_of env9_ok mixed08 (σ := Nat) (pcA cols p 0) (fun i => i ≤ cols.length ∧ cols.all ckB = (cols.drop i).all ckB) (fun i => cols.length - i) 0 (fun _ => rfl) tid ⟨Nat.zero_le _, rfl⟩ ?_
  rintro i ⟨hi, e⟩
  have hi : i ≤ cols.length := hi
  have e : cols.all ckB = (cols.drop i).all ckB := e
  refine wn ?_
  refine forkB_dec (fun h1 => ?_) (fun h1 => ?_)
  · have hi2 : i < cols.length := by have h1 : (i : Int) < cols.length := h1; omega
    rw [all_step' ckB cols i hi2] at e
    refine wn ?_
    refine rq ?_
    refine forceL_as (intC cols[i]) (flat_get (f := intC) intC_len cols i hi2) ?_
    refine wn ?_
    refine cle (colKindP_spec cols[i]) callee81 ?_
    rintro x hx rfl
    cases hb : ckB cols[i]
    · rw [hb, Bool.false_and] at e
      refine wn ?_
      refine retX_val rfl ?_
      conv => whnf
      rw [predE, e]
      rfl
    · rw [hb, Bool.true_and] at e
      refine wn ?_
      refine exI_i64 (by show -9223372036854775808 ≤ (i : Int) + 1; omega) (by show (i : Int) + 1 ≤ 9223372036854775807; omega) ?_
      refine wn ?_
      exact ⟨i + 1, ⟨hi2, e⟩, by show cols.length - (i + 1) < cols.length - i; omega, tid⟩
  · rw [List.drop_eq_nil_of_le (by have h1 : ¬ (i : Int) < cols.length := h1; omega)] at e
    have e : cols.all ckB = true := e
    refine wn ?_
    refine exI_as 1 (by decide) ?_
    refine wn ?_
    refine exI_as 0 rfl ?_
    refine wn ?_
    refine loopX_n env9_ok mixed08 1 ?_
    refine wn ?_
    refine exI_as 2 (by decide) ?_
    refine wn ?_
    refine callX_mut 2 (measure_spec p.h p (Nat.le_refl _) 1 0 (by omega) (by omega)) callee82 rfl rfl rfl (.cons (AV.Le.refl _) (.cons (AV.Le.refl _) (.cons (AV.Le.refl _) .nil))) rfl (by exact Nat.le_of_ble_eq_true rfl) rfl rfl (fun _ => rfl) rfl ?_
    cases hm : (meaT p 1 0).2
    · refine wn ?_
      refine retX_val rfl ?_
      conv => whnf
      rw [predE, e, hm]
      rfl
    · refine wn ?_
      refine callX_le (node_spec cols [] p.h p (Nat.le_refl _) ⟨1, 0, by omega, hm⟩) callee83 rfl rfl (.cons (AV.Le.refl _) (.cons (AV.Le.refl _) (.cons (AV.Le.nilOf rfl) .nil))) (by rfl) ?_
      rintro x hx rfl
      cases hn : nodeT cols [] p
      · refine wn ?_
        refine retX_val rfl ?_
        conv => whnf
        rw [predE, e, hm, hn]
        rfl
      · refine wn ?_
        refine retX_val rfl ?_
        conv => whnf
        rw [predE, e, hm, hn]
        rfl
end Go.Proofs.Ve


/-
  VeJ2: the kinds of a table's columns; the check of schemas, in general.
-/
set_option linter.unusedVariables false
set_option linter.unusedSimpArgs false
set_option pp.maxSteps 2000
set_option maxHeartbeats 4000000
namespace Go.Proofs.Ve
open Go

def kjA (T : Tbl) (i : Nat) : AS := AS.of 30 0 1 [(5, .one (.gref 0)), (17, .one (slC colC 24 T.cols)), (18, .one (.int .i64 T.cols.length)), (19, .one (.int .i64 (i : Nat)))] [(0, ⟨3, 1, 8, (kindsOf (T.cols.take i)).flatMap intC⟩)]
theorem kindsP_spec (s : Sch) (t : Int) (hs : ∀ T ∈ s.tables, T.cols.length ≤ 4398046511104) : PSpec Try.prog 71 [.agg (schC s), .one (.int .i64 t)] (fun x => x = .one (slC intC 8 (kindsR s t))) := by
  refine pspec_x env08_ok mixed08 Try.func71 rfl 30 rfl _ rfl rfl ?_
  refine wn ?_
  refine cle (has_spec s.ver t false 96 s.tables.length (s.tables.flatMap tblC)) callee63 ?_
  rintro x hx rfl
  by_cases ht : 0 ≤ t ∧ t < s.tables.length
  · rw [decide_eq_true ht]
    have htn : t.toNat < s.tables.length := by omega
    have hT := hs _ (List.getElem_mem htn)
    have e : kindsR s t = tblKinds s.tables[t.toNat] := dif_pos ht
    obtain ⟨T, hTe⟩ : ∃ T, s.tables[t.toNat] = T := ⟨_, rfl⟩
    rw [hTe] at hT e
    refine wn ?_
    refine reqD_dec (by omega) ?_
    refine forceL_as (tblC T) ((flat_get (f := tblC) tblC_len s.tables t.toNat htn).trans (by rw [hTe])) ?_
    refine wn ?_
    refine exI_as _ rfl ?_
    refine wn ?_
    refine loopX_of env08_ok mixed08 (σ := Nat) (kjA T) (fun i => i ≤ T.cols.length) (fun i => T.cols.length - i) 0 (fun _ => rfl)
      (Tr.trans (Tr.nilSlot 5 3 1 8 (by decide) rfl) (tmv 0 1)) (Nat.zero_le _) ?_
    intro i hi
    refine wn ?_
    refine forkB_dec (fun h3 => ?_) (fun h3 => ?_)
    · have hi2 : i < T.cols.length := by omega
      have hX : ((kindsOf (T.cols.take (i + 1))).flatMap intC) = (kindsOf (T.cols.take i)).flatMap intC ++ intC T.cols[i].kind := by
        rw [List.take_add_one, List.getElem?_eq_getElem hi2, kindsOf, List.map_append, List.flatMap_append]
        rfl
      refine wn ?_
      try (refine rq ?_)
      refine wn ?_
      refine forceL_as (colC T.cols[i]) (flat_get (f := colC) colC_len T.cols i hi2) ?_
      refine wn ?_
      try (refine rq ?_)
      refine wn ?_
      try (refine reqD_dec (flat_div intC_len (by decide) _) ?_)
      refine reqD_dec (by simp only [flat_len intC_len, kindsOf_len]; simp [ty3]; omega) ?_
      refine forceL_as ((kindsOf (T.cols.take i)).flatMap intC ++ intC T.cols[i].kind) rfl ?_
      refine wn ?_
      refine i64 ?_
      refine wn ?_
      exact ⟨i + 1, by omega, by omega, (tmv 0 3 ⟨⟨(congrArg some ((ob_ren_deep (mv 0 3) (all_flat intC_deep (kindsOf (T.cols.take (i + 1))))).trans (congrArg (Ob.mk 3 1 8) hX))).symm, ob_lt_deep _ (all_flat intC_deep _), by decide⟩, trivial⟩)⟩
    · have hi2 : i = T.cols.length := by omega
      refine wn ?_
      refine retX_tr (Tr.frz' (T := 3) (s := 1) (B := 8) (cells := ((kindsOf (T.cols.take i)).flatMap intC)) 0 i (by rfl) (by decide) (by rw [flat_len intC_len, kindsOf_len]; simp; omega) (all_flat intC_deep _)) ?_
      refine retX_val rfl ?_
      conv => whnf
      rw [e]
      refine Eq.trans (b := .one (.sl false 8 i ((kindsOf (T.cols.take i)).flatMap intC))) rfl ?_
      rw [hi2, List.take_length, tblKinds]
      unfold slC
      rw [kindsOf_len]
  · have e : kindsR s t = [] := dif_neg ht
    rw [decide_eq_false ht, e]
    refine wn ?_
    refine retX_tr (Tr.slot 4 (AV.Le.nilOf (f := intC) (B := 8) (l := []) rfl)) ?_
    refine retX_val rfl ?_
    conv => whnf
    rfl
theorem callee71 : callee Try.prog 71 := callee_of Try.func71 rfl rfl

theorem flat_getm {α β : Type} {f : α → List β} {s : Nat} : ∀ (l : List α), (∀ a ∈ l, (f a).length = s) → ∀ (i : Nat) (h : i < l.length), ((l.flatMap f).drop (i * s)).take s = f l[i]
  | a :: l, hl, 0, h => by
    have := hl a (List.mem_cons_self ..)
    simp [this]
  | a :: l, hl, i + 1, h => by
    have h1 := hl a (List.mem_cons_self ..)
    have e : (i + 1) * s = (f a).length + i * s := by rw [h1, Nat.succ_mul, Nat.add_comm]
    rw [List.flatMap_cons, e, List.drop_length_add_append]
    exact flat_getm l (fun x hx => hl x (List.mem_cons_of_mem _ hx)) i (by simpa using h)
def firstE : List Int → Int
  | [] => 0
  | e :: r => if e = 0 then firstE r else e
def chkT (ce : List Int → Pred → Int) (T : Tbl) : Int := firstE (T.checks.map (ce (tblKinds T)))
def chkE (ce : List Int → Pred → Int) (s : Sch) : Int := firstE (s.tables.map (chkT ce))
/-- The error of a schema. -/
def schEg (ce : List Int → Pred → Int) (s : Sch) : Int := if limS s then (if soundS s then chkE ce s else 70) else 2
def okP (ce : List Int → Pred → Int) (T : Tbl) (q : Pred) : Prop := q.length = 13 ∧ AC.ltL 0 q = true ∧ PSpec Try.prog 70 [.one (slC intC 8 (tblKinds T)), .one (.sl true 0 0 []), .agg q] (fun x => x = .one (.int .i64 (ce (tblKinds T) q)))
theorem schemaG_spec (ce : List Int → Pred → Int) (s : Sch) (hs : okS s) (hp : ∀ T ∈ s.tables, ∀ q ∈ T.checks, okP ce T q) : PSpec Try.prog 53 [.agg (schC s)] (fun r => r = .one (.int .i64 (schEg ce s))) := by
  refine pspec_x env08_ok mixed08 Try.func53 rfl 39 rfl _ rfl rfl ?_
  have hlen := hs.len
  refine wn ?_
  refine cle (limits_spec s) (callee_of Try.func68 rfl rfl) ?_
  rintro x hx rfl
  cases h1 : limS s with
  | false =>
    refine wm ?_
    repeat' (first | (refine i64 ?_; refine wm ?_) | (refine exI_as _ rfl ?_; refine wm ?_) | (refine forkB_dec (fun _ => ?_) (fun _ => ?_) <;> refine wm ?_) | (refine forkB_intro (fun _ => ?_) (fun _ => ?_) <;> refine wm ?_))
    refine retX_val rfl ?_
    conv => whnf
    rw [schEg, h1]
    rfl
  | true =>
    refine wm ?_
    repeat' (first | (refine i64 ?_; refine wm ?_) | (refine exI_as _ rfl ?_; refine wm ?_) | (refine forkB_dec (fun _ => ?_) (fun _ => ?_) <;> refine wm ?_) | (refine forkB_intro (fun _ => ?_) (fun _ => ?_) <;> refine wm ?_))
    refine cle (sound_spec s hs) (callee_of Try.func69 rfl rfl) ?_
    rintro x hx rfl
    cases h2 : soundS s with
    | false =>
      refine wm ?_
      repeat' (first | (refine i64 ?_; refine wm ?_) | (refine exI_as _ rfl ?_; refine wm ?_) | (refine forkB_dec (fun _ => ?_) (fun _ => ?_) <;> refine wm ?_) | (refine forkB_intro (fun _ => ?_) (fun _ => ?_) <;> refine wm ?_))
      refine retX_val rfl ?_
      conv => whnf
      rw [schEg, h1, h2]
      rfl
    | true =>
      have e : schEg ce s = firstE (s.tables.map (chkT ce)) := by rw [schEg, h1, h2]; rfl
      refine wm ?_
      repeat' (first | (refine i64 ?_; refine wm ?_) | (refine exI_as _ rfl ?_; refine wm ?_) | (refine forkB_dec (fun _ => ?_) (fun _ => ?_) <;> refine wm ?_) | (refine forkB_intro (fun _ => ?_) (fun _ => ?_) <;> refine wm ?_))
      refine loopX_of env08_ok mixed08 (σ := Nat) (fun q => AS.of 39 0 1 [(1, .one (.ptr 0 0)), (15, .one (slC tblC 96 s.tables)), (16, .one (.int .i64 s.tables.length)), (17, .one (.int .i64 (q : Nat)))] [(0, ⟨32, 0, 0, schC s⟩)])
        (fun q => q ≤ s.tables.length ∧ schEg ce s = firstE ((s.tables.drop q).map (chkT ce))) (fun q => s.tables.length - q) 0 (fun _ => rfl) tid ⟨Nat.zero_le _, e⟩ ?_
      clear e
      rintro j ⟨hj, e⟩
      have hj : j ≤ s.tables.length := hj
      have e : schEg ce s = firstE ((s.tables.drop j).map (chkT ce)) := e
      refine wn ?_
      refine forkB_dec (fun h4 => ?_) (fun h4 => ?_)
      · have hj2 : j < s.tables.length := by omega
        have hmem := hs.tbl _ (List.getElem_mem hj2)
        have hpm := hp _ (List.getElem_mem hj2)
        have ek : kindsR s (j : Nat) = tblKinds s.tables[j] := dif_pos (by omega)
        rw [List.drop_eq_getElem_cons hj2, List.map_cons, firstE] at e
        obtain ⟨T, hT⟩ : ∃ T, s.tables[j] = T := ⟨_, rfl⟩
        rw [hT] at hmem hpm ek e
        obtain ⟨hn, hcl, hcn, ⟨hrl, hrc⟩, hnc⟩ := hmem
        refine wn ?_
        refine rq ?_
        refine forceL_as (tblC T) ((flat_get (f := tblC) tblC_len s.tables j hj2).trans (by rw [hT])) ?_
        refine wn ?_
        refine exI_as _ rfl ?_
        refine wn ?_
        refine loopX_of env08_ok mixed08 (σ := Nat) (fun k => AS.of 39 0 2 [(1, .one (.ptr 0 0)), (3, .one (.int .i64 (j : Nat))), (15, .one (slC tblC 96 s.tables)), (16, .one (.int .i64 s.tables.length)), (17, .one (.int .i64 (j : Nat))), (23, .one (slC predC 136 T.checks)), (24, .one (.int .i64 T.checks.length)), (25, .one (.int .i64 (k : Nat)))] [(0, ⟨32, 0, 0, schC s⟩)])
          (fun k => k ≤ T.checks.length ∧ chkT ce T = firstE ((T.checks.drop k).map (ce (tblKinds T)))) (fun k => T.checks.length - k) 0 (fun _ => rfl) tid ⟨Nat.zero_le _, rfl⟩ ?_
        rintro k ⟨hk, ec⟩
        have hk : k ≤ T.checks.length := hk
        have ec : chkT ce T = firstE ((T.checks.drop k).map (ce (tblKinds T))) := ec
        refine wn ?_
        refine forkB_dec (fun h5 => ?_) (fun h5 => ?_)
        · have hk2 : k < T.checks.length := by have h5 : (k : Int) < T.checks.length := h5; omega
          rw [List.drop_eq_getElem_cons hk2, List.map_cons, firstE] at ec
          have hq := hpm _ (List.getElem_mem hk2)
          obtain ⟨q, hqe⟩ : ∃ q, T.checks[k] = q := ⟨_, rfl⟩
          rw [hqe] at hq ec
          refine wn ?_
          refine rq ?_
          obtain ⟨hq13, hqlt, hq70⟩ := hq
          match q, hq13 with
          | [a0, a1, a2, a3, a4, a5, a6, a7, a8, a9, a10, a11, a12], _ =>
            refine forceL_as [a0, a1, a2, a3, a4, a5, a6, a7, a8, a9, a10, a11, a12] ((flat_getm (f := predC) T.checks (fun q hq => (hpm q hq).1) k hk2).trans (by rw [hqe]; rfl)) ?_
            refine wn ?_
            refine drawnX_phase env08_ok (fun _ => true) (List.range 6) (tks 0 2 (tks 3 1 (.one 2 (.one 4 (tks 5 1 (.stop)))))) 0 (lst 6 []) (by kernel_rfl) ?_
            refine wn ?_
            refine cle (kindsP_spec s (j : Nat) (fun T hT => (hs.tbl T hT).2.1)) callee71 ?_
            rintro x hx rfl
            rw [ek]
            refine wn ?_
            refine callX_le hq70 callee70 rfl rfl (.cons (AV.Le.refl _) (.cons (AV.Le.refl _) (.cons (AV.Le.refl _) .nil))) ?_ ?_
            · show (AV.lt 0 _ && (AV.lt 0 _ && (AC.ltL 0 _ && true))) = true
              rw [hqlt]
              rfl
            rintro x hx rfl
            refine wn ?_
            refine drawnX_done (by kernel_rfl) ?_
            refine wn ?_
            obtain ⟨E, hE⟩ : ∃ E, ce (tblKinds T) [a0, a1, a2, a3, a4, a5, a6, a7, a8, a9, a10, a11, a12] = E := ⟨_, rfl⟩
            rw [hE] at ec ⊢
            refine forkB_intro (fun h6 => ?_) (fun h6 => ?_)
            · have h6 : E ≠ 0 := by simpa using h6
              rw [if_neg h6] at ec
              rw [ec, if_neg h6] at e
              refine wn ?_
              refine retX_val rfl ?_
              conv => whnf
              exact resI e
            · have h6 : E = 0 := by simpa using h6
              rw [if_pos h6] at ec
              refine wn ?_
              refine exI_i64 (by show -9223372036854775808 ≤ (k : Int) + 1; omega) (by show (k : Int) + 1 ≤ 9223372036854775807; omega) ?_
              refine wn ?_
              exact ⟨k + 1, ⟨hk2, ec⟩, by show T.checks.length - (k + 1) < T.checks.length - k; omega, tid⟩
        · rw [List.drop_eq_nil_of_le (by have h5 : ¬ (k : Int) < T.checks.length := h5; omega)] at ec
          have ec : chkT ce T = 0 := ec
          rw [if_pos ec] at e
          refine wn ?_
          refine exI_i64 (by show -9223372036854775808 ≤ (j : Int) + 1; omega) (by show (j : Int) + 1 ≤ 9223372036854775807; omega) ?_
          refine wn ?_
          exact ⟨j + 1, ⟨hj2, e⟩, by show s.tables.length - (j + 1) < s.tables.length - j; omega, tid⟩
      · rw [List.drop_eq_nil_of_le (by omega)] at e
        refine wn ?_
        refine retX_val rfl ?_
        conv => whnf
        exact resI e
end Go.Proofs.Ve


/-
  VeJ4: sorted tables, steps from state to state, and that Apply carries them out.
-/
set_option linter.unusedVariables false
set_option linter.unusedSimpArgs false
namespace Go.Proofs.Ve
open Go

def srt (s : Sch) (t : Int) (l : Tab) : Prop := l.Pairwise (fun a b => ltR (keyR s t a) (keyR s t b))
def ones (r : Row) : Tab := if r.length > 0 then [r] else []
theorem ones_nil : ones [] = [] := rfl
theorem ones_pos {r : Row} (h : r.length > 0) : ones r = [r] := if_pos h
theorem ones_neg {r : Row} (h : ¬ r.length > 0) : ones r = [] := if_neg h
theorem mem_ones {r x : Row} (h : x ∈ ones r) : x = r ∧ r.length > 0 := by
  unfold ones at h
  split at h
  · exact ⟨List.mem_singleton.1 h, by assumption⟩
  · cases h
/-- A table, cut at a key. -/
structure Spl (s : Sch) (t : Int) (l : Tab) (key : Row) (A M B : Tab) : Prop where
  eq : l = A ++ (M ++ B)
  lo : ∀ a ∈ A, ltR (keyR s t a) key
  hi : ∀ b ∈ B, ltR key (keyR s t b)
  mid : M = [] ∨ ∃ r, M = [r] ∧ keyR s t r = key
theorem spl_of {s : Sch} {t : Int} (key : Row) : ∀ {l : Tab}, srt s t l → ∃ A M B, Spl s t l key A M B
  | [], _ => ⟨[], [], [], rfl, (fun a h => by cases h), (fun a h => by cases h), .inl rfl⟩
  | r :: l, h => by
    unfold srt at h
    rw [List.pairwise_cons] at h
    rcases ltR_tri (keyR s t r) key with k | k | k
    · obtain ⟨A, M, B, h1⟩ := spl_of key (l := l) h.2
      refine ⟨r :: A, M, B, by rw [h1.eq]; rfl, fun a ha => ?_, h1.hi, h1.mid⟩
      rcases List.mem_cons.1 ha with rfl | ha
      · exact k
      · exact h1.lo a ha
    · refine ⟨[], [r], l, rfl, (fun a h => by cases h), fun b hb => ?_, .inr ⟨r, rfl, k⟩⟩
      rw [← k]
      exact h.1 b hb
    · refine ⟨[], [], r :: l, rfl, (fun a h => by cases h), fun b hb => ?_, .inl rfl⟩
      rcases List.mem_cons.1 hb with rfl | hb
      · exact k
      · exact ltR_trans k (h.1 b hb)
section
variable {s : Sch} {t : Int} {l : Tab} {key : Row} {A M B : Tab} (h : Spl s t l key A M B)
include h
theorem Spl.notlow : ∀ x ∈ M ++ B, ¬ ltR (keyR s t x) key := fun x hx hl => by
  rcases List.mem_append.1 hx with hx | hx
  · rcases h.mid with e | ⟨r, e, k⟩
    · rw [e] at hx; cases hx
    · rw [e] at hx
      rw [List.mem_singleton.1 hx, k] at hl
      exact ltR_irr _ hl
  · exact ltR_irr _ (ltR_trans (h.hi x hx) hl)
theorem Spl.low : low s t l key = A.length := by
  unfold Ve.low
  rw [h.eq, List.takeWhile_append_of_pos (fun a ha => by simpa using cmpR_lt.2 (h.lo a ha))]
  have e : (M ++ B).takeWhile (fun r => decide (cmpR (keyR s t r) key < 0)) = [] := by
    cases e : M ++ B with
    | nil => rfl
    | cons x r =>
      rw [List.takeWhile_cons]
      have := h.notlow x (by rw [e]; exact List.mem_cons_self ..)
      rw [if_neg (by simpa using fun hh => this (cmpR_lt.1 hh))]
  rw [e, List.append_nil]
theorem Spl.mono : Mono s t l key := fun i hi => by
  rw [h.low, cmpR_ge]
  rcases Nat.lt_or_ge i A.length with k | k
  · have e : l[i] = A[i] := by simp only [h.eq]; rw [List.getElem_append_left k]
    rw [e]
    exact ⟨fun hh => absurd (h.lo _ (List.getElem_mem k)) hh, fun hh => by omega⟩
  · refine ⟨fun _ => k, fun _ => ?_⟩
    have hlt : i - A.length < (M ++ B).length := by
      have := hi
      rw [h.eq, List.length_append] at this
      omega
    have e : l[i] = (M ++ B)[i - A.length] := by simp only [h.eq]; rw [List.getElem_append_right k]
    rw [e]
    exact h.notlow _ (List.getElem_mem hlt)
theorem Spl.there : thereB s t l key A.length = !M.isEmpty := by
  unfold thereB
  rcases h.mid with e | ⟨r, e, k⟩
  · subst e
    split
    · rename_i hm
      have hB : 0 < B.length := by
        have := hm
        rw [h.eq] at this
        simpa using this
      have e : l[A.length] = B[0] := by simp only [h.eq]; rw [List.getElem_append_right (Nat.le_refl _)]; simp
      rw [e]
      refine decide_eq_false fun hh => ?_
      have h1 := h.hi _ (List.getElem_mem hB)
      rw [cmpR_eq.1 hh] at h1
      exact ltR_irr _ h1
    · rfl
  · subst e
    have hm : A.length < l.length := by rw [h.eq]; simp
    rw [dif_pos hm]
    have e : l[A.length] = r := by simp only [h.eq]; rw [List.getElem_append_right (Nat.le_refl _)]; simp
    rw [e, k, cmpR_self]
    rfl
theorem Spl.fb (new : Row) : front A.length l new ++ behind (!M.isEmpty) A.length l = A ++ (ones new ++ B) := by
  have e1 : l.take A.length = A := by rw [h.eq, List.take_left]
  have e2 : l.drop A.length = M ++ B := by rw [h.eq, List.drop_left]
  have e3 : behind (!M.isEmpty) A.length l = B := by
    unfold behind
    rcases h.mid with e | ⟨r, e, k⟩
    · subst e
      rw [List.isEmpty_nil, Bool.not_true, cond_false, e2]
      rfl
    · subst e
      show l.drop (A.length + 1) = B
      rw [← List.drop_drop, e2]
      rfl
  rw [e3]
  unfold front ones
  rw [e1]
  split <;> simp
theorem Spl.put (row : Row) : putL s t key row (row.length == 0) l = A ++ (ones row ++ B) := by
  have hB : ∀ (B : Tab) , (∀ b ∈ B, ltR key (keyR s t b)) → putL s t key row true B = B := by
    intro B
    induction B with
    | nil => intro _; rfl
    | cons b B ih =>
      intro hb
      have h1 := hb b (List.mem_cons_self ..)
      have h2 : cmpR (keyR s t b) key = 1 := cmpR_gt' h1
      rw [putL, h2]
      simp
      exact ih fun x hx => hb x (List.mem_cons_of_mem _ hx)
  have hB0 : ∀ (B : Tab) , (∀ b ∈ B, ltR key (keyR s t b)) → putL s t key row (row.length == 0) B = ones row ++ B := by
    intro B hb
    cases hz : (row.length == 0) with
    | true =>
      rw [hB B hb, ones_neg (by simp at hz; simp [hz])]
      rfl
    | false =>
      have hp : row.length > 0 := by
        rcases Nat.eq_zero_or_pos row.length with h0 | h0
        · rw [h0] at hz; cases hz
        · exact h0
      rw [ones_pos hp]
      cases B with
      | nil => rfl
      | cons b B =>
        have h2 : cmpR (keyR s t b) key = 1 := cmpR_gt' (hb b (List.mem_cons_self ..))
        rw [putL, h2]
        simp
        exact hB B fun x hx => hb x (List.mem_cons_of_mem _ hx)
  have hM : putL s t key row (row.length == 0) (M ++ B) = ones row ++ B := by
    rcases h.mid with e | ⟨r, e, k⟩
    · subst e
      exact hB0 B h.hi
    · subst e
      show putL s t key row (row.length == 0) (r :: B) = _
      rw [putL, k, cmpR_self]
      cases hz : (row.length == 0) with
      | true =>
        simp
        rw [hB B h.hi, ones_neg (by simp at hz; simp [hz])]
        rfl
      | false =>
        have hp : row.length > 0 := by
          rcases Nat.eq_zero_or_pos row.length with h0 | h0
          · rw [h0] at hz; cases hz
          · exact h0
        simp
        rw [hB B h.hi, ones_pos hp]
        rfl
  rw [h.eq]
  have hA : ∀ (A : Tab), (∀ a ∈ A, ltR (keyR s t a) key) → putL s t key row (row.length == 0) (A ++ (M ++ B)) = A ++ (ones row ++ B) := by
    intro A
    induction A with
    | nil => intro _; exact hM
    | cons a A ih =>
      intro ha
      have h2 : cmpR (keyR s t a) key = -1 := cmpR_lt' (ha a (List.mem_cons_self ..))
      rw [List.cons_append, putL, h2]
      simp
      exact ih fun x hx => ha x (List.mem_cons_of_mem _ hx)
  exact hA A h.lo
theorem Spl.find : l.find? (fun r => decide (cmpR (keyR s t r) key = 0)) = M.head? := by
  rw [h.eq, List.find?_append]
  have e1 : A.find? (fun r => decide (cmpR (keyR s t r) key = 0)) = none := List.find?_eq_none.2 fun a ha => by
    have := cmpR_lt' (h.lo a ha)
    rw [this]
    decide
  have e2 : B.find? (fun r => decide (cmpR (keyR s t r) key = 0)) = none := List.find?_eq_none.2 fun a ha => by
    have := cmpR_gt' (h.hi a ha)
    rw [this]
    decide
  rw [e1, List.find?_append, e2]
  rcases h.mid with e | ⟨r, e, k⟩
  · subst e; rfl
  · subst e
    rw [List.find?_cons, k, cmpR_self]
    rfl
end
end Go.Proofs.Ve


/-
  VeJ5: steps from state to state: forwards, backwards, and that Apply carries them out.
-/
set_option linter.unusedVariables false
set_option linter.unusedSimpArgs false
namespace Go.Proofs.Ve
open Go

theorem ones_empty (r : Row) : (!(ones r).isEmpty) = decide (r.length > 0) := by
  by_cases k : r.length > 0
  · rw [ones_pos k, decide_eq_true k]; rfl
  · rw [ones_neg k, decide_eq_false k]; rfl
structure rowK (s : Sch) (mode t : Int) (key r : Row) : Prop where
  fit : r.length > 0 → fitsS s t r mode = true
  key : r.length > 0 → keyR s t r = key
structure Step (s : Sch) (mode : Int) (cur : St) (c : Chg) (cur' : St) (A B : Tab) (key : Row) : Prop where
  tab : 0 ≤ c.table ∧ c.table < s.tables.length
  len : cur.length = s.tables.length
  was : tabAt cur c.table = A ++ (ones c.old ++ B)
  is : cur' = cur.set c.table.toNat (A ++ (ones c.new ++ B))
  lo : ∀ a ∈ A, ltR (keyR s c.table a) key
  hi : ∀ b ∈ B, ltR key (keyR s c.table b)
  old : rowK s mode c.table key c.old
  new : rowK s mode c.table key c.new
  some : c.old.length > 0 ∨ c.new.length > 0
  c1 : countS cur ≤ 512
  c2 : countS cur' ≤ 512
def Steps (s : Sch) (mode : Int) : St → List Chg → St → Prop
  | st, [], st' => st = st'
  | st, c :: l, st' => ∃ m A B key, Step s mode st c m A B key ∧ Steps s mode m l st'

section
variable {s : Sch} {mode : Int} {cur cur' : St} {c : Chg} {A B : Tab} {key : Row} (h : Step s mode cur c cur' A B key)
include h
theorem Step.lt : c.table.toNat < cur.length := by rw [h.len]; have := h.tab; omega
theorem Step.tabAt' : tabAt cur' c.table = A ++ (ones c.new ++ B) := by
  have hl : c.table.toNat < cur'.length := by rw [h.is, List.length_set]; exact h.lt
  rw [tabAt_get hl]
  simp only [h.is]
  rw [List.getElem_set_self]
theorem Step.inv : Step s mode cur' (invC c) cur A B key where
  tab := h.tab
  len := by rw [h.is, List.length_set]; exact h.len
  was := h.tabAt'
  is := by
    show cur = cur'.set c.table.toNat (A ++ (ones c.old ++ B))
    rw [h.is, List.set_set, ← h.was, tabAt_get h.lt, List.set_getElem_self]
  lo := h.lo
  hi := h.hi
  old := h.new
  new := h.old
  some := h.some.symm
  c1 := h.c2
  c2 := h.c1
theorem Step.keyC : keyC s c = key := by
  unfold Ve.keyC
  split
  · exact h.old.key (by assumption)
  · rcases h.some with k | k
    · contradiction
    · exact h.new.key k
theorem Step.spl : Spl s c.table (tabAt cur c.table) key A (ones c.old) B where
  eq := h.was
  lo := h.lo
  hi := h.hi
  mid := by
    by_cases k : c.old.length > 0
    · exact .inr ⟨c.old, ones_pos k, h.old.key k⟩
    · exact .inl (ones_neg k)
theorem Step.valid : validC s mode c = true := by
  unfold validC emp
  rw [decide_eq_true h.tab, Bool.true_and]
  have ho : (c.old.length == 0) = true ∨ fitsS s c.table c.old mode = true := by
    by_cases k : c.old.length > 0
    · exact .inr (h.old.fit k)
    · exact .inl (by simp; exact List.eq_nil_of_length_eq_zero (by omega))
  have hn : (c.new.length == 0) = true ∨ fitsS s c.table c.new mode = true := by
    by_cases k : c.new.length > 0
    · exact .inr (h.new.fit k)
    · exact .inl (by simp; exact List.eq_nil_of_length_eq_zero (by omega))
  have hk : (c.old.length == 0) = true ∨ (c.new.length == 0) = true ∨ (cmpR (keyR s c.table c.old) (keyR s c.table c.new) == 0) = true := by
    by_cases k : c.old.length > 0
    · by_cases k2 : c.new.length > 0
      · refine .inr (.inr ?_)
        rw [h.old.key k, h.new.key k2, cmpR_self]
        rfl
      · exact .inr (.inl (by simp; exact List.eq_nil_of_length_eq_zero (by omega)))
    · exact .inl (by simp; exact List.eq_nil_of_length_eq_zero (by omega))
  have hs : ¬ ((c.old.length == 0) = true ∧ (c.new.length == 0) = true) := by
    rintro ⟨k1, k2⟩
    have k1 := eq_of_beq k1
    have k2 := eq_of_beq k2
    have := h.some
    omega
  simp only [Bool.and_eq_true, Bool.or_eq_true, Bool.not_eq_true']
  refine ⟨?_, ho, hn, hk⟩
  cases e1 : (c.old.length == 0) <;> cases e2 : (c.new.length == 0) <;> simp_all
theorem Step.mono : Mono s c.table (tabAt cur c.table) (Ve.keyC s c) := by
  rw [h.keyC]
  exact h.spl.mono
theorem Step.stepC : stepC s mode cur (countS cur) c = (0, cur', (countS cur' : Int)) := by
  have hl := h.lt
  have hg := tabAt_get hl
  rw [stepC_ok h.valid rfl (m := A.length) (th := !(ones c.old).isEmpty) (by rw [h.keyC, h.spl.low]) (by rw [h.keyC, h.spl.there])]
  have hcnt : cnt (!(ones c.old).isEmpty) (countS cur) c.new = countS cur' := by
    have h1 := countS_set cur c.table.toNat (A ++ (ones c.new ++ B)) hl
    rw [← h.is, ← hg, h.was] at h1
    simp only [List.length_append] at h1
    have h2 := countS_get cur c.table.toNat hl
    rw [← hg, h.was] at h2
    simp only [List.length_append] at h2
    unfold cnt
    rw [ones_empty]
    by_cases k : c.old.length > 0
    · rw [decide_eq_true k, cond_true]
      rw [ones_pos k] at h1 h2
      by_cases k2 : c.new.length > 0
      · rw [if_pos k2]
        rw [ones_pos k2] at h1
        simp at h1 h2
        omega
      · rw [if_neg k2]
        rw [ones_neg k2] at h1
        simp at h1 h2
        omega
    · rw [decide_eq_false k, cond_false]
      rw [ones_neg k] at h1
      by_cases k2 : c.new.length > 0
      · rw [if_pos k2]
        rw [ones_pos k2] at h1
        simp at h1
        omega
      · rw [if_neg k2]
        rw [ones_neg k2] at h1
        simp at h1
        omega
  have hfb := h.spl.fb c.new
  unfold stepT
  rw [hcnt, hfb, ← h.is]
  have e1 : ((!(ones c.old).isEmpty) != decide (c.old.length > 0)) = false := by rw [ones_empty]; simp
  have e2 : ((!(ones c.old).isEmpty) && decide (cmpR ((tabAt cur c.table).getD A.length []) c.old ≠ 0)) = false := by
    by_cases k : c.old.length > 0
    · have e3 : (tabAt cur c.table).getD A.length [] = c.old := by
        rw [h.was, ones_pos k]
        simp
      rw [e3, cmpR_self]
      simp
    · rw [ones_neg k]
      rfl
  rw [e1, e2]
  have := h.c2
  rw [Bool.or_false, cond_false, if_neg (by omega)]
end
theorem Steps.apply {s : Sch} {mode : Int} : ∀ {l : List Chg} {st st' : St}, Steps s mode st l st' → applyL s mode l st (countS st) = (st', 0) ∧ monoL s mode l st (countS st)
  | [], st, st', h => by
    have h : st = st' := h
    subst h
    exact ⟨rfl, trivial⟩
  | c :: l, st, st', ⟨m, A, B, key, h, hr⟩ => by
    obtain ⟨h1, h2⟩ := Steps.apply hr
    have e := h.stepC
    refine ⟨?_, fun _ => h.mono, fun _ => ?_⟩
    · rw [applyL, e, if_neg (by simp)]
      exact h1
    · rw [e]
      exact h2
theorem Steps.snoc {s : Sch} {mode : Int} : ∀ {l : List Chg} {st m st' : St} {c : Chg} {A B : Tab} {key : Row}, Steps s mode st l m → Step s mode m c st' A B key → Steps s mode st (l ++ [c]) st'
  | [], st, m, st', c, A, B, key, h, k => by
    have h : st = m := h
    subst h
    exact ⟨st', A, B, key, k, rfl⟩
  | d :: l, st, m, st', c, A, B, key, ⟨m2, A2, B2, key2, h, hr⟩, k => ⟨m2, A2, B2, key2, h, Steps.snoc hr k⟩
theorem Steps.rev {s : Sch} {mode : Int} : ∀ {l : List Chg} {st st' : St}, Steps s mode st l st' → Steps s mode st' (l.reverse.map invC) st
  | [], st, st', h => by
    have h : st = st' := h
    exact h.symm
  | c :: l, st, st', ⟨m, A, B, key, h, hr⟩ => by
    rw [List.reverse_cons, List.map_append]
    exact Steps.snoc (Steps.rev hr) h.inv

/-- A state that is in order. -/
structure Good (s : Sch) (mode : Int) (st : St) : Prop where
  len : st.length = s.tables.length
  cnt : countS st ≤ 512
  srt : ∀ t : Nat, t < s.tables.length → srt s t (tabAt st t)
  fit : ∀ t : Nat, t < s.tables.length → ∀ r ∈ tabAt st t, fitsS s t r mode = true
theorem rows_good {s : Sch} {mode t : Int} {l : Tab} (hs : srt s t l) (hf : ∀ r ∈ l, fitsS s t r mode = true) : rowsFrom s mode t l 0 = true := by
  unfold rowsFrom
  rw [List.all_eq_true]
  intro j hj
  rw [List.mem_range'] at hj
  obtain ⟨i, hi, rfl⟩ := hj
  simp only [Nat.zero_add, Nat.one_mul, Nat.sub_zero] at hi ⊢
  unfold rowOk
  rw [List.getElem?_eq_getElem hi]
  simp only
  rw [hf _ (List.getElem_mem hi), Bool.true_and]
  cases i with
  | zero => rfl
  | succ i =>
    simp only
    have hi2 : i < l.length := by omega
    rw [List.getElem?_eq_getElem hi2]
    simp only
    exact decide_eq_true (cmpR_lt.2 (List.pairwise_iff_getElem.1 hs i (i + 1) hi2 hi (by omega)))
theorem tabs_good {s : Sch} {mode : Int} {st : St} (h : Good s mode st) : ∀ (k i : Nat), k + i = st.length → tabsFrom s mode i (st.drop i) = true
  | 0, i, hi => by
    rw [List.drop_eq_nil_of_le (by omega), tabsFrom]
  | k + 1, i, hi => by
    have hi2 : i < st.length := by omega
    have e : tabAt st (i : Nat) = st[i] := by rw [tabAt_get (by simpa using hi2)]; simp
    rw [tabs_step s mode st i hi2, tabs_good h k (i + 1) (by omega), Bool.and_true, ← e]
    exact rows_good (h.srt i (by rw [← h.len]; exact hi2)) (h.fit i (by rw [← h.len]; exact hi2))
theorem Good.check {s : Sch} {mode : Int} {st : St} (h : Good s mode st) (hm : 1 ≤ mode ∧ mode ≤ 3) : checkS s 0 mode st = 0 := by
  have h1 := h.cnt
  have h2 := tabs_good h st.length 0 (by omega)
  unfold checkS
  rw [if_neg (by omega), if_neg (by omega), if_neg (by omega), if_neg (by rw [h.len]; simp)]
  rw [List.drop_zero] at h2
  rw [h2]
  rfl
theorem Step.good {s : Sch} {mode : Int} {cur cur' : St} {c : Chg} {A B : Tab} {key : Row} (h : Step s mode cur c cur' A B key) (g : Good s mode cur) : Good s mode cur' := by
  have hlt := h.lt
  have ht := h.tab
  have hl : cur'.length = cur.length := by rw [h.is, List.length_set]
  have hother : ∀ t : Nat, t ≠ c.table.toNat → tabAt cur' t = tabAt cur t := fun t hne => by
    unfold tabAt
    rw [h.is, List.getD_eq_getElem?_getD, List.getD_eq_getElem?_getD, List.getElem?_set_ne (by simpa using fun e => hne e.symm)]
  have hthis : tabAt cur' c.table.toNat = A ++ (ones c.new ++ B) := by
    have e : ((c.table.toNat : Nat) : Int) = c.table := by omega
    rw [e]
    exact h.tabAt'
  have ec : ((c.table.toNat : Nat) : Int) = c.table := by omega
  refine ⟨by rw [hl]; exact g.len, h.c2, fun t htl => ?_, fun t htl r hr => ?_⟩
  · by_cases e : t = c.table.toNat
    · subst e
      have hs := g.srt _ htl
      rw [ec, h.was] at hs
      rw [hthis, ec]
      unfold Ve.srt at hs ⊢
      rw [List.pairwise_append, List.pairwise_append] at hs ⊢
      refine ⟨hs.1, ⟨?_, hs.2.1.2.1, fun a ha b hb => ?_⟩, fun a ha b hb => ?_⟩
      · unfold ones; split <;> simp
      · obtain ⟨rfl, hp⟩ := mem_ones ha
        rw [h.new.key hp]
        exact h.hi b hb
      · rcases List.mem_append.1 hb with hb | hb
        · obtain ⟨rfl, hp⟩ := mem_ones hb
          rw [h.new.key hp]
          exact h.lo a ha
        · exact hs.2.2 a ha b (List.mem_append_right _ hb)
    · rw [hother t e]
      exact g.srt t htl
  · by_cases e : t = c.table.toNat
    · subst e
      rw [hthis] at hr
      have hf := g.fit _ htl
      rw [ec, h.was] at hf
      rw [ec]
      rcases List.mem_append.1 hr with hr | hr
      · exact hf r (List.mem_append_left _ hr)
      · rcases List.mem_append.1 hr with hr | hr
        · obtain ⟨rfl, hp⟩ := mem_ones hr
          exact h.new.fit hp
        · exact hf r (List.mem_append_right _ (List.mem_append_right _ hr))
    · rw [hother t e] at hr
      exact g.fit t htl r hr
theorem Steps.good {s : Sch} {mode : Int} : ∀ {l : List Chg} {st st' : St}, Steps s mode st l st' → Good s mode st → Good s mode st'
  | [], st, st', h, g => by
    have h : st = st' := h
    subst h
    exact g
  | c :: l, st, st', ⟨m, A, B, key, h, hr⟩, g => Steps.good hr (h.good g)
/-- Apply carries steps out. -/
theorem Steps.applyS {s : Sch} {mode : Int} (hm : 1 ≤ mode ∧ mode ≤ 3) {l : List Chg} {st st' : St} (h : Steps s mode st l st') (g : Good s mode st) : applyS s 0 mode st l = (st', 0) := by
  unfold Ve.applyS
  rw [g.check hm, if_neg (by simp)]
  exact h.apply.1
end Go.Proofs.Ve


/-
  VeJ6: what is made is valid: values, rows, states.
-/
set_option linter.unusedVariables false
set_option linter.unusedSimpArgs false
namespace Go.Proofs.Ve
open Go

def kind3 (k : Int) : Prop := k = 3 ∨ k = 4 ∨ k = 5
theorem isEmp_nil : isEmp ⟨#[]⟩ = true := by kernel_rfl
theorem textG_size (cs : List Int) (p : Nat) : (textG cs p).size ≤ 64 := by
  unfold textG
  split
  · decide
  · split
    · decide
    · split
      · decide
      · split
        · decide
        · split
          · decide
          · split
            · rw [longB_size]; decide
            · rw [longB_size]; decide
theorem valueG_ok {cs : List Int} (h : ok8 cs) {k : Int} (hk : kind3 k) (p : Nat) : validV (valueG cs k p) = true ∧ (valueG cs k p).k = k := by
  unfold valueG
  rcases hk with rfl | rfl | rfl
  · have h0 := intG_lo cs h 2 p
    have h1 := intG_hi cs h 2 (by decide) p
    rw [if_pos rfl]
    refine ⟨?_, rfl⟩
    unfold validV
    rw [if_neg (by simp), if_pos rfl, isEmp_nil, Bool.and_true]
    simp
    omega
  · rw [if_neg (by decide), if_pos rfl]
    refine ⟨?_, rfl⟩
    unfold validV
    rw [if_neg (by simp), if_neg (by simp), if_pos rfl, isEmp_nil]
  · rw [if_neg (by decide), if_neg (by decide)]
    refine ⟨?_, rfl⟩
    have := textG_size cs p
    unfold validV
    rw [if_neg (by simp), if_neg (by simp), if_neg (by simp), if_pos rfl]
    simp
    omega
theorem hid_valid : validV hidV = true := by kernel_rfl
theorem miss_valid : validV missV = true := by kernel_rfl
theorem cellG_ok {cs : List Int} (h : ok8 cs) {mode : Int} (hm : 1 ≤ mode ∧ mode ≤ 3) {k key : Int} (hk : kind3 k) (i : Nat) (p : Nat) : cellOk mode k (decide ((i : Int) < key)) (cellG cs (decide ((i : Int) ≥ key)) mode k p).1 = true := by
  unfold cellG cellOk
  split
  · rename_i hc
    simp only [Bool.and_eq_true, decide_eq_true_eq] at hc
    rw [hid_valid, decide_eq_false (p := (i : Int) < key) (by omega), decide_eq_true (p := 2 ≤ mode) (by omega)]
    simp
  · split
    · rename_i hc
      simp only [Bool.and_eq_true, decide_eq_true_eq] at hc
      have hm3 : mode = 3 := hc.1.2
      rw [miss_valid, decide_eq_false (p := (i : Int) < key) (by omega), hm3]
      simp
    · have hv := fun q => valueG_ok h hk q
      rw [(hv _).1, (hv _).2]
      simp
theorem rowG_fit {cs : List Int} (h : ok8 cs) {mode : Int} (hm : 1 ≤ mode ∧ mode ≤ 3) (key : Int) : ∀ (cols : List Col) (_ : ∀ c ∈ cols, kind3 c.kind) (i p : Nat), fitL mode key i (rowG cs key mode i (kindsOf cols) p).1 cols = true
  | [], _, i, p => by rfl
  | c :: cols, hc, i, p => by
    show fitL mode key i (_ :: _) (c :: cols) = true
    rw [fitL, cellG_ok h hm (hc c (List.mem_cons_self ..)) i p, Bool.true_and]
    exact rowG_fit h hm key cols (fun x hx => hc x (List.mem_cons_of_mem _ hx)) (i + 1) _
structure okK (s : Sch) : Prop where
  cols : ∀ T ∈ s.tables, 1 ≤ T.cols.length
  kind : ∀ T ∈ s.tables, ∀ c ∈ T.cols, kind3 c.kind
theorem rowG_fits {cs : List Int} (h : ok8 cs) {mode : Int} (hm : 1 ≤ mode ∧ mode ≤ 3) {s : Sch} (hs : okK s) {t : Int} (ht : 0 ≤ t ∧ t < s.tables.length) (p : Nat) : fitsS s t (rowG cs (keyAt s t) mode 0 (kindsR s t) p).1 mode = true := by
  unfold fitsS
  rw [dif_pos ⟨hm, ht⟩]
  have e1 : kindsR s t = kindsOf (s.tables[t.toNat]'(by omega)).cols := dif_pos ht
  have e2 : keyAt s t = (s.tables[t.toNat]'(by omega)).key := dif_pos ht
  rw [e1, e2, rowG_len, kindsOf_len, decide_eq_true rfl, Bool.true_and]
  exact rowG_fit h hm _ _ (fun c hc => hs.kind _ (List.getElem_mem _) c hc) 0 p
theorem fits_pos {s : Sch} (hs : okK s) {t mode : Int} {r : Row} (h : fitsS s t r mode = true) : r.length > 0 := by
  unfold fitsS at h
  split at h
  · rename_i hc
    simp only [Bool.and_eq_true, decide_eq_true_eq] at h
    rw [h.1]
    exact hs.cols _ (List.getElem_mem _)
  · cases h
/-- Whatever row is put in, it is a step. -/
theorem step_of {s : Sch} {mode : Int} {st : St} (g : Good s mode st) (hs : okK s) {t : Int} (ht : 0 ≤ t ∧ t < s.tables.length) {key new : Row} (hn : rowK s mode t key new) (hc : countS st + 1 ≤ 512) (hsome : new.length > 0 ∨ (getR s st t key).isSome = true) :
    ∃ A B, Step s mode st ⟨t, (getR s st t key).getD [], new⟩ (putS s st t key new) A B key := by
  have et : ((t.toNat : Nat) : Int) = t := by omega
  have htl : t.toNat < s.tables.length := by omega
  have hlen := g.len
  have hsr := g.srt t.toNat htl
  have hfit := g.fit t.toNat htl
  rw [et] at hsr hfit
  obtain ⟨A, M, B, h⟩ := spl_of key hsr
  have htg := tabAt_get (cur := st) (t := t) (by omega)
  have hget : getR s st t key = M.head? := by
    unfold getR
    rw [dif_pos ⟨ht.1, ht.2, by omega⟩]
    have := h.find
    rw [htg] at this
    exact this
  have hM : M = ones ((getR s st t key).getD []) := by
    rw [hget]
    rcases h.mid with e | ⟨r, e, k⟩
    · rw [e]; rfl
    · rw [e]
      have : r ∈ tabAt st t := by rw [h.eq, e]; simp
      exact (ones_pos (fits_pos hs (hfit r this))).symm
  have hold : rowK s mode t key ((getR s st t key).getD []) := by
    rw [hget]
    rcases h.mid with e | ⟨r, e, k⟩
    · rw [e]
      exact ⟨fun k => absurd k (Nat.lt_irrefl _), fun k => absurd k (Nat.lt_irrefl _)⟩
    · rw [e]
      have : r ∈ tabAt st t := by rw [h.eq, e]; simp
      exact ⟨fun _ => hfit r this, fun _ => k⟩
  have hput : putS s st t key new = st.set t.toNat (A ++ (ones new ++ B)) := by
    unfold putS putT
    rw [h.put]
  have hlt : t.toNat < st.length := by omega
  refine ⟨A, B, ⟨ht, g.len, ?_, hput, h.lo, h.hi, hold, hn, ?_, g.cnt, ?_⟩⟩
  · rw [h.eq, hM]
  · rcases hsome with k | k
    · exact .inr k
    · rw [hget] at k ⊢
      rcases h.mid with e | ⟨r, e, _⟩
      · rw [e] at k; cases k
      · rw [e]
        have : r ∈ tabAt st t := by rw [h.eq, e]; simp
        exact .inl (fits_pos hs (hfit r this))
  · have h1 := countS_set st t.toNat (A ++ (ones new ++ B)) hlt
    rw [← htg, h.eq] at h1
    rw [hput]
    have h2 : (ones new).length ≤ 1 := by unfold ones; split <;> simp
    simp only [List.length_append] at h1
    omega
theorem put_count {s : Sch} {st : St} {t : Int} {key new : Row} : countS (putS s st t key new) ≤ countS st + 1 := by
  unfold putS
  rcases Nat.lt_or_ge t.toNat st.length with h | h
  · have h1 := countS_set st t.toNat (putT s st t key new) h
    have h2 := putL_len s t key new (tabAt st t) (new.length == 0)
    rw [tabAt_get h] at h2
    unfold putT at h1 ⊢
    rw [tabAt_get h] at h1 ⊢
    omega
  · rw [List.set_eq_of_length_le h]
    omega
theorem good_empty (s : Sch) (mode : Int) : Good s mode (List.replicate s.tables.length []) := by
  have e : ∀ t : Nat, tabAt (List.replicate s.tables.length []) t = [] := fun t => by
    unfold tabAt
    rw [List.getD_eq_getElem?_getD, List.getElem?_replicate]
    split <;> rfl
  refine ⟨List.length_replicate, ?_, fun t ht => by rw [e]; exact List.Pairwise.nil, fun t ht r hr => by rw [e] at hr; cases hr⟩
  unfold countS
  rw [List.map_replicate]
  simp
/-- A made state is in order. -/
theorem fillG_good {cs : List Int} (h : ok8 cs) {s : Sch} (hs : okK s) {mode : Int} (hm : 1 ≤ mode ∧ mode ≤ 3) {t : Int} (ht : 0 ≤ t ∧ t < s.tables.length) : ∀ (m : Nat) {st : St} {p : Nat}, Good s mode st → countS st + m ≤ 512 →
    Good s mode (fillG cs s mode t m st p).1 ∧ countS (fillG cs s mode t m st p).1 ≤ countS st + m
  | 0, st, p, g, hc => ⟨g, Nat.le_refl _⟩
  | m + 1, st, p, g, hc => by
    rw [fillG]
    have hf := rowG_fits h hm hs ht p
    have hpos := fits_pos hs hf
    obtain ⟨A, B, k⟩ := step_of (key := keyR s t (rowG cs (keyAt s t) mode 0 (kindsR s t) p).1) g hs ht ⟨fun _ => hf, fun _ => rfl⟩ (by omega) (.inl hpos)
    have hc2 := put_count (s := s) (st := st) (t := t) (key := keyR s t (rowG cs (keyAt s t) mode 0 (kindsR s t) p).1) (new := (rowG cs (keyAt s t) mode 0 (kindsR s t) p).1)
    have := fillG_good h hs hm ht m (p := (rowG cs (keyAt s t) mode 0 (kindsR s t) p).2) (k.good g) (by omega)
    exact ⟨this.1, by omega⟩
theorem tabsG_good {cs : List Int} (h : ok8 cs) {s : Sch} (hs : okK s) {mode : Int} (hm : 1 ≤ mode ∧ mode ≤ 3) : ∀ (k : Nat) {t : Nat} {st : St} {p : Nat}, t + k ≤ s.tables.length → Good s mode st → countS st + 4 * k ≤ 512 →
    Good s mode (tabsG cs s mode k t st p).1 ∧ countS (tabsG cs s mode k t st p).1 ≤ countS st + 4 * k
  | 0, t, st, p, _, g, _ => ⟨g, Nat.le_refl _⟩
  | k + 1, t, st, p, ht, g, hc => by
    rw [tabsG]
    have g0 := intG_lo cs h 5 p
    have g5 := intG_hi cs h 5 (by decide) p
    have h1 := fillG_good h hs hm (t := (t : Int)) ⟨by omega, by omega⟩ (intG cs 5 p).toNat (st := st) (p := intP cs 5 p) g (by omega)
    have h2 := tabsG_good h hs hm k (t := t + 1) (st := (fillG cs s mode t (intG cs 5 p).toNat st (intP cs 5 p)).1) (p := (fillG cs s mode t (intG cs 5 p).toNat st (intP cs 5 p)).2) (by omega) h1.1 (by omega)
    exact ⟨h2.1, by omega⟩
theorem stateG_good {cs : List Int} (h : ok8 cs) {s : Sch} (hs : okK s) (hn : s.tables.length ≤ 8) {mode : Int} (hm : 1 ≤ mode ∧ mode ≤ 3) (p : Nat) : Good s mode (stateG cs s mode p).1 ∧ countS (stateG cs s mode p).1 ≤ 4 * s.tables.length := by
  unfold stateG
  have e0 : countS (List.replicate s.tables.length ([] : Tab)) = 0 := by unfold countS; rw [List.map_replicate]; simp
  have := tabsG_good h hs hm s.tables.length (t := 0) (p := p) (by omega) (good_empty s mode) (by rw [e0]; omega)
  rw [e0] at this
  exact ⟨this.1, by omega⟩
end Go.Proofs.Ve


/-
  VeJ7: made predicates and made schemas are valid.
-/
set_option linter.unusedVariables false
set_option linter.unusedSimpArgs false
set_option maxHeartbeats 4000000
namespace Go.Proofs.Ve
open Go

def P0.pt (q : P0) : PT := .node q.op q.cmp q.l q.r []
def P1.pt (q : P1) : PT := .node q.op q.cmp q.l q.r (q.args.map P0.pt)
theorem zeroV_eq : eqV zeroV zeroV = true := by kernel_rfl
theorem zeroO_eq : eqO zeroO = true := by kernel_rfl
theorem colIx_mem (kind : Int) : ∀ (l : List Int) (i : Nat) (o : Opd), o ∈ colIx kind l i → o.kind = 1 ∧ o.v = zeroV ∧ ∃ j : Nat, o.index = (i : Int) + j ∧ l[j]? = some kind
  | [], i, o, h => by cases h
  | k :: r, i, o, h => by
    rw [colIx] at h
    split at h
    · rename_i hk
      rcases List.mem_cons.1 h with rfl | h
      · exact ⟨rfl, rfl, 0, by simp, by simp [hk]⟩
      · obtain ⟨h1, h2, j, h3, h4⟩ := colIx_mem kind r (i + 1) o h
        exact ⟨h1, h2, j + 1, by rw [h3]; omega, by simpa using h4⟩
    · obtain ⟨h1, h2, j, h3, h4⟩ := colIx_mem kind r (i + 1) o h
      exact ⟨h1, h2, j + 1, by rw [h3]; omega, by simpa using h4⟩
theorem kindT_val {cols ps : List Int} {v : V} (h : realV v = true) : kindT cols ps ⟨3, 0, v⟩ = v.k := by
  unfold kindT
  rw [if_neg (by simp), if_pos rfl, if_pos ⟨rfl, h⟩]
theorem real_valueG {cs : List Int} (h : ok8 cs) {k : Int} (hk : kind3 k) (p : Nat) : realV (valueG cs k p) = true ∧ (valueG cs k p).k = k := by
  obtain ⟨h1, h2⟩ := valueG_ok h hk p
  refine ⟨?_, h2⟩
  unfold realV
  rw [h1, h2]
  unfold kind3 at hk
  simp
  omega
theorem operandG_kind {cs : List Int} (h : ok8 cs) (cols ps : List Int) {k : Int} (hk : kind3 k) (p : Nat) : kindT cols ps (operandG cs cols k p) = k := by
  unfold operandG
  split
  · rename_i hi
    obtain ⟨h1, h2, j, h3, h4⟩ := colIx_mem k cols 0 _ (List.getElem_mem hi)
    have hj : j < cols.length := by
      rcases Nat.lt_or_ge j cols.length with hh | hh
      · exact hh
      · rw [List.getElem?_eq_none hh] at h4; cases h4
    unfold kindT
    rw [if_pos (.inl h1), h1, if_neg (by decide : ¬ (1 : Int) = 2), h2, h3, if_pos ⟨by omega, by omega, zeroV_eq⟩]
    have e : ((0 : Nat) + (j : Int)).toNat = j := by omega
    rw [List.getD_eq_getElem?_getD]
    simp [h4]
  · obtain ⟨h1, h2⟩ := real_valueG h hk (intP cs ((colIx k cols 0).length + 1) p)
    rw [kindT_val h1, h2]
theorem nodeT_leaf {cols ps : List Int} {q : P0} (h : headT cols ps q.pt = true) : nodeT cols ps q.pt = true := by
  rw [nodeT_ok h]
  show nodeL cols ps [] = true
  rw [nodeL]
theorem leafK_ok {cs : List Int} (h : ok8 cs) (cols ps : List Int) {k : Int} (hk : kind3 k) (p : Nat) : nodeT cols ps (leafK cs cols k p).1.pt = true := by
  have hl : kindT cols ps (lleft cs cols k p) = k := operandG_kind h cols ps hk _
  have hr : kindT cols ps (lright cs cols k p) = k := by
    unfold lright
    cases boolG cs 3 (lp4 cs cols k p) with
    | true => exact operandG_kind h cols ps hk _
    | false =>
      obtain ⟨h1, h2⟩ := real_valueG h hk (lp3 cs cols k p)
      exact (kindT_val h1).trans h2
  have g0 := intG_lo cs h 6 p
  have g1 := intG_hi cs h 6 (by decide) p
  have hk0 : k ≠ 0 := by unfold kind3 at hk; omega
  refine nodeT_leaf ?_
  unfold leafK
  unfold headT
  cases boolG cs 6 (lp6 cs cols k p) with
  | true =>
    simp only [cond_true]
    show (if (3 : Int) = 1 ∨ (3 : Int) = 2 then _ else if (3 : Int) = 3 then decide (([] : List PT).length = 0) && (decide (1 ≤ 1 + intG cs 6 p ∧ 1 + intG cs 6 p ≤ 6 ∧ kindT cols ps (lright cs cols k p) ≠ 0) && decide (kindT cols ps (lright cs cols k p) = kindT cols ps (lleft cs cols k p))) else _) = true
    rw [if_neg (by decide), if_pos rfl, hl, hr]
    simp [hk0]
    omega
  | false =>
    simp only [cond_false]
    show (if (3 : Int) = 1 ∨ (3 : Int) = 2 then _ else if (3 : Int) = 3 then decide (([] : List PT).length = 0) && (decide (1 ≤ 1 + intG cs 6 p ∧ 1 + intG cs 6 p ≤ 6 ∧ kindT cols ps (lleft cs cols k p) ≠ 0) && decide (kindT cols ps (lleft cs cols k p) = kindT cols ps (lright cs cols k p))) else _) = true
    rw [if_neg (by decide), if_pos rfl, hl, hr]
    simp [hk0]
    omega
theorem leafG_ok {cs : List Int} (h : ok8 cs) (cols ps : List Int) (hc : ∀ k ∈ cols, kind3 k) (p : Nat) : nodeT cols ps (leafG cs cols p).1.pt = true := by
  unfold leafG
  split
  · rename_i hl
    have g0 := intG_lo cs h cols.length p
    have g1 := intG_hi cs h cols.length (by omega) p
    refine leafK_ok h cols ps (hc _ ?_) _
    rw [List.getD_eq_getElem?_getD, List.getElem?_eq_getElem (show (intG cs cols.length p).toNat < cols.length by omega)]
    exact List.getElem_mem _
  · exact leafK_ok h cols ps (.inr (.inl rfl)) _
theorem flag_ok (cols ps : List Int) {k : Int} (hk : 0 ≤ k ∧ k < 2) : nodeT cols ps (⟨1 + k, 0, zeroO, zeroO⟩ : P0).pt = true := by
  refine nodeT_leaf ?_
  unfold headT
  show (if 1 + k = 1 ∨ 1 + k = 2 then ((0 : Int) == 0 && (eqO zeroO && eqO zeroO)) && decide (([] : List PT).length = 0) else _) = true
  rw [if_pos (by omega), zeroO_eq]
  rfl
theorem treeG0_ok {cs : List Int} (h : ok8 cs) (cols ps : List Int) (hc : ∀ k ∈ cols, kind3 k) (p : Nat) : nodeT cols ps (treeG0 cs cols p).1.pt = true := by
  unfold treeG0
  split
  · exact flag_ok cols ps ⟨intG_lo cs h 2 _, intG_hi cs h 2 (by decide) _⟩
  · exact leafG_ok h cols ps hc _
theorem kidsG_ok {cs : List Int} (h : ok8 cs) (cols ps : List Int) (hc : ∀ k ∈ cols, kind3 k) : ∀ (n p : Nat), nodeL cols ps ((kidsG cs cols n p).1.map P0.pt) = true
  | 0, p => by rw [kidsG]; show nodeL cols ps [] = true; rw [nodeL]
  | n + 1, p => by
    rw [kidsG]
    show nodeL cols ps (_ :: _) = true
    rw [nodeL, treeG0_ok h cols ps hc p, Bool.true_and]
    exact kidsG_ok h cols ps hc n _
theorem P0.up_pt (q : P0) : q.up.pt = q.pt := rfl
theorem treeG1_ok {cs : List Int} (h : ok8 cs) (cols ps : List Int) (hc : ∀ k ∈ cols, kind3 k) (p : Nat) : nodeT cols ps (treeG1 cs cols p).1.pt = true := by
  have g0 := intG_lo cs h 9 p
  have g1 := intG_hi cs h 9 (by decide) p
  unfold treeG1
  split
  · rw [P0.up_pt]
    exact flag_ok cols ps ⟨intG_lo cs h 2 _, intG_hi cs h 2 (by decide) _⟩
  · split
    · rw [P0.up_pt]
      exact leafG_ok h cols ps hc _
    · split
      · have e : headT cols ps (P1.pt ⟨6, 0, zeroO, zeroO, [(treeG0 cs cols (intP cs 9 p)).1]⟩) = true := by
          unfold headT
          show (if (6 : Int) = 1 ∨ (6 : Int) = 2 then _ else if (6 : Int) = 3 then _ else if (6 : Int) = 4 ∨ (6 : Int) = 5 then _ else if (6 : Int) = 6 then ((0 : Int) == 0 && (eqO zeroO && eqO zeroO)) && decide (([(treeG0 cs cols (intP cs 9 p)).1.pt] : List PT).length = 1) else false) = true
          rw [if_neg (by decide), if_neg (by decide), if_neg (by decide), if_pos rfl, zeroO_eq]
          rfl
        rw [nodeT_ok e]
        show nodeL cols ps [_] = true
        rw [nodeL, treeG0_ok h cols ps hc, nodeL]
        rfl
      · have e : headT cols ps (P1.pt ⟨4 + intG cs 9 p - 7, 0, zeroO, zeroO, (kidsG cs cols ((intG cs 3 (intP cs 9 p)).toNat + 1) (intP cs 3 (intP cs 9 p))).1⟩) = true := by
          unfold headT
          show (if 4 + intG cs 9 p - 7 = 1 ∨ 4 + intG cs 9 p - 7 = 2 then _ else if 4 + intG cs 9 p - 7 = 3 then _ else if 4 + intG cs 9 p - 7 = 4 ∨ 4 + intG cs 9 p - 7 = 5 then ((0 : Int) == 0 && (eqO zeroO && eqO zeroO)) else _) = true
          rw [if_neg (by omega), if_neg (by omega), if_pos (by omega), zeroO_eq]
          rfl
        rw [nodeT_ok e]
        exact kidsG_ok h cols ps hc _ _
theorem mea_leaf (q : P0) (d n : Int) (hd : d ≤ 8) (hn : n + 1 ≤ 24) : meaT q.pt d n = (n + 1, true) := by
  rw [meaT_eq, if_neg (by omega)]
  show meaL [] _ _ = _
  rw [meaL]
theorem mea_leaves : ∀ (l : List P0) (d n : Int), d ≤ 8 → n + l.length ≤ 24 → meaL (l.map P0.pt) d n = (n + l.length, true)
  | [], d, n, hd, hn => by
    show meaL [] _ _ = _
    rw [meaL]
    simp
  | q :: r, d, n, hd, hn => by
    rw [List.length_cons] at hn
    show meaL (q.pt :: r.map P0.pt) d n = _
    rw [meaL, mea_leaf q d n hd (by omega), cond_true, mea_leaves r d (n + 1) hd (by omega), List.length_cons]
    congr 1
    omega
theorem mea_ok {q : P1} (h : q.args.length ≤ 3) : (meaT q.pt 1 0).2 = true := by
  rw [meaT_eq, if_neg (by omega)]
  show (meaL (q.args.map P0.pt) _ _).2 = true
  rw [mea_leaves _ _ _ (by omega) (by omega)]
theorem predE_ok {cs : List Int} (h : ok8 cs) (cols : List Int) (hc : ∀ k ∈ cols, kind3 k) (p : Nat) : predE cols (treeG1 cs cols p).1.pt = 0 := by
  have e1 : cols.all ckB = true := by
    rw [List.all_eq_true]
    intro k hk
    exact decide_eq_true (hc k hk)
  unfold predE
  rw [e1, mea_ok (treeG1_args cs h cols p), treeG1_ok h cols [] hc p]
  rfl

/-- The cells of a made predicate say no less than those of its tree. -/
theorem p0_le (q : P0) : Pw AC.Le (p0C q) q.pt.cells := by
  rw [PT.cells_eq]
  refine .cons (.refl _) (.cons (.refl _) (.cons (.refl _) (.cons (.refl _) (.cons (.refl _) (.cons (.refl _) (.cons (.refl _) (.cons (.refl _) (.cons (.refl _) (.cons (.refl _) (.cons (.refl _) (.cons (.refl _) (.cons ?_ .nil))))))))))))
  exact AC.Le.nil (.inl rfl)
theorem Pw.flat {α : Type} {R : AC → AC → Prop} {f g : α → List AC} (h : ∀ a, Pw R (f a) (g a)) : ∀ l : List α, Pw R (l.flatMap f) (l.flatMap g)
  | [] => .nil
  | a :: l => by
    rw [List.flatMap_cons, List.flatMap_cons]
    exact (h a).append (Pw.flat h l)
theorem p1_le {q : P1} (hq : q.args.length ≤ 3) : Pw AC.LeV (p1C q) (ptA q.pt (slC PT.cells 136 q.pt.args)) := by
  have hl : AC.LeV (argC q.args) (slC PT.cells 136 (q.args.map P0.pt)) := by
    cases ha : q.args with
    | nil => exact AC.LeV.sl (AC.Le.nil (.inl rfl))
    | cons a r =>
      have e : slC PT.cells 136 ((a :: r).map P0.pt) = .sl false 136 (a :: r).length ((a :: r).flatMap fun x => x.pt.cells) := by
        unfold slC
        rw [List.length_map, List.flatMap_map]
      rw [e]
      rw [ha] at hq
      exact AC.LeV.sl (AC.Le.slc (by omega) (Pw.flat p0_le (a :: r)))
  refine .cons (.refl _) (.cons (.refl _) (.cons (.refl _) (.cons (.refl _) (.cons (.refl _) (.cons (.refl _) (.cons (.refl _) (.cons (.refl _) (.cons (.refl _) (.cons (.refl _) (.cons (.refl _) (.cons (.refl _) (.cons hl .nil))))))))))))
theorem Pw.comp {α β γ : Type} {R : α → β → Prop} {S : α → γ → Prop} {T : γ → β → Prop} {xs : List α} {ys : List β} {zs : List γ} (h : Pw T zs ys) (k : Pw S xs zs) (hi : ∀ x y z, S x z → T z y → R x y) : Pw R xs ys := by
  refine ⟨k.1.trans h.1, fun j x y hx hy => ?_⟩
  obtain ⟨z, hz, hs⟩ := k.get hx
  exact hi x y z hs (h.2 j z y hz hy)
/-- A contract for less holds for more. -/
theorem PSpec.le {P : Program} {f : FuncId} {args args' : List AV} {post : AV → Prop} (h : PSpec P f args' post) (hl : Pw AV.Le args args') : PSpec P f args post := fun G w vs hN ha hob hF hown =>
  h G w vs hN ⟨hl.1.symm.trans ha.1, fun j x y hx hy => by
    rcases Nat.lt_or_ge j args.length with hj | hj
    · exact hl.2 j _ _ (List.getElem?_eq_getElem hj) hx _ _ _ _ (ha.2 j _ _ (List.getElem?_eq_getElem hj) hy)
    · rw [List.getElem?_eq_none (by rw [← hl.1]; exact hj)] at hx
      cases hx⟩ hob hF hown
def ce0 (_ : List Int) (_ : Pred) : Int := 0
theorem okP_made {cs : List Int} (h : ok8 cs) (T : Tbl) (hT : T.cols.length ≤ 1099511627776) (hc : ∀ k ∈ tblKinds T, kind3 k) (p : Nat) : okP ce0 T (p1C (treeG1 cs (tblKinds T) p).1) := by
  have ha := treeG1_args cs h (tblKinds T) p
  refine ⟨rfl, p1C_lt _, ?_⟩
  have h70 := predicateCheck_spec (tblKinds T) (by unfold tblKinds; rw [kindsOf_len]; exact hT) (treeG1 cs (tblKinds T) p).1.pt
  rw [predE_ok h (tblKinds T) hc p] at h70
  exact h70.le (.cons (AV.Le.refl _) (.cons (AV.Le.refl _) (.cons (AV.Le.agg (p1_le ha)) .nil)))
end Go.Proofs.Ve


/-
  VeJ8: made schemas are valid.
-/
set_option linter.unusedVariables false
set_option linter.unusedSimpArgs false
set_option maxHeartbeats 4000000
namespace Go.Proofs.Ve
open Go

/-- The schemas that are made. -/
def isSch (cs : List Int) (s : Sch) : Prop := ∃ (ver : Int) (n : Nat) (id : Int) (r1 r2 r3 : List Ref) (ck : List Pred), s = ⟨ver, scTabs n id r1 r2 r3 ck⟩ ∧ (0 ≤ ver ∧ ver ≤ 2) ∧ (id = 4 ∨ id = 5) ∧ (r1 = [] ∨ r1 = ref1) ∧ (r2 = [] ∨ r2 = ref2) ∧ (r3 = [] ∨ r3 = ref3) ∧ (ck = [] ∨ ∃ P, ck = [p1C (treeG1 cs (kindsOf (scC1 id)) P).1])
section
variable {cs : List Int} {n : Nat} {ver id : Int} {r1 r2 r3 : List Ref} {p : Nat} (hv : 0 ≤ ver ∧ ver ≤ 2) (hid : id = 4 ∨ id = 5)
include hv hid
theorem scG4_of (h1 : r1 = [] ∨ r1 = ref1) (h2 : r2 = [] ∨ r2 = ref2) (h3 : r3 = [] ∨ r3 = ref3) : isSch cs (scG4 cs n ver id r1 r2 r3 p).1 := by
  unfold scG4
  cases boolG cs 3 p
  · exact ⟨ver, n, id, r1, r2, r3, [], rfl, hv, hid, h1, h2, h3, .inl rfl⟩
  · exact ⟨ver, n, id, r1, r2, r3, _, rfl, hv, hid, h1, h2, h3, .inr ⟨_, rfl⟩⟩
theorem scG3_of (h1 : r1 = [] ∨ r1 = ref1) (h2 : r2 = [] ∨ r2 = ref2) : isSch cs (scG3 cs n ver id r1 r2 p).1 := by
  unfold scG3
  split
  · cases boolG cs 3 p
    · exact scG4_of hv hid h1 h2 (.inl rfl)
    · exact scG4_of hv hid h1 h2 (.inr rfl)
  · exact scG4_of hv hid h1 h2 (.inl rfl)
theorem scG2_of (h1 : r1 = [] ∨ r1 = ref1) : isSch cs (scG2 cs n ver id r1 p).1 := by
  unfold scG2
  split
  · exact scG3_of hv hid h1 (.inl rfl)
  · cases boolG cs 3 p
    · exact scG3_of hv hid h1 (.inl rfl)
    · exact scG3_of hv hid h1 (.inr rfl)
theorem scG1_of : isSch cs (scG1 cs n ver id p).1 := by
  unfold scG1
  cases boolG cs 2 p
  · exact scG2_of hv hid (.inl rfl)
  · exact scG2_of hv hid (.inr rfl)
end
theorem schemaG_of {cs : List Int} (h : ok8 cs) (p : Nat) : isSch cs (schemaG cs p).1 := by
  have hv : ∀ q, 0 ≤ intG cs 3 q ∧ intG cs 3 q ≤ 2 := fun q => ⟨intG_lo cs h 3 q, by have := intG_hi cs h 3 (by decide) q; omega⟩
  unfold schemaG
  cases boolG cs 5 (intP cs 3 p)
  · exact scG1_of (hv _) (.inl rfl)
  · exact scG1_of (hv _) (.inr rfl)

theorem sc_mem {n : Nat} {id : Int} {r1 r2 r3 : List Ref} {ck : List Pred} {Q : Tbl → Prop} (h0 : Q scT0) (h1 : Q (scT1 id r1 ck)) (h2 : Q (scT2 r2)) (h3 : Q (scT3 id r3)) : ∀ T ∈ scTabs n id r1 r2 r3 ck, Q T := by
  intro T hT
  unfold scTabs at hT
  split at hT <;> simp only [List.mem_cons, List.not_mem_nil, or_false] at hT
  · rcases hT with rfl | rfl
    · exact h0
    · exact h1
  · rcases hT with rfl | rfl | rfl
    · exact h0
    · exact h1
    · exact h2
  · rcases hT with rfl | rfl | rfl | rfl
    · exact h0
    · exact h1
    · exact h2
    · exact h3
theorem sc_all {n : Nat} {id : Int} {r1 r2 r3 : List Ref} {ck : List Pred} {f : Tbl → Bool} (h0 : f scT0 = true) (h1 : f (scT1 id r1 ck) = true) (h2 : f (scT2 r2) = true) (h3 : f (scT3 id r3) = true) : (scTabs n id r1 r2 r3 ck).all f = true :=
  List.all_eq_true.2 (sc_mem (Q := fun T => f T = true) h0 h1 h2 h3)
theorem tbls4 (id : Int) (hid : id = 4 ∨ id = 5) (r1 r2 r3 : List Ref) (ck : List Pred) : tblsFrom [] [scT0, scT1 id r1 ck, scT2 r2, scT3 id r3] = true := by
  rcases hid with rfl | rfl <;> kernel_rfl
theorem tbls3 (id : Int) (hid : id = 4 ∨ id = 5) (r1 r2 : List Ref) (ck : List Pred) : tblsFrom [] [scT0, scT1 id r1 ck, scT2 r2] = true := by
  rcases hid with rfl | rfl <;> kernel_rfl
theorem tbls2 (id : Int) (hid : id = 4 ∨ id = 5) (r1 : List Ref) (ck : List Pred) : tblsFrom [] [scT0, scT1 id r1 ck] = true := by
  rcases hid with rfl | rfl <;> kernel_rfl
theorem sc_tbls (n : Nat) (id : Int) (hid : id = 4 ∨ id = 5) (r1 r2 r3 : List Ref) (ck : List Pred) : tblsFrom [] (scTabs n id r1 r2 r3 ck) = true := by
  unfold scTabs
  split
  · exact tbls2 id hid r1 ck
  · exact tbls3 id hid r1 r2 ck
  · exact tbls4 id hid r1 r2 r3 ck
theorem sc_refs (ver : Int) (n : Nat) (id : Int) (hid : id = 4 ∨ id = 5) (r1 r2 r3 : List Ref) (ck : List Pred) (h1 : r1 = [] ∨ r1 = ref1) (h2 : r2 = [] ∨ r2 = ref2) (h3 : r3 = [] ∨ r3 = ref3) :
    (scTabs n id r1 r2 r3 ck).all (refsT ⟨ver, scTabs n id r1 r2 r3 ck⟩) = true := by
  unfold scTabs
  split
  · rcases hid with rfl | rfl <;> rcases h1 with rfl | rfl <;> kernel_rfl
  · rcases hid with rfl | rfl <;> rcases h1 with rfl | rfl <;> rcases h2 with rfl | rfl <;> kernel_rfl
  · rcases hid with rfl | rfl <;> rcases h1 with rfl | rfl <;> rcases h2 with rfl | rfl <;> rcases h3 with rfl | rfl <;> kernel_rfl
theorem okN_lit (l : List UInt8) (h : l.length ≤ 100) : okN ⟨l.toArray⟩ := by
  show l.toArray.size ≤ _
  simp
  omega
theorem isSch.okS {cs : List Int} {s : Sch} (h : isSch cs s) : okS s := by
  obtain ⟨ver, n, id, r1, r2, r3, ck, rfl, hv, hid, h1, h2, h3, hck⟩ := h
  have l1 : r1.length ≤ 4398046511104 ∧ ∀ r ∈ r1, r.cols.length ≤ 4398046511104 := by rcases h1 with rfl | rfl <;> simp [ref1]
  have l2 : r2.length ≤ 4398046511104 ∧ ∀ r ∈ r2, r.cols.length ≤ 4398046511104 := by rcases h2 with rfl | rfl <;> simp [ref2]
  have l3 : r3.length ≤ 4398046511104 ∧ ∀ r ∈ r3, r.cols.length ≤ 4398046511104 := by rcases h3 with rfl | rfl <;> simp [ref3]
  have lk : ck.length ≤ 1099511627776 := by rcases hck with rfl | ⟨P, rfl⟩ <;> simp
  refine ⟨?_, sc_mem ?_ ?_ ?_ ?_⟩
  · show (scTabs n id r1 r2 r3 ck).length ≤ _
    unfold scTabs
    split <;> simp
  · exact ⟨okN_lit _ (by decide), by decide, by simp [scT0, scC0, okN]; decide, by simp [scT0], by simp [scT0]⟩
  · exact ⟨okN_lit _ (by decide), by simp [scT1, scC1], by simp [scT1, scC1, okN]; decide, l1, lk⟩
  · exact ⟨okN_lit _ (by decide), by simp [scT2, scC2], by simp [scT2, scC2, okN]; decide, l2, by simp [scT2]⟩
  · exact ⟨okN_lit _ (by decide), by simp [scT3, scC3], by simp [scT3, scC3, okN]; decide, l3, by simp [scT3]⟩
theorem isSch.okK {cs : List Int} {s : Sch} (h : isSch cs s) : okK s := by
  obtain ⟨ver, n, id, r1, r2, r3, ck, rfl, hv, hid, h1, h2, h3, hck⟩ := h
  refine ⟨sc_mem (by decide) (by simp [scT1, scC1]) (by simp [scT2, scC2]) (by simp [scT3, scC3]), sc_mem ?_ ?_ ?_ ?_⟩
  · simp [scT0, scC0, kind3]
  · simp [scT1, scC1, kind3]; omega
  · simp [scT2, scC2, kind3]
  · simp [scT3, scC3, kind3]; omega
theorem isSch.len {cs : List Int} {s : Sch} (h : isSch cs s) : 2 ≤ s.tables.length ∧ s.tables.length ≤ 4 := by
  obtain ⟨ver, n, id, r1, r2, r3, ck, rfl, hv, hid, h1, h2, h3, hck⟩ := h
  show 2 ≤ (scTabs n id r1 r2 r3 ck).length ∧ _
  unfold scTabs
  split <;> simp
theorem isSch.cols {cs : List Int} {s : Sch} (h : isSch cs s) : ∀ T ∈ s.tables, 1 ≤ T.cols.length ∧ T.cols.length ≤ 4 := by
  obtain ⟨ver, n, id, r1, r2, r3, ck, rfl, hv, hid, h1, h2, h3, hck⟩ := h
  exact sc_hs n id r1 r2 r3 ck
theorem firstE_zero {α : Type} (l : List α) (f : α → Int) (h : ∀ a ∈ l, f a = 0) : firstE (l.map f) = 0 := by
  induction l with
  | nil => rfl
  | cons a l ih =>
    rw [List.map_cons, firstE, if_pos (h a (List.mem_cons_self ..))]
    exact ih fun x hx => h x (List.mem_cons_of_mem _ hx)
theorem isSch.check {cs : List Int} {s : Sch} (h : isSch cs s) : schEg ce0 s = 0 := by
  have hc : chkE ce0 s = 0 := firstE_zero _ _ fun T _ => firstE_zero _ _ fun _ _ => rfl
  obtain ⟨ver, n, id, r1, r2, r3, ck, rfl, hv, hid, h1, h2, h3, hck⟩ := h
  have hl : limS ⟨ver, scTabs n id r1 r2 r3 ck⟩ = true := by
    have lk : ck.length ≤ 4 := by rcases hck with rfl | ⟨P, rfl⟩ <;> simp
    have l1 : r1.length ≤ 4 := by rcases h1 with rfl | rfl <;> simp [ref1]
    have l2 : r2.length ≤ 4 := by rcases h2 with rfl | rfl <;> simp [ref2]
    have l3 : r3.length ≤ 4 := by rcases h3 with rfl | rfl <;> simp [ref3]
    unfold limS
    rw [sc_all (by rfl) ?_ ?_ ?_, Bool.and_true]
    · refine decide_eq_true ?_
      show (scTabs n id r1 r2 r3 ck).length ≤ 8
      unfold scTabs
      split <;> simp
    · unfold limT; simp [scT1, scC1, l1, lk]
    · unfold limT; simp [scT2, scC2, l2]
    · unfold limT; simp [scT3, scC3, l3]
  have hs : soundS ⟨ver, scTabs n id r1 r2 r3 ck⟩ = true := by
    unfold soundS
    rw [sc_tbls n id hid, sc_refs ver n id hid r1 r2 r3 ck h1 h2 h3, decide_eq_true (by show 0 ≤ ver ∧ ver ≤ 1000; omega)]
    rfl
  unfold schEg
  rw [hl, hs, if_pos rfl, if_pos rfl, hc]
theorem isSch.okP {cs : List Int} (h8 : ok8 cs) {s : Sch} (h : isSch cs s) : ∀ T ∈ s.tables, ∀ q ∈ T.checks, okP ce0 T q := by
  have hk := h.okK
  obtain ⟨ver, n, id, r1, r2, r3, ck, rfl, hv, hid, h1, h2, h3, hck⟩ := h
  refine sc_mem ?_ ?_ ?_ ?_
  · intro q hq; cases hq
  · intro q hq
    rcases hck with rfl | ⟨P, rfl⟩
    · cases hq
    · rw [List.mem_singleton.1 hq]
      refine okP_made h8 (scT1 id r1 _) (by simp [scT1, scC1]) ?_ P
      intro k hk
      have hk : k ∈ kindsOf (scC1 id) := hk
      simp [kindsOf, scC1] at hk
      unfold kind3
      omega
  · intro q hq; cases hq
  · intro q hq; cases hq
/-- A made schema is valid. -/
theorem isSch.spec {cs : List Int} (h8 : ok8 cs) {s : Sch} (h : isSch cs s) : PSpec Try.prog 53 [.agg (schC s)] (fun r => r = .one (.int .i64 0)) := by
  have := schemaG_spec ce0 s h.okS (h.okP h8)
  rw [h.check] at this
  exact this
end Go.Proofs.Ve


/-
  VeJ9: a copy of a state whose list of tables is an object of its own.
-/
set_option linter.unusedVariables false
set_option linter.unusedSimpArgs false
set_option pp.maxSteps 2000
set_option maxHeartbeats 4000000
namespace Go.Proofs.Ve
open Go

def csA (st : St) (t : Nat) : AS := AS.of 36 0 4 [(2, .one (.ptr 1 0)), (3, .one (.ptr 2 0)), (10, .one (tabsC st)), (11, .one (.int .i64 st.length)), (12, .one (.int .i64 (t : Nat)))]
  [(1, ⟨25, 0, 0, [nilC]⟩), (2, ⟨25, 0, 0, [.gref 3]⟩), (3, stO (st.take t))]
def csB (st : St) (t : Nat) (l : Tab) (j : Nat) : AS := AS.of 36 0 5 [(2, .one (.ptr 1 0)), (3, .one (.ptr 2 0)), (10, .one (tabsC st)), (11, .one (.int .i64 st.length)), (12, .one (.int .i64 (t : Nat))), (6, .one (.gref 4)), (16, .one (tabC l)), (17, .one (.int .i64 l.length)), (18, .one (.int .i64 (j : Nat)))]
  [(1, ⟨25, 0, 0, [nilC]⟩), (2, ⟨25, 0, 0, [.gref 3]⟩), (3, stO (st.take t)), (4, ⟨27, 1, 24, (l.take j).flatMap rowC1⟩)]
def csC (st : St) (t : Nat) (l : Tab) : AS := AS.of 36 0 4 [(2, .one (.ptr 1 0)), (3, .one (.ptr 2 0)), (10, .one (tabsC st)), (11, .one (.int .i64 st.length)), (12, .one (.int .i64 (t : Nat))), (6, .one (tabC l))]
  [(1, ⟨25, 0, 0, [nilC]⟩), (2, ⟨25, 0, 0, [.gref 3]⟩), (3, stO (st.take t))]
theorem copyS_spec (st : St) (h1 : st.length ≤ 1099511627776) (hok : ∀ l ∈ st, okT l) (hok2 : ∀ l ∈ st, l.length ≤ 1099511627776) :
    NSpec Try.prog 31 [.agg (stC st)] (.agg [.gref 0]) (stO st) := by
  refine nspec_x env08_ok mixed08 Try.func31 rfl 36 rfl _ rfl rfl ?_
  refine wn ?_
  refine exI_as _ rfl ?_
  refine wn ?_
  refine loopX_of env08_ok mixed08 (σ := Nat) (csA st) (fun t => t ≤ st.length) (fun t => st.length - t) 0 (fun _ => rfl) ?_ (Nat.zero_le _) ?_
  · refine Tr.trans (Tr.nilCell 2 0 41 1 24 (by decide) (by rfl) (by rfl)) ?_
    exact tid
  intro t ht
  have ht : t ≤ st.length := ht
  refine wn ?_
  refine forkB_dec (fun h1 => ?_) (fun h1 => ?_)
  · have ht2 : t < st.length := by have h1 : (t : Int) < st.length := h1; omega
    have hl := hok _ (List.getElem_mem ht2)
    have hll := hok2 _ (List.getElem_mem ht2)
    obtain ⟨l, hle⟩ : ∃ l, st[t] = l := ⟨_, rfl⟩
    rw [hle] at hl hll
    have htk : st.take (t + 1) = st.take t ++ [l] := by rw [List.take_succ_eq_append_getElem ht2, hle]
    refine wn ?_
    refine rq ?_
    refine forceL_as (tabC1 l) ((flat_get (f := tabC1) tabC1_len st t ht2).trans (by rw [hle])) ?_
    refine wn ?_
    refine exI_as _ rfl ?_
    refine wn ?_
    refine loopX_out ?_
    refine loopX_of env08_ok mixed08 (σ := Nat) (csB st t l) (fun j => j ≤ l.length) (fun j => l.length - j) 0 (fun _ => rfl) ?_ (Nat.zero_le _) ?_
    · refine Tr.trans (Tr.nilSlot 6 27 1 24 (by decide) rfl) ?_
      exact (tid ⟨⟨rfl, rfl, by decide⟩, ⟨rfl, rfl, by decide⟩, ⟨(congrArg some (stO_ren (st.take t) id)).symm, stO_lt _ _, by decide⟩, ⟨rfl, rfl, by decide⟩, trivial⟩)
    intro j hj
    have hj : j ≤ l.length := hj
    refine wn ?_
    refine forkB_dec (fun h2 => ?_) (fun h2 => ?_)
    · have hj2 : j < l.length := by have h2 : (j : Int) < l.length := h2; omega
      have hr := hl.2 _ (List.getElem_mem hj2)
      obtain ⟨r, hre⟩ : ∃ r, l[j] = r := ⟨_, rfl⟩
      rw [hre] at hr
      have hlk : l.take (j + 1) = l.take j ++ [r] := by rw [List.take_succ_eq_append_getElem hj2, hre]
      refine wn ?_
      refine rq ?_
      refine forceL_as (rowC1 r) ((flat_get (f := rowC1) rowC1_len l j hj2).trans (by rw [hre])) ?_
      refine wn ?_
      refine cle (rcopy_spec r hr) callee40 ?_
      rintro x hx rfl
      refine wn ?_
      try (refine rq ?_)
      refine wn ?_
      refine reqD_dec (flat_div rowC1_len (by decide) _) ?_
      refine reqD_dec (by simp only [flat_len rowC1_len]; simp [ty27]; omega) ?_
      refine forceL_as ((l.take (j + 1)).flatMap rowC1) (by rw [hlk, List.flatMap_append]; rfl) ?_
      refine wn ?_
      refine exI_i64 (by show -9223372036854775808 ≤ (j : Int) + 1; omega) (by show (j : Int) + 1 ≤ 9223372036854775807; omega) ?_
      refine wn ?_
      refine ⟨j + 1, by show j + 1 ≤ l.length; omega, by show l.length - (j + 1) < l.length - j; omega, ?_⟩
      exact (tml [(4, 6)] 7 ⟨⟨rfl, rfl, by decide⟩, ⟨rfl, rfl, by decide⟩, ⟨(congrArg some (stO_ren (st.take t) (mvL [(4, 6)]))).symm, stO_lt _ _, by decide⟩, ⟨(congrArg some (ob_ren_deep (mvL [(4, 6)]) (all_flat rowC1_deep _))).symm, ob_lt_deep _ (all_flat rowC1_deep _), by decide⟩, trivial⟩)
    · have ej : j = l.length := by have h2 : ¬ (j : Int) < l.length := h2; omega
      subst ej
      refine wn ?_
      obtain ⟨v, hv⟩ : ∃ v, AC.sl false 24 l.length ((l.take l.length).flatMap rowC1) = v := ⟨_, rfl⟩
      have hvl : v = tabC l := by rw [← hv, List.take_length]; rfl
      have hS3 : (st.take t).flatMap tabC1 = ((st.take t).flatMap tabC1).map (·.sub 4 v) := (map_deep (fun c h => AC.sub_deep 4 v h) _ (all_flat tabC1_deep (st.take t))).symm
      subst hv
      refine ⟨csC st t l, Tr.trans (Tr.frz' (T := 27) (s := 1) (B := 24) (cells := (l.take l.length).flatMap rowC1) 4 l.length (by rfl) (by decide) (by rw [flat_len rowC1_len, List.take_length]) (all_flat rowC1_deep _)) ?_, rfl, ?_⟩
      · refine Tr.ofId rfl rfl (by decide) (by exact Nat.le_of_ble_eq_true rfl) ⟨⟨rfl, rfl⟩, ⟨rfl, rfl⟩, ⟨rfl, rfl⟩, ⟨rfl, rfl⟩, ⟨rfl, rfl⟩, ⟨congrArg AV.one hvl, rfl⟩, trivial⟩ ⟨⟨rfl, rfl, by decide⟩, ⟨rfl, rfl, by decide⟩, ⟨(congrArg some ((stO_ren (st.take t) id).trans (congrArg (Ob.mk 41 1 24) hS3))).symm, stO_lt _ _, by decide⟩, trivial⟩
      refine wn ?_
      try (refine rq ?_)
      refine wn ?_
      refine reqD_dec (flat_div tabC1_len (by decide) _) ?_
      refine reqD_dec (by simp [ty41, stO, flat_len tabC1_len]; omega) ?_
      refine forceL_as ((st.take (t + 1)).flatMap tabC1) (by rw [htk, List.flatMap_append]; rfl) ?_
      refine wn ?_
      refine exI_i64 (by show -9223372036854775808 ≤ (t : Int) + 1; omega) (by show (t : Int) + 1 ≤ 9223372036854775807; omega) ?_
      refine wn ?_
      refine ⟨t + 1, by show t + 1 ≤ st.length; omega, by show st.length - (t + 1) < st.length - t; omega, ?_⟩
      exact (tml [(3, 5)] 6 ⟨⟨rfl, rfl, by decide⟩, ⟨rfl, rfl, by decide⟩, ⟨(congrArg some (stO_ren (st.take (t + 1)) (mvL [(3, 5)]))).symm, stO_lt _ _, by decide⟩, trivial⟩)
  · have et : t = st.length := by have h1 : ¬ (t : Int) < st.length := h1; omega
    subst et
    refine wn ?_
    exact retX_new 3 rfl (by exact Nat.le_of_ble_eq_true rfl) (congrArg some ((congrArg stO (List.take_length (l := st))).trans (stO_ren st (fun _ => 3)).symm)) (stO_lt st 1) rfl rfl
theorem callee31' : callee Try.prog 31 := callee_of Try.func31 rfl rfl
end Go.Proofs.Ve


/-
  VeJc: Get, of a state whose list of tables is an object.
-/
set_option linter.unusedVariables false
set_option linter.unusedSimpArgs false
set_option pp.maxSteps 2000
set_option maxHeartbeats 4000000
namespace Go.Proofs.Ve
open Go

theorem find_obs (s : Sch) (st : St) (t : Int) (key : Row) (hst : ∀ l ∈ st, okT l) (hk : okR key) : OSpec Try.prog 45 [.agg (schC s), .agg [.gref 0], .one (.int .i64 t), .one (rowC key)] [stO st] (fun r => r = .one (.int .i64 (findR s st t key))) := by
  refine ospec_x env08_ok mixed08 Try.func45 rfl 47 rfl _ rfl rfl ?_
  have bad : ¬ (0 ≤ t ∧ t < s.tables.length ∧ t < st.length) → findR s st t key = -1 := fun h => dif_neg h
  refine wn ?_
  refine forkB_dec (fun h1 => ?_) (fun h1 => ?_)
  · refine wn ?_
    refine retX_obs rfl rfl (by exact Nat.le_of_ble_eq_true rfl) ⟨⟨rfl, stO_lt _ _⟩, trivial⟩ ?_
    conv => whnf
    rw [bad (by omega)]
    rfl
  · refine wn ?_
    refine exI_as _ rfl ?_
    refine wn ?_
    refine forkB_dec (fun h2 => ?_) (fun h2 => ?_)
    · refine wn ?_
      refine retX_obs rfl rfl (by exact Nat.le_of_ble_eq_true rfl) ⟨⟨rfl, stO_lt _ _⟩, trivial⟩ ?_
      conv => whnf
      rw [bad (by omega)]
      rfl
    · refine wn ?_
      refine ⟨st.length, flat_len tabC1_len st, ?_⟩
      refine wn ?_
      refine forkB_dec (fun h3 => ?_) (fun h3 => ?_)
      · refine wn ?_
        refine retX_obs rfl rfl (by exact Nat.le_of_ble_eq_true rfl) ⟨⟨rfl, stO_lt _ _⟩, trivial⟩ ?_
        conv => whnf
        rw [bad (by omega)]
        rfl
      · have ht : 0 ≤ t ∧ t < s.tables.length ∧ t < st.length := by omega
        have htn : t.toNat < st.length := by omega
        have e : findR s st t key = findL s t key st[t.toNat] 0 := dif_pos ht
        have hT := hst _ (List.getElem_mem htn)
        obtain ⟨l, hle⟩ : ∃ l, st[t.toNat] = l := ⟨_, rfl⟩
        rw [hle] at e hT
        have hTl := hT.1
        refine wn ?_
        refine reqD_dec ⟨by omega, by show t.toNat * 1 < (st.flatMap tabC1).length; rw [flat_len tabC1_len]; omega⟩ ?_
        refine wn ?_
        refine forceL_as (tabC1 l) ((flat_get (f := tabC1) tabC1_len st t.toNat htn).trans (by rw [hle])) ?_
        refine wn ?_
        refine exI_as _ rfl ?_
        refine wn ?_
        refine loopX_of env08_ok mixed08 (σ := Nat) (fun i => AS.of 47 1 2 [(2, .one (.int .i64 t)), (3, .one (rowC key)), (4, .one (.ptr 1 0)), (31, .one (tabC l)), (32, .one (.int .i64 l.length)), (33, .one (.int .i64 (i : Nat)))] [(0, stO st), (1, ⟨32, 0, 0, schC s⟩)])
          (fun i => i ≤ l.length ∧ findR s st t key = findL s t key (l.drop i) i) (fun i => l.length - i) 0 (fun _ => rfl) (tid ⟨⟨(congrArg some (stO_ren st id)).symm, stO_lt _ _, by decide⟩, ⟨rfl, rfl, by decide⟩, trivial⟩) ⟨Nat.zero_le _, e⟩ ?_
        rintro i ⟨hi, hf⟩
        refine wn ?_
        refine forkB_dec (fun h4 => ?_) (fun h4 => ?_)
        · have hi2 : i < l.length := by omega
          rw [List.drop_eq_getElem_cons hi2, findL] at hf
          have hr := hT.2 _ (List.getElem_mem hi2)
          have hkr := keyR_le s t l[i]
          unfold okR at hr hk
          refine wn ?_
          try (refine rq ?_)
          refine wn ?_
          refine forceL_as (rowC1 l[i]) (flat_get (f := rowC1) rowC1_len l i hi2) ?_
          refine wn ?_
          refine cle (rkey_spec s t l[i] hr) callee18 ?_
          rintro x hx rfl
          refine wn ?_
          refine cle (rcompareRows_spec (keyR s t l[i]) key (by omega) (by omega)) callee21 ?_
          rintro x hx rfl
          refine wn ?_
          refine forkB_intro (fun h5 => ?_) (fun h5 => ?_)
          · have h5 : cmpR (keyR s t l[i]) key = 0 := by simpa using h5
            refine wn ?_
            refine retX_obs rfl rfl (by exact Nat.le_of_ble_eq_true rfl) ⟨⟨rfl, stO_lt _ _⟩, trivial⟩ ?_
            conv => whnf
            rw [hf, if_pos h5]
            rfl
          · have h5 : ¬ cmpR (keyR s t l[i]) key = 0 := by simpa using h5
            refine wn ?_
            refine i64 ?_
            refine wn ?_
            exact ⟨i + 1, ⟨by omega, by rw [hf, if_neg h5]⟩, by omega, (tid ⟨⟨(congrArg some (stO_ren st id)).symm, stO_lt _ _, by decide⟩, ⟨rfl, rfl, by decide⟩, trivial⟩)⟩
        · have ei : i = l.length := by omega
          subst ei
          rw [List.drop_eq_nil_of_le (Nat.le_refl _), findL] at hf
          refine wn ?_
          refine retX_obs rfl rfl (by exact Nat.le_of_ble_eq_true rfl) ⟨⟨rfl, stO_lt _ _⟩, trivial⟩ ?_
          conv => whnf
          rw [hf]
          rfl
theorem rget_obs (s : Sch) (st : St) (t : Int) (key : Row) (hst : ∀ l ∈ st, okT l) (hk : okR key) : OSpec Try.prog 20 [.agg (schC s), .agg [.gref 0], .one (.int .i64 t), .one (rowC key)] [stO st] (fun r => r = getV (getR s st t key)) := by
  refine ospec_x env08_ok mixed08 Try.func20 rfl 27 rfl _ rfl rfl ?_
  refine wn ?_
  refine callX_obs (find_obs s st t key hst hk) callee45 (fun _ => 0) (fun j => if j = 0 then some 0 else none) (avs := [.agg (schC s), .agg [.gref 0], .one (.int .i64 t), .one (rowC key)]) rfl rfl (.cons (AV.Le.refl _) (.cons (AV.Le.refl _) (.cons (AV.Le.refl _) (.cons (AV.Le.refl _) .nil)))) (passed1 (args := [.agg (schC s), .agg [.gref 0], .one (.int .i64 t), .one (rowC key)]) 0 rfl (by exact Nat.le_of_ble_eq_true rfl) (congrArg some (stO_ren st _).symm) (stO_lt _ _)) ?_
  rintro x hx rfl
  refine wn ?_
  by_cases ht : 0 ≤ t ∧ t < s.tables.length ∧ t < st.length
  · have e : findR s st t key = findL s t key (st[t.toNat]'(by omega)) 0 := dif_pos ht
    have eg : getR s st t key = (st[t.toNat]'(by omega)).find? (fun r => cmpR (keyR s t r) key == 0) := dif_pos ht
    have htn : t.toNat < st.length := by omega
    obtain ⟨l, hle⟩ : ∃ l, st[t.toNat] = l := ⟨_, rfl⟩
    have hT := hst _ (List.getElem_mem htn)
    rw [hle] at e eg hT
    rcases findL_spec s t key l 0 with ⟨h1, h2⟩ | ⟨j, hj, h1, h2⟩
    · rw [e, h1]
      rw [h2] at eg
      refine wn ?_
      refine retX_tr (Tr.slot 8 (AV.Le.nilOf (f := vC) (B := 32) (l := []) rfl)) ?_
      refine retX_obs rfl rfl (by exact Nat.le_of_ble_eq_true rfl) ⟨⟨rfl, stO_lt _ _⟩, trivial⟩ ?_
      conv => whnf
      rw [eg]
      rfl
    · rw [e, h1]
      rw [h2] at eg
      refine forkB_dec (fun h1 => ?_) (fun h1 => ?_)
      · exfalso; omega
      · refine wn ?_
        refine reqD_dec ⟨by omega, by show t.toNat * 1 < (st.flatMap tabC1).length; rw [flat_len tabC1_len]; omega⟩ ?_
        refine wn ?_
        refine forceL_as (tabC1 l) ((flat_get (f := tabC1) tabC1_len st t.toNat htn).trans (by rw [hle])) ?_
        refine wn ?_
        refine reqD_dec (by omega) ?_
        refine forceL_as (rowC1 l[j]) (by rw [show (((0 + j : Nat) : Int)).toNat = j by omega]; exact flat_get (f := rowC1) rowC1_len l j hj) ?_
        refine wn ?_
        refine cle (rcopy_spec l[j] (hT.2 _ (List.getElem_mem hj))) callee40 ?_
        rintro x hx rfl
        refine wn ?_
        refine retX_obs rfl rfl (by exact Nat.le_of_ble_eq_true rfl) ⟨⟨rfl, stO_lt _ _⟩, trivial⟩ ?_
        conv => whnf
        rw [eg]
        rfl
  · have e : findR s st t key = -1 := dif_neg ht
    have eg : getR s st t key = none := dif_neg ht
    rw [e]
    refine wn ?_
    refine retX_tr (Tr.slot 8 (AV.Le.nilOf (f := vC) (B := 32) (l := []) rfl)) ?_
    refine retX_obs rfl rfl (by exact Nat.le_of_ble_eq_true rfl) ⟨⟨rfl, stO_lt _ _⟩, trivial⟩ ?_
    conv => whnf
    rw [eg]
    rfl
end Go.Proofs.Ve


/-
  VeJa: what Changes makes.
-/
set_option linter.unusedVariables false
set_option linter.unusedSimpArgs false
namespace Go.Proofs.Ve
open Go

/-- Go's copy(r, k). -/
def copyRow (r k : Row) : Row := k.take r.length ++ r.drop k.length
def chgRow (cs : List Int) (s : Sch) (mode : Int) (st : St) (t : Int) (p : Nat) : Row × Nat :=
  if 0 < (tabAt st t).length ∧ boolG cs 2 (rowG cs (keyAt s t) mode 0 (kindsR s t) p).2 = true then
    (copyRow (rowG cs (keyAt s t) mode 0 (kindsR s t) p).1 (keyR s t ((tabAt st t).getD (intG cs (tabAt st t).length (intP cs 2 (rowG cs (keyAt s t) mode 0 (kindsR s t) p).2)).toNat [])),
      intP cs (tabAt st t).length (intP cs 2 (rowG cs (keyAt s t) mode 0 (kindsR s t) p).2))
  else ((rowG cs (keyAt s t) mode 0 (kindsR s t) p).1, if 0 < (tabAt st t).length then intP cs 2 (rowG cs (keyAt s t) mode 0 (kindsR s t) p).2 else (rowG cs (keyAt s t) mode 0 (kindsR s t) p).2)
/-- The change with this row. -/
def chgOf (cs : List Int) (s : Sch) (st : St) (t : Int) (r : Row) (p : Nat) : Chg × St × Nat :=
  if ((getR s st t (keyR s t r)).getD []).length = 0 then (⟨t, (getR s st t (keyR s t r)).getD [], r⟩, putS s st t (keyR s t r) r, p)
  else if boolG cs 3 p = true then (⟨t, (getR s st t (keyR s t r)).getD [], []⟩, putS s st t (keyR s t r) [], intP cs 3 p)
  else (⟨t, (getR s st t (keyR s t r)).getD [], r⟩, putS s st t (keyR s t r) r, intP cs 3 p)
def chgStep (cs : List Int) (s : Sch) (mode : Int) (st : St) (p : Nat) : Chg × St × Nat :=
  chgOf cs s st (intG cs s.tables.length p) (chgRow cs s mode st (intG cs s.tables.length p) (intP cs s.tables.length p)).1 (chgRow cs s mode st (intG cs s.tables.length p) (intP cs s.tables.length p)).2
def chgsG (cs : List Int) (s : Sch) (mode : Int) : Nat → St → Nat → List Chg × St × Nat
  | 0, st, p => ([], st, p)
  | n + 1, st, p => ((chgStep cs s mode st p).1 :: (chgsG cs s mode n (chgStep cs s mode st p).2.1 (chgStep cs s mode st p).2.2).1, (chgsG cs s mode n (chgStep cs s mode st p).2.1 (chgStep cs s mode st p).2.2).2)
def changesG (cs : List Int) (s : Sch) (mode : Int) (st : St) (most : Int) (p : Nat) : List Chg × St × Nat :=
  chgsG cs s mode (intG cs (most + 1) p).toNat st (intP cs (most + 1) p)

theorem chgRow_in {cs : List Int} {s : Sch} {mode : Int} {st : St} {t : Int} {p : Nat} (h : p ≤ cs.length) : (chgRow cs s mode st t p).2 ≤ cs.length := by
  have h1 := rowG_in (cs := cs) (keyAt s t) mode (kindsR s t) 0 p h
  unfold chgRow
  split
  · exact intP_in (intP_in h1)
  · show (if _ then _ else _) ≤ _
    split
    · exact intP_in h1
    · exact h1
theorem chgOf_in {cs : List Int} {s : Sch} {st : St} {t : Int} {r : Row} {p : Nat} (h : p ≤ cs.length) : (chgOf cs s st t r p).2.2 ≤ cs.length := by
  unfold chgOf
  split
  · exact h
  · split
    · exact intP_in h
    · exact intP_in h
theorem chgStep_in {cs : List Int} {s : Sch} {mode : Int} {st : St} {p : Nat} (h : p ≤ cs.length) : (chgStep cs s mode st p).2.2 ≤ cs.length := chgOf_in (chgRow_in (intP_in h))

theorem fitL_iff (mode key : Int) : ∀ (r : Row) (cols : List Col) (i : Nat), fitL mode key i r cols = true ↔ ∀ (j : Nat) v c, r[j]? = some v → cols[j]? = some c → cellOk mode c.kind (decide (((i + j : Nat) : Int) < key)) v = true
  | [], cols, i => by
    have e : fitL mode key i [] cols = true := by cases cols <;> rfl
    exact ⟨fun _ j v c h => by simp at h, fun _ => e⟩
  | v :: r, [], i => ⟨fun _ j v c _ h => by simp at h, fun _ => rfl⟩
  | v :: r, c :: cols, i => by
    rw [fitL, Bool.and_eq_true, fitL_iff mode key r cols (i + 1)]
    constructor
    · rintro ⟨h1, h2⟩ j v' c' hv hc
      cases j with
      | zero => simp at hv hc; subst hv hc; simpa using h1
      | succ j =>
        have := h2 j v' c' (by simpa using hv) (by simpa using hc)
        rw [show i + (j + 1) = i + 1 + j by omega]
        exact this
    · intro h
      refine ⟨by simpa using h 0 v c rfl rfl, fun j v' c' hv hc => ?_⟩
      have := h (j + 1) v' c' (by simpa using hv) (by simpa using hc)
      rw [show i + 1 + j = i + (j + 1) by omega]
      exact this
theorem copyRow_fits {s : Sch} {t mode : Int} {r old : Row} (h1 : fitsS s t r mode = true) (h2 : fitsS s t old mode = true) : fitsS s t (copyRow r (keyR s t old)) mode = true := by
  unfold fitsS at h1 h2 ⊢
  split at h1
  · rename_i hc
    rw [dif_pos hc] at h2 ⊢
    simp only [Bool.and_eq_true, decide_eq_true_eq] at h1 h2 ⊢
    have ek : keyR s t old = old.take (s.tables[t.toNat]'(by omega)).key.toNat := dif_pos hc.2
    rw [ek]
    obtain ⟨T, hT⟩ : ∃ T, s.tables[t.toNat]'(by omega) = T := ⟨_, rfl⟩
    rw [hT] at h1 h2 ⊢
    have hkl : (old.take T.key.toNat).length ≤ r.length := by rw [List.length_take]; omega
    refine ⟨?_, (fitL_iff _ _ _ _ _).2 fun j v c hv hcj => ?_⟩
    · unfold copyRow
      rw [List.length_append, List.length_take, List.length_drop]
      omega
    · unfold copyRow at hv
      rw [List.take_of_length_le hkl, List.getElem?_append] at hv
      split at hv
      · rw [List.getElem?_take] at hv
        split at hv
        · exact (fitL_iff _ _ _ _ _).1 h2.2 j v c hv hcj
        · cases hv
      · rename_i hj
        rw [List.getElem?_drop] at hv
        rw [show (old.take T.key.toNat).length + (j - (old.take T.key.toNat).length) = j by omega] at hv
        exact (fitL_iff _ _ _ _ _).1 h1.2 j v c hv hcj
  · cases h1
theorem getD_fits {s : Sch} {mode : Int} {st : St} (g : Good s mode st) {t : Int} (ht : 0 ≤ t ∧ t < s.tables.length) {j : Nat} (hj : j < (tabAt st t).length) : fitsS s t ((tabAt st t).getD j []) mode = true := by
  have et : ((t.toNat : Nat) : Int) = t := by omega
  have hf := g.fit t.toNat (by omega)
  rw [et] at hf
  rw [List.getD_eq_getElem?_getD, List.getElem?_eq_getElem hj]
  exact hf _ (List.getElem_mem hj)
theorem chgRow_fits {cs : List Int} (h : ok8 cs) {s : Sch} (hs : okK s) {mode : Int} (hm : 1 ≤ mode ∧ mode ≤ 3) {st : St} (g : Good s mode st) {t : Int} (ht : 0 ≤ t ∧ t < s.tables.length) (p : Nat) : fitsS s t (chgRow cs s mode st t p).1 mode = true := by
  have hr := rowG_fits h hm hs ht p
  unfold chgRow
  split
  · rename_i hc
    have h0 := intG_lo cs h (tabAt st t).length (intP cs 2 (rowG cs (keyAt s t) mode 0 (kindsR s t) p).2)
    have h1 := intG_hi cs h (tabAt st t).length (by omega) (intP cs 2 (rowG cs (keyAt s t) mode 0 (kindsR s t) p).2)
    exact copyRow_fits hr (getD_fits g ht (by omega))
  · exact hr
theorem chgOf_step {cs : List Int} {s : Sch} (hs : okK s) {mode : Int} {st : St} (g : Good s mode st) {t : Int} (ht : 0 ≤ t ∧ t < s.tables.length) {r : Row} (hr : fitsS s t r mode = true) (hc : countS st + 1 ≤ 512) (p : Nat) :
    ∃ A B, Step s mode st (chgOf cs s st t r p).1 (chgOf cs s st t r p).2.1 A B (keyR s t r) := by
  have hpos := fits_pos hs hr
  have k1 : rowK s mode t (keyR s t r) r := ⟨fun _ => hr, fun _ => rfl⟩
  unfold chgOf
  split
  · exact step_of g hs ht k1 hc (.inl hpos)
  · rename_i ho
    split
    · refine step_of g hs ht ⟨fun k => absurd k (Nat.lt_irrefl _), fun k => absurd k (Nat.lt_irrefl _)⟩ hc (.inr ?_)
      cases hg : getR s st t (keyR s t r) with
      | none => rw [hg] at ho; exact absurd rfl ho
      | some x => rfl
    · exact step_of g hs ht k1 hc (.inl hpos)
theorem chgStep_step {cs : List Int} (h : ok8 cs) {s : Sch} (hs : okK s) (hn : 1 ≤ s.tables.length) {mode : Int} (hm : 1 ≤ mode ∧ mode ≤ 3) {st : St} (g : Good s mode st) (hc : countS st + 1 ≤ 512) (p : Nat) :
    ∃ A B key, Step s mode st (chgStep cs s mode st p).1 (chgStep cs s mode st p).2.1 A B key := by
  have h0 := intG_lo cs h s.tables.length p
  have h1 := intG_hi cs h s.tables.length (by omega) p
  obtain ⟨A, B, k⟩ := chgOf_step (cs := cs) hs g ⟨h0, h1⟩ (chgRow_fits h hs hm g ⟨h0, h1⟩ (intP cs s.tables.length p)) hc (chgRow cs s mode st (intG cs s.tables.length p) (intP cs s.tables.length p)).2
  exact ⟨A, B, _, k⟩
theorem Step.count {s : Sch} {mode : Int} {cur cur' : St} {c : Chg} {A B : Tab} {key : Row} (h : Step s mode cur c cur' A B key) : countS cur' ≤ countS cur + 1 := by
  have hl := h.lt
  have hg := tabAt_get hl
  have h1 := countS_set cur c.table.toNat (A ++ (ones c.new ++ B)) hl
  rw [← h.is, ← hg, h.was] at h1
  have h2 : (ones c.new).length ≤ 1 := by unfold ones; split <;> simp
  simp only [List.length_append] at h1
  omega
theorem chgsG_steps {cs : List Int} (h : ok8 cs) {s : Sch} (hs : okK s) (hn : 1 ≤ s.tables.length) {mode : Int} (hm : 1 ≤ mode ∧ mode ≤ 3) : ∀ (n : Nat) {st : St} {p : Nat}, Good s mode st → countS st + n ≤ 512 →
    Steps s mode st (chgsG cs s mode n st p).1 (chgsG cs s mode n st p).2.1
  | 0, st, p, g, hc => rfl
  | n + 1, st, p, g, hc => by
    obtain ⟨A, B, key, k⟩ := chgStep_step h hs hn hm g (by omega) p
    have hc2 := k.count
    exact ⟨_, A, B, key, k, chgsG_steps h hs hn hm n (k.good g) (by omega)⟩
theorem chgsG_len (cs : List Int) (s : Sch) (mode : Int) : ∀ (n : Nat) (st : St) (p : Nat), (chgsG cs s mode n st p).1.length = n
  | 0, st, p => rfl
  | n + 1, st, p => congrArg (· + 1) (chgsG_len cs s mode n _ _)
theorem chgsG_in {cs : List Int} {s : Sch} {mode : Int} : ∀ (n : Nat) {st : St} {p : Nat}, p ≤ cs.length → (chgsG cs s mode n st p).2.2 ≤ cs.length
  | 0, st, p, h => h
  | n + 1, st, p, h => chgsG_in n (chgStep_in h)
/-- What Changes makes leads from the state to that behind it. -/
theorem changesG_steps {cs : List Int} (h : ok8 cs) {s : Sch} (hs : okK s) (hn : 1 ≤ s.tables.length) {mode : Int} (hm : 1 ≤ mode ∧ mode ≤ 3) {st : St} (g : Good s mode st) {most : Int} (hmost : 0 ≤ most) (hc : countS st + most.toNat ≤ 512) (p : Nat) :
    Steps s mode st (changesG cs s mode st most p).1 (changesG cs s mode st most p).2.1 := by
  have h1 := intG_hi cs h (most + 1) (by omega) p
  exact chgsG_steps h hs hn hm _ g (by omega)
end Go.Proofs.Ve


/-
  VeJb: Changes.
-/
set_option linter.unusedVariables false
set_option linter.unusedSimpArgs false
set_option pp.maxSteps 2000
set_option maxHeartbeats 4000000
namespace Go.Proofs.Ve
open Go

theorem chgC_deep' (c : Chg) : (chgC c).all (·.deep) = true := rfl
theorem Good.okT {s : Sch} {mode : Int} {st : St} (g : Good s mode st) (hc : ∀ T ∈ s.tables, T.cols.length ≤ 1099511627776) : ∀ l ∈ st, okT l ∧ l.length ≤ 512 ∧ ∀ r ∈ l, r.length ≤ 1099511627776 := by
  intro l hl
  obtain ⟨i, hi, rfl⟩ := List.mem_iff_getElem.1 hl
  have e : tabAt st (i : Nat) = st[i] := by rw [tabAt_get (by simpa using hi)]; simp
  have hlen : st[i].length ≤ 512 := Nat.le_trans (countS_get st i hi) g.cnt
  have hr : ∀ r ∈ st[i], r.length ≤ 1099511627776 := fun r hr => by
    have hf := g.fit i (by rw [← g.len]; exact hi) r (by rw [e]; exact hr)
    unfold fitsS at hf
    split at hf
    · simp only [Bool.and_eq_true, decide_eq_true_eq] at hf
      rw [hf.1]
      exact hc _ (List.getElem_mem _)
    · cases hf
  exact ⟨⟨by omega, fun r h => by have := hr r h; unfold okR; omega⟩, hlen, hr⟩
def cgO (s : Sch) (cs : List Int) (st : St) (p : Nat) (out : List Chg) : List (Nat × Ob) := [(0, caseO cs p), (1, ⟨32, 0, 0, schC s⟩), (2, ⟨25, 0, 0, [.gref 4]⟩), (3, ⟨25, 0, 0, [nilC]⟩), (4, stO st), (5, ⟨60, 3, 56, out.flatMap chgC⟩)]
def cgA (s : Sch) (cs : List Int) (mode : Int) (n : Nat) (st : St) (p : Nat) (out : List Chg) : AS := AS.of 122 1 6 [(0, .one (.ptr 0 0)), (2, .one (.int .i64 mode)), (6, .one (.ptr 1 0)), (8, .one (.ptr 2 0)), (11, .one (.ptr 3 0)), (12, .one (.gref 5)), (13, .one (.int .i64 (n : Nat)))] (cgO s cs st p out)
/-- The row of the change is made. -/
def cgR (s : Sch) (cs : List Int) (mode : Int) (n : Nat) (st : St) (p : Nat) (out : List Chg) (t : Nat) (R : Row) : AS := AS.of 122 1 7 [(0, .one (.ptr 0 0)), (2, .one (.int .i64 mode)), (6, .one (.ptr 1 0)), (8, .one (.ptr 2 0)), (11, .one (.ptr 3 0)), (12, .one (.gref 5)), (13, .one (.int .i64 (n : Nat))), (14, .one (.ptr 6 0)), (15, .one (rowC R)), (82, .agg (schC s)), (84, .one (.int .i64 (t : Nat))), (85, .one (rowC R))]
  (cgO s cs st p out ++ [(6, ⟨60, 0, 0, chgC ⟨t, [], []⟩⟩)])
theorem getV_eq (o : Option Row) : getV o = .tup [.one (rowC (o.getD [])), .one (.bool o.isSome)] := by cases o <;> rfl
theorem nilR_le : AC.LeV nilC (rowC []) := AC.LeV.sl (AC.Le.nil (.inl rfl))
/-- The box of the change, before and behind. -/
theorem box_le (t : Nat) : Pw AC.LeV [.int .i64 (t : Nat), nilC, nilC] (chgC ⟨t, [], []⟩) := .cons (AC.LeV.refl _) (.cons nilR_le (.cons nilR_le .nil))
theorem copy_row (R k : Row) : setR (R.flatMap vC) 0 ((k.flatMap vC).take (min k.length ((R.flatMap vC).length / 3) * 3)) = (copyRow R k).flatMap vC := by
  rw [flat_len vC_len, Nat.mul_div_cancel _ (by decide : 0 < 3), flat_take vC_len]
  unfold setR copyRow
  rw [List.take_zero, List.nil_append, Nat.zero_add, flat_len vC_len, flat_drop vC_len, List.flatMap_append, List.length_take]
  have e1 : k.take (min k.length R.length) = k.take R.length := by
    rcases Nat.le_total k.length R.length with hh | hh
    · rw [Nat.min_eq_left hh, List.take_of_length_le (Nat.le_refl _), List.take_of_length_le hh]
    · rw [Nat.min_eq_right hh]
  have e2 : R.drop (min (min k.length R.length) k.length) = R.drop k.length := by
    rcases Nat.le_total k.length R.length with hh | hh
    · rw [Nat.min_eq_left hh, Nat.min_self]
    · rw [Nat.min_eq_right hh, Nat.min_eq_left hh, List.drop_eq_nil_of_le (Nat.le_refl _), List.drop_eq_nil_of_le hh]
  rw [e1, e2]
theorem copyRow_len {R k : Row} (h : k.length ≤ R.length) : (copyRow R k).length = R.length := by
  unfold copyRow
  rw [List.length_append, List.length_take, List.length_drop]
  omega
theorem copyRow_le (R k : Row) : (copyRow R k).length ≤ R.length := by
  unfold copyRow
  rw [List.length_append, List.length_take, List.length_drop]
  omega
theorem callee26 : callee Try.prog 26 := callee_of Try.func26 rfl rfl
theorem changes_spec (cs : List Int) (h : ok8 cs) (s : Sch) (hs : okK s) (hcols : ∀ T ∈ s.tables, T.cols.length ≤ 1099511627776) (hnt : 1 ≤ s.tables.length ∧ s.tables.length ≤ 8) (mode : Int) (hm : 1 ≤ mode ∧ mode ≤ 3) (st : St) (g : Good s mode st)
    (most : Int) (hmost : 0 ≤ most ∧ most ≤ 100) (hc : countS st + most.toNat ≤ 512) (p : Nat) (hp : p ≤ cs.length) :
    MSpec Try.prog 26 [.one (.ptr 0 0), .agg (schC s), .one (.int .i64 mode), .agg (stC st), .one (.int .i64 most)] (caseO cs p) (caseO cs (changesG cs s mode st most p).2.2)
      (.tup [.one (chgsC (changesG cs s mode st most p).1), .agg (stC (changesG cs s mode st most p).2.1)]) := by
  refine mspec_x env08_ok mixed08 Try.func26 rfl 122 rfl _ rfl rfl ?_
  have hst := g.okT hcols
  have hlen := g.len
  refine wn ?_
  refine callX_new (copyS_spec st (by omega) (fun l hl => (hst l hl).1) (fun l hl => by have := (hst l hl).2.1; omega)) callee31 (fun n => .agg [.gref n]) (fun n => by simp [AV.ren, AC.renL, AC.ren, cren]) (fun ρ => stO_ren st ρ) rfl rfl (.cons (AV.Le.refl _) .nil) rfl ?_
  refine wn ?_
  refine i64 ?_
  refine wn ?_
  have g0 := intG_lo cs h (most + 1) p
  have g1 := intG_hi cs h (most + 1) (by omega) p
  refine cm (int_spec cs h (most + 1) p hp) (callee25) ?_
  refine wn ?_
  obtain ⟨K, hK⟩ : ∃ K, changesG cs s mode st most p = K := ⟨_, rfl⟩
  rw [hK]
  unfold changesG at hK
  have hp2 := intP_in (n := most + 1) hp
  obtain ⟨N, hN⟩ : ∃ N : Nat, intG cs (most + 1) p = N := ⟨_, (Int.toNat_of_nonneg g0).symm⟩
  rw [hN, Int.toNat_natCast] at hK
  rw [hN] at g1 ⊢
  generalize intP cs (most + 1) p = q at hp2 hK ⊢
  refine loopX_of env08_ok mixed08 (σ := Nat × St × Nat × List Chg) (fun z => cgA s cs mode z.1 z.2.1 z.2.2.1 z.2.2.2) (fun z => Good s mode z.2.1 ∧ countS z.2.1 + z.1 ≤ 512 ∧ z.2.2.1 ≤ cs.length ∧ z.2.2.2.length + z.1 ≤ 101 ∧ (∀ c ∈ z.2.2.2, c.old.length ≤ 1099511627776 ∧ c.new.length ≤ 1099511627776) ∧ K = (z.2.2.2 ++ (chgsG cs s mode z.1 z.2.1 z.2.2.1).1, (chgsG cs s mode z.1 z.2.1 z.2.2.1).2)) (fun z => z.1) (N, st, q, []) (fun _ => rfl) ?_ ?_ ?_
  · refine Tr.trans (Tr.nilSlot 12 60 3 56 (by decide) rfl) ?_
    exact (tid ⟨⟨rfl, rfl, by decide⟩, ⟨rfl, rfl, by decide⟩, ⟨rfl, rfl, by decide⟩, ⟨rfl, rfl, by decide⟩, ⟨(congrArg some (stO_ren st id)).symm, stO_lt _ _, by decide⟩, ⟨rfl, rfl, by decide⟩, trivial⟩)
  · exact ⟨g, by show countS st + N ≤ 512; omega, hp2, by show 0 + N ≤ 101; omega, (fun c h => by cases h), hK.symm⟩
  rintro ⟨n, cur, p1, out⟩ ⟨gc, hcc, hp1, hout, hoc, hk⟩
  have gc : Good s mode cur := gc
  have hcc : countS cur + n ≤ 512 := hcc
  have hp1 : p1 ≤ cs.length := hp1
  have hout : out.length + n ≤ 101 := hout
  have hoc : ∀ c ∈ out, c.old.length ≤ 1099511627776 ∧ c.new.length ≤ 1099511627776 := hoc
  have hk : K = (out ++ (chgsG cs s mode n cur p1).1, (chgsG cs s mode n cur p1).2) := hk
  have hcur := gc.okT hcols
  have hclen := gc.len
  refine wn ?_
  refine forkB_dec (fun h1 => ?_) (fun h1 => ?_)
  · obtain ⟨k, rfl⟩ : ∃ k, n = k + 1 := ⟨n - 1, by have h1 : (n : Int) > 0 := h1; omega⟩
    rw [chgsG] at hk
    refine wn ?_
    refine exI_as _ rfl ?_
    refine wn ?_
    refine forkB_dec (fun _ => ?_) (fun h2 => by exfalso; omega)
    refine wn ?_
    refine exI_as _ rfl ?_
    refine wn ?_
    have t0 := intG_lo cs h s.tables.length p1
    have t1 := intG_hi cs h s.tables.length (by omega) p1
    refine cm (int_spec cs h s.tables.length p1 hp1) (callee25) ?_
    refine wn ?_
    have hp2' := intP_in (n := s.tables.length) hp1
    have hX : chgStep cs s mode cur p1 = chgOf cs s cur (intG cs s.tables.length p1) (chgRow cs s mode cur (intG cs s.tables.length p1) (intP cs s.tables.length p1)).1 (chgRow cs s mode cur (intG cs s.tables.length p1) (intP cs s.tables.length p1)).2 := rfl
    obtain ⟨A0, B0, key0, step⟩ := chgStep_step h hs hnt.1 hm gc (by omega) p1
    obtain ⟨t, ht⟩ : ∃ t : Nat, intG cs s.tables.length p1 = t := ⟨_, (Int.toNat_of_nonneg t0).symm⟩
    rw [ht] at hX t1 ⊢
    generalize intP cs s.tables.length p1 = p2 at hp2' hX ⊢
    have htl : t < s.tables.length := by omega
    obtain ⟨X, hXe⟩ : ∃ X, chgStep cs s mode cur p1 = X := ⟨_, rfl⟩
    rw [hXe] at hX hk step
    obtain ⟨T, hT⟩ : ∃ T, s.tables[t] = T := ⟨_, rfl⟩
    have hTc := hcols _ (List.getElem_mem htl)
    have hT1 := hs.cols _ (List.getElem_mem htl)
    rw [hT] at hTc hT1
    have eK : kindsR s (t : Nat) = tblKinds T := (dif_pos (by omega)).trans (by simp [hT])
    have eA : keyAt s (t : Nat) = T.key := (dif_pos (by omega)).trans (by simp [hT])
    have hkl : (kindsR s (t : Nat)).length ≤ 1099511627776 := by rw [eK]; unfold tblKinds; rw [kindsOf_len]; exact hTc
    have hk1 : 0 < (kindsR s (t : Nat)).length := by rw [eK]; unfold tblKinds; rw [kindsOf_len]; exact hT1
    obtain ⟨l, hl⟩ : ∃ l, cur[t] = l := ⟨_, rfl⟩
    have htab : tabAt cur (t : Nat) = l := by rw [tabAt_get (by simp; omega)]; simpa using hl
    have hlok := hcur _ (List.getElem_mem (l := cur) (n := t) (by omega))
    rw [hl] at hlok
    by_cases hb : 0 < l.length ∧ boolG cs 2 (rowG cs T.key mode 0 (kindsR s (t : Nat)) p2).2 = true
    · refine wn ?_
      refine drawnX_phase env08_ok (fun id => id == 1 || id == 6) (List.range 15) (tks 0 4 (tks 5 8 (.one 4 (.one 13 (tks 14 1 (.stop)))))) 0 (lst 15 []) (by kernel_rfl) ?_
      refine wn ?_
      refine reqD_dec (by omega) ?_
      refine forceL_as (tblC T) ((flat_get (f := tblC) tblC_len s.tables t htl).trans (by rw [hT])) ?_
      refine wn ?_
      refine cle (kinds_spec s t hcols) callee36 ?_
      rintro x hx rfl
      refine wn ?_
      refine callX_mutnew 0 (rowN_spec cs h (kindsR s (t : Nat)) T.key mode hkl hk1 p2 hp2') callee15 (fun n => .one (.gref n)) (fun n => rfl) rfl rfl rfl (.cons (AV.Le.refl _) (.cons (kindsV_le _) (.cons (AV.Le.refl _) (.cons (AV.Le.refl _) .nil)))) rfl (by exact Nat.le_of_ble_eq_true rfl) rfl rfl (caseO_ren cs _) (fun ρ => ob_ren_deep ρ (all_flat vC_deep _)) ?_
      refine wn ?_
      refine drawnX_done (by kernel_rfl) ?_
      refine wn ?_
      refine reqD_dec ⟨by omega, by show t * 1 < (cur.flatMap tabC1).length; rw [flat_len tabC1_len]; omega⟩ ?_
      refine wn ?_
      refine forceL_as (tabC1 l) ((flat_get (f := tabC1) tabC1_len cur t (by omega)).trans (by rw [hl])) ?_
      refine wn ?_
      refine exI_as _ rfl ?_
      refine wn ?_
      refine forkB_dec (fun _ => ?_) (fun h2 => by exfalso; have := hb.1; omega)
      refine wn ?_
      obtain ⟨R, hR⟩ : ∃ R, (rowG cs T.key mode 0 (kindsR s (t : Nat)) p2).1 = R := ⟨_, rfl⟩
      obtain ⟨p3, hp3⟩ : ∃ p3, (rowG cs T.key mode 0 (kindsR s (t : Nat)) p2).2 = p3 := ⟨_, rfl⟩
      have hp3l : p3 ≤ cs.length := by rw [← hp3]; exact rowG_in T.key mode (kindsR s (t : Nat)) 0 p2 hp2'
      have hRl : R.length = T.cols.length := by rw [← hR, rowG_len, eK]; unfold tblKinds; exact kindsOf_len _
      have hRow : chgRow cs s mode cur (t : Nat) p2 = (copyRow R (keyR s (t : Nat) (l.getD (intG cs l.length (intP cs 2 p3)).toNat [])), intP cs l.length (intP cs 2 p3)) := by
        unfold chgRow
        rw [htab, eA, if_pos hb, hR, hp3]
      rw [hp3] at hb
      rw [hR, hp3]
      refine cm (bool_spec cs h 2 p3 hp3l (by decide)) (callee17) ?_
      refine wn ?_
      rw [hb.2]
      refine wn ?_
      refine exI_as _ rfl ?_
      refine wn ?_
      have hp4 := intP_in (n := 2) hp3l
      have j0 := intG_lo cs h l.length (intP cs 2 p3)
      have j1 := intG_hi cs h l.length (by have := hb.1; omega) (intP cs 2 p3)
      have hp5 := intP_in (n := l.length) hp4
      refine cm (int_spec cs h l.length (intP cs 2 p3) hp4) (callee25) ?_
      refine wn ?_
      obtain ⟨j, hj⟩ : ∃ j : Nat, intG cs l.length (intP cs 2 p3) = j := ⟨_, (Int.toNat_of_nonneg j0).symm⟩
      rw [hj] at j1 hRow ⊢
      generalize intP cs l.length (intP cs 2 p3) = p5 at hp5 hRow ⊢
      have hjl : j < l.length := by omega
      obtain ⟨old, hold⟩ : ∃ old, l[j] = old := ⟨_, rfl⟩
      have hgd : l.getD j [] = old := by rw [List.getD_eq_getElem?_getD, List.getElem?_eq_getElem hjl]; exact hold
      rw [Int.toNat_natCast, hgd] at hRow
      have hor : old.length ≤ 1099511627776 := hlok.2.2 _ (by rw [← hold]; exact List.getElem_mem _)
      refine wn ?_
      refine reqD_dec (by omega) ?_
      refine forceL_as (rowC1 old) ((flat_get (f := rowC1) rowC1_len l j hjl).trans (by rw [hold])) ?_
      refine wn ?_
      refine cle (rkey_spec s (t : Nat) old (by unfold okR; omega)) callee18 ?_
      rintro x hx rfl
      refine wn ?_
      refine reqD_dec (flat_len vC_len _) ?_
      refine wn ?_
      refine reqD_dec (flat_div vC_len (by decide) _) ?_
      refine forceL_as ((copyRow R (keyR s (t : Nat) old)).flatMap vC) (copy_row R _) ?_
      refine wn ?_
      have hRl2 := copyRow_le R (keyR s (t : Nat) old)
      obtain ⟨R', hR'⟩ : ∃ R', copyRow R (keyR s (t : Nat) old) = R' := ⟨_, rfl⟩
      rw [hR'] at hRow hRl2 ⊢
      rw [hRow] at hX
      have hRb : R'.length ≤ 1099511627776 := by omega
      have hRo : okR R' := by unfold okR; omega
      refine callX_tr (A1 := cgR s cs mode (k + 1) cur p5 out t R') ?_ (by rfl) ?_
      · refine Tr.trans (Tr.frz' (T := 58) (s := 3) (B := 32) (cells := R'.flatMap vC) 7 R'.length (by rfl) (by decide) (flat_len vC_len _) (all_flat vC_deep _)) ?_
        refine Tr.trans (Tr.obj 6 (ob := ⟨60, 0, 0, [.int .i64 (t : Nat), nilC, nilC]⟩) (by rfl) (cells := chgC ⟨t, [], []⟩) (box_le t)) ?_
        have hS4 : cur.flatMap tabC1 = (cur.flatMap tabC1).map (·.sub 7 (rowC R')) := (map_deep (fun c h => AC.sub_deep 7 _ h) _ (all_flat tabC1_deep cur)).symm
        have hS5 : out.flatMap chgC = (out.flatMap chgC).map (·.sub 7 (rowC R')) := (map_deep (fun c h => AC.sub_deep 7 _ h) _ (all_flat chgC_deep' out)).symm
        exact (tid ⟨⟨rfl, rfl, by decide⟩, ⟨rfl, rfl, by decide⟩, ⟨rfl, rfl, by decide⟩, ⟨rfl, rfl, by decide⟩, ⟨(congrArg some ((stO_ren cur id).trans (congrArg (Ob.mk 41 1 24) hS4))).symm, stO_lt _ _, by decide⟩, ⟨(congrArg some ((ob_ren_deep id (all_flat chgC_deep' out)).trans (congrArg (Ob.mk 60 3 56) hS5))).symm, ob_lt_deep _ (all_flat chgC_deep' _), by decide⟩, ⟨rfl, rfl, by decide⟩, trivial⟩)
      refine cle (rkey_spec s (t : Nat) R' hRo) callee18 ?_
      rintro x hx rfl
      refine wn ?_
      refine callX_obs (rget_obs s cur (t : Nat) (keyR s (t : Nat) R') (fun l hl => (hcur l hl).1) (by have := keyR_le s (t : Nat) R'; unfold okR at hRo ⊢; omega)) callee20 (fun _ => 4) (fun j => if j = 4 then some 0 else none) (avs := [.agg (schC s), .agg [.gref 4], .one (.int .i64 (t : Nat)), .one (rowC (keyR s (t : Nat) R'))]) rfl rfl (.cons (AV.Le.refl _) (.cons (AV.Le.refl _) (.cons (AV.Le.refl _) (.cons (AV.Le.refl _) .nil)))) (passed1 (args := [.agg (schC s), .agg [.gref 0], .one (.int .i64 (t : Nat)), .one (rowC (keyR s (t : Nat) R'))]) 4 rfl (by exact Nat.le_of_ble_eq_true rfl) (congrArg some (stO_ren cur _).symm) (stO_lt _ _)) ?_
      rintro x hx rfl
      unfold chgOf at hX
      rw [getV_eq]
      obtain ⟨O, hO⟩ : ∃ O, (getR s cur (t : Nat) (keyR s (t : Nat) R')).getD [] = O := ⟨_, rfl⟩
      rw [hO] at hX ⊢
      have hkey : okR (keyR s (t : Nat) R') := by have := keyR_le s (t : Nat) R'; unfold okR at hRo ⊢; omega
      have hOl : O.length ≤ 1099511627776 := by
        rw [← hO]
        cases hg : getR s cur (t : Nat) (keyR s (t : Nat) R') with
        | none => exact Nat.zero_le _
        | some x =>
          unfold getR at hg
          split at hg
          · exact (hcur _ (List.getElem_mem _)).2.2 x (List.mem_of_find?_eq_some hg)
          · cases hg
      refine wn ?_
      refine exI_as _ rfl ?_
      refine wn ?_
      refine forkB_intro (fun h3 => ?_) (fun h3 => ?_)
      · have h3 : O.length = 0 := by simpa using h3
        rw [if_pos h3] at hX
        have hsn : X.2.1 = putS s cur (t : Nat) (keyR s (t : Nat) R') (R') := by rw [hX]
        have hs1 : X.1 = Chg.mk (t : Nat) O (R') := by rw [hX]
        have hs2 : X.2.2 = p5 := by rw [hX]
        refine wn ?_
        try (refine rq ?_)
        refine wn ?_
        refine reqD_dec (flat_div chgC_len (by decide) _) ?_
        refine reqD_dec (by simp only [flat_len chgC_len]; simp [ty60, ty56]; omega) ?_
        refine forceL_as ((out ++ (Chg.mk (t : Nat) O (R') :: List.nil)).flatMap chgC) (by rw [List.flatMap_append]; rfl) ?_
        refine wn ?_
        refine callX_mut1 4 (.agg [.gref 4]) (put_spec s cur (t : Nat) (keyR s (t : Nat) R') (R') (fun l hl => (hcur l hl).1) hkey (by first | exact hRo | exact Nat.zero_le _) (by omega) (by rw [htab]; have := hlok.2.1; omega)) callee37 rfl rfl rfl (.cons (AV.Le.refl _) (.cons (AV.Le.refl _) (.cons (AV.Le.refl _) (.cons (AV.Le.refl _) (.cons (AV.Le.refl _) .nil))))) rfl (by exact Nat.le_of_ble_eq_true rfl) (congrArg some (stO_ren cur _).symm) (stO_lt _ _) (stO_ren _) (fun nx => rfl) ?_
        refine wn ?_
        refine exI_as (k : Int) (by show IntKind.i64.wrap (((k + 1 : Nat) : Int) - 1) = _; unfold IntKind.wrap; simp [IntKind.signed, IntKind.bits]; split <;> omega) ?_
        refine wn ?_
        rw [hsn, hs1, hs2] at hk
        rw [hsn] at step
        have hgn := step.good gc
        have hcn := step.count
        refine ⟨(k, putS s cur (t : Nat) (keyR s (t : Nat) R') (R'), p5, out ++ (Chg.mk (t : Nat) O (R') :: List.nil)), ⟨hgn, by show countS (putS s cur (t : Nat) (keyR s (t : Nat) R') (R')) + k ≤ 512; omega, by show p5 ≤ cs.length; first | exact hp5 | exact intP_in hp5, by show (out ++ (Chg.mk (t : Nat) O (R') :: List.nil)).length + k ≤ 101; rw [List.length_append]; show out.length + 1 + k ≤ 101; omega, fun c hc => ?_, by rw [hk]; simp⟩, by show k < k + 1; omega, ?_⟩
        · have hc : c ∈ out ++ (Chg.mk (t : Nat) O (R') :: List.nil) := hc
          rcases List.mem_append.1 hc with hc | hc
          · exact hoc c hc
          · rw [List.mem_singleton.1 hc]
            exact ⟨hOl, by first | (show R'.length ≤ _; omega) | exact Nat.zero_le _⟩
        · exact (tmv 5 8 ⟨⟨rfl, rfl, by decide⟩, ⟨rfl, rfl, by decide⟩, ⟨rfl, rfl, by decide⟩, ⟨rfl, rfl, by decide⟩, ⟨(congrArg some (stO_ren (putS s cur (t : Nat) (keyR s (t : Nat) R') (R')) (mv 5 8))).symm, stO_lt _ _, by decide⟩, ⟨(congrArg some (ob_ren_deep (mv 5 8) (all_flat chgC_deep' _))).symm, ob_lt_deep _ (all_flat chgC_deep' _), by decide⟩, trivial⟩)
      · have h3 : ¬ O.length = 0 := by simpa using h3
        rw [if_neg h3] at hX
        refine wn ?_
        refine cm (bool_spec cs h 3 (p5) hp5 (by decide)) (callee17) ?_
        refine wn ?_
        cases hb3 : boolG cs 3 (p5) with
        | true =>
          rw [if_pos hb3] at hX
          have hsn : X.2.1 = putS s cur (t : Nat) (keyR s (t : Nat) R') (List.nil) := by rw [hX]
          have hs1 : X.1 = Chg.mk (t : Nat) O (List.nil) := by rw [hX]
          have hs2 : X.2.2 = (intP cs 3 (p5)) := by rw [hX]
          refine wn ?_
          try (refine rq ?_)
          refine wn ?_
          refine reqD_dec (flat_div chgC_len (by decide) _) ?_
          refine reqD_dec (by simp only [flat_len chgC_len]; simp [ty60, ty56]; omega) ?_
          refine forceL_as ((out ++ (Chg.mk (t : Nat) O (List.nil) :: List.nil)).flatMap chgC) (by rw [List.flatMap_append]; rfl) ?_
          refine wn ?_
          refine callX_mut1 4 (.agg [.gref 4]) (put_spec s cur (t : Nat) (keyR s (t : Nat) R') (List.nil) (fun l hl => (hcur l hl).1) hkey (by first | exact hRo | exact Nat.zero_le _) (by omega) (by rw [htab]; have := hlok.2.1; omega)) callee37 rfl rfl rfl (.cons (AV.Le.refl _) (.cons (AV.Le.refl _) (.cons (AV.Le.refl _) (.cons (AV.Le.refl _) (.cons (AV.Le.refl _) .nil))))) rfl (by exact Nat.le_of_ble_eq_true rfl) (congrArg some (stO_ren cur _).symm) (stO_lt _ _) (stO_ren _) (fun nx => rfl) ?_
          refine wn ?_
          refine exI_as (k : Int) (by show IntKind.i64.wrap (((k + 1 : Nat) : Int) - 1) = _; unfold IntKind.wrap; simp [IntKind.signed, IntKind.bits]; split <;> omega) ?_
          refine wn ?_
          rw [hsn, hs1, hs2] at hk
          rw [hsn] at step
          have hgn := step.good gc
          have hcn := step.count
          refine ⟨(k, putS s cur (t : Nat) (keyR s (t : Nat) R') (List.nil), (intP cs 3 (p5)), out ++ (Chg.mk (t : Nat) O (List.nil) :: List.nil)), ⟨hgn, by show countS (putS s cur (t : Nat) (keyR s (t : Nat) R') (List.nil)) + k ≤ 512; omega, by show (intP cs 3 (p5)) ≤ cs.length; first | exact hp5 | exact intP_in hp5, by show (out ++ (Chg.mk (t : Nat) O (List.nil) :: List.nil)).length + k ≤ 101; rw [List.length_append]; show out.length + 1 + k ≤ 101; omega, fun c hc => ?_, by rw [hk]; simp⟩, by show k < k + 1; omega, ?_⟩
          · have hc : c ∈ out ++ (Chg.mk (t : Nat) O (List.nil) :: List.nil) := hc
            rcases List.mem_append.1 hc with hc | hc
            · exact hoc c hc
            · rw [List.mem_singleton.1 hc]
              exact ⟨hOl, by first | (show R'.length ≤ _; omega) | exact Nat.zero_le _⟩
          · exact (tmv 5 8 ⟨⟨rfl, rfl, by decide⟩, ⟨rfl, rfl, by decide⟩, ⟨rfl, rfl, by decide⟩, ⟨rfl, rfl, by decide⟩, ⟨(congrArg some (stO_ren (putS s cur (t : Nat) (keyR s (t : Nat) R') (List.nil)) (mv 5 8))).symm, stO_lt _ _, by decide⟩, ⟨(congrArg some (ob_ren_deep (mv 5 8) (all_flat chgC_deep' _))).symm, ob_lt_deep _ (all_flat chgC_deep' _), by decide⟩, trivial⟩)
        | false =>
          rw [if_neg (by rw [hb3]; decide)] at hX
          have hsn : X.2.1 = putS s cur (t : Nat) (keyR s (t : Nat) R') (R') := by rw [hX]
          have hs1 : X.1 = Chg.mk (t : Nat) O (R') := by rw [hX]
          have hs2 : X.2.2 = (intP cs 3 (p5)) := by rw [hX]
          refine wn ?_
          try (refine rq ?_)
          refine wn ?_
          refine reqD_dec (flat_div chgC_len (by decide) _) ?_
          refine reqD_dec (by simp only [flat_len chgC_len]; simp [ty60, ty56]; omega) ?_
          refine forceL_as ((out ++ (Chg.mk (t : Nat) O (R') :: List.nil)).flatMap chgC) (by rw [List.flatMap_append]; rfl) ?_
          refine wn ?_
          refine callX_mut1 4 (.agg [.gref 4]) (put_spec s cur (t : Nat) (keyR s (t : Nat) R') (R') (fun l hl => (hcur l hl).1) hkey (by first | exact hRo | exact Nat.zero_le _) (by omega) (by rw [htab]; have := hlok.2.1; omega)) callee37 rfl rfl rfl (.cons (AV.Le.refl _) (.cons (AV.Le.refl _) (.cons (AV.Le.refl _) (.cons (AV.Le.refl _) (.cons (AV.Le.refl _) .nil))))) rfl (by exact Nat.le_of_ble_eq_true rfl) (congrArg some (stO_ren cur _).symm) (stO_lt _ _) (stO_ren _) (fun nx => rfl) ?_
          refine wn ?_
          refine exI_as (k : Int) (by show IntKind.i64.wrap (((k + 1 : Nat) : Int) - 1) = _; unfold IntKind.wrap; simp [IntKind.signed, IntKind.bits]; split <;> omega) ?_
          refine wn ?_
          rw [hsn, hs1, hs2] at hk
          rw [hsn] at step
          have hgn := step.good gc
          have hcn := step.count
          refine ⟨(k, putS s cur (t : Nat) (keyR s (t : Nat) R') (R'), (intP cs 3 (p5)), out ++ (Chg.mk (t : Nat) O (R') :: List.nil)), ⟨hgn, by show countS (putS s cur (t : Nat) (keyR s (t : Nat) R') (R')) + k ≤ 512; omega, by show (intP cs 3 (p5)) ≤ cs.length; first | exact hp5 | exact intP_in hp5, by show (out ++ (Chg.mk (t : Nat) O (R') :: List.nil)).length + k ≤ 101; rw [List.length_append]; show out.length + 1 + k ≤ 101; omega, fun c hc => ?_, by rw [hk]; simp⟩, by show k < k + 1; omega, ?_⟩
          · have hc : c ∈ out ++ (Chg.mk (t : Nat) O (R') :: List.nil) := hc
            rcases List.mem_append.1 hc with hc | hc
            · exact hoc c hc
            · rw [List.mem_singleton.1 hc]
              exact ⟨hOl, by first | (show R'.length ≤ _; omega) | exact Nat.zero_le _⟩
          · exact (tmv 5 8 ⟨⟨rfl, rfl, by decide⟩, ⟨rfl, rfl, by decide⟩, ⟨rfl, rfl, by decide⟩, ⟨rfl, rfl, by decide⟩, ⟨(congrArg some (stO_ren (putS s cur (t : Nat) (keyR s (t : Nat) R') (R')) (mv 5 8))).symm, stO_lt _ _, by decide⟩, ⟨(congrArg some (ob_ren_deep (mv 5 8) (all_flat chgC_deep' _))).symm, ob_lt_deep _ (all_flat chgC_deep' _), by decide⟩, trivial⟩)
    · refine wn ?_
      refine drawnX_phase env08_ok (fun id => id == 1 || id == 6) (List.range 15) (tks 0 4 (tks 5 8 (.one 4 (.one 13 (tks 14 1 (.stop)))))) 0 (lst 15 []) (by kernel_rfl) ?_
      refine wn ?_
      refine reqD_dec (by omega) ?_
      refine forceL_as (tblC T) ((flat_get (f := tblC) tblC_len s.tables t htl).trans (by rw [hT])) ?_
      refine wn ?_
      refine cle (kinds_spec s t hcols) callee36 ?_
      rintro x hx rfl
      refine wn ?_
      refine callX_mut 0 (row_spec cs h (kindsR s (t : Nat)) T.key mode hkl p2 hp2') (callee15) rfl rfl rfl (.cons (AV.Le.refl _) (.cons (kindsV_le _) (.cons (AV.Le.refl _) (.cons (AV.Le.refl _) .nil)))) rfl (by exact Nat.le_of_ble_eq_true rfl) rfl rfl (caseO_ren cs _) rfl ?_
      refine wn ?_
      refine drawnX_done (by kernel_rfl) ?_
      refine wn ?_
      obtain ⟨R', hR⟩ : ∃ R', (rowG cs T.key mode 0 (kindsR s (t : Nat)) p2).1 = R' := ⟨_, rfl⟩
      obtain ⟨p3, hp3⟩ : ∃ p3, (rowG cs T.key mode 0 (kindsR s (t : Nat)) p2).2 = p3 := ⟨_, rfl⟩
      have hp3l : p3 ≤ cs.length := by rw [← hp3]; exact rowG_in T.key mode (kindsR s (t : Nat)) 0 p2 hp2'
      have hRl : R'.length = T.cols.length := by rw [← hR, rowG_len, eK]; unfold tblKinds; exact kindsOf_len _
      have hRow : chgRow cs s mode cur (t : Nat) p2 = (R', if 0 < l.length then intP cs 2 p3 else p3) := by
        unfold chgRow
        rw [htab, eA, if_neg hb, hR, hp3]
      rw [hp3] at hb
      rw [hR, hp3]
      rw [hRow] at hX
      have hRb : R'.length ≤ 1099511627776 := by omega
      have hRo : okR R' := by unfold okR; omega
      refine wn ?_
      refine reqD_dec ⟨by omega, by show t * 1 < (cur.flatMap tabC1).length; rw [flat_len tabC1_len]; omega⟩ ?_
      refine wn ?_
      refine forceL_as (tabC1 l) ((flat_get (f := tabC1) tabC1_len cur t (by omega)).trans (by rw [hl])) ?_
      refine wn ?_
      refine exI_as _ rfl ?_
      refine wn ?_
      refine forkB_dec (fun h2 => ?_) (fun h2 => ?_)
      · have h2 : 0 < l.length := by omega
        rw [if_pos h2] at hX
        refine wn ?_
        refine cm (bool_spec cs h 2 p3 hp3l (by decide)) (callee17) ?_
        refine wn ?_
        have hbf : boolG cs 2 p3 = false := by
          cases hh : boolG cs 2 p3 with
          | true => exact absurd ⟨h2, hh⟩ hb
          | false => rfl
        rw [hbf]
        refine wn ?_
        have hp5 := intP_in (n := 2) hp3l
        generalize intP cs 2 p3 = p5 at hp5 hX ⊢
        refine callX_tr (A1 := cgR s cs mode (k + 1) cur (p5) out t R') ?_ (by rfl) ?_
        · refine Tr.trans (Tr.obj 6 (ob := ⟨60, 0, 0, [.int .i64 (t : Nat), nilC, nilC]⟩) (by rfl) (cells := chgC ⟨t, [], []⟩) (box_le t)) ?_
          exact (tid ⟨⟨rfl, rfl, by decide⟩, ⟨rfl, rfl, by decide⟩, ⟨rfl, rfl, by decide⟩, ⟨rfl, rfl, by decide⟩, ⟨(congrArg some (stO_ren cur id)).symm, stO_lt _ _, by decide⟩, ⟨(congrArg some (ob_ren_deep id (all_flat chgC_deep' out))).symm, ob_lt_deep _ (all_flat chgC_deep' _), by decide⟩, ⟨rfl, rfl, by decide⟩, trivial⟩)
        refine cle (rkey_spec s (t : Nat) R' hRo) callee18 ?_
        rintro x hx rfl
        refine wn ?_
        refine callX_obs (rget_obs s cur (t : Nat) (keyR s (t : Nat) R') (fun l hl => (hcur l hl).1) (by have := keyR_le s (t : Nat) R'; unfold okR at hRo ⊢; omega)) callee20 (fun _ => 4) (fun j => if j = 4 then some 0 else none) (avs := [.agg (schC s), .agg [.gref 4], .one (.int .i64 (t : Nat)), .one (rowC (keyR s (t : Nat) R'))]) rfl rfl (.cons (AV.Le.refl _) (.cons (AV.Le.refl _) (.cons (AV.Le.refl _) (.cons (AV.Le.refl _) .nil)))) (passed1 (args := [.agg (schC s), .agg [.gref 0], .one (.int .i64 (t : Nat)), .one (rowC (keyR s (t : Nat) R'))]) 4 rfl (by exact Nat.le_of_ble_eq_true rfl) (congrArg some (stO_ren cur _).symm) (stO_lt _ _)) ?_
        rintro x hx rfl
        unfold chgOf at hX
        rw [getV_eq]
        obtain ⟨O, hO⟩ : ∃ O, (getR s cur (t : Nat) (keyR s (t : Nat) R')).getD [] = O := ⟨_, rfl⟩
        rw [hO] at hX ⊢
        have hkey : okR (keyR s (t : Nat) R') := by have := keyR_le s (t : Nat) R'; unfold okR at hRo ⊢; omega
        have hOl : O.length ≤ 1099511627776 := by
          rw [← hO]
          cases hg : getR s cur (t : Nat) (keyR s (t : Nat) R') with
          | none => exact Nat.zero_le _
          | some x =>
            unfold getR at hg
            split at hg
            · exact (hcur _ (List.getElem_mem _)).2.2 x (List.mem_of_find?_eq_some hg)
            · cases hg
        refine wn ?_
        refine exI_as _ rfl ?_
        refine wn ?_
        refine forkB_intro (fun h3 => ?_) (fun h3 => ?_)
        · have h3 : O.length = 0 := by simpa using h3
          rw [if_pos h3] at hX
          have hsn : X.2.1 = putS s cur (t : Nat) (keyR s (t : Nat) R') (R') := by rw [hX]
          have hs1 : X.1 = Chg.mk (t : Nat) O (R') := by rw [hX]
          have hs2 : X.2.2 = p5 := by rw [hX]
          refine wn ?_
          try (refine rq ?_)
          refine wn ?_
          refine reqD_dec (flat_div chgC_len (by decide) _) ?_
          refine reqD_dec (by simp only [flat_len chgC_len]; simp [ty60, ty56]; omega) ?_
          refine forceL_as ((out ++ (Chg.mk (t : Nat) O (R') :: List.nil)).flatMap chgC) (by rw [List.flatMap_append]; rfl) ?_
          refine wn ?_
          refine callX_mut1 4 (.agg [.gref 4]) (put_spec s cur (t : Nat) (keyR s (t : Nat) R') (R') (fun l hl => (hcur l hl).1) hkey (by first | exact hRo | exact Nat.zero_le _) (by omega) (by rw [htab]; have := hlok.2.1; omega)) callee37 rfl rfl rfl (.cons (AV.Le.refl _) (.cons (AV.Le.refl _) (.cons (AV.Le.refl _) (.cons (AV.Le.refl _) (.cons (AV.Le.refl _) .nil))))) rfl (by exact Nat.le_of_ble_eq_true rfl) (congrArg some (stO_ren cur _).symm) (stO_lt _ _) (stO_ren _) (fun nx => rfl) ?_
          refine wn ?_
          refine exI_as (k : Int) (by show IntKind.i64.wrap (((k + 1 : Nat) : Int) - 1) = _; unfold IntKind.wrap; simp [IntKind.signed, IntKind.bits]; split <;> omega) ?_
          refine wn ?_
          rw [hsn, hs1, hs2] at hk
          rw [hsn] at step
          have hgn := step.good gc
          have hcn := step.count
          refine ⟨(k, putS s cur (t : Nat) (keyR s (t : Nat) R') (R'), p5, out ++ (Chg.mk (t : Nat) O (R') :: List.nil)), ⟨hgn, by show countS (putS s cur (t : Nat) (keyR s (t : Nat) R') (R')) + k ≤ 512; omega, by show p5 ≤ cs.length; first | exact hp5 | exact intP_in hp5, by show (out ++ (Chg.mk (t : Nat) O (R') :: List.nil)).length + k ≤ 101; rw [List.length_append]; show out.length + 1 + k ≤ 101; omega, fun c hc => ?_, by rw [hk]; simp⟩, by show k < k + 1; omega, ?_⟩
          · have hc : c ∈ out ++ (Chg.mk (t : Nat) O (R') :: List.nil) := hc
            rcases List.mem_append.1 hc with hc | hc
            · exact hoc c hc
            · rw [List.mem_singleton.1 hc]
              exact ⟨hOl, by first | (show R'.length ≤ _; omega) | exact Nat.zero_le _⟩
          · exact (tmv 5 8 ⟨⟨rfl, rfl, by decide⟩, ⟨rfl, rfl, by decide⟩, ⟨rfl, rfl, by decide⟩, ⟨rfl, rfl, by decide⟩, ⟨(congrArg some (stO_ren (putS s cur (t : Nat) (keyR s (t : Nat) R') (R')) (mv 5 8))).symm, stO_lt _ _, by decide⟩, ⟨(congrArg some (ob_ren_deep (mv 5 8) (all_flat chgC_deep' _))).symm, ob_lt_deep _ (all_flat chgC_deep' _), by decide⟩, trivial⟩)
        · have h3 : ¬ O.length = 0 := by simpa using h3
          rw [if_neg h3] at hX
          refine wn ?_
          refine cm (bool_spec cs h 3 (p5) hp5 (by decide)) (callee17) ?_
          refine wn ?_
          cases hb3 : boolG cs 3 (p5) with
          | true =>
            rw [if_pos hb3] at hX
            have hsn : X.2.1 = putS s cur (t : Nat) (keyR s (t : Nat) R') (List.nil) := by rw [hX]
            have hs1 : X.1 = Chg.mk (t : Nat) O (List.nil) := by rw [hX]
            have hs2 : X.2.2 = (intP cs 3 (p5)) := by rw [hX]
            refine wn ?_
            try (refine rq ?_)
            refine wn ?_
            refine reqD_dec (flat_div chgC_len (by decide) _) ?_
            refine reqD_dec (by simp only [flat_len chgC_len]; simp [ty60, ty56]; omega) ?_
            refine forceL_as ((out ++ (Chg.mk (t : Nat) O (List.nil) :: List.nil)).flatMap chgC) (by rw [List.flatMap_append]; rfl) ?_
            refine wn ?_
            refine callX_mut1 4 (.agg [.gref 4]) (put_spec s cur (t : Nat) (keyR s (t : Nat) R') (List.nil) (fun l hl => (hcur l hl).1) hkey (by first | exact hRo | exact Nat.zero_le _) (by omega) (by rw [htab]; have := hlok.2.1; omega)) callee37 rfl rfl rfl (.cons (AV.Le.refl _) (.cons (AV.Le.refl _) (.cons (AV.Le.refl _) (.cons (AV.Le.refl _) (.cons (AV.Le.refl _) .nil))))) rfl (by exact Nat.le_of_ble_eq_true rfl) (congrArg some (stO_ren cur _).symm) (stO_lt _ _) (stO_ren _) (fun nx => rfl) ?_
            refine wn ?_
            refine exI_as (k : Int) (by show IntKind.i64.wrap (((k + 1 : Nat) : Int) - 1) = _; unfold IntKind.wrap; simp [IntKind.signed, IntKind.bits]; split <;> omega) ?_
            refine wn ?_
            rw [hsn, hs1, hs2] at hk
            rw [hsn] at step
            have hgn := step.good gc
            have hcn := step.count
            refine ⟨(k, putS s cur (t : Nat) (keyR s (t : Nat) R') (List.nil), (intP cs 3 (p5)), out ++ (Chg.mk (t : Nat) O (List.nil) :: List.nil)), ⟨hgn, by show countS (putS s cur (t : Nat) (keyR s (t : Nat) R') (List.nil)) + k ≤ 512; omega, by show (intP cs 3 (p5)) ≤ cs.length; first | exact hp5 | exact intP_in hp5, by show (out ++ (Chg.mk (t : Nat) O (List.nil) :: List.nil)).length + k ≤ 101; rw [List.length_append]; show out.length + 1 + k ≤ 101; omega, fun c hc => ?_, by rw [hk]; simp⟩, by show k < k + 1; omega, ?_⟩
            · have hc : c ∈ out ++ (Chg.mk (t : Nat) O (List.nil) :: List.nil) := hc
              rcases List.mem_append.1 hc with hc | hc
              · exact hoc c hc
              · rw [List.mem_singleton.1 hc]
                exact ⟨hOl, by first | (show R'.length ≤ _; omega) | exact Nat.zero_le _⟩
            · exact (tmv 5 8 ⟨⟨rfl, rfl, by decide⟩, ⟨rfl, rfl, by decide⟩, ⟨rfl, rfl, by decide⟩, ⟨rfl, rfl, by decide⟩, ⟨(congrArg some (stO_ren (putS s cur (t : Nat) (keyR s (t : Nat) R') (List.nil)) (mv 5 8))).symm, stO_lt _ _, by decide⟩, ⟨(congrArg some (ob_ren_deep (mv 5 8) (all_flat chgC_deep' _))).symm, ob_lt_deep _ (all_flat chgC_deep' _), by decide⟩, trivial⟩)
          | false =>
            rw [if_neg (by rw [hb3]; decide)] at hX
            have hsn : X.2.1 = putS s cur (t : Nat) (keyR s (t : Nat) R') (R') := by rw [hX]
            have hs1 : X.1 = Chg.mk (t : Nat) O (R') := by rw [hX]
            have hs2 : X.2.2 = (intP cs 3 (p5)) := by rw [hX]
            refine wn ?_
            try (refine rq ?_)
            refine wn ?_
            refine reqD_dec (flat_div chgC_len (by decide) _) ?_
            refine reqD_dec (by simp only [flat_len chgC_len]; simp [ty60, ty56]; omega) ?_
            refine forceL_as ((out ++ (Chg.mk (t : Nat) O (R') :: List.nil)).flatMap chgC) (by rw [List.flatMap_append]; rfl) ?_
            refine wn ?_
            refine callX_mut1 4 (.agg [.gref 4]) (put_spec s cur (t : Nat) (keyR s (t : Nat) R') (R') (fun l hl => (hcur l hl).1) hkey (by first | exact hRo | exact Nat.zero_le _) (by omega) (by rw [htab]; have := hlok.2.1; omega)) callee37 rfl rfl rfl (.cons (AV.Le.refl _) (.cons (AV.Le.refl _) (.cons (AV.Le.refl _) (.cons (AV.Le.refl _) (.cons (AV.Le.refl _) .nil))))) rfl (by exact Nat.le_of_ble_eq_true rfl) (congrArg some (stO_ren cur _).symm) (stO_lt _ _) (stO_ren _) (fun nx => rfl) ?_
            refine wn ?_
            refine exI_as (k : Int) (by show IntKind.i64.wrap (((k + 1 : Nat) : Int) - 1) = _; unfold IntKind.wrap; simp [IntKind.signed, IntKind.bits]; split <;> omega) ?_
            refine wn ?_
            rw [hsn, hs1, hs2] at hk
            rw [hsn] at step
            have hgn := step.good gc
            have hcn := step.count
            refine ⟨(k, putS s cur (t : Nat) (keyR s (t : Nat) R') (R'), (intP cs 3 (p5)), out ++ (Chg.mk (t : Nat) O (R') :: List.nil)), ⟨hgn, by show countS (putS s cur (t : Nat) (keyR s (t : Nat) R') (R')) + k ≤ 512; omega, by show (intP cs 3 (p5)) ≤ cs.length; first | exact hp5 | exact intP_in hp5, by show (out ++ (Chg.mk (t : Nat) O (R') :: List.nil)).length + k ≤ 101; rw [List.length_append]; show out.length + 1 + k ≤ 101; omega, fun c hc => ?_, by rw [hk]; simp⟩, by show k < k + 1; omega, ?_⟩
            · have hc : c ∈ out ++ (Chg.mk (t : Nat) O (R') :: List.nil) := hc
              rcases List.mem_append.1 hc with hc | hc
              · exact hoc c hc
              · rw [List.mem_singleton.1 hc]
                exact ⟨hOl, by first | (show R'.length ≤ _; omega) | exact Nat.zero_le _⟩
            · exact (tmv 5 8 ⟨⟨rfl, rfl, by decide⟩, ⟨rfl, rfl, by decide⟩, ⟨rfl, rfl, by decide⟩, ⟨rfl, rfl, by decide⟩, ⟨(congrArg some (stO_ren (putS s cur (t : Nat) (keyR s (t : Nat) R') (R')) (mv 5 8))).symm, stO_lt _ _, by decide⟩, ⟨(congrArg some (ob_ren_deep (mv 5 8) (all_flat chgC_deep' _))).symm, ob_lt_deep _ (all_flat chgC_deep' _), by decide⟩, trivial⟩)
      · rw [if_neg (by omega)] at hX
        refine wn ?_
        have hp5 := hp3l
        refine callX_tr (A1 := cgR s cs mode (k + 1) cur (p3) out t R') ?_ (by rfl) ?_
        · refine Tr.trans (Tr.obj 6 (ob := ⟨60, 0, 0, [.int .i64 (t : Nat), nilC, nilC]⟩) (by rfl) (cells := chgC ⟨t, [], []⟩) (box_le t)) ?_
          exact (tid ⟨⟨rfl, rfl, by decide⟩, ⟨rfl, rfl, by decide⟩, ⟨rfl, rfl, by decide⟩, ⟨rfl, rfl, by decide⟩, ⟨(congrArg some (stO_ren cur id)).symm, stO_lt _ _, by decide⟩, ⟨(congrArg some (ob_ren_deep id (all_flat chgC_deep' out))).symm, ob_lt_deep _ (all_flat chgC_deep' _), by decide⟩, ⟨rfl, rfl, by decide⟩, trivial⟩)
        refine cle (rkey_spec s (t : Nat) R' hRo) callee18 ?_
        rintro x hx rfl
        refine wn ?_
        refine callX_obs (rget_obs s cur (t : Nat) (keyR s (t : Nat) R') (fun l hl => (hcur l hl).1) (by have := keyR_le s (t : Nat) R'; unfold okR at hRo ⊢; omega)) callee20 (fun _ => 4) (fun j => if j = 4 then some 0 else none) (avs := [.agg (schC s), .agg [.gref 4], .one (.int .i64 (t : Nat)), .one (rowC (keyR s (t : Nat) R'))]) rfl rfl (.cons (AV.Le.refl _) (.cons (AV.Le.refl _) (.cons (AV.Le.refl _) (.cons (AV.Le.refl _) .nil)))) (passed1 (args := [.agg (schC s), .agg [.gref 0], .one (.int .i64 (t : Nat)), .one (rowC (keyR s (t : Nat) R'))]) 4 rfl (by exact Nat.le_of_ble_eq_true rfl) (congrArg some (stO_ren cur _).symm) (stO_lt _ _)) ?_
        rintro x hx rfl
        unfold chgOf at hX
        rw [getV_eq]
        obtain ⟨O, hO⟩ : ∃ O, (getR s cur (t : Nat) (keyR s (t : Nat) R')).getD [] = O := ⟨_, rfl⟩
        rw [hO] at hX ⊢
        have hkey : okR (keyR s (t : Nat) R') := by have := keyR_le s (t : Nat) R'; unfold okR at hRo ⊢; omega
        have hOl : O.length ≤ 1099511627776 := by
          rw [← hO]
          cases hg : getR s cur (t : Nat) (keyR s (t : Nat) R') with
          | none => exact Nat.zero_le _
          | some x =>
            unfold getR at hg
            split at hg
            · exact (hcur _ (List.getElem_mem _)).2.2 x (List.mem_of_find?_eq_some hg)
            · cases hg
        refine wn ?_
        refine exI_as _ rfl ?_
        refine wn ?_
        refine forkB_intro (fun h3 => ?_) (fun h3 => ?_)
        · have h3 : O.length = 0 := by simpa using h3
          rw [if_pos h3] at hX
          have hsn : X.2.1 = putS s cur (t : Nat) (keyR s (t : Nat) R') (R') := by rw [hX]
          have hs1 : X.1 = Chg.mk (t : Nat) O (R') := by rw [hX]
          have hs2 : X.2.2 = p3 := by rw [hX]
          refine wn ?_
          try (refine rq ?_)
          refine wn ?_
          refine reqD_dec (flat_div chgC_len (by decide) _) ?_
          refine reqD_dec (by simp only [flat_len chgC_len]; simp [ty60, ty56]; omega) ?_
          refine forceL_as ((out ++ (Chg.mk (t : Nat) O (R') :: List.nil)).flatMap chgC) (by rw [List.flatMap_append]; rfl) ?_
          refine wn ?_
          refine callX_mut1 4 (.agg [.gref 4]) (put_spec s cur (t : Nat) (keyR s (t : Nat) R') (R') (fun l hl => (hcur l hl).1) hkey (by first | exact hRo | exact Nat.zero_le _) (by omega) (by rw [htab]; have := hlok.2.1; omega)) callee37 rfl rfl rfl (.cons (AV.Le.refl _) (.cons (AV.Le.refl _) (.cons (AV.Le.refl _) (.cons (AV.Le.refl _) (.cons (AV.Le.refl _) .nil))))) rfl (by exact Nat.le_of_ble_eq_true rfl) (congrArg some (stO_ren cur _).symm) (stO_lt _ _) (stO_ren _) (fun nx => rfl) ?_
          refine wn ?_
          refine exI_as (k : Int) (by show IntKind.i64.wrap (((k + 1 : Nat) : Int) - 1) = _; unfold IntKind.wrap; simp [IntKind.signed, IntKind.bits]; split <;> omega) ?_
          refine wn ?_
          rw [hsn, hs1, hs2] at hk
          rw [hsn] at step
          have hgn := step.good gc
          have hcn := step.count
          refine ⟨(k, putS s cur (t : Nat) (keyR s (t : Nat) R') (R'), p3, out ++ (Chg.mk (t : Nat) O (R') :: List.nil)), ⟨hgn, by show countS (putS s cur (t : Nat) (keyR s (t : Nat) R') (R')) + k ≤ 512; omega, by show p3 ≤ cs.length; first | exact hp5 | exact intP_in hp5, by show (out ++ (Chg.mk (t : Nat) O (R') :: List.nil)).length + k ≤ 101; rw [List.length_append]; show out.length + 1 + k ≤ 101; omega, fun c hc => ?_, by rw [hk]; simp⟩, by show k < k + 1; omega, ?_⟩
          · have hc : c ∈ out ++ (Chg.mk (t : Nat) O (R') :: List.nil) := hc
            rcases List.mem_append.1 hc with hc | hc
            · exact hoc c hc
            · rw [List.mem_singleton.1 hc]
              exact ⟨hOl, by first | (show R'.length ≤ _; omega) | exact Nat.zero_le _⟩
          · exact (tmv 5 8 ⟨⟨rfl, rfl, by decide⟩, ⟨rfl, rfl, by decide⟩, ⟨rfl, rfl, by decide⟩, ⟨rfl, rfl, by decide⟩, ⟨(congrArg some (stO_ren (putS s cur (t : Nat) (keyR s (t : Nat) R') (R')) (mv 5 8))).symm, stO_lt _ _, by decide⟩, ⟨(congrArg some (ob_ren_deep (mv 5 8) (all_flat chgC_deep' _))).symm, ob_lt_deep _ (all_flat chgC_deep' _), by decide⟩, trivial⟩)
        · have h3 : ¬ O.length = 0 := by simpa using h3
          rw [if_neg h3] at hX
          refine wn ?_
          refine cm (bool_spec cs h 3 (p3) hp5 (by decide)) (callee17) ?_
          refine wn ?_
          cases hb3 : boolG cs 3 (p3) with
          | true =>
            rw [if_pos hb3] at hX
            have hsn : X.2.1 = putS s cur (t : Nat) (keyR s (t : Nat) R') (List.nil) := by rw [hX]
            have hs1 : X.1 = Chg.mk (t : Nat) O (List.nil) := by rw [hX]
            have hs2 : X.2.2 = (intP cs 3 (p3)) := by rw [hX]
            refine wn ?_
            try (refine rq ?_)
            refine wn ?_
            refine reqD_dec (flat_div chgC_len (by decide) _) ?_
            refine reqD_dec (by simp only [flat_len chgC_len]; simp [ty60, ty56]; omega) ?_
            refine forceL_as ((out ++ (Chg.mk (t : Nat) O (List.nil) :: List.nil)).flatMap chgC) (by rw [List.flatMap_append]; rfl) ?_
            refine wn ?_
            refine callX_mut1 4 (.agg [.gref 4]) (put_spec s cur (t : Nat) (keyR s (t : Nat) R') (List.nil) (fun l hl => (hcur l hl).1) hkey (by first | exact hRo | exact Nat.zero_le _) (by omega) (by rw [htab]; have := hlok.2.1; omega)) callee37 rfl rfl rfl (.cons (AV.Le.refl _) (.cons (AV.Le.refl _) (.cons (AV.Le.refl _) (.cons (AV.Le.refl _) (.cons (AV.Le.refl _) .nil))))) rfl (by exact Nat.le_of_ble_eq_true rfl) (congrArg some (stO_ren cur _).symm) (stO_lt _ _) (stO_ren _) (fun nx => rfl) ?_
            refine wn ?_
            refine exI_as (k : Int) (by show IntKind.i64.wrap (((k + 1 : Nat) : Int) - 1) = _; unfold IntKind.wrap; simp [IntKind.signed, IntKind.bits]; split <;> omega) ?_
            refine wn ?_
            rw [hsn, hs1, hs2] at hk
            rw [hsn] at step
            have hgn := step.good gc
            have hcn := step.count
            refine ⟨(k, putS s cur (t : Nat) (keyR s (t : Nat) R') (List.nil), (intP cs 3 (p3)), out ++ (Chg.mk (t : Nat) O (List.nil) :: List.nil)), ⟨hgn, by show countS (putS s cur (t : Nat) (keyR s (t : Nat) R') (List.nil)) + k ≤ 512; omega, by show (intP cs 3 (p3)) ≤ cs.length; first | exact hp5 | exact intP_in hp5, by show (out ++ (Chg.mk (t : Nat) O (List.nil) :: List.nil)).length + k ≤ 101; rw [List.length_append]; show out.length + 1 + k ≤ 101; omega, fun c hc => ?_, by rw [hk]; simp⟩, by show k < k + 1; omega, ?_⟩
            · have hc : c ∈ out ++ (Chg.mk (t : Nat) O (List.nil) :: List.nil) := hc
              rcases List.mem_append.1 hc with hc | hc
              · exact hoc c hc
              · rw [List.mem_singleton.1 hc]
                exact ⟨hOl, by first | (show R'.length ≤ _; omega) | exact Nat.zero_le _⟩
            · exact (tmv 5 8 ⟨⟨rfl, rfl, by decide⟩, ⟨rfl, rfl, by decide⟩, ⟨rfl, rfl, by decide⟩, ⟨rfl, rfl, by decide⟩, ⟨(congrArg some (stO_ren (putS s cur (t : Nat) (keyR s (t : Nat) R') (List.nil)) (mv 5 8))).symm, stO_lt _ _, by decide⟩, ⟨(congrArg some (ob_ren_deep (mv 5 8) (all_flat chgC_deep' _))).symm, ob_lt_deep _ (all_flat chgC_deep' _), by decide⟩, trivial⟩)
          | false =>
            rw [if_neg (by rw [hb3]; decide)] at hX
            have hsn : X.2.1 = putS s cur (t : Nat) (keyR s (t : Nat) R') (R') := by rw [hX]
            have hs1 : X.1 = Chg.mk (t : Nat) O (R') := by rw [hX]
            have hs2 : X.2.2 = (intP cs 3 (p3)) := by rw [hX]
            refine wn ?_
            try (refine rq ?_)
            refine wn ?_
            refine reqD_dec (flat_div chgC_len (by decide) _) ?_
            refine reqD_dec (by simp only [flat_len chgC_len]; simp [ty60, ty56]; omega) ?_
            refine forceL_as ((out ++ (Chg.mk (t : Nat) O (R') :: List.nil)).flatMap chgC) (by rw [List.flatMap_append]; rfl) ?_
            refine wn ?_
            refine callX_mut1 4 (.agg [.gref 4]) (put_spec s cur (t : Nat) (keyR s (t : Nat) R') (R') (fun l hl => (hcur l hl).1) hkey (by first | exact hRo | exact Nat.zero_le _) (by omega) (by rw [htab]; have := hlok.2.1; omega)) callee37 rfl rfl rfl (.cons (AV.Le.refl _) (.cons (AV.Le.refl _) (.cons (AV.Le.refl _) (.cons (AV.Le.refl _) (.cons (AV.Le.refl _) .nil))))) rfl (by exact Nat.le_of_ble_eq_true rfl) (congrArg some (stO_ren cur _).symm) (stO_lt _ _) (stO_ren _) (fun nx => rfl) ?_
            refine wn ?_
            refine exI_as (k : Int) (by show IntKind.i64.wrap (((k + 1 : Nat) : Int) - 1) = _; unfold IntKind.wrap; simp [IntKind.signed, IntKind.bits]; split <;> omega) ?_
            refine wn ?_
            rw [hsn, hs1, hs2] at hk
            rw [hsn] at step
            have hgn := step.good gc
            have hcn := step.count
            refine ⟨(k, putS s cur (t : Nat) (keyR s (t : Nat) R') (R'), (intP cs 3 (p3)), out ++ (Chg.mk (t : Nat) O (R') :: List.nil)), ⟨hgn, by show countS (putS s cur (t : Nat) (keyR s (t : Nat) R') (R')) + k ≤ 512; omega, by show (intP cs 3 (p3)) ≤ cs.length; first | exact hp5 | exact intP_in hp5, by show (out ++ (Chg.mk (t : Nat) O (R') :: List.nil)).length + k ≤ 101; rw [List.length_append]; show out.length + 1 + k ≤ 101; omega, fun c hc => ?_, by rw [hk]; simp⟩, by show k < k + 1; omega, ?_⟩
            · have hc : c ∈ out ++ (Chg.mk (t : Nat) O (R') :: List.nil) := hc
              rcases List.mem_append.1 hc with hc | hc
              · exact hoc c hc
              · rw [List.mem_singleton.1 hc]
                exact ⟨hOl, by first | (show R'.length ≤ _; omega) | exact Nat.zero_le _⟩
            · exact (tmv 5 8 ⟨⟨rfl, rfl, by decide⟩, ⟨rfl, rfl, by decide⟩, ⟨rfl, rfl, by decide⟩, ⟨rfl, rfl, by decide⟩, ⟨(congrArg some (stO_ren (putS s cur (t : Nat) (keyR s (t : Nat) R') (R')) (mv 5 8))).symm, stO_lt _ _, by decide⟩, ⟨(congrArg some (ob_ren_deep (mv 5 8) (all_flat chgC_deep' _))).symm, ob_lt_deep _ (all_flat chgC_deep' _), by decide⟩, trivial⟩)
  · have en : n = 0 := by have h1 : ¬ (n : Int) > 0 := h1; omega
    subst en
    rw [chgsG, List.append_nil] at hk
    rw [hk]
    refine wn ?_
    refine drawnX_tr (A1 := AS.of 122 1 4 [(8, .one (.ptr 2 0)), (11, .one (.ptr 3 0)), (12, .one (chgsC out))] [(0, caseO cs p1), (2, ⟨25, 0, 0, stC cur⟩), (3, ⟨25, 0, 0, [nilC]⟩)]) ?_ (by rfl) ?_
    · refine Tr.trans (Tr.frz' (T := 41) (s := 1) (B := 24) (cells := cur.flatMap tabC1) 4 cur.length (by rfl) (by decide) (by rw [flat_len tabC1_len, Nat.mul_one]) (all_flat tabC1_deep _)) ?_
      have hS5 : (out.flatMap chgC).map (·.sub 4 (tabsC cur)) = out.flatMap chgC := map_deep (fun c h => AC.sub_deep 4 _ h) _ (all_flat chgC_deep' out)
      refine Tr.trans (Tr.frz' (T := 60) (s := 3) (B := 56) (cells := out.flatMap chgC) 5 out.length (congrArg some (congrArg (Ob.mk 60 3 56) hS5)) (by decide) (flat_len chgC_len _) (all_flat chgC_deep' _)) ?_
      exact tid
    refine drawnX_phase env08_ok (fun _ => true) (List.range 3) (tks 0 3 (.stop)) 1 (lst 4 [3]) (by kernel_rfl) ?_
    refine wn ?_
    refine drawnX_phase env08_ok (fun _ => false) (List.range 4) (.one 3 (.stop)) 0 (lst 4 []) (by kernel_rfl) ?_
    refine wn ?_
    refine drawnX_done (by kernel_rfl) ?_
    refine wn ?_
    refine rtm ?_
    (conv => lhs; whnf)
    rfl
end Go.Proofs.Ve


/-
  VeJd: the reference: equal states, equal changes, the inverse.
-/
set_option linter.unusedVariables false
set_option linter.unusedSimpArgs false
set_option pp.maxSteps 2000
set_option maxHeartbeats 4000000
namespace Go.Proofs.Ve
open Go

theorem rinvert_spec (l : List Chg) (hl : l.length ≤ 2513169434843) (hok : ∀ c ∈ l, okC c) : PSpec Try.prog 30 [.one (chgsC l)] (fun r => r = .one (chgsC (l.reverse.map invC))) := by
  refine pspec_x env08_ok mixed08 Try.func30 rfl 30 rfl _ rfl rfl ?_
  refine wn ?_
  refine exI_as _ rfl ?_
  refine wn ?_
  refine i64 ?_
  refine wn ?_
  refine loopX_of env08_ok mixed08 (σ := Nat) (fun j => AS.of 30 0 (if j = l.length then 0 else 1) [(0, .one (chgsC l)), (4, .one (.int .i64 ((j : Int) - 1))), (3, if j = l.length then .one (.sl true 0 0 []) else .one (.gref 0))] (if j = l.length then [] else [(0, ⟨60, 3, 56, (((l.drop j).reverse).map invC).flatMap chgC⟩)]))
    (fun j => j ≤ l.length) (fun j => j) l.length (fun _ => rfl) ?_ (Nat.le_refl _) ?_
  · simp only [if_true]
    exact Tr.ofId rfl rfl (Nat.zero_le _) (Nat.zero_le _) ⟨⟨rfl, rfl⟩, ⟨rfl, rfl⟩, ⟨rfl, rfl⟩, trivial⟩ trivial
  intro j hj
  by_cases hjl : j = l.length
  · simp only [if_pos hjl]
    refine wn ?_
    refine forkB_dec (fun h => ?_) (fun h => ?_)
    · obtain ⟨k, rfl⟩ : ∃ k, j = k + 1 := ⟨j - 1, by omega⟩
      have hk : k < l.length := by omega
      have hc := hok _ (List.getElem_mem hk)
      have e1 : (((k + 1 : Nat) : Int) - 1).toNat = k := by omega
      refine wn ?_
      refine rq ?_
      refine forceL_as (chgC l[k]) (by rw [e1]; exact flat_get (f := chgC) chgC_len l k hk) ?_
      refine wn ?_
      refine drawnX_phase env08_ok (fun id => id == 0) (List.range 13) (tks 0 5 (tks 6 2 (.one 5 (.one 8 (tks 9 1 (.one 10 (.one 11 (tks 12 1 (.stop))))))))) 0 (lst 13 []) (by kernel_rfl) ?_
      refine wn ?_
      refine cle (rcopy_spec l[k].new hc.2) callee40 ?_
      rintro r hr rfl
      refine wn ?_
      refine cle (rcopy_spec l[k].old hc.1) callee40 ?_
      rintro r hr rfl
      refine wn ?_
      refine rq ?_
      refine wn ?_
      refine forkB_intro (fun h => absurd h (by simp [ty60])) (fun _ => ?_)
      refine wn ?_
      refine rq ?_
      refine wn ?_
      refine drawnX_done (by kernel_rfl) ?_
      refine wn ?_
      refine i64 ?_
      refine wn ?_
      have e2 : ¬ k = l.length := by omega
      refine ⟨k, by omega, by omega, ?_⟩
      simp only [if_neg e2]
      refine Tr.of (fun _ => 2) rfl rfl (Nat.zero_le _) (fun _ h => absurd h (Nat.not_lt_zero _)) (fun k _ => (show 2 < 2 + 1 by decide)) (fun k k' h h' _ => by omega) ⟨⟨rfl, rfl⟩, ⟨?_, rfl⟩, ⟨rfl, rfl⟩, trivial⟩ ⟨⟨?_, ?_, by decide⟩, trivial⟩
      · exact congrArg (fun z => AV.one (AC.int .i64 z)) (by omega)
      · rw [ob_ren_deep _ (all_flat chgC_deep _), drop_map_rev l k hk, List.drop_eq_nil_of_le (by omega)]
        rfl
      · exact ob_lt_deep _ (all_flat chgC_deep _)
    · have e : j = 0 := by omega
      refine wn ?_
      have e2 : l = [] := List.eq_nil_of_length_eq_zero (by omega)
      refine retX_tr (Tr.slot 2 (AV.Le.nilOf (f := chgC) (B := 56) (l := l.reverse.map invC) (by rw [e2]; rfl))) ?_
      refine retX_val rfl ?_
      conv => whnf
      rfl
  · simp only [if_neg hjl]
    refine wn ?_
    refine forkB_dec (fun h => ?_) (fun h => ?_)
    · obtain ⟨k, rfl⟩ : ∃ k, j = k + 1 := ⟨j - 1, by omega⟩
      have hk : k < l.length := by omega
      have hc := hok _ (List.getElem_mem hk)
      have e1 : (((k + 1 : Nat) : Int) - 1).toNat = k := by omega
      refine wn ?_
      refine rq ?_
      refine forceL_as (chgC l[k]) (by rw [e1]; exact flat_get (f := chgC) chgC_len l k hk) ?_
      refine wn ?_
      refine drawnX_phase env08_ok (fun id => id == 1) (List.range 13) (tks 0 5 (tks 6 2 (.one 5 (.one 8 (tks 9 1 (.one 10 (.one 11 (tks 12 1 (.stop))))))))) 0 (lst 13 []) (by kernel_rfl) ?_
      refine wn ?_
      refine cle (rcopy_spec l[k].new hc.2) callee40 ?_
      rintro r hr rfl
      refine wn ?_
      refine cle (rcopy_spec l[k].old hc.1) callee40 ?_
      rintro r hr rfl
      refine wn ?_
      refine rq ?_
      refine wn ?_
      refine reqD_dec (flat_div chgC_len (by decide) _) ?_
      refine reqD_dec (by simp only [flat_len chgC_len]; simp [ty60]; omega) ?_
      refine forceL_as (((((l.drop (k + 1)).reverse).map invC) ++ [invC l[k]]).flatMap chgC) (by rw [List.flatMap_append]; rfl) ?_
      refine wn ?_
      refine drawnX_done (by kernel_rfl) ?_
      refine wn ?_
      refine i64 ?_
      refine wn ?_
      have e2 : ¬ k = l.length := by omega
      refine ⟨k, by omega, by omega, ?_⟩
      simp only [if_neg e2]
      refine Tr.of (fun _ => 3) rfl rfl (Nat.zero_le _) (fun _ h => absurd h (Nat.not_lt_zero _)) (fun k _ => (show 3 < 3 + 1 by decide)) (fun k k' h h' _ => by omega) ⟨⟨rfl, rfl⟩, ⟨?_, rfl⟩, ⟨rfl, rfl⟩, trivial⟩ ⟨⟨?_, ?_, by decide⟩, trivial⟩
      · exact congrArg (fun z => AV.one (AC.int .i64 z)) (by omega)
      · rw [ob_ren_deep _ (all_flat chgC_deep _), drop_map_rev l k hk]
        rfl
      · exact ob_lt_deep _ (all_flat chgC_deep _)
    · have e : j = 0 := by omega
      subst e
      refine wn ?_
      refine retX_tr (Tr.frz' 0 l.length rfl (show 0 < 3 by decide) (by rw [flat_len chgC_len]; simp) (all_flat chgC_deep _)) ?_
      refine retX_val rfl ?_
      conv => whnf
      refine Eq.trans (b := .one (.sl false 56 l.length ((((l.drop 0).reverse).map invC).flatMap chgC))) rfl ?_
      unfold chgsC slC
      simp
theorem callee30 : callee Try.prog 30 := callee_of Try.func30 rfl rfl

theorem same_spec (l : Tab) (hl : okT l) : PSpec Try.prog 55 [.one (tabC l), .one (tabC l)] (fun r => r = .one (.bool true)) := by
  refine pspec_x env08_ok mixed08 Try.func55 rfl 27 rfl _ rfl rfl ?_
  have h1 := hl.1
  refine wn ?_
  refine exI_as _ rfl ?_
  refine wn ?_
  refine exI_as _ rfl ?_
  refine wn ?_
  refine forkB_intro (fun h => absurd h (by simp)) (fun _ => ?_)
  refine wn ?_
  refine exI_as _ rfl ?_
  refine wn ?_
  refine loopX_of env08_ok mixed08 (σ := Nat) (fun i => AS.of 27 0 0 [(0, .one (tabC l)), (1, .one (tabC l)), (12, .one (.int .i64 l.length)), (13, .one (.int .i64 (i : Nat)))] []) (fun i => i ≤ l.length) (fun i => l.length - i) 0 (fun _ => rfl) tid (Nat.zero_le _) ?_
  intro i hi
  have hi : i ≤ l.length := hi
  refine wn ?_
  refine forkB_dec (fun h1 => ?_) (fun h1 => ?_)
  · have hi2 : i < l.length := by have h1 : (i : Int) < l.length := h1; omega
    have hr := hl.2 _ (List.getElem_mem hi2)
    obtain ⟨r, hre⟩ : ∃ r, l[i] = r := ⟨_, rfl⟩
    rw [hre] at hr
    have hr9 : r.length ≤ 9223372036854775807 := Nat.le_trans hr (by decide)
    refine wn ?_
    refine drawnX_phase env08_ok (fun _ => true) (List.range 10) (tks 0 8 (.one 8 (tks 9 1 (.stop)))) 0 (lst 10 []) (by kernel_rfl) ?_
    refine wn ?_
    refine rq ?_
    refine forceL_as (rowC1 r) ((flat_get (f := rowC1) rowC1_len l i hi2).trans (by rw [hre])) ?_
    refine wn ?_
    refine rq ?_
    refine forceL_as (rowC1 r) ((flat_get (f := rowC1) rowC1_len l i hi2).trans (by rw [hre])) ?_
    refine wn ?_
    refine cle (rcompareRows_spec r r hr9 hr9) callee21 ?_
    rintro x hx rfl
    rw [cmpR_self]
    refine wn ?_
    refine drawnX_done (by kernel_rfl) ?_
    refine wn ?_
    refine exI_i64 (by show -9223372036854775808 ≤ (i : Int) + 1; omega) (by show (i : Int) + 1 ≤ 9223372036854775807; omega) ?_
    refine wn ?_
    exact ⟨i + 1, hi2, by show l.length - (i + 1) < l.length - i; omega, tid⟩
  · refine wn ?_
    refine retX_val rfl ?_
    conv => whnf
    rfl
theorem callee55 : callee Try.prog 55 := callee_of Try.func55 rfl rfl
theorem sameS_spec (st : St) (h1 : st.length ≤ 5864062014634) (hst : ∀ l ∈ st, okT l) : PSpec Try.prog 28 [.agg (stC st), .agg (stC st)] (fun r => r = .one (.bool true)) := by
  refine pspec_x env08_ok mixed08 Try.func28 rfl 32 rfl _ rfl rfl ?_
  refine wn ?_
  refine exI_as _ rfl ?_
  refine wn ?_
  refine exI_as _ rfl ?_
  refine wn ?_
  refine forkB_intro (fun h => absurd h (by simp)) (fun _ => ?_)
  refine wn ?_
  refine exI_as _ rfl ?_
  refine wn ?_
  refine loopX_of env08_ok mixed08 (σ := Nat) (fun i => AS.of 32 0 2 [(2, .one (.ptr 0 0)), (3, .one (.ptr 1 0)), (15, .one (.int .i64 st.length)), (16, .one (.int .i64 (i : Nat)))] [(0, ⟨25, 0, 0, stC st⟩), (1, ⟨25, 0, 0, stC st⟩)]) (fun i => i ≤ st.length) (fun i => st.length - i) 0 (fun _ => rfl) tid (Nat.zero_le _) ?_
  intro i hi
  have hi : i ≤ st.length := hi
  refine wn ?_
  refine forkB_dec (fun h1 => ?_) (fun h1 => ?_)
  · have hi2 : i < st.length := by have h1 : (i : Int) < st.length := h1; omega
    have hr := hst _ (List.getElem_mem hi2)
    obtain ⟨l, hle⟩ : ∃ l, st[i] = l := ⟨_, rfl⟩
    rw [hle] at hr
    refine wn ?_
    refine drawnX_phase env08_ok (fun _ => true) (List.range 12) (tks 0 10 (.one 10 (tks 11 1 (.stop)))) 0 (lst 12 []) (by kernel_rfl) ?_
    refine wn ?_
    refine rq ?_
    refine forceL_as (tabC1 l) ((flat_get (f := tabC1) tabC1_len st i hi2).trans (by rw [hle])) ?_
    refine wn ?_
    refine rq ?_
    refine forceL_as (tabC1 l) ((flat_get (f := tabC1) tabC1_len st i hi2).trans (by rw [hle])) ?_
    refine wn ?_
    refine cle (same_spec l hr) callee55 ?_
    rintro x hx rfl
    refine wn ?_
    refine drawnX_done (by kernel_rfl) ?_
    refine wn ?_
    refine exI_i64 (by show -9223372036854775808 ≤ (i : Int) + 1; omega) (by show (i : Int) + 1 ≤ 9223372036854775807; omega) ?_
    refine wn ?_
    exact ⟨i + 1, hi2, by show st.length - (i + 1) < st.length - i; omega, tid⟩
  · refine wn ?_
    refine retX_val rfl ?_
    conv => whnf
    rfl
theorem callee28 : callee Try.prog 28 := callee_of Try.func28 rfl rfl
theorem sameC_spec (l : List Chg) (h1 : l.length ≤ 2513169434843) (hl : ∀ c ∈ l, okC c) : PSpec Try.prog 29 [.one (chgsC l), .one (chgsC l)] (fun r => r = .one (.bool true)) := by
  refine pspec_x env08_ok mixed08 Try.func29 rfl 56 rfl _ rfl rfl ?_
  refine wn ?_
  refine exI_as _ rfl ?_
  refine wn ?_
  refine exI_as _ rfl ?_
  refine wn ?_
  refine forkB_intro (fun h => absurd h (by simp)) (fun _ => ?_)
  refine wn ?_
  refine exI_as _ rfl ?_
  refine wn ?_
  refine loopX_of env08_ok mixed08 (σ := Nat) (fun i => AS.of 56 0 0 [(0, .one (chgsC l)), (1, .one (chgsC l)), (12, .one (.int .i64 l.length)), (13, .one (.int .i64 (i : Nat)))] []) (fun i => i ≤ l.length) (fun i => l.length - i) 0 (fun _ => rfl) tid (Nat.zero_le _) ?_
  intro i hi
  have hi : i ≤ l.length := hi
  refine wn ?_
  refine forkB_dec (fun h1 => ?_) (fun h1 => ?_)
  · have hi2 : i < l.length := by have h1 : (i : Int) < l.length := h1; omega
    have hr := hl _ (List.getElem_mem hi2)
    obtain ⟨c, hce⟩ : ∃ c, l[i] = c := ⟨_, rfl⟩
    rw [hce] at hr
    have ho9 : c.old.length ≤ 9223372036854775807 := Nat.le_trans hr.1 (by decide)
    have hn9 : c.new.length ≤ 9223372036854775807 := Nat.le_trans hr.2 (by decide)
    refine wn ?_
    refine drawnX_phase env08_ok (fun _ => true) (List.range 39) (tks 0 22 (.one 22 (tks 23 13 (.one 36 (tks 37 2 (.stop)))))) 0 (lst 39 []) (by kernel_rfl) ?_
    refine wn ?_
    repeat (first
      | (refine rq ?_)
      | (refine forceL_as (chgC c) ((flat_get (f := chgC) chgC_len l i hi2).trans (by rw [hce])) ?_; refine wn ?_)
      | (refine forkB_intro (fun h => absurd h (by simp)) (fun _ => ?_); refine wn ?_)
      | (refine callX_le (rcompareRows_spec c.old c.old ho9 ho9) callee21 rfl rfl (.cons (AV.Le.refl _) (.cons (AV.Le.refl _) .nil)) rfl ?_; rintro x hx rfl; rw [cmpR_self]; refine wn ?_)
      | (refine callX_le (rcompareRows_spec c.new c.new hn9 hn9) callee21 rfl rfl (.cons (AV.Le.refl _) (.cons (AV.Le.refl _) .nil)) rfl ?_; rintro x hx rfl; rw [cmpR_self]; refine wn ?_))
    refine drawnX_done (by kernel_rfl) ?_
    refine wn ?_
    refine exI_i64 (by show -9223372036854775808 ≤ (i : Int) + 1; omega) (by show (i : Int) + 1 ≤ 9223372036854775807; omega) ?_
    refine wn ?_
    exact ⟨i + 1, hi2, by show l.length - (i + 1) < l.length - i; omega, tid⟩
  · refine wn ?_
    refine retX_val rfl ?_
    conv => whnf
    rfl
theorem callee29 : callee Try.prog 29 := callee_of Try.func29 rfl rfl
end Go.Proofs.Ve


/-
  VeJe: TableInverts: the walk.
-/
set_option linter.unusedVariables false
set_option linter.unusedSimpArgs false
set_option pp.maxSteps 2000
set_option maxHeartbeats 4000000
namespace Go.Proofs.Ve
open Go

theorem fits_le {s : Sch} (hc : ∀ T ∈ s.tables, T.cols.length ≤ 1099511627776) {t mode : Int} {r : Row} (h : fitsS s t r mode = true) : r.length ≤ 1099511627776 := by
  unfold fitsS at h
  split at h
  · simp only [Bool.and_eq_true, decide_eq_true_eq] at h
    rw [h.1]
    exact hc _ (List.getElem_mem _)
  · cases h
theorem rowK_ok {s : Sch} (hc : ∀ T ∈ s.tables, T.cols.length ≤ 1099511627776) {t mode : Int} {key r : Row} (h : rowK s mode t key r) : okR r := by
  unfold okR
  by_cases k : r.length > 0
  · have := fits_le hc (h.fit k); omega
  · omega
theorem Steps.okC {s : Sch} {mode : Int} (hc : ∀ T ∈ s.tables, T.cols.length ≤ 1099511627776) : ∀ {l : List Chg} {st st' : St}, Steps s mode st l st' → ∀ c ∈ l, okC c
  | [], st, st', h, c, hcm => by cases hcm
  | d :: l, st, st', ⟨m, A, B, key, h, hr⟩, c, hcm => by
    rcases List.mem_cons.1 hcm with rfl | hcm
    · exact ⟨rowK_ok hc h.old, rowK_ok hc h.new⟩
    · exact Steps.okC hc hr c hcm
theorem apply_steps {s : Sch} {mode : Int} {st st' : St} {l : List Chg} (h53 : PSpec Try.prog 53 [.agg (schC s)] (fun x => x = .one (.int .i64 0))) (hm : 1 ≤ mode ∧ mode ≤ 3) (hc : ∀ T ∈ s.tables, T.cols.length ≤ 1099511627776) (hn : s.tables.length ≤ 8) (g : Good s mode st)
    (hl : l.length ≤ 1099511627776) (h : Steps s mode st l st') : PSpec Try.prog 23 [.agg (schC s), .one (.int .i64 mode), .agg (stC st), .one (chgsC l)] (fun r => r = applyV (st', 0)) := by
  have := apply_spec s 0 mode st l h53 (by rw [g.len]; omega) (fun l hl => (g.okT hc l hl).1) (Nat.le_trans g.cnt (by decide)) hl (h.okC hc) (fun _ => h.apply.2)
  rw [h.applyS hm g] at this
  exact this
theorem callee23 : callee Try.prog 23 := callee_of Try.func23 rfl rfl
theorem callee27' : callee Try.prog 27 := callee_of Try.func27 rfl rfl
theorem inv_inv (l : List Chg) : (l.reverse.map invC).reverse.map invC = l := by
  rw [← List.map_reverse, List.reverse_reverse, List.map_map]
  exact (List.map_congr_left fun c _ => rfl).trans (List.map_id l)
theorem inv_ok {l : List Chg} (h : ∀ c ∈ l, okC c) : ∀ c ∈ l.reverse.map invC, okC c := by
  intro c hc
  obtain ⟨d, hd, rfl⟩ := List.mem_map.1 hc
  have := h d (List.mem_reverse.1 hd)
  exact ⟨this.2, this.1⟩
theorem inverts_spec (codes : List Int) (hcodes : ok8 codes) (raw : List Chg) (hrl : raw.length ≤ 2513169434843) (hraw : ∀ c ∈ raw, okC c) :
    PSpec Try.prog 5 [.one (slC byteC 1 codes), .one (chgsC raw)] (fun r => r = .one (.bool true)) := by
  refine pspec_x env08_ok mixed08 Try.func5 rfl 65 rfl _ rfl rfl ?_
  refine wn ?_
  refine callX_new (new_spec codes hcodes 160 (by decide)) callee9 (fun n => .one (.ptr n 0)) (fun n => by simp [AV.ren, AC.ren, cren]) (fun ρ => caseO_ren _ _ ρ) rfl rfl (.cons (AV.Le.refl _) (.cons (AV.Le.refl _) .nil)) rfl ?_
  have h : ok8 (codes.take 160) := ⟨by rw [List.length_take]; omega, fun x hx => hcodes.byte x (List.mem_of_mem_take hx)⟩
  obtain ⟨cs, hcs⟩ : ∃ cs, codes.take 160 = cs := ⟨_, rfl⟩
  rw [hcs] at h ⊢
  refine wn ?_
  refine cm (gschema_spec cs h 0 (Nat.zero_le _)) (callee10) ?_
  refine wn ?_
  have hS := schemaG_of h 0
  have hp1 := schemaG_in (cs := cs) (p := 0) (Nat.zero_le _)
  obtain ⟨S, hSe⟩ : ∃ S, (schemaG cs 0).1 = S := ⟨_, rfl⟩
  obtain ⟨P1, hP1⟩ : ∃ P1, (schemaG cs 0).2 = P1 := ⟨_, rfl⟩
  rw [hSe] at hS ⊢
  rw [hP1] at hp1 ⊢
  have hcols2 : ∀ T ∈ S.tables, T.cols.length ≤ 1099511627776 := fun T hT => Nat.le_trans (hS.cols T hT).2 (by decide)
  have hnt := hS.len
  have hK := hS.okK
  have h53 := hS.spec h
  have m0 := intG_lo cs h 3 P1
  have m3 := intG_hi cs h 3 (by decide) P1
  refine cm (int_spec cs h 3 P1 hp1) (callee25) ?_
  refine wn ?_
  refine i64 ?_
  refine wn ?_
  obtain ⟨m, hm⟩ : ∃ m, 1 + intG cs 3 P1 = m := ⟨_, rfl⟩
  have hm3 : 1 ≤ m ∧ m ≤ 3 := by omega
  rw [hm]
  have hp2 := intP_in (n := 3) hp1
  generalize intP cs 3 P1 = P2 at hp2 ⊢
  refine wn ?_
  obtain ⟨g, hcnt⟩ := stateG_good h hK (by omega) hm3 P2
  have hW := (stateG_ok h hS.cols m hp2).2
  refine cm (state_spec cs h S hcols2 (by omega) m P2 hp2) (callee11) ?_
  refine wn ?_
  obtain ⟨st, hst⟩ : ∃ st, (stateG cs S m P2).1 = st := ⟨_, rfl⟩
  obtain ⟨P3, hP3⟩ : ∃ P3, (stateG cs S m P2).2 = P3 := ⟨_, rfl⟩
  rw [hst] at g hcnt ⊢
  rw [hP3] at hW ⊢
  refine wn ?_
  have hst6 := changesG_steps h hK (by omega) hm3 g (most := 6) (by decide) (by show _ + 6 ≤ 512; omega) P3
  have hl6 : (changesG cs S m st 6 P3).1.length ≤ 6 := by
    unfold changesG
    rw [chgsG_len]
    have := intG_hi cs h 7 (by decide) P3
    show (intG cs 7 P3).toNat ≤ 6
    omega
  refine cm (changes_spec cs h S hK hcols2 (by omega) m hm3 st g 6 (by decide) (by show _ + 6 ≤ 512; omega) P3 hW) (callee26) ?_
  refine wn ?_
  obtain ⟨l, hl⟩ : ∃ l, (changesG cs S m st 6 P3).1 = l := ⟨_, rfl⟩
  obtain ⟨st', hst'⟩ : ∃ st', (changesG cs S m st 6 P3).2.1 = st' := ⟨_, rfl⟩
  rw [hl, hst'] at hst6 ⊢
  rw [hl] at hl6
  refine wn ?_
  have hlc := hst6.okC hcols2
  have g' := hst6.good g
  have hrev := hst6.rev
  have happ := apply_steps h53 hm3 hcols2 (by omega) g' (by rw [List.length_map, List.length_reverse]; omega) hrev
  refine drawnX_tr (A1 := AS.of 65 0 4 [(1, .one (chgsC raw)), (6, .one (.ptr 1 0)), (7, .one (.int .i64 m)), (8, .one (.ptr 2 0)), (9, .one (chgsC l)), (10, .one (.ptr 3 0))] [(1, ⟨32, 0, 0, schC S⟩), (2, ⟨25, 0, 0, stC st⟩), (3, ⟨25, 0, 0, stC st'⟩)]) tid (by rfl) ?_
  refine drawnX_phase env08_ok (fun id => id < 4) (List.range 12) (tks 0 4 (.two 4 9 (.two 5 9 (.take 6 (.take 7 (.take 8 (.one 9 (.one 10 (.take 11 (.stop))))))) (.one 5 (.take 6 (.take 7 (.take 8 (.one 10 (.take 11 (.stop)))))))) (.one 4 (.one 5 (.take 6 (.take 7 (.take 8 (.one 10 (.take 11 (.stop)))))))))) 0 (lst 12 []) (by kernel_rfl) ?_
  refine wn ?_
  refine ⟨?_, ?_⟩
  · refine wn ?_
    refine cle (invert_spec l (by omega) hlc) callee27' ?_
    rintro x hx rfl
    refine wn ?_
    refine ⟨?_, ?_⟩
    · refine wn ?_
      refine cle happ callee23 ?_
      rintro x hx rfl
      refine wn ?_
      refine drawnX_done (by kernel_rfl) ?_
      refine wn ?_
      refine cle begun_spec (callee_of Try.func22 rfl rfl) ?_
      rintro x hx rfl
      refine wm ?_
      repeat' (first | (refine i64 ?_; refine wm ?_) | (refine exI_as _ rfl ?_; refine wm ?_) | (refine forkB_dec (fun _ => ?_) (fun _ => ?_) <;> refine wm ?_) | (refine forkB_intro (fun _ => ?_) (fun _ => ?_) <;> refine wm ?_))
      refine cle (sameS_spec st (by have := g.len; omega) (fun l hl => (g.okT hcols2 l hl).1)) callee28 ?_
      rintro x hx rfl
      refine wm ?_
      repeat' (first | (refine i64 ?_; refine wm ?_) | (refine exI_as _ rfl ?_; refine wm ?_) | (refine forkB_dec (fun _ => ?_) (fun _ => ?_) <;> refine wm ?_) | (refine forkB_intro (fun _ => ?_) (fun _ => ?_) <;> refine wm ?_))
      refine cle (invert_spec raw hrl hraw) callee27' ?_
      rintro x hx rfl
      refine wn ?_
      refine cle (rinvert_spec raw hrl hraw) callee30 ?_
      rintro x hx rfl
      refine wn ?_
      refine cle (sameC_spec (raw.reverse.map invC) (by rw [List.length_map, List.length_reverse]; exact hrl) (inv_ok hraw)) callee29 ?_
      rintro x hx rfl
      refine wm ?_
      repeat' (first | (refine i64 ?_; refine wm ?_) | (refine exI_as _ rfl ?_; refine wm ?_) | (refine forkB_dec (fun _ => ?_) (fun _ => ?_) <;> refine wm ?_) | (refine forkB_intro (fun _ => ?_) (fun _ => ?_) <;> refine wm ?_))
      refine cle (invert_spec l (by omega) hlc) callee27' ?_
      rintro x hx rfl
      refine wn ?_
      refine cle (invert_spec (l.reverse.map invC) (by rw [List.length_map, List.length_reverse]; omega) (inv_ok hlc)) callee27' ?_
      rintro x hx rfl
      rw [inv_inv]
      refine wn ?_
      refine cle (sameC_spec l (by omega) hlc) callee29 ?_
      rintro x hx rfl
      refine wm ?_
      repeat' (first | (refine i64 ?_; refine wm ?_) | (refine exI_as _ rfl ?_; refine wm ?_) | (refine forkB_dec (fun _ => ?_) (fun _ => ?_) <;> refine wm ?_) | (refine forkB_intro (fun _ => ?_) (fun _ => ?_) <;> refine wm ?_))
      refine retX_val rfl ?_
      conv => whnf
      rfl
    · refine wn ?_
      refine cle happ callee23 ?_
      rintro x hx rfl
      refine wn ?_
      refine drawnX_done (by kernel_rfl) ?_
      refine wn ?_
      refine cle begun_spec (callee_of Try.func22 rfl rfl) ?_
      rintro x hx rfl
      refine wm ?_
      repeat' (first | (refine i64 ?_; refine wm ?_) | (refine exI_as _ rfl ?_; refine wm ?_) | (refine forkB_dec (fun _ => ?_) (fun _ => ?_) <;> refine wm ?_) | (refine forkB_intro (fun _ => ?_) (fun _ => ?_) <;> refine wm ?_))
      refine cle (sameS_spec st (by have := g.len; omega) (fun l hl => (g.okT hcols2 l hl).1)) callee28 ?_
      rintro x hx rfl
      refine wm ?_
      repeat' (first | (refine i64 ?_; refine wm ?_) | (refine exI_as _ rfl ?_; refine wm ?_) | (refine forkB_dec (fun _ => ?_) (fun _ => ?_) <;> refine wm ?_) | (refine forkB_intro (fun _ => ?_) (fun _ => ?_) <;> refine wm ?_))
      refine cle (invert_spec raw hrl hraw) callee27' ?_
      rintro x hx rfl
      refine wn ?_
      refine cle (rinvert_spec raw hrl hraw) callee30 ?_
      rintro x hx rfl
      refine wn ?_
      refine cle (sameC_spec (raw.reverse.map invC) (by rw [List.length_map, List.length_reverse]; exact hrl) (inv_ok hraw)) callee29 ?_
      rintro x hx rfl
      refine wm ?_
      repeat' (first | (refine i64 ?_; refine wm ?_) | (refine exI_as _ rfl ?_; refine wm ?_) | (refine forkB_dec (fun _ => ?_) (fun _ => ?_) <;> refine wm ?_) | (refine forkB_intro (fun _ => ?_) (fun _ => ?_) <;> refine wm ?_))
      refine cle (invert_spec l (by omega) hlc) callee27' ?_
      rintro x hx rfl
      refine wn ?_
      refine cle (invert_spec (l.reverse.map invC) (by rw [List.length_map, List.length_reverse]; omega) (inv_ok hlc)) callee27' ?_
      rintro x hx rfl
      rw [inv_inv]
      refine wn ?_
      refine cle (sameC_spec l (by omega) hlc) callee29 ?_
      rintro x hx rfl
      refine wm ?_
      repeat' (first | (refine i64 ?_; refine wm ?_) | (refine exI_as _ rfl ?_; refine wm ?_) | (refine forkB_dec (fun _ => ?_) (fun _ => ?_) <;> refine wm ?_) | (refine forkB_intro (fun _ => ?_) (fun _ => ?_) <;> refine wm ?_))
      refine retX_val rfl ?_
      conv => whnf
      rfl
  · refine wn ?_
    refine cle (invert_spec l (by omega) hlc) callee27' ?_
    rintro x hx rfl
    refine wn ?_
    refine cle happ callee23 ?_
    rintro x hx rfl
    refine wn ?_
    refine drawnX_done (by kernel_rfl) ?_
    refine wn ?_
    refine cle begun_spec (callee_of Try.func22 rfl rfl) ?_
    rintro x hx rfl
    refine wm ?_
    repeat' (first | (refine i64 ?_; refine wm ?_) | (refine exI_as _ rfl ?_; refine wm ?_) | (refine forkB_dec (fun _ => ?_) (fun _ => ?_) <;> refine wm ?_) | (refine forkB_intro (fun _ => ?_) (fun _ => ?_) <;> refine wm ?_))
    refine cle (sameS_spec st (by have := g.len; omega) (fun l hl => (g.okT hcols2 l hl).1)) callee28 ?_
    rintro x hx rfl
    refine wm ?_
    repeat' (first | (refine i64 ?_; refine wm ?_) | (refine exI_as _ rfl ?_; refine wm ?_) | (refine forkB_dec (fun _ => ?_) (fun _ => ?_) <;> refine wm ?_) | (refine forkB_intro (fun _ => ?_) (fun _ => ?_) <;> refine wm ?_))
    refine cle (invert_spec raw hrl hraw) callee27' ?_
    rintro x hx rfl
    refine wn ?_
    refine cle (rinvert_spec raw hrl hraw) callee30 ?_
    rintro x hx rfl
    refine wn ?_
    refine cle (sameC_spec (raw.reverse.map invC) (by rw [List.length_map, List.length_reverse]; exact hrl) (inv_ok hraw)) callee29 ?_
    rintro x hx rfl
    refine wm ?_
    repeat' (first | (refine i64 ?_; refine wm ?_) | (refine exI_as _ rfl ?_; refine wm ?_) | (refine forkB_dec (fun _ => ?_) (fun _ => ?_) <;> refine wm ?_) | (refine forkB_intro (fun _ => ?_) (fun _ => ?_) <;> refine wm ?_))
    refine cle (invert_spec l (by omega) hlc) callee27' ?_
    rintro x hx rfl
    refine wn ?_
    refine cle (invert_spec (l.reverse.map invC) (by rw [List.length_map, List.length_reverse]; omega) (inv_ok hlc)) callee27' ?_
    rintro x hx rfl
    rw [inv_inv]
    refine wn ?_
    refine cle (sameC_spec l (by omega) hlc) callee29 ?_
    rintro x hx rfl
    refine wm ?_
    repeat' (first | (refine i64 ?_; refine wm ?_) | (refine exI_as _ rfl ?_; refine wm ?_) | (refine forkB_dec (fun _ => ?_) (fun _ => ?_) <;> refine wm ?_) | (refine forkB_intro (fun _ => ?_) (fun _ => ?_) <;> refine wm ?_))
    refine retX_val rfl ?_
    conv => whnf
    rfl
end Go.Proofs.Ve

