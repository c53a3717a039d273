/-
  VeSix: joined by wip/tools/merge.py out of VeK1 VeK2 VeK3 VeK4 VeK5 VeK6 VeK7 VeK8 VeK9 VeKa.
-/
import Derived.Laws.StructEq
import Derived.Test.YtcdfmdiifgpdnaaVeFiv
import Derived.Test.YtcdfmdiifgpdnaaVeTri
/-
  VeK1: the case generator: numbers.
-/
set_option linter.unusedVariables false
set_option linter.unusedSimpArgs false
set_option pp.maxSteps 2000
namespace Go.Proofs.Ve
open Go

def byteC (b : Int) : List AC := [.int .u8 b]
theorem byteC_len (b : Int) : (byteC b).length = 1 := rfl
theorem byteC_deep (b : Int) : (byteC b).all (·.deep) = true := rfl
def caseO (cs : List Int) (p : Nat) : Ob := ⟨78, 0, 0, [slC byteC 1 cs, .int .i64 p]⟩
structure ok8 (cs : List Int) : Prop where
  len : cs.length ≤ 140737488355328
  byte : ∀ x ∈ cs, 0 ≤ x ∧ x < 256
theorem caseO_ren (cs : List Int) (p : Nat) (ρ : Nat → Nat) : (caseO cs p).ren ρ = caseO cs p := rfl

def intG (cs : List Int) (n : Int) (p : Nat) : Int := if p < cs.length ∧ 1 ≤ n then (cs.getD p 0).tmod n else 0
def intP (cs : List Int) (n : Int) (p : Nat) : Nat := if p < cs.length ∧ 1 ≤ n then p + 1 else p
theorem intP_no {cs : List Int} {n : Int} {p : Nat} (h : ¬ (p < cs.length ∧ 1 ≤ n)) : intG cs n p = 0 ∧ intP cs n p = p := by
  unfold intG intP
  rw [if_neg h, if_neg h]
  exact ⟨rfl, rfl⟩
theorem intP_yes {cs : List Int} {n : Int} {p : Nat} (h1 : p < cs.length) (h2 : 1 ≤ n) : intG cs n p = cs[p].tmod n ∧ intP cs n p = p + 1 := by
  unfold intG intP
  rw [if_pos ⟨h1, h2⟩, if_pos ⟨h1, h2⟩, List.getD_eq_getElem?_getD, List.getElem?_eq_getElem h1]
  exact ⟨rfl, rfl⟩

theorem int_spec (cs : List Int) (h : ok8 cs) (n : Int) (p : Nat) (hp : p ≤ cs.length) : MSpec Try.prog 25 [.one (.ptr 0 0), .one (.int .i64 n)] (caseO cs p) (caseO cs (intP cs n p)) (.one (.int .i64 (intG cs n p))) := by
  refine mspec_x env08_ok mixed08 Try.func25 rfl 40 rfl _ rfl rfl ?_
  have hl := h.len
  have hp : p ≤ 140737488355328 := by omega
  refine wn ?_
  refine drawnX_phase env08_ok (fun _ => true) (List.range 14) (tks 0 14 (.stop)) 0 (lst 14 []) (by kernel_rfl) ?_
  refine wn ?_
  refine exI_as _ rfl ?_
  refine wn ?_
  refine forkB_dec (fun h1 => ?_) (fun h1 => ?_)
  · obtain ⟨e1, e2⟩ := intP_no (cs := cs) (n := n) (p := p) (by omega)
    refine wn ?_
    refine drawnX_done (by kernel_rfl) ?_
    refine wn ?_
    rw [e1, e2]
    exact rtm rfl
  · refine wn ?_
    refine forkB_dec (fun h2 => ?_) (fun h2 => ?_)
    · obtain ⟨e1, e2⟩ := intP_no (cs := cs) (n := n) (p := p) (by omega)
      refine wn ?_
      refine drawnX_done (by kernel_rfl) ?_
      refine wn ?_
      rw [e1, e2]
      exact rtm rfl
    · have h1 : p < cs.length := by omega
      obtain ⟨e1, e2⟩ := intP_yes (cs := cs) (n := n) (p := p) h1 (by omega)
      have hb := h.byte _ (List.getElem_mem h1)
      refine wn ?_
      refine drawnX_done (by kernel_rfl) ?_
      refine wn ?_
      refine exI_as ((p + 1 : Nat) : Int) (by show IntKind.i64.wrap ((p : Int) + 1) = _; unfold IntKind.wrap; simp [IntKind.signed, IntKind.bits]; split <;> omega) ?_
      refine wn ?_
      refine drawnX_phase env08_ok (fun _ => true) (List.range 15) (tks 0 15 (.stop)) 0 (lst 15 []) (by kernel_rfl) ?_
      refine wn ?_
      refine exI_as (p : Int) (by show IntKind.i64.wrap (((p + 1 : Nat) : Int) - 1) = _; unfold IntKind.wrap; simp [IntKind.signed, IntKind.bits]; split <;> omega) ?_
      refine wn ?_
      refine reqD_dec (by omega) ?_
      refine wn ?_
      refine forceL_as (byteC cs[p]) (flat_get (f := byteC) byteC_len cs p h1) ?_
      refine wn ?_
      refine i64 ?_
      refine wn ?_
      have er : bopI BinOp.rem IntKind.i64 cs[p] n = some (.int .i64 (cs[p].tmod n)) := by rw [bopI, if_neg (by omega)]
      rw [er]
      refine wn ?_
      refine exI_as _ rfl ?_
      refine wn ?_
      refine drawnX_done (by kernel_rfl) ?_
      refine wn ?_
      rw [e1, e2]
      exact rtm rfl
theorem callee25 : callee Try.prog 25 := callee_of Try.func25 rfl rfl
theorem intG_lo (cs : List Int) (h : ok8 cs) (n : Int) (p : Nat) : 0 ≤ intG cs n p := by
  unfold intG
  split
  · rename_i hc
    rw [List.getD_eq_getElem?_getD, List.getElem?_eq_getElem hc.1]
    have := h.byte _ (List.getElem_mem hc.1)
    exact Int.tmod_nonneg _ this.1
  · omega
theorem intG_hi (cs : List Int) (h : ok8 cs) (n : Int) (hn : 1 ≤ n) (p : Nat) : intG cs n p < n := by
  unfold intG
  split
  · rename_i hc
    exact Int.tmod_lt_of_pos _ (by omega)
  · omega
theorem intP_le (cs : List Int) (n : Int) (p : Nat) : p ≤ intP cs n p ∧ intP cs n p ≤ p + 1 ∧ (p ≤ cs.length → intP cs n p ≤ cs.length) := by
  unfold intP
  split <;> omega

/-- Int is called; what it takes and gives. -/
def boolG (cs : List Int) (n : Int) (p : Nat) : Bool := intG cs n p == n - 1

theorem bool_spec (cs : List Int) (h : ok8 cs) (n : Int) (p : Nat) (hp : p ≤ cs.length) (hn : 1 ≤ n ∧ n ≤ 1000) : MSpec Try.prog 17 [.one (.ptr 0 0), .one (.int .i64 n)] (caseO cs p) (caseO cs (intP cs n p)) (.one (.bool (boolG cs n p))) := by
  refine mspec_x env08_ok mixed08 Try.func17 rfl 11 rfl _ rfl rfl ?_
  refine wn ?_
  refine cm (int_spec cs h (n) (p) (by first | assumption | omega)) callee25 ?_
  refine wn ?_
  refine i64 ?_
  refine wn ?_
  refine forkB_intro (fun h1 => ?_) (fun h1 => ?_)
  · have h1 : boolG cs n p = true := h1
    refine wn ?_
    refine rtm ?_
    (conv => lhs; whnf)
    rw [h1]
  · have h1 : boolG cs n p = false := h1
    refine wn ?_
    refine rtm ?_
    (conv => lhs; whnf)
    rw [h1]
theorem callee17 : callee Try.prog 17 := callee_of Try.func17 rfl rfl
def numberG (cs : List Int) (p : Nat) : Int := if intG cs 12 p = 9 then -1 else if intG cs 12 p = 10 then 9223372036854775807 else if intG cs 12 p = 11 then -9223372036854775808 else (intG cs 12 p).tmod 4
theorem number_spec (cs : List Int) (h : ok8 cs) (p : Nat) (hp : p ≤ cs.length) : MSpec Try.prog 60 [.one (.ptr 0 0)] (caseO cs p) (caseO cs (intP cs 12 p)) (.one (.int .i64 (numberG cs p))) := by
  refine mspec_x env08_ok mixed08 Try.func60 rfl 15 rfl _ rfl rfl ?_
  refine wn ?_
  refine cm (int_spec cs h (12) (p) (by first | assumption | omega)) callee25 ?_
  refine wn ?_
  refine wm ?_
  repeat' (first | (refine i64 ?_; refine wm ?_) | (refine exI_as _ rfl ?_; refine wm ?_) | (refine forkB_dec (fun _ => ?_) (fun _ => ?_) <;> refine wm ?_) | (refine forkB_intro (fun _ => ?_) (fun _ => ?_) <;> refine wm ?_))
  all_goals
    refine rtm ?_
    (conv => lhs; whnf)
    simp_all [numberG]
theorem callee60 : callee Try.prog 60 := callee_of Try.func60 rfl rfl

def longB (x : UInt8) : Nat → ByteArray
  | 0 => ⟨#[]⟩
  | n + 1 => longB x n ++ ⟨#[x]⟩
theorem longB_size (x : UInt8) : ∀ n, (longB x n).size = n
  | 0 => rfl
  | n + 1 => by rw [longB, ByteArray.size_append, longB_size x n]; rfl
def textG (cs : List Int) (p : Nat) : ByteArray :=
  if intG cs 10 p = 0 ∨ intG cs 10 p = 1 ∨ intG cs 10 p = 2 then ⟨#[97]⟩ else if intG cs 10 p = 3 ∨ intG cs 10 p = 4 then ⟨#[98]⟩ else if intG cs 10 p = 5 then ⟨#[]⟩ else if intG cs 10 p = 6 then ⟨#[97, 0]⟩
  else if intG cs 10 p = 7 then ⟨#[255]⟩ else if intG cs 10 p = 8 then longB 255 64 else longB 98 64
theorem longB_next (x : UInt8) (i : Nat) (hi : i < 64) : bopS BinOp.add (longB x i) ⟨#[x]⟩ = some (.str (longB x (i + 1))) := by
  have e : ((longB x i).size + (⟨#[x]⟩ : ByteArray).size : Nat) = i + 1 := by rw [longB_size]; rfl
  rw [bopS, e, if_neg (by omega)]
  rfl
theorem text_spec (cs : List Int) (h : ok8 cs) (p : Nat) (hp : p ≤ cs.length) : MSpec Try.prog 61 [.one (.ptr 0 0)] (caseO cs p) (caseO cs (intP cs 10 p)) (.one (.str (textG cs p))) := by
  refine mspec_x env08_ok mixed08 Try.func61 rfl 37 rfl _ rfl rfl ?_
  refine wn ?_
  refine cm (int_spec cs h (10) (p) (by first | assumption | omega)) callee25 ?_
  refine wn ?_
  refine wm ?_
  repeat' (first | (refine i64 ?_; refine wm ?_) | (refine exI_as _ rfl ?_; refine wm ?_) | (refine forkB_dec (fun _ => ?_) (fun _ => ?_) <;> refine wm ?_) | (refine forkB_intro (fun _ => ?_) (fun _ => ?_) <;> refine wm ?_))
  any_goals
    refine rtm ?_
    (conv => lhs; whnf)
    simp_all [textG]
    done
  · refine loopX_of env08_ok mixed08 (σ := Nat) (fun i => AS.of 37 1 1 [(3, .one (.str (longB 255 i))), (4, .one (.int .i64 (i : Nat)))] [(0, caseO cs (intP cs 10 p))]) (fun i => i ≤ 64) (fun i => 64 - i) 0 (fun _ => rfl) tid (by decide) ?_
    intro i hi
    refine wn ?_
    refine forkB_dec (fun h1 => ?_) (fun h1 => ?_)
    · refine wn ?_
      rw [longB_next 255 i (by omega)]
      refine wn ?_
      refine i64 ?_
      refine wn ?_
      exact ⟨i + 1, by omega, by omega, tid⟩
    · have ei : i = 64 := by omega
      subst ei
      refine wn ?_
      refine rtm ?_
      (conv => lhs; whnf)
      simp_all [textG]
  · refine loopX_of env08_ok mixed08 (σ := Nat) (fun i => AS.of 37 1 1 [(3, .one (.str (longB 98 i))), (5, .one (.int .i64 (i : Nat)))] [(0, caseO cs (intP cs 10 p))]) (fun i => i ≤ 64) (fun i => 64 - i) 0 (fun _ => rfl) tid (by decide) ?_
    intro i hi
    refine wn ?_
    refine forkB_dec (fun h1 => ?_) (fun h1 => ?_)
    · refine wn ?_
      rw [longB_next 98 i (by omega)]
      refine wn ?_
      refine i64 ?_
      refine wn ?_
      exact ⟨i + 1, by omega, by omega, tid⟩
    · have ei : i = 64 := by omega
      subst ei
      refine wn ?_
      refine rtm ?_
      (conv => lhs; whnf)
      simp_all [textG]
theorem callee61 : callee Try.prog 61 := callee_of Try.func61 rfl rfl
end Go.Proofs.Ve


/-
  VeK2: the case generator: values and rows.
-/
set_option linter.unusedVariables false
set_option linter.unusedSimpArgs false
set_option pp.maxSteps 2000
namespace Go.Proofs.Ve
open Go

theorem intP_in {cs : List Int} {n : Int} {p : Nat} (h : p ≤ cs.length) : intP cs n p ≤ cs.length := (intP_le cs n p).2.2 h

def valueG (cs : List Int) (kind : Int) (p : Nat) : V := if kind = 3 then ⟨3, intG cs 2 p, ⟨#[]⟩⟩ else if kind = 4 then ⟨4, numberG cs p, ⟨#[]⟩⟩ else ⟨5, 0, textG cs p⟩
def valueP (cs : List Int) (kind : Int) (p : Nat) : Nat := if kind = 3 then intP cs 2 p else if kind = 4 then intP cs 12 p else intP cs 10 p
theorem valueP_in {cs : List Int} {kind : Int} {p : Nat} (h : p ≤ cs.length) : valueP cs kind p ≤ cs.length := by
  unfold valueP
  split
  · exact intP_in h
  · split <;> exact intP_in h

theorem value_spec (cs : List Int) (h : ok8 cs) (kind : Int) (p : Nat) (hp : p ≤ cs.length) : MSpec Try.prog 41 [.one (.ptr 0 0), .one (.int .i64 kind)] (caseO cs p) (caseO cs (valueP cs kind p)) (.agg (vC (valueG cs kind p))) := by
  refine mspec_x env08_ok mixed08 Try.func41 rfl 21 rfl _ rfl rfl ?_
  refine wn ?_
  refine forkB_intro (fun h1 => ?_) (fun h1 => ?_)
  · have h1 : kind = 3 := by simpa using h1
    subst h1
    refine wn ?_
    refine cm (int_spec cs h 2 p hp) (callee25) ?_
    refine wn ?_
    refine rtm ?_
    (conv => lhs; whnf)
    rfl
  · have h1 : ¬ kind = 3 := by simpa using h1
    refine wn ?_
    refine forkB_intro (fun h2 => ?_) (fun h2 => ?_)
    · have h2 : kind = 4 := by simpa using h2
      subst h2
      refine wn ?_
      refine cm (number_spec cs h p hp) (callee60) ?_
      refine wn ?_
      refine rtm ?_
      (conv => lhs; whnf)
      rfl
    · have h2 : ¬ kind = 4 := by simpa using h2
      have e1 : valueP cs kind p = intP cs 10 p := by rw [valueP, if_neg h1, if_neg h2]
      have e2 : valueG cs kind p = ⟨5, 0, textG cs p⟩ := by rw [valueG, if_neg h1, if_neg h2]
      rw [e1, e2]
      refine wn ?_
      refine cm (text_spec cs h p hp) (callee61) ?_
      refine wn ?_
      refine rtm ?_
      (conv => lhs; whnf)
      rfl
theorem callee41 : callee Try.prog 41 := callee_of Try.func41 rfl rfl

def anyG (cs : List Int) (p : Nat) : V := if 1 + intG cs 5 p < 3 then ⟨1 + intG cs 5 p, 0, ⟨#[]⟩⟩ else valueG cs (1 + intG cs 5 p) (intP cs 5 p)
def anyP (cs : List Int) (p : Nat) : Nat := if 1 + intG cs 5 p < 3 then intP cs 5 p else valueP cs (1 + intG cs 5 p) (intP cs 5 p)
theorem anyP_in {cs : List Int} {p : Nat} (h : p ≤ cs.length) : anyP cs p ≤ cs.length := by
  unfold anyP
  split
  · exact intP_in h
  · exact valueP_in (intP_in h)
theorem any_spec (cs : List Int) (h : ok8 cs) (p : Nat) (hp : p ≤ cs.length) : MSpec Try.prog 39 [.one (.ptr 0 0)] (caseO cs p) (caseO cs (anyP cs p)) (.agg (vC (anyG cs p))) := by
  refine mspec_x env08_ok mixed08 Try.func39 rfl 14 rfl _ rfl rfl ?_
  have h5 := intG_lo cs h 5 p
  have h6 := intG_hi cs h 5 (by decide) p
  refine wn ?_
  refine cm (int_spec cs h 5 p hp) (callee25) ?_
  refine wn ?_
  refine i64 ?_
  refine wn ?_
  refine forkB_dec (fun h1 => ?_) (fun h1 => ?_)
  · have e1 : anyP cs p = intP cs 5 p := by rw [anyP, if_pos h1]
    have e2 : anyG cs p = ⟨1 + intG cs 5 p, 0, ⟨#[]⟩⟩ := by rw [anyG, if_pos h1]
    rw [e1, e2]
    refine wn ?_
    refine rtm ?_
    (conv => lhs; whnf)
    rfl
  · have e1 : anyP cs p = valueP cs (1 + intG cs 5 p) (intP cs 5 p) := by rw [anyP, if_neg h1]
    have e2 : anyG cs p = valueG cs (1 + intG cs 5 p) (intP cs 5 p) := by rw [anyG, if_neg h1]
    rw [e1, e2]
    refine wn ?_
    refine cm (value_spec cs h (1 + intG cs 5 p) (intP cs 5 p) (intP_in hp)) (callee41) ?_
    refine wn ?_
    refine rtm ?_
    (conv => lhs; whnf)
    rfl
theorem callee39 : callee Try.prog 39 := callee_of Try.func39 rfl rfl
end Go.Proofs.Ve


/-
  VeK3: the case generator: a case; rows.
-/
set_option linter.unusedVariables false
set_option linter.unusedSimpArgs false
set_option pp.maxSteps 2000
set_option maxHeartbeats 1000000
namespace Go.Proofs.Ve
open Go

theorem intC_deep (n : Int) : (intC n).all (·.deep) = true := rfl
theorem new_spec (codes : List Int) (h : ok8 codes) (most : Nat) (hm : most ≤ 4398046511104) : NSpec Try.prog 9 [.one (slC byteC 1 codes), .one (.int .i64 most)] (.one (.ptr 0 0)) (caseO (codes.take most) 0) := by
  refine nspec_x env08_ok mixed08 Try.func9 rfl 14 rfl _ rfl rfl ?_
  have hl := h.len
  refine wn ?_
  refine exI_as _ rfl ?_
  refine wn ?_
  have fin : ∀ m : Nat, m ≤ codes.length → codes.take most = (codes.drop 0).take (m - 0) → True := fun _ _ _ => trivial
  refine forkB_dec (fun h1 => ?_) (fun h1 => ?_)
  · have h1 : most < codes.length := by omega
    refine wn ?_
    refine reqD_dec (flat_len byteC_len codes) ?_
    refine wn ?_
    refine reqD_dec (by show (0 : Int) ≤ 0 ∧ (0 : Int) ≤ ((most : Nat) : Int) ∧ ((most : Nat) : Int) ≤ (codes.length : Int); omega) ?_
    refine exV_as (.one (slC byteC 1 ((codes.drop 0).take (most - 0)))) (slice_flat byteC_len codes 1 _ 0 (most) (by omega)) ?_
    refine wn ?_
    refine reqD_dec (flat_len byteC_len _) ?_
    refine wn ?_
    refine reqD_dec (by simp [ty5]; omega) ?_
    refine forceL_as (((codes.drop 0).take (most - 0)).flatMap byteC) rfl ?_
    refine wn ?_
    refine retX_tr (Tr.frz' (T := 5) (s := 1) (B := 1) (cells := ((codes.drop 0).take (most - 0)).flatMap byteC) 0 ((codes.drop 0).take (most - 0)).length (by rfl) (by decide) (flat_len byteC_len _) (all_flat byteC_deep _)) ?_
    refine retX_new 1 rfl (by exact Nat.le_of_ble_eq_true rfl) (congrArg (fun z => some (caseO z 0)) ?_) rfl rfl rfl
    rw [List.drop_zero, Nat.sub_zero]
  · have h1 : ¬ most < codes.length := by omega
    refine wn ?_
    refine reqD_dec (flat_len byteC_len codes) ?_
    refine wn ?_
    refine reqD_dec (by show (0 : Int) ≤ 0 ∧ (0 : Int) ≤ ((codes.length : Nat) : Int) ∧ ((codes.length : Nat) : Int) ≤ (codes.length : Int); omega) ?_
    refine exV_as (.one (slC byteC 1 ((codes.drop 0).take (codes.length - 0)))) (slice_flat byteC_len codes 1 _ 0 (codes.length) (by omega)) ?_
    refine wn ?_
    refine reqD_dec (flat_len byteC_len _) ?_
    refine wn ?_
    refine reqD_dec (by simp [ty5]; omega) ?_
    refine forceL_as (((codes.drop 0).take (codes.length - 0)).flatMap byteC) rfl ?_
    refine wn ?_
    refine retX_tr (Tr.frz' (T := 5) (s := 1) (B := 1) (cells := ((codes.drop 0).take (codes.length - 0)).flatMap byteC) 0 ((codes.drop 0).take (codes.length - 0)).length (by rfl) (by decide) (flat_len byteC_len _) (all_flat byteC_deep _)) ?_
    refine retX_new 1 rfl (by exact Nat.le_of_ble_eq_true rfl) (congrArg (fun z => some (caseO z 0)) ?_) rfl rfl rfl
    rw [List.drop_zero, Nat.sub_zero, List.take_of_length_le (Nat.le_refl _), List.take_of_length_le (by omega)]

abbrev hidV : V := ⟨2, 0, ⟨#[]⟩⟩
abbrev missV : V := ⟨1, 0, ⟨#[]⟩⟩
/-- One cell of a row. -/
def cellG (cs : List Int) (nk : Bool) (mode kind : Int) (p : Nat) : V × Nat :=
  if (nk && decide (mode ≠ 1) && boolG cs 5 p) = true then (hidV, intP cs 5 p)
  else if (nk && decide (mode = 3) && boolG cs 5 (bif nk && decide (mode ≠ 1) then intP cs 5 p else p)) = true then (missV, intP cs 5 (bif nk && decide (mode ≠ 1) then intP cs 5 p else p))
  else (valueG cs kind (bif nk && decide (mode = 3) then intP cs 5 (bif nk && decide (mode ≠ 1) then intP cs 5 p else p) else (bif nk && decide (mode ≠ 1) then intP cs 5 p else p)),
    valueP cs kind (bif nk && decide (mode = 3) then intP cs 5 (bif nk && decide (mode ≠ 1) then intP cs 5 p else p) else (bif nk && decide (mode ≠ 1) then intP cs 5 p else p)))
def rowG (cs : List Int) (key mode : Int) : Nat → List Int → Nat → Row × Nat
  | _, [], p => ([], p)
  | i, k :: r, p => ((cellG cs (decide ((i : Int) ≥ key)) mode k p).1 :: (rowG cs key mode (i + 1) r (cellG cs (decide ((i : Int) ≥ key)) mode k p).2).1, (rowG cs key mode (i + 1) r (cellG cs (decide ((i : Int) ≥ key)) mode k p).2).2)
theorem cellG_in {cs : List Int} {nk : Bool} {mode kind : Int} {p : Nat} (h : p ≤ cs.length) : (cellG cs nk mode kind p).2 ≤ cs.length := by
  have h1 := intP_in (n := 5) h
  have h2 := intP_in (n := 5) h1
  unfold cellG
  split
  · exact h1
  · cases hb : (nk && decide (mode ≠ 1)) <;> cases hc : (nk && decide (mode = 3)) <;> simp only [cond_true, cond_false] <;> split <;> first | exact h1 | exact h2 | exact valueP_in h | exact valueP_in h1 | exact valueP_in h2

def rwA (kinds : List Int) (key mode : Int) (cs : List Int) (i : Nat) (p : Nat) : Row → AS
  | [] => AS.of 59 1 1 [(0, .one (.ptr 0 0)), (2, .one (.int .i64 key)), (3, .one (.int .i64 mode)), (9, .one (.sl true 0 0 [])), (12, .one (slC intC 8 kinds)), (13, .one (.int .i64 kinds.length)), (14, .one (.int .i64 (i : Nat)))] [(0, caseO cs p)]
  | v :: r => AS.of 59 1 2 [(0, .one (.ptr 0 0)), (2, .one (.int .i64 key)), (3, .one (.int .i64 mode)), (9, .one (.gref 1)), (12, .one (slC intC 8 kinds)), (13, .one (.int .i64 kinds.length)), (14, .one (.int .i64 (i : Nat)))] [(0, caseO cs p), (1, ⟨58, 3, 32, (v :: r).flatMap vC⟩)]

theorem row_spec (cs : List Int) (h : ok8 cs) (kinds : List Int) (key mode : Int) (hk : kinds.length ≤ 1099511627776) (p : Nat) (hp : p ≤ cs.length) :
    MSpec Try.prog 15 [.one (.ptr 0 0), .one (slC intC 8 kinds), .one (.int .i64 key), .one (.int .i64 mode)] (caseO cs p) (caseO cs (rowG cs key mode 0 kinds p).2) (.one (rowC (rowG cs key mode 0 kinds p).1)) := by
  refine mspec_x env08_ok mixed08 Try.func15 rfl 59 rfl _ rfl rfl ?_
  refine wn ?_
  refine exI_as _ rfl ?_
  refine wn ?_
  refine loopX_of env08_ok mixed08 (σ := Nat × Nat × Row) (fun q => rwA kinds key mode cs q.1 q.2.1 q.2.2)
    (fun q => q.1 ≤ kinds.length ∧ q.2.2.length = q.1 ∧ q.2.1 ≤ cs.length ∧ rowG cs key mode 0 kinds p = (q.2.2 ++ (rowG cs key mode q.1 (kinds.drop q.1) q.2.1).1, (rowG cs key mode q.1 (kinds.drop q.1) q.2.1).2)) (fun q => kinds.length - q.1) (0, p, []) (fun q => by obtain ⟨i, p, r⟩ := q; cases r <;> rfl) tid ⟨Nat.zero_le _, rfl, hp, rfl⟩ ?_
  rintro ⟨i, p1, acc⟩ ⟨hi, hacc, hp1, hr⟩
  have hi : i ≤ kinds.length := hi
  have hacc : acc.length = i := hacc
  have hp1 : p1 ≤ cs.length := hp1
  have hr : rowG cs key mode 0 kinds p = (acc ++ (rowG cs key mode i (kinds.drop i) p1).1, (rowG cs key mode i (kinds.drop i) p1).2) := hr
  cases acc with
  | nil =>
    have hi0 : i = 0 := hacc.symm
    subst hi0
    refine wn ?_
    refine forkB_dec (fun h1 => ?_) (fun h1 => ?_)
    · have hi2 : 0 < kinds.length := by have h1 : ((0 : Nat) : Int) < kinds.length := h1; omega
      rw [List.drop_eq_getElem_cons hi2] at hr
      obtain ⟨k, hke⟩ : ∃ k, kinds[0] = k := ⟨_, rfl⟩
      rw [hke, rowG] at hr
      refine wn ?_
      try (refine rq ?_)
      refine wn ?_
      refine forceL_as (intC k) ((flat_get (f := intC) intC_len kinds 0 hi2).trans (by rw [hke])) ?_
      refine wn ?_
      refine forkB_dec (fun h2 => ?_) (fun h2 => ?_)
      · have h2 : ((0 : Nat) : Int) ≥ key := h2
        refine wn ?_
        refine forkB_intro (fun h3 => ?_) (fun h3 => ?_)
        · have h3 : mode ≠ 1 := by simpa using h3
          refine wn ?_
          refine cm (bool_spec cs h 5 p1 hp1 (by decide)) (callee17) ?_
          refine wn ?_
          cases hb : boolG cs 5 p1 with
          | true =>
            have hcell : cellG cs (decide (((0 : Nat) : Int) ≥ key)) mode k p1 = (hidV, intP cs 5 p1) := by rw [decide_eq_true h2]; simp [cellG, h3, hb]
            refine wn ?_
            try (refine rq ?_)
            refine wn ?_
            try (refine forkB_intro (fun h => absurd h (by simp [ty58])) (fun _ => ?_))
            refine wn ?_
            try (refine rq ?_)
            refine wn ?_
            refine exI_as 1 (by rfl) ?_
            refine wn ?_
            refine ⟨(1, intP cs 5 p1, [hidV]), ⟨by show 1 ≤ _; omega, rfl, intP_in hp1, ?_⟩, by show kinds.length - 1 < kinds.length - 0; omega, ?_⟩
            · rw [hcell] at hr
              exact hr
            · exact (tmv 1 2)
          | false =>
            refine wn ?_
            refine forkB_dec (fun _ => ?_) (fun h => absurd h2 h)
            refine wn ?_
            refine forkB_intro (fun h5 => ?_) (fun h5 => ?_)
            · have h5 : mode = 3 := by simpa using h5
              refine wn ?_
              refine cm (bool_spec cs h 5 (intP cs 5 p1) (intP_in hp1) (by decide)) (callee17) ?_
              refine wn ?_
              cases hc : boolG cs 5 (intP cs 5 p1) with
              | true =>
                have hcell : cellG cs (decide (((0 : Nat) : Int) ≥ key)) mode k p1 = (missV, intP cs 5 (intP cs 5 p1)) := by rw [decide_eq_true h2]; simp [cellG, h3, hb, h5, hc]
                refine wn ?_
                try (refine rq ?_)
                refine wn ?_
                try (refine forkB_intro (fun h => absurd h (by simp [ty58])) (fun _ => ?_))
                refine wn ?_
                try (refine rq ?_)
                refine wn ?_
                refine exI_as 1 (by rfl) ?_
                refine wn ?_
                refine ⟨(1, intP cs 5 (intP cs 5 p1), [missV]), ⟨by show 1 ≤ _; omega, rfl, intP_in (intP_in hp1), ?_⟩, by show kinds.length - 1 < kinds.length - 0; omega, ?_⟩
                · rw [hcell] at hr
                  exact hr
                · exact (tmv 1 2)
              | false =>
                have hcell : cellG cs (decide (((0 : Nat) : Int) ≥ key)) mode k p1 = (valueG cs k (intP cs 5 (intP cs 5 p1)), valueP cs k (intP cs 5 (intP cs 5 p1))) := by rw [decide_eq_true h2]; simp [cellG, h3, hb, h5, hc]
                refine wn ?_
                refine cm (value_spec cs h k (intP cs 5 (intP cs 5 p1)) (intP_in (intP_in hp1))) (callee41) ?_
                refine wn ?_
                try (refine rq ?_)
                refine wn ?_
                try (refine forkB_intro (fun h => absurd h (by simp [ty58])) (fun _ => ?_))
                refine wn ?_
                try (refine rq ?_)
                refine wn ?_
                refine exI_as 1 (by rfl) ?_
                refine wn ?_
                refine ⟨(1, valueP cs k (intP cs 5 (intP cs 5 p1)), [valueG cs k (intP cs 5 (intP cs 5 p1))]), ⟨by show 1 ≤ _; omega, rfl, valueP_in (intP_in (intP_in hp1)), ?_⟩, by show kinds.length - 1 < kinds.length - 0; omega, ?_⟩
                · rw [hcell] at hr
                  exact hr
                · exact (tmv 1 2)
            · have h5 : mode ≠ 3 := by simpa using h5
              have hcell : cellG cs (decide (((0 : Nat) : Int) ≥ key)) mode k p1 = (valueG cs k (intP cs 5 p1), valueP cs k (intP cs 5 p1)) := by rw [decide_eq_true h2]; simp [cellG, h3, hb, h5]
              refine wn ?_
              refine cm (value_spec cs h k (intP cs 5 p1) (intP_in hp1)) (callee41) ?_
              refine wn ?_
              try (refine rq ?_)
              refine wn ?_
              try (refine forkB_intro (fun h => absurd h (by simp [ty58])) (fun _ => ?_))
              refine wn ?_
              try (refine rq ?_)
              refine wn ?_
              refine exI_as 1 (by rfl) ?_
              refine wn ?_
              refine ⟨(1, valueP cs k (intP cs 5 p1), [valueG cs k (intP cs 5 p1)]), ⟨by show 1 ≤ _; omega, rfl, valueP_in (intP_in hp1), ?_⟩, by show kinds.length - 1 < kinds.length - 0; omega, ?_⟩
              · rw [hcell] at hr
                exact hr
              · exact (tmv 1 2)
        · have h3 : mode = 1 := by simpa using h3
          refine wn ?_
          refine forkB_dec (fun _ => ?_) (fun h => absurd h2 h)
          refine wn ?_
          refine forkB_intro (fun h5 => absurd (show mode = 3 by simpa using h5) (by omega)) (fun h5 => ?_)
          have hcell : cellG cs (decide (((0 : Nat) : Int) ≥ key)) mode k p1 = (valueG cs k p1, valueP cs k p1) := by rw [decide_eq_true h2]; simp [cellG, h3]
          refine wn ?_
          refine cm (value_spec cs h k (p1) (hp1)) (callee41) ?_
          refine wn ?_
          try (refine rq ?_)
          refine wn ?_
          try (refine forkB_intro (fun h => absurd h (by simp [ty58])) (fun _ => ?_))
          refine wn ?_
          try (refine rq ?_)
          refine wn ?_
          refine exI_as 1 (by rfl) ?_
          refine wn ?_
          refine ⟨(1, valueP cs k (p1), [valueG cs k (p1)]), ⟨by show 1 ≤ _; omega, rfl, valueP_in (hp1), ?_⟩, by show kinds.length - 1 < kinds.length - 0; omega, ?_⟩
          · rw [hcell] at hr
            exact hr
          · exact (tmv 1 2)
      · have h2 : ¬ ((0 : Nat) : Int) ≥ key := h2
        refine wn ?_
        refine forkB_dec (fun h => absurd h h2) (fun _ => ?_)
        have hcell : cellG cs (decide (((0 : Nat) : Int) ≥ key)) mode k p1 = (valueG cs k p1, valueP cs k p1) := by rw [decide_eq_false h2]; simp [cellG]
        refine wn ?_
        refine cm (value_spec cs h k (p1) (hp1)) (callee41) ?_
        refine wn ?_
        try (refine rq ?_)
        refine wn ?_
        try (refine forkB_intro (fun h => absurd h (by simp [ty58])) (fun _ => ?_))
        refine wn ?_
        try (refine rq ?_)
        refine wn ?_
        refine exI_as 1 (by rfl) ?_
        refine wn ?_
        refine ⟨(1, valueP cs k (p1), [valueG cs k (p1)]), ⟨by show 1 ≤ _; omega, rfl, valueP_in (hp1), ?_⟩, by show kinds.length - 1 < kinds.length - 0; omega, ?_⟩
        · rw [hcell] at hr
          exact hr
        · exact (tmv 1 2)
    · have hi2 : kinds = [] := List.eq_nil_of_length_eq_zero (by have h1 : ¬ ((0 : Nat) : Int) < kinds.length := h1; omega)
      subst hi2
      have e1 : rowG cs key mode 0 [] p = ([], p1) := hr
      rw [e1]
      refine wn ?_
      refine retX_tr (Tr.slot 8 (AV.Le.nilOf (f := vC) (B := 32) (l := []) rfl)) ?_
      refine rtm ?_
      (conv => lhs; whnf)
      rfl
  | cons v acc =>
    refine wn ?_
    refine forkB_dec (fun h1 => ?_) (fun h1 => ?_)
    · have hi2 : i < kinds.length := by have h1 : (i : Int) < kinds.length := h1; omega
      rw [List.drop_eq_getElem_cons hi2] at hr
      obtain ⟨k, hke⟩ : ∃ k, kinds[i] = k := ⟨_, rfl⟩
      rw [hke, rowG] at hr
      refine wn ?_
      try (refine rq ?_)
      refine wn ?_
      refine forceL_as (intC k) ((flat_get (f := intC) intC_len kinds i hi2).trans (by rw [hke])) ?_
      refine wn ?_
      refine forkB_dec (fun h2 => ?_) (fun h2 => ?_)
      · have h2 : ((i : Nat) : Int) ≥ key := h2
        refine wn ?_
        refine forkB_intro (fun h3 => ?_) (fun h3 => ?_)
        · have h3 : mode ≠ 1 := by simpa using h3
          refine wn ?_
          refine cm (bool_spec cs h 5 p1 hp1 (by decide)) (callee17) ?_
          refine wn ?_
          cases hb : boolG cs 5 p1 with
          | true =>
            have hcell : cellG cs (decide (((i : Nat) : Int) ≥ key)) mode k p1 = (hidV, intP cs 5 p1) := by rw [decide_eq_true h2]; simp [cellG, h3, hb]
            refine wn ?_
            try (refine rq ?_)
            refine wn ?_
            try (refine reqD_dec (flat_div vC_len (by decide) _) ?_)
            refine reqD_dec (by simp only [flat_len vC_len]; simp [ty58]; simp at hacc; omega) ?_
            refine forceL_as (((v :: acc) ++ [hidV]).flatMap vC) (by rw [List.flatMap_append]; rfl) ?_
            refine wn ?_
            refine exI_i64 (by show -9223372036854775808 ≤ (i : Int) + 1; omega) (by show (i : Int) + 1 ≤ 9223372036854775807; omega) ?_
            refine wn ?_
            refine ⟨(i + 1, intP cs 5 p1, v :: (acc ++ [hidV])), ⟨by show i + 1 ≤ kinds.length; omega, by simp at hacc ⊢; omega, intP_in hp1, ?_⟩, by show kinds.length - (i + 1) < kinds.length - i; omega, ?_⟩
            · rw [hcell] at hr
              rw [hr]
              simp
            · exact (tmv 1 3 ⟨⟨rfl, rfl, by decide⟩, ⟨(congrArg some (ob_ren_deep (mv 1 3) (all_flat vC_deep (v :: (acc ++ (hidV :: List.nil)))))).symm, ob_lt_deep _ (all_flat vC_deep _), by decide⟩, trivial⟩)
          | false =>
            refine wn ?_
            refine forkB_dec (fun _ => ?_) (fun h => absurd h2 h)
            refine wn ?_
            refine forkB_intro (fun h5 => ?_) (fun h5 => ?_)
            · have h5 : mode = 3 := by simpa using h5
              refine wn ?_
              refine cm (bool_spec cs h 5 (intP cs 5 p1) (intP_in hp1) (by decide)) (callee17) ?_
              refine wn ?_
              cases hc : boolG cs 5 (intP cs 5 p1) with
              | true =>
                have hcell : cellG cs (decide (((i : Nat) : Int) ≥ key)) mode k p1 = (missV, intP cs 5 (intP cs 5 p1)) := by rw [decide_eq_true h2]; simp [cellG, h3, hb, h5, hc]
                refine wn ?_
                try (refine rq ?_)
                refine wn ?_
                try (refine reqD_dec (flat_div vC_len (by decide) _) ?_)
                refine reqD_dec (by simp only [flat_len vC_len]; simp [ty58]; simp at hacc; omega) ?_
                refine forceL_as (((v :: acc) ++ [missV]).flatMap vC) (by rw [List.flatMap_append]; rfl) ?_
                refine wn ?_
                refine exI_i64 (by show -9223372036854775808 ≤ (i : Int) + 1; omega) (by show (i : Int) + 1 ≤ 9223372036854775807; omega) ?_
                refine wn ?_
                refine ⟨(i + 1, intP cs 5 (intP cs 5 p1), v :: (acc ++ [missV])), ⟨by show i + 1 ≤ kinds.length; omega, by simp at hacc ⊢; omega, intP_in (intP_in hp1), ?_⟩, by show kinds.length - (i + 1) < kinds.length - i; omega, ?_⟩
                · rw [hcell] at hr
                  rw [hr]
                  simp
                · exact (tmv 1 3 ⟨⟨rfl, rfl, by decide⟩, ⟨(congrArg some (ob_ren_deep (mv 1 3) (all_flat vC_deep (v :: (acc ++ (missV :: List.nil)))))).symm, ob_lt_deep _ (all_flat vC_deep _), by decide⟩, trivial⟩)
              | false =>
                have hcell : cellG cs (decide (((i : Nat) : Int) ≥ key)) mode k p1 = (valueG cs k (intP cs 5 (intP cs 5 p1)), valueP cs k (intP cs 5 (intP cs 5 p1))) := by rw [decide_eq_true h2]; simp [cellG, h3, hb, h5, hc]
                refine wn ?_
                refine cm (value_spec cs h k (intP cs 5 (intP cs 5 p1)) (intP_in (intP_in hp1))) (callee41) ?_
                refine wn ?_
                try (refine rq ?_)
                refine wn ?_
                try (refine reqD_dec (flat_div vC_len (by decide) _) ?_)
                refine reqD_dec (by simp only [flat_len vC_len]; simp [ty58]; simp at hacc; omega) ?_
                refine forceL_as (((v :: acc) ++ [valueG cs k (intP cs 5 (intP cs 5 p1))]).flatMap vC) (by rw [List.flatMap_append]; rfl) ?_
                refine wn ?_
                refine exI_i64 (by show -9223372036854775808 ≤ (i : Int) + 1; omega) (by show (i : Int) + 1 ≤ 9223372036854775807; omega) ?_
                refine wn ?_
                refine ⟨(i + 1, valueP cs k (intP cs 5 (intP cs 5 p1)), v :: (acc ++ [valueG cs k (intP cs 5 (intP cs 5 p1))])), ⟨by show i + 1 ≤ kinds.length; omega, by simp at hacc ⊢; omega, valueP_in (intP_in (intP_in hp1)), ?_⟩, by show kinds.length - (i + 1) < kinds.length - i; omega, ?_⟩
                · rw [hcell] at hr
                  rw [hr]
                  simp
                · exact (tmv 1 3 ⟨⟨rfl, rfl, by decide⟩, ⟨(congrArg some (ob_ren_deep (mv 1 3) (all_flat vC_deep (v :: (acc ++ (valueG cs k (intP cs 5 (intP cs 5 p1)) :: List.nil)))))).symm, ob_lt_deep _ (all_flat vC_deep _), by decide⟩, trivial⟩)
            · have h5 : mode ≠ 3 := by simpa using h5
              have hcell : cellG cs (decide (((i : Nat) : Int) ≥ key)) mode k p1 = (valueG cs k (intP cs 5 p1), valueP cs k (intP cs 5 p1)) := by rw [decide_eq_true h2]; simp [cellG, h3, hb, h5]
              refine wn ?_
              refine cm (value_spec cs h k (intP cs 5 p1) (intP_in hp1)) (callee41) ?_
              refine wn ?_
              try (refine rq ?_)
              refine wn ?_
              try (refine reqD_dec (flat_div vC_len (by decide) _) ?_)
              refine reqD_dec (by simp only [flat_len vC_len]; simp [ty58]; simp at hacc; omega) ?_
              refine forceL_as (((v :: acc) ++ [valueG cs k (intP cs 5 p1)]).flatMap vC) (by rw [List.flatMap_append]; rfl) ?_
              refine wn ?_
              refine exI_i64 (by show -9223372036854775808 ≤ (i : Int) + 1; omega) (by show (i : Int) + 1 ≤ 9223372036854775807; omega) ?_
              refine wn ?_
              refine ⟨(i + 1, valueP cs k (intP cs 5 p1), v :: (acc ++ [valueG cs k (intP cs 5 p1)])), ⟨by show i + 1 ≤ kinds.length; omega, by simp at hacc ⊢; omega, valueP_in (intP_in hp1), ?_⟩, by show kinds.length - (i + 1) < kinds.length - i; omega, ?_⟩
              · rw [hcell] at hr
                rw [hr]
                simp
              · exact (tmv 1 3 ⟨⟨rfl, rfl, by decide⟩, ⟨(congrArg some (ob_ren_deep (mv 1 3) (all_flat vC_deep (v :: (acc ++ (valueG cs k (intP cs 5 p1) :: List.nil)))))).symm, ob_lt_deep _ (all_flat vC_deep _), by decide⟩, trivial⟩)
        · have h3 : mode = 1 := by simpa using h3
          refine wn ?_
          refine forkB_dec (fun _ => ?_) (fun h => absurd h2 h)
          refine wn ?_
          refine forkB_intro (fun h5 => absurd (show mode = 3 by simpa using h5) (by omega)) (fun h5 => ?_)
          have hcell : cellG cs (decide (((i : Nat) : Int) ≥ key)) mode k p1 = (valueG cs k p1, valueP cs k p1) := by rw [decide_eq_true h2]; simp [cellG, h3]
          refine wn ?_
          refine cm (value_spec cs h k (p1) (hp1)) (callee41) ?_
          refine wn ?_
          try (refine rq ?_)
          refine wn ?_
          try (refine reqD_dec (flat_div vC_len (by decide) _) ?_)
          refine reqD_dec (by simp only [flat_len vC_len]; simp [ty58]; simp at hacc; omega) ?_
          refine forceL_as (((v :: acc) ++ [valueG cs k (p1)]).flatMap vC) (by rw [List.flatMap_append]; rfl) ?_
          refine wn ?_
          refine exI_i64 (by show -9223372036854775808 ≤ (i : Int) + 1; omega) (by show (i : Int) + 1 ≤ 9223372036854775807; omega) ?_
          refine wn ?_
          refine ⟨(i + 1, valueP cs k (p1), v :: (acc ++ [valueG cs k (p1)])), ⟨by show i + 1 ≤ kinds.length; omega, by simp at hacc ⊢; omega, valueP_in (hp1), ?_⟩, by show kinds.length - (i + 1) < kinds.length - i; omega, ?_⟩
          · rw [hcell] at hr
            rw [hr]
            simp
          · exact (tmv 1 3 ⟨⟨rfl, rfl, by decide⟩, ⟨(congrArg some (ob_ren_deep (mv 1 3) (all_flat vC_deep (v :: (acc ++ (valueG cs k (p1) :: List.nil)))))).symm, ob_lt_deep _ (all_flat vC_deep _), by decide⟩, trivial⟩)
      · have h2 : ¬ ((i : Nat) : Int) ≥ key := h2
        refine wn ?_
        refine forkB_dec (fun h => absurd h h2) (fun _ => ?_)
        have hcell : cellG cs (decide (((i : Nat) : Int) ≥ key)) mode k p1 = (valueG cs k p1, valueP cs k p1) := by rw [decide_eq_false h2]; simp [cellG]
        refine wn ?_
        refine cm (value_spec cs h k (p1) (hp1)) (callee41) ?_
        refine wn ?_
        try (refine rq ?_)
        refine wn ?_
        try (refine reqD_dec (flat_div vC_len (by decide) _) ?_)
        refine reqD_dec (by simp only [flat_len vC_len]; simp [ty58]; simp at hacc; omega) ?_
        refine forceL_as (((v :: acc) ++ [valueG cs k (p1)]).flatMap vC) (by rw [List.flatMap_append]; rfl) ?_
        refine wn ?_
        refine exI_i64 (by show -9223372036854775808 ≤ (i : Int) + 1; omega) (by show (i : Int) + 1 ≤ 9223372036854775807; omega) ?_
        refine wn ?_
        refine ⟨(i + 1, valueP cs k (p1), v :: (acc ++ [valueG cs k (p1)])), ⟨by show i + 1 ≤ kinds.length; omega, by simp at hacc ⊢; omega, valueP_in (hp1), ?_⟩, by show kinds.length - (i + 1) < kinds.length - i; omega, ?_⟩
        · rw [hcell] at hr
          rw [hr]
          simp
        · exact (tmv 1 3 ⟨⟨rfl, rfl, by decide⟩, ⟨(congrArg some (ob_ren_deep (mv 1 3) (all_flat vC_deep (v :: (acc ++ (valueG cs k (p1) :: List.nil)))))).symm, ob_lt_deep _ (all_flat vC_deep _), by decide⟩, trivial⟩)
    · have hi2 : i = kinds.length := by have h1 : ¬ (i : Int) < kinds.length := h1; omega
      rw [List.drop_eq_nil_of_le (by omega), rowG, List.append_nil] at hr
      rw [hr]
      refine wn ?_
      refine retX_tr (Tr.frz' (T := 58) (s := 3) (B := 32) (cells := (v :: acc).flatMap vC) 1 (v :: acc).length (by rfl) (by decide) (flat_len vC_len _) (all_flat vC_deep _)) ?_
      refine rtm ?_
      (conv => lhs; whnf)
      rfl
theorem rowN_spec (cs : List Int) (h : ok8 cs) (kinds : List Int) (key mode : Int) (hk : kinds.length ≤ 1099511627776) (hk0 : 0 < kinds.length) (p : Nat) (hp : p ≤ cs.length) :
    MNSpec Try.prog 15 [.one (.ptr 0 0), .one (slC intC 8 kinds), .one (.int .i64 key), .one (.int .i64 mode)] (caseO cs p) (caseO cs (rowG cs key mode 0 kinds p).2) (.one (.gref 1)) ⟨58, 3, 32, (rowG cs key mode 0 kinds p).1.flatMap vC⟩ := by
  refine mnspec_x env08_ok mixed08 Try.func15 rfl 59 rfl _ rfl rfl ?_
  refine wn ?_
  refine exI_as _ rfl ?_
  refine wn ?_
  refine loopX_of env08_ok mixed08 (σ := Nat × Nat × Row) (fun q => rwA kinds key mode cs q.1 q.2.1 q.2.2)
    (fun q => q.1 ≤ kinds.length ∧ q.2.2.length = q.1 ∧ q.2.1 ≤ cs.length ∧ rowG cs key mode 0 kinds p = (q.2.2 ++ (rowG cs key mode q.1 (kinds.drop q.1) q.2.1).1, (rowG cs key mode q.1 (kinds.drop q.1) q.2.1).2)) (fun q => kinds.length - q.1) (0, p, []) (fun q => by obtain ⟨i, p, r⟩ := q; cases r <;> rfl) tid ⟨Nat.zero_le _, rfl, hp, rfl⟩ ?_
  rintro ⟨i, p1, acc⟩ ⟨hi, hacc, hp1, hr⟩
  have hi : i ≤ kinds.length := hi
  have hacc : acc.length = i := hacc
  have hp1 : p1 ≤ cs.length := hp1
  have hr : rowG cs key mode 0 kinds p = (acc ++ (rowG cs key mode i (kinds.drop i) p1).1, (rowG cs key mode i (kinds.drop i) p1).2) := hr
  cases acc with
  | nil =>
    have hi0 : i = 0 := hacc.symm
    subst hi0
    refine wn ?_
    refine forkB_dec (fun h1 => ?_) (fun h1 => ?_)
    · have hi2 : 0 < kinds.length := by have h1 : ((0 : Nat) : Int) < kinds.length := h1; omega
      rw [List.drop_eq_getElem_cons hi2] at hr
      obtain ⟨k, hke⟩ : ∃ k, kinds[0] = k := ⟨_, rfl⟩
      rw [hke, rowG] at hr
      refine wn ?_
      try (refine rq ?_)
      refine wn ?_
      refine forceL_as (intC k) ((flat_get (f := intC) intC_len kinds 0 hi2).trans (by rw [hke])) ?_
      refine wn ?_
      refine forkB_dec (fun h2 => ?_) (fun h2 => ?_)
      · have h2 : ((0 : Nat) : Int) ≥ key := h2
        refine wn ?_
        refine forkB_intro (fun h3 => ?_) (fun h3 => ?_)
        · have h3 : mode ≠ 1 := by simpa using h3
          refine wn ?_
          refine cm (bool_spec cs h 5 p1 hp1 (by decide)) (callee17) ?_
          refine wn ?_
          cases hb : boolG cs 5 p1 with
          | true =>
            have hcell : cellG cs (decide (((0 : Nat) : Int) ≥ key)) mode k p1 = (hidV, intP cs 5 p1) := by rw [decide_eq_true h2]; simp [cellG, h3, hb]
            refine wn ?_
            try (refine rq ?_)
            refine wn ?_
            try (refine forkB_intro (fun h => absurd h (by simp [ty58])) (fun _ => ?_))
            refine wn ?_
            try (refine rq ?_)
            refine wn ?_
            refine exI_as 1 (by rfl) ?_
            refine wn ?_
            refine ⟨(1, intP cs 5 p1, [hidV]), ⟨by show 1 ≤ _; omega, rfl, intP_in hp1, ?_⟩, by show kinds.length - 1 < kinds.length - 0; omega, ?_⟩
            · rw [hcell] at hr
              exact hr
            · exact (tmv 1 2)
          | false =>
            refine wn ?_
            refine forkB_dec (fun _ => ?_) (fun h => absurd h2 h)
            refine wn ?_
            refine forkB_intro (fun h5 => ?_) (fun h5 => ?_)
            · have h5 : mode = 3 := by simpa using h5
              refine wn ?_
              refine cm (bool_spec cs h 5 (intP cs 5 p1) (intP_in hp1) (by decide)) (callee17) ?_
              refine wn ?_
              cases hc : boolG cs 5 (intP cs 5 p1) with
              | true =>
                have hcell : cellG cs (decide (((0 : Nat) : Int) ≥ key)) mode k p1 = (missV, intP cs 5 (intP cs 5 p1)) := by rw [decide_eq_true h2]; simp [cellG, h3, hb, h5, hc]
                refine wn ?_
                try (refine rq ?_)
                refine wn ?_
                try (refine forkB_intro (fun h => absurd h (by simp [ty58])) (fun _ => ?_))
                refine wn ?_
                try (refine rq ?_)
                refine wn ?_
                refine exI_as 1 (by rfl) ?_
                refine wn ?_
                refine ⟨(1, intP cs 5 (intP cs 5 p1), [missV]), ⟨by show 1 ≤ _; omega, rfl, intP_in (intP_in hp1), ?_⟩, by show kinds.length - 1 < kinds.length - 0; omega, ?_⟩
                · rw [hcell] at hr
                  exact hr
                · exact (tmv 1 2)
              | false =>
                have hcell : cellG cs (decide (((0 : Nat) : Int) ≥ key)) mode k p1 = (valueG cs k (intP cs 5 (intP cs 5 p1)), valueP cs k (intP cs 5 (intP cs 5 p1))) := by rw [decide_eq_true h2]; simp [cellG, h3, hb, h5, hc]
                refine wn ?_
                refine cm (value_spec cs h k (intP cs 5 (intP cs 5 p1)) (intP_in (intP_in hp1))) (callee41) ?_
                refine wn ?_
                try (refine rq ?_)
                refine wn ?_
                try (refine forkB_intro (fun h => absurd h (by simp [ty58])) (fun _ => ?_))
                refine wn ?_
                try (refine rq ?_)
                refine wn ?_
                refine exI_as 1 (by rfl) ?_
                refine wn ?_
                refine ⟨(1, valueP cs k (intP cs 5 (intP cs 5 p1)), [valueG cs k (intP cs 5 (intP cs 5 p1))]), ⟨by show 1 ≤ _; omega, rfl, valueP_in (intP_in (intP_in hp1)), ?_⟩, by show kinds.length - 1 < kinds.length - 0; omega, ?_⟩
                · rw [hcell] at hr
                  exact hr
                · exact (tmv 1 2)
            · have h5 : mode ≠ 3 := by simpa using h5
              have hcell : cellG cs (decide (((0 : Nat) : Int) ≥ key)) mode k p1 = (valueG cs k (intP cs 5 p1), valueP cs k (intP cs 5 p1)) := by rw [decide_eq_true h2]; simp [cellG, h3, hb, h5]
              refine wn ?_
              refine cm (value_spec cs h k (intP cs 5 p1) (intP_in hp1)) (callee41) ?_
              refine wn ?_
              try (refine rq ?_)
              refine wn ?_
              try (refine forkB_intro (fun h => absurd h (by simp [ty58])) (fun _ => ?_))
              refine wn ?_
              try (refine rq ?_)
              refine wn ?_
              refine exI_as 1 (by rfl) ?_
              refine wn ?_
              refine ⟨(1, valueP cs k (intP cs 5 p1), [valueG cs k (intP cs 5 p1)]), ⟨by show 1 ≤ _; omega, rfl, valueP_in (intP_in hp1), ?_⟩, by show kinds.length - 1 < kinds.length - 0; omega, ?_⟩
              · rw [hcell] at hr
                exact hr
              · exact (tmv 1 2)
        · have h3 : mode = 1 := by simpa using h3
          refine wn ?_
          refine forkB_dec (fun _ => ?_) (fun h => absurd h2 h)
          refine wn ?_
          refine forkB_intro (fun h5 => absurd (show mode = 3 by simpa using h5) (by omega)) (fun h5 => ?_)
          have hcell : cellG cs (decide (((0 : Nat) : Int) ≥ key)) mode k p1 = (valueG cs k p1, valueP cs k p1) := by rw [decide_eq_true h2]; simp [cellG, h3]
          refine wn ?_
          refine cm (value_spec cs h k (p1) (hp1)) (callee41) ?_
          refine wn ?_
          try (refine rq ?_)
          refine wn ?_
          try (refine forkB_intro (fun h => absurd h (by simp [ty58])) (fun _ => ?_))
          refine wn ?_
          try (refine rq ?_)
          refine wn ?_
          refine exI_as 1 (by rfl) ?_
          refine wn ?_
          refine ⟨(1, valueP cs k (p1), [valueG cs k (p1)]), ⟨by show 1 ≤ _; omega, rfl, valueP_in (hp1), ?_⟩, by show kinds.length - 1 < kinds.length - 0; omega, ?_⟩
          · rw [hcell] at hr
            exact hr
          · exact (tmv 1 2)
      · have h2 : ¬ ((0 : Nat) : Int) ≥ key := h2
        refine wn ?_
        refine forkB_dec (fun h => absurd h h2) (fun _ => ?_)
        have hcell : cellG cs (decide (((0 : Nat) : Int) ≥ key)) mode k p1 = (valueG cs k p1, valueP cs k p1) := by rw [decide_eq_false h2]; simp [cellG]
        refine wn ?_
        refine cm (value_spec cs h k (p1) (hp1)) (callee41) ?_
        refine wn ?_
        try (refine rq ?_)
        refine wn ?_
        try (refine forkB_intro (fun h => absurd h (by simp [ty58])) (fun _ => ?_))
        refine wn ?_
        try (refine rq ?_)
        refine wn ?_
        refine exI_as 1 (by rfl) ?_
        refine wn ?_
        refine ⟨(1, valueP cs k (p1), [valueG cs k (p1)]), ⟨by show 1 ≤ _; omega, rfl, valueP_in (hp1), ?_⟩, by show kinds.length - 1 < kinds.length - 0; omega, ?_⟩
        · rw [hcell] at hr
          exact hr
        · exact (tmv 1 2)
    · exfalso
      have h1 : ¬ ((0 : Nat) : Int) < kinds.length := h1
      omega
  | cons v acc =>
    refine wn ?_
    refine forkB_dec (fun h1 => ?_) (fun h1 => ?_)
    · have hi2 : i < kinds.length := by have h1 : (i : Int) < kinds.length := h1; omega
      rw [List.drop_eq_getElem_cons hi2] at hr
      obtain ⟨k, hke⟩ : ∃ k, kinds[i] = k := ⟨_, rfl⟩
      rw [hke, rowG] at hr
      refine wn ?_
      try (refine rq ?_)
      refine wn ?_
      refine forceL_as (intC k) ((flat_get (f := intC) intC_len kinds i hi2).trans (by rw [hke])) ?_
      refine wn ?_
      refine forkB_dec (fun h2 => ?_) (fun h2 => ?_)
      · have h2 : ((i : Nat) : Int) ≥ key := h2
        refine wn ?_
        refine forkB_intro (fun h3 => ?_) (fun h3 => ?_)
        · have h3 : mode ≠ 1 := by simpa using h3
          refine wn ?_
          refine cm (bool_spec cs h 5 p1 hp1 (by decide)) (callee17) ?_
          refine wn ?_
          cases hb : boolG cs 5 p1 with
          | true =>
            have hcell : cellG cs (decide (((i : Nat) : Int) ≥ key)) mode k p1 = (hidV, intP cs 5 p1) := by rw [decide_eq_true h2]; simp [cellG, h3, hb]
            refine wn ?_
            try (refine rq ?_)
            refine wn ?_
            try (refine reqD_dec (flat_div vC_len (by decide) _) ?_)
            refine reqD_dec (by simp only [flat_len vC_len]; simp [ty58]; simp at hacc; omega) ?_
            refine forceL_as (((v :: acc) ++ [hidV]).flatMap vC) (by rw [List.flatMap_append]; rfl) ?_
            refine wn ?_
            refine exI_i64 (by show -9223372036854775808 ≤ (i : Int) + 1; omega) (by show (i : Int) + 1 ≤ 9223372036854775807; omega) ?_
            refine wn ?_
            refine ⟨(i + 1, intP cs 5 p1, v :: (acc ++ [hidV])), ⟨by show i + 1 ≤ kinds.length; omega, by simp at hacc ⊢; omega, intP_in hp1, ?_⟩, by show kinds.length - (i + 1) < kinds.length - i; omega, ?_⟩
            · rw [hcell] at hr
              rw [hr]
              simp
            · exact (tmv 1 3 ⟨⟨rfl, rfl, by decide⟩, ⟨(congrArg some (ob_ren_deep (mv 1 3) (all_flat vC_deep (v :: (acc ++ (hidV :: List.nil)))))).symm, ob_lt_deep _ (all_flat vC_deep _), by decide⟩, trivial⟩)
          | false =>
            refine wn ?_
            refine forkB_dec (fun _ => ?_) (fun h => absurd h2 h)
            refine wn ?_
            refine forkB_intro (fun h5 => ?_) (fun h5 => ?_)
            · have h5 : mode = 3 := by simpa using h5
              refine wn ?_
              refine cm (bool_spec cs h 5 (intP cs 5 p1) (intP_in hp1) (by decide)) (callee17) ?_
              refine wn ?_
              cases hc : boolG cs 5 (intP cs 5 p1) with
              | true =>
                have hcell : cellG cs (decide (((i : Nat) : Int) ≥ key)) mode k p1 = (missV, intP cs 5 (intP cs 5 p1)) := by rw [decide_eq_true h2]; simp [cellG, h3, hb, h5, hc]
                refine wn ?_
                try (refine rq ?_)
                refine wn ?_
                try (refine reqD_dec (flat_div vC_len (by decide) _) ?_)
                refine reqD_dec (by simp only [flat_len vC_len]; simp [ty58]; simp at hacc; omega) ?_
                refine forceL_as (((v :: acc) ++ [missV]).flatMap vC) (by rw [List.flatMap_append]; rfl) ?_
                refine wn ?_
                refine exI_i64 (by show -9223372036854775808 ≤ (i : Int) + 1; omega) (by show (i : Int) + 1 ≤ 9223372036854775807; omega) ?_
                refine wn ?_
                refine ⟨(i + 1, intP cs 5 (intP cs 5 p1), v :: (acc ++ [missV])), ⟨by show i + 1 ≤ kinds.length; omega, by simp at hacc ⊢; omega, intP_in (intP_in hp1), ?_⟩, by show kinds.length - (i + 1) < kinds.length - i; omega, ?_⟩
                · rw [hcell] at hr
                  rw [hr]
                  simp
                · exact (tmv 1 3 ⟨⟨rfl, rfl, by decide⟩, ⟨(congrArg some (ob_ren_deep (mv 1 3) (all_flat vC_deep (v :: (acc ++ (missV :: List.nil)))))).symm, ob_lt_deep _ (all_flat vC_deep _), by decide⟩, trivial⟩)
              | false =>
                have hcell : cellG cs (decide (((i : Nat) : Int) ≥ key)) mode k p1 = (valueG cs k (intP cs 5 (intP cs 5 p1)), valueP cs k (intP cs 5 (intP cs 5 p1))) := by rw [decide_eq_true h2]; simp [cellG, h3, hb, h5, hc]
                refine wn ?_
                refine cm (value_spec cs h k (intP cs 5 (intP cs 5 p1)) (intP_in (intP_in hp1))) (callee41) ?_
                refine wn ?_
                try (refine rq ?_)
                refine wn ?_
                try (refine reqD_dec (flat_div vC_len (by decide) _) ?_)
                refine reqD_dec (by simp only [flat_len vC_len]; simp [ty58]; simp at hacc; omega) ?_
                refine forceL_as (((v :: acc) ++ [valueG cs k (intP cs 5 (intP cs 5 p1))]).flatMap vC) (by rw [List.flatMap_append]; rfl) ?_
                refine wn ?_
                refine exI_i64 (by show -9223372036854775808 ≤ (i : Int) + 1; omega) (by show (i : Int) + 1 ≤ 9223372036854775807; omega) ?_
                refine wn ?_
                refine ⟨(i + 1, valueP cs k (intP cs 5 (intP cs 5 p1)), v :: (acc ++ [valueG cs k (intP cs 5 (intP cs 5 p1))])), ⟨by show i + 1 ≤ kinds.length; omega, by simp at hacc ⊢; omega, valueP_in (intP_in (intP_in hp1)), ?_⟩, by show kinds.length - (i + 1) < kinds.length - i; omega, ?_⟩
                · rw [hcell] at hr
                  rw [hr]
                  simp
                · exact (tmv 1 3 ⟨⟨rfl, rfl, by decide⟩, ⟨(congrArg some (ob_ren_deep (mv 1 3) (all_flat vC_deep (v :: (acc ++ (valueG cs k (intP cs 5 (intP cs 5 p1)) :: List.nil)))))).symm, ob_lt_deep _ (all_flat vC_deep _), by decide⟩, trivial⟩)
            · have h5 : mode ≠ 3 := by simpa using h5
              have hcell : cellG cs (decide (((i : Nat) : Int) ≥ key)) mode k p1 = (valueG cs k (intP cs 5 p1), valueP cs k (intP cs 5 p1)) := by rw [decide_eq_true h2]; simp [cellG, h3, hb, h5]
              refine wn ?_
              refine cm (value_spec cs h k (intP cs 5 p1) (intP_in hp1)) (callee41) ?_
              refine wn ?_
              try (refine rq ?_)
              refine wn ?_
              try (refine reqD_dec (flat_div vC_len (by decide) _) ?_)
              refine reqD_dec (by simp only [flat_len vC_len]; simp [ty58]; simp at hacc; omega) ?_
              refine forceL_as (((v :: acc) ++ [valueG cs k (intP cs 5 p1)]).flatMap vC) (by rw [List.flatMap_append]; rfl) ?_
              refine wn ?_
              refine exI_i64 (by show -9223372036854775808 ≤ (i : Int) + 1; omega) (by show (i : Int) + 1 ≤ 9223372036854775807; omega) ?_
              refine wn ?_
              refine ⟨(i + 1, valueP cs k (intP cs 5 p1), v :: (acc ++ [valueG cs k (intP cs 5 p1)])), ⟨by show i + 1 ≤ kinds.length; omega, by simp at hacc ⊢; omega, valueP_in (intP_in hp1), ?_⟩, by show kinds.length - (i + 1) < kinds.length - i; omega, ?_⟩
              · rw [hcell] at hr
                rw [hr]
                simp
              · exact (tmv 1 3 ⟨⟨rfl, rfl, by decide⟩, ⟨(congrArg some (ob_ren_deep (mv 1 3) (all_flat vC_deep (v :: (acc ++ (valueG cs k (intP cs 5 p1) :: List.nil)))))).symm, ob_lt_deep _ (all_flat vC_deep _), by decide⟩, trivial⟩)
        · have h3 : mode = 1 := by simpa using h3
          refine wn ?_
          refine forkB_dec (fun _ => ?_) (fun h => absurd h2 h)
          refine wn ?_
          refine forkB_intro (fun h5 => absurd (show mode = 3 by simpa using h5) (by omega)) (fun h5 => ?_)
          have hcell : cellG cs (decide (((i : Nat) : Int) ≥ key)) mode k p1 = (valueG cs k p1, valueP cs k p1) := by rw [decide_eq_true h2]; simp [cellG, h3]
          refine wn ?_
          refine cm (value_spec cs h k (p1) (hp1)) (callee41) ?_
          refine wn ?_
          try (refine rq ?_)
          refine wn ?_
          try (refine reqD_dec (flat_div vC_len (by decide) _) ?_)
          refine reqD_dec (by simp only [flat_len vC_len]; simp [ty58]; simp at hacc; omega) ?_
          refine forceL_as (((v :: acc) ++ [valueG cs k (p1)]).flatMap vC) (by rw [List.flatMap_append]; rfl) ?_
          refine wn ?_
          refine exI_i64 (by show -9223372036854775808 ≤ (i : Int) + 1; omega) (by show (i : Int) + 1 ≤ 9223372036854775807; omega) ?_
          refine wn ?_
          refine ⟨(i + 1, valueP cs k (p1), v :: (acc ++ [valueG cs k (p1)])), ⟨by show i + 1 ≤ kinds.length; omega, by simp at hacc ⊢; omega, valueP_in (hp1), ?_⟩, by show kinds.length - (i + 1) < kinds.length - i; omega, ?_⟩
          · rw [hcell] at hr
            rw [hr]
            simp
          · exact (tmv 1 3 ⟨⟨rfl, rfl, by decide⟩, ⟨(congrArg some (ob_ren_deep (mv 1 3) (all_flat vC_deep (v :: (acc ++ (valueG cs k (p1) :: List.nil)))))).symm, ob_lt_deep _ (all_flat vC_deep _), by decide⟩, trivial⟩)
      · have h2 : ¬ ((i : Nat) : Int) ≥ key := h2
        refine wn ?_
        refine forkB_dec (fun h => absurd h h2) (fun _ => ?_)
        have hcell : cellG cs (decide (((i : Nat) : Int) ≥ key)) mode k p1 = (valueG cs k p1, valueP cs k p1) := by rw [decide_eq_false h2]; simp [cellG]
        refine wn ?_
        refine cm (value_spec cs h k (p1) (hp1)) (callee41) ?_
        refine wn ?_
        try (refine rq ?_)
        refine wn ?_
        try (refine reqD_dec (flat_div vC_len (by decide) _) ?_)
        refine reqD_dec (by simp only [flat_len vC_len]; simp [ty58]; simp at hacc; omega) ?_
        refine forceL_as (((v :: acc) ++ [valueG cs k (p1)]).flatMap vC) (by rw [List.flatMap_append]; rfl) ?_
        refine wn ?_
        refine exI_i64 (by show -9223372036854775808 ≤ (i : Int) + 1; omega) (by show (i : Int) + 1 ≤ 9223372036854775807; omega) ?_
        refine wn ?_
        refine ⟨(i + 1, valueP cs k (p1), v :: (acc ++ [valueG cs k (p1)])), ⟨by show i + 1 ≤ kinds.length; omega, by simp at hacc ⊢; omega, valueP_in (hp1), ?_⟩, by show kinds.length - (i + 1) < kinds.length - i; omega, ?_⟩
        · rw [hcell] at hr
          rw [hr]
          simp
        · exact (tmv 1 3 ⟨⟨rfl, rfl, by decide⟩, ⟨(congrArg some (ob_ren_deep (mv 1 3) (all_flat vC_deep (v :: (acc ++ (valueG cs k (p1) :: List.nil)))))).symm, ob_lt_deep _ (all_flat vC_deep _), by decide⟩, trivial⟩)
    · have hi2 : i = kinds.length := by have h1 : ¬ (i : Int) < kinds.length := h1; omega
      rw [List.drop_eq_nil_of_le (by omega), rowG, List.append_nil] at hr
      rw [hr]
      refine wn ?_
      exact retX_mutnew 1 rfl rfl ⟨by decide, by exact Nat.le_of_ble_eq_true rfl⟩ rfl rfl rfl (ob_lt_deep 0 (all_flat vC_deep _)) rfl rfl rfl rfl Ob.ren_lt0 Ob.lt_lt0
theorem callee15 : callee Try.prog 15 := callee_of Try.func15 rfl rfl
end Go.Proofs.Ve


/-
  VeK4: the reference: kinds, keys, copies.
-/
set_option linter.unusedVariables false
set_option linter.unusedSimpArgs false
set_option pp.maxSteps 2000
set_option maxHeartbeats 1000000
namespace Go.Proofs.Ve
open Go

theorem rcopy_spec (r : Row) (hr : okR r) : PSpec Try.prog 40 [.one (rowC r)] (fun x => x = .one (rowC r)) := by
  refine pspec_x env08_ok mixed08 Try.func40 rfl 5 rfl _ rfl rfl ?_
  unfold okR at hr
  refine wn ?_
  refine reqD_dec (flat_len vC_len _) ?_
  refine wn ?_
  refine reqD_dec (by simp [ty58]; omega) ?_
  refine forceL_as (r.flatMap vC) rfl ?_
  refine wn ?_
  refine retX_tr (Tr.frz' (T := 58) (s := 3) (B := 32) (cells := r.flatMap vC) 0 r.length (by rfl) (by decide) (flat_len vC_len _) (all_flat vC_deep _)) ?_
  refine retX_val rfl ?_
  conv => whnf
  rfl
theorem callee40 : callee Try.prog 40 := callee_of Try.func40 rfl rfl

def kindsOf (l : List Col) : List Int := l.map (·.kind)
theorem kindsOf_len (l : List Col) : (kindsOf l).length = l.length := List.length_map _
def tblKinds (T : Tbl) : List Int := kindsOf T.cols
def kindsR (s : Sch) (t : Int) : List Int := if h : 0 ≤ t ∧ t < s.tables.length then tblKinds (s.tables[t.toNat]'(by omega)) else []
def kindsV : List Int → AV
  | [] => .one (.sl true 0 0 [])
  | k :: l => .one (slC intC 8 (k :: l))
theorem kindsV_le (l : List Int) : AV.Le (kindsV l) (.one (slC intC 8 l)) := by
  cases l with
  | nil => exact AV.Le.nilOf rfl
  | cons k l => exact AV.Le.refl _
def kdA (T : Tbl) : Nat → AS
  | 0 => AS.of 35 0 1 [(5, .one (.sl true 0 0 [])), (22, .one (slC colC 24 T.cols)), (23, .one (.int .i64 T.cols.length)), (24, .one (.int .i64 0))] []
  | i + 1 => AS.of 35 0 2 [(5, .one (.gref 1)), (22, .one (slC colC 24 T.cols)), (23, .one (.int .i64 T.cols.length)), (24, .one (.int .i64 (i + 1 : Nat)))] [(1, ⟨3, 1, 8, ((kindsOf (T.cols.take (i + 1))).flatMap intC)⟩)]
theorem colC_deep (c : Col) : (colC c).all (·.deep) = true := rfl
theorem kinds_spec (s : Sch) (t : Int) (hs : ∀ T ∈ s.tables, T.cols.length ≤ 1099511627776) : PSpec Try.prog 36 [.agg (schC s), .one (.int .i64 t)] (fun x => x = kindsV (kindsR s t)) := by
  refine pspec_x env08_ok mixed08 Try.func36 rfl 35 rfl _ rfl rfl ?_
  have bad : ¬ (0 ≤ t ∧ t < s.tables.length) → kindsR s t = [] := fun h => dif_neg h
  refine wn ?_
  refine forkB_dec (fun h1 => ?_) (fun h1 => ?_)
  · refine wn ?_
    refine retX_val rfl ?_
    conv => whnf
    rw [bad (by omega)]
    rfl
  · refine wn ?_
    refine exI_as _ rfl ?_
    refine wn ?_
    refine forkB_dec (fun h2 => ?_) (fun h2 => ?_)
    · refine wn ?_
      refine retX_val rfl ?_
      conv => whnf
      rw [bad (by omega)]
      rfl
    · have ht : 0 ≤ t ∧ t < s.tables.length := by omega
      have htn : t.toNat < s.tables.length := by omega
      have hT := hs _ (List.getElem_mem htn)
      have e : kindsR s t = tblKinds s.tables[t.toNat] := dif_pos ht
      obtain ⟨T, hTe⟩ : ∃ T, s.tables[t.toNat] = T := ⟨_, rfl⟩
      rw [hTe] at hT e
      refine wn ?_
      try (refine rq ?_)
      refine wn ?_
      refine forceL_as (tblC T) ((flat_get (f := tblC) tblC_len s.tables t.toNat htn).trans (by rw [hTe])) ?_
      refine wn ?_
      refine exI_as _ rfl ?_
      refine wn ?_
      refine loopX_of env08_ok mixed08 (σ := Nat) (kdA T) (fun i => i ≤ T.cols.length) (fun i => T.cols.length - i) 0 (fun i => by cases i <;> rfl) ?_ (Nat.zero_le _) ?_
      · exact tid
      intro i hi
      cases i with
      | zero =>
        refine wn ?_
        refine forkB_dec (fun h3 => ?_) (fun h3 => ?_)
        · have hi2 : 0 < T.cols.length := by omega
          have hX : ((kindsOf (T.cols.take (0 + 1))).flatMap intC) = intC T.cols[0].kind := by
            rw [List.take_add_one, List.getElem?_eq_getElem hi2]
            rfl
          refine wn ?_
          try (refine rq ?_)
          refine wn ?_
          refine forceL_as (colC T.cols[0]) (flat_get (f := colC) colC_len T.cols 0 hi2) ?_
          refine wn ?_
          try (refine rq ?_)
          refine wn ?_
          try (refine forkB_intro (fun h => absurd h (by simp [ty3])) (fun _ => ?_))
          refine wn ?_
          try (refine rq ?_)
          refine wn ?_
          refine exI_as 1 (by rfl) ?_
          refine wn ?_
          exact ⟨1, by omega, by omega, (tmv 1 3 ⟨⟨(congrArg some ((ob_ren_deep (mv 1 3) (all_flat intC_deep (kindsOf (T.cols.take (0 + 1))))).trans (congrArg (Ob.mk 3 1 8) hX))).symm, ob_lt_deep _ (all_flat intC_deep _), by decide⟩, trivial⟩)⟩
        · have hi2 : T.cols = [] := List.eq_nil_of_length_eq_zero (by omega)
          refine wn ?_
          refine retX_val rfl ?_
          conv => whnf
          rw [e, tblKinds, hi2]
          rfl
      | succ i =>
        refine wn ?_
        refine forkB_dec (fun h3 => ?_) (fun h3 => ?_)
        · have hi2 : i + 1 < T.cols.length := by omega
          have hX : ((kindsOf (T.cols.take (i + 1 + 1))).flatMap intC) = (kindsOf (T.cols.take (i + 1))).flatMap intC ++ intC T.cols[i + 1].kind := by
            rw [List.take_add_one, List.getElem?_eq_getElem hi2, kindsOf, List.map_append, List.flatMap_append]
            rfl
          refine wn ?_
          try (refine rq ?_)
          refine wn ?_
          refine forceL_as (colC T.cols[i + 1]) (flat_get (f := colC) colC_len T.cols (i + 1) hi2) ?_
          refine wn ?_
          try (refine rq ?_)
          refine wn ?_
          try (refine reqD_dec (flat_div intC_len (by decide) _) ?_)
          refine reqD_dec (by simp only [flat_len intC_len, kindsOf_len]; simp [ty3]; omega) ?_
          refine forceL_as ((kindsOf (T.cols.take (i + 1))).flatMap intC ++ intC T.cols[i + 1].kind) rfl ?_
          refine wn ?_
          refine i64 ?_
          refine wn ?_
          exact ⟨i + 1 + 1, by omega, by omega, (tmv 1 4 ⟨⟨(congrArg some ((ob_ren_deep (mv 1 4) (all_flat intC_deep (kindsOf (T.cols.take (i + 1 + 1))))).trans (congrArg (Ob.mk 3 1 8) hX))).symm, ob_lt_deep _ (all_flat intC_deep _), by decide⟩, trivial⟩)⟩
        · have hi2 : i + 1 = T.cols.length := by omega
          refine wn ?_
          refine retX_tr (Tr.frz' (T := 3) (s := 1) (B := 8) (cells := ((kindsOf (T.cols.take (i + 1))).flatMap intC)) 1 (i + 1) (by rfl) (by decide) (by rw [flat_len intC_len, kindsOf_len]; simp; omega) (all_flat intC_deep _)) ?_
          refine retX_val rfl ?_
          conv => whnf
          rw [e]
          refine Eq.trans (b := .one (.sl false 8 (i + 1) ((kindsOf (T.cols.take (i + 1))).flatMap intC))) rfl ?_
          rw [hi2, List.take_length, tblKinds]
          have h8 : ∀ l : List Int, l.length = T.cols.length → AV.one (.sl false 8 T.cols.length (l.flatMap intC)) = kindsV l := fun l hl => by
            cases l with
            | nil => simp at hl; omega
            | cons k l => rw [← hl]; rfl
          exact h8 _ (kindsOf_len _)
theorem callee36 : callee Try.prog 36 := callee_of Try.func36 rfl rfl

def keyKindsR (s : Sch) (t : Int) : List Int := if h : 0 ≤ t ∧ t < s.tables.length then (kindsR s t).take (s.tables[t.toNat]'(by omega)).key.toNat else []
theorem keyKinds_spec (s : Sch) (t : Int) (hs : ∀ T ∈ s.tables, T.cols.length ≤ 1099511627776) : PSpec Try.prog 16 [.agg (schC s), .one (.int .i64 t)] (fun x => x = .one (slC intC 8 (keyKindsR s t))) := by
  refine pspec_x env08_ok mixed08 Try.func16 rfl 23 rfl _ rfl rfl ?_
  refine wn ?_
  refine cle (kinds_spec s t hs) callee36 ?_
  rintro x hx rfl
  cases hk : kindsR s t with
  | nil =>
    have e : keyKindsR s t = [] := by
      unfold keyKindsR
      split
      · rw [hk, List.take_nil]
      · rfl
    refine wn ?_
    refine retX_tr (Tr.slot 4 (AV.Le.nilOf (f := intC) (B := 8) (l := keyKindsR s t) e)) ?_
    refine retX_val rfl ?_
    conv => whnf
    rfl
  | cons k l =>
    have ht : 0 ≤ t ∧ t < s.tables.length := by
      by_cases h : 0 ≤ t ∧ t < s.tables.length
      · exact h
      · unfold kindsR at hk
        rw [dif_neg h] at hk
        cases hk
    have htn : t.toNat < s.tables.length := by omega
    have e : keyKindsR s t = (k :: l).take s.tables[t.toNat].key.toNat := by
      unfold keyKindsR
      rw [dif_pos ht, hk]
    obtain ⟨T, hTe⟩ : ∃ T, s.tables[t.toNat] = T := ⟨_, rfl⟩
    rw [hTe] at e
    refine wn ?_
    refine ⟨fun h => absurd h (by simp), ?_⟩
    refine wn ?_
    try (refine rq ?_)
    refine wn ?_
    refine forceL_as (tblC T) ((flat_get (f := tblC) tblC_len s.tables t.toNat htn).trans (by rw [hTe])) ?_
    refine wn ?_
    refine exI_as _ rfl ?_
    refine wn ?_
    refine forkB_dec (fun h1 => ?_) (fun h1 => ?_)
    · refine forkB_dec (fun h2 => ?_) (fun h2 => absurd (show ((k :: l).length : Int) > 0 by first | (simp; done) | (simp; omega)) h2)
      refine wn ?_
      refine reqD_dec (flat_len intC_len _) ?_
      refine wn ?_
      refine reqD_dec (by show (0 : Int) ≤ 0 ∧ (0 : Int) ≤ ((k :: l).length : Int) ∧ ((k :: l).length : Int) ≤ ((k :: l).length : Int); omega) ?_
      refine exV_as (.one (slC intC 8 (((k :: l).drop 0).take ((k :: l).length - 0)))) (slice_flat intC_len (k :: l) 8 _ 0 ((k :: l).length) (by first | omega | exact Nat.le_refl _ | exact Nat.zero_le _)) ?_
      refine wn ?_
      refine retX_val rfl ?_
      conv => whnf
      rw [e, List.drop_zero, Nat.sub_zero, List.take_of_length_le (Nat.le_refl _), List.take_of_length_le (by omega)]
      rfl
    · refine forkB_dec (fun h2 => ?_) (fun h2 => ?_)
      · have h2 : T.key > 0 := h2
        refine wn ?_
        refine reqD_dec (flat_len intC_len _) ?_
        refine wn ?_
        refine reqD_dec (by show (0 : Int) ≤ 0 ∧ (0 : Int) ≤ T.key ∧ T.key ≤ ((k :: l).length : Int); omega) ?_
        refine exV_as (.one (slC intC 8 (((k :: l).drop 0).take (T.key.toNat - 0)))) (slice_flat intC_len (k :: l) 8 _ 0 (T.key.toNat) (by first | omega | exact Nat.le_refl _ | exact Nat.zero_le _)) ?_
        refine wn ?_
        refine retX_val rfl ?_
        conv => whnf
        rw [e, List.drop_zero, Nat.sub_zero]
        rfl
      · have h2 : ¬ T.key > 0 := h2
        refine wn ?_
        refine reqD_dec (flat_len intC_len _) ?_
        refine wn ?_
        refine reqD_dec (by show (0 : Int) ≤ 0 ∧ (0 : Int) ≤ 0 ∧ (0 : Int) ≤ ((k :: l).length : Int); omega) ?_
        refine exV_as (.one (slC intC 8 (((k :: l).drop 0).take (0 - 0)))) (slice_flat intC_len (k :: l) 8 _ 0 (0) (by first | omega | exact Nat.le_refl _ | exact Nat.zero_le _)) ?_
        refine wn ?_
        refine retX_val rfl ?_
        conv => whnf
        rw [e, show T.key.toNat = 0 by omega]
        rfl
theorem callee16 : callee Try.prog 16 := callee_of Try.func16 rfl rfl

theorem rkey_spec (s : Sch) (t : Int) (r : Row) (hr : okR r) : PSpec Try.prog 18 [.agg (schC s), .one (.int .i64 t), .one (rowC r)] (fun x => x = .one (rowC (keyR s t r))) := by
  refine pspec_x env08_ok mixed08 Try.func18 rfl 29 rfl _ rfl rfl ?_
  have bad : ¬ (0 ≤ t ∧ t < s.tables.length) → keyR s t r = [] := fun h => dif_neg h
  have hrr := hr
  unfold okR at hrr
  refine wn ?_
  refine forkB_dec (fun h1 => ?_) (fun h1 => ?_)
  · refine wn ?_
    refine retX_tr (Tr.slot 6 (AV.Le.nilOf (f := vC) (B := 32) (l := keyR s t r) (bad (by omega)))) ?_
    refine retX_val rfl ?_
    conv => whnf
    rfl
  · refine wn ?_
    refine exI_as _ rfl ?_
    refine wn ?_
    refine forkB_dec (fun h2 => ?_) (fun h2 => ?_)
    · refine wn ?_
      refine retX_tr (Tr.slot 6 (AV.Le.nilOf (f := vC) (B := 32) (l := keyR s t r) (bad (by omega)))) ?_
      refine retX_val rfl ?_
      conv => whnf
      rfl
    · have ht : 0 ≤ t ∧ t < s.tables.length := by omega
      have htn : t.toNat < s.tables.length := by omega
      have e : keyR s t r = r.take s.tables[t.toNat].key.toNat := dif_pos ht
      obtain ⟨T, hTe⟩ : ∃ T, s.tables[t.toNat] = T := ⟨_, rfl⟩
      rw [hTe] at e
      refine wn ?_
      try (refine rq ?_)
      refine wn ?_
      refine forceL_as (tblC T) ((flat_get (f := tblC) tblC_len s.tables t.toNat htn).trans (by rw [hTe])) ?_
      refine wn ?_
      refine exI_as _ rfl ?_
      refine wn ?_
      refine forkB_dec (fun h3 => ?_) (fun h3 => ?_)
      · refine forkB_dec (fun h2 => ?_) (fun h2 => ?_)
        · refine wn ?_
          refine reqD_dec (flat_len vC_len _) ?_
          refine wn ?_
          refine reqD_dec (by show (0 : Int) ≤ 0 ∧ (0 : Int) ≤ (r.length : Int) ∧ (r.length : Int) ≤ (r.length : Int); omega) ?_
          refine exV_as (.one (rowC ((r.drop 0).take (r.length - 0)))) (slice_flat vC_len r 32 _ 0 (r.length) (by omega)) ?_
          refine wn ?_
          refine cle (rcopy_spec ((r.drop 0).take (r.length - 0)) (by unfold okR; first | (simp; done) | (simp; omega))) callee40 ?_
          rintro x hx rfl
          refine wn ?_
          refine retX_val rfl ?_
          conv => whnf
          rw [e, List.drop_zero, Nat.sub_zero, List.take_of_length_le (Nat.le_refl _), List.take_of_length_le (by omega)]
          rfl
        · have h2 : ¬ (r.length : Int) > 0 := h2
          refine wn ?_
          refine reqD_dec (flat_len vC_len _) ?_
          refine wn ?_
          refine reqD_dec (by show (0 : Int) ≤ 0 ∧ (0 : Int) ≤ 0 ∧ (0 : Int) ≤ (r.length : Int); omega) ?_
          refine exV_as (.one (rowC ((r.drop 0).take (0 - 0)))) (slice_flat vC_len r 32 _ 0 (0) (by omega)) ?_
          refine wn ?_
          refine cle (rcopy_spec ((r.drop 0).take (0 - 0)) (by unfold okR; first | (simp; done) | (simp; omega))) callee40 ?_
          rintro x hx rfl
          refine wn ?_
          refine retX_val rfl ?_
          conv => whnf
          rw [e, List.eq_nil_of_length_eq_zero (l := r.take T.key.toNat) (by rw [List.length_take]; omega)]
          rfl
      · refine forkB_dec (fun h2 => ?_) (fun h2 => ?_)
        · have h2 : T.key > 0 := h2
          refine wn ?_
          refine reqD_dec (flat_len vC_len _) ?_
          refine wn ?_
          refine reqD_dec (by show (0 : Int) ≤ 0 ∧ (0 : Int) ≤ T.key ∧ T.key ≤ (r.length : Int); omega) ?_
          refine exV_as (.one (rowC ((r.drop 0).take (T.key.toNat - 0)))) (slice_flat vC_len r 32 _ 0 (T.key.toNat) (by omega)) ?_
          refine wn ?_
          refine cle (rcopy_spec ((r.drop 0).take (T.key.toNat - 0)) (by unfold okR; first | (simp; done) | (simp; omega))) callee40 ?_
          rintro x hx rfl
          refine wn ?_
          refine retX_val rfl ?_
          conv => whnf
          rw [e, List.drop_zero, Nat.sub_zero]
          rfl
        · have h2 : ¬ T.key > 0 := h2
          refine wn ?_
          refine reqD_dec (flat_len vC_len _) ?_
          refine wn ?_
          refine reqD_dec (by show (0 : Int) ≤ 0 ∧ (0 : Int) ≤ 0 ∧ (0 : Int) ≤ (r.length : Int); omega) ?_
          refine exV_as (.one (rowC ((r.drop 0).take (0 - 0)))) (slice_flat vC_len r 32 _ 0 (0) (by omega)) ?_
          refine wn ?_
          refine cle (rcopy_spec ((r.drop 0).take (0 - 0)) (by unfold okR; first | (simp; done) | (simp; omega))) callee40 ?_
          rintro x hx rfl
          refine wn ?_
          refine retX_val rfl ?_
          conv => whnf
          rw [e, show T.key.toNat = 0 by omega]
          rfl
theorem callee18 : callee Try.prog 18 := callee_of Try.func18 rfl rfl
end Go.Proofs.Ve


/-
  VeK5: the reference: comparing.
-/
set_option linter.unusedVariables false
set_option linter.unusedSimpArgs false
set_option pp.maxSteps 2000
namespace Go.Proofs.Ve
open Go

theorem bl_irr : ∀ l : List UInt8, Op.bytesLess l l = false
  | [] => rfl
  | a :: l => by
    unfold Op.bytesLess
    simp [bl_irr l]
theorem cv1 {a b : V} (h : a.k < b.k) : cmpV a b = -1 := by
  have e : eqV a b = false := by unfold eqV; rw [show (a.k == b.k) = false by simp; omega]; rfl
  rw [cmpV, e, cond_false, if_pos (by omega), if_pos h]
theorem cv2 {a b : V} (h : a.k > b.k) : cmpV a b = 1 := by
  have e : eqV a b = false := by unfold eqV; rw [show (a.k == b.k) = false by simp; omega]; rfl
  rw [cmpV, e, cond_false, if_pos (by omega), if_neg (by omega)]
theorem cv3 {a b : V} (h1 : ¬ a.k < b.k) (h2 : ¬ a.k > b.k) (h : a.n < b.n) : cmpV a b = -1 := by
  have e : eqV a b = false := by unfold eqV; rw [show (a.n == b.n) = false by simp; omega]; simp
  rw [cmpV, e, cond_false, if_neg (by omega), if_pos (by omega), if_pos h]
theorem cv4 {a b : V} (h1 : ¬ a.k < b.k) (h2 : ¬ a.k > b.k) (h : a.n > b.n) : cmpV a b = 1 := by
  have e : eqV a b = false := by unfold eqV; rw [show (a.n == b.n) = false by simp; omega]; simp
  rw [cmpV, e, cond_false, if_neg (by omega), if_pos (by omega), if_neg (by omega)]
theorem cv5 {a b : V} (h1 : ¬ a.k < b.k) (h2 : ¬ a.k > b.k) (h3 : ¬ a.n < b.n) (h4 : ¬ a.n > b.n) (h : Op.bytesLess a.t.toList b.t.toList = true) : cmpV a b = -1 := by
  have e : eqV a b = false := by
    unfold eqV
    rw [show (a.t == b.t) = false by
      rw [beq_toListBytes]
      cases hq : (a.t.toList == b.t.toList) with
      | false => rfl
      | true =>
        rw [eq_of_beq hq, bl_irr] at h
        cases h]
    simp
  have h : lessT a.t b.t = true := h
  rw [cmpV, e, cond_false, if_neg (by omega), if_neg (by omega), h]
  rfl
theorem cv6 {a b : V} (h1 : ¬ a.k < b.k) (h2 : ¬ a.k > b.k) (h3 : ¬ a.n < b.n) (h4 : ¬ a.n > b.n) (h : Op.bytesLess a.t.toList b.t.toList = false) (h5 : (!(Op.bytesLess a.t.toList b.t.toList || a.t.toList == b.t.toList)) = true) : cmpV a b = 1 := by
  have e : eqV a b = false := by
    unfold eqV
    rw [h, Bool.false_or, Bool.not_eq_true'] at h5
    rw [beq_toListBytes, h5]
    simp
  have h : lessT a.t b.t = false := h
  rw [cmpV, e, cond_false, if_neg (by omega), if_neg (by omega), h]
  rfl
theorem cv7 {a b : V} (h1 : ¬ a.k < b.k) (h2 : ¬ a.k > b.k) (h3 : ¬ a.n < b.n) (h4 : ¬ a.n > b.n) (h : Op.bytesLess a.t.toList b.t.toList = false) (h5 : (!(Op.bytesLess a.t.toList b.t.toList || a.t.toList == b.t.toList)) = false) : cmpV a b = 0 := by
  have e : eqV a b = true := by
    unfold eqV
    rw [h, Bool.false_or, Bool.not_eq_false'] at h5
    rw [beq_toListBytes, h5, show (a.k == b.k) = true by simp; omega, show (a.n == b.n) = true by simp; omega]
    rfl
  rw [cmpV, e]
  rfl
theorem rcompare_spec (a b : V) : PSpec Try.prog 46 [.agg (vC a), .agg (vC b)] (fun r => r = .one (.int .i64 (cmpV a b))) := by
  refine pspec_x env08_ok mixed08 Try.func46 rfl 41 rfl _ rfl rfl ?_
  refine wm ?_
  repeat' (first | (refine i64 ?_; refine wm ?_) | (refine exI_as _ rfl ?_; refine wm ?_) | (refine forkB_dec (fun _ => ?_) (fun _ => ?_) <;> refine wm ?_) | (refine forkB_intro (fun _ => ?_) (fun _ => ?_) <;> refine wm ?_))
  all_goals
    refine retX_val rfl ?_
    (conv => whnf)
    first
      | (rw [cv1 (a := a) (b := b) (by assumption)]; rfl)
      | (rw [cv2 (a := a) (b := b) (by assumption)]; rfl)
      | (rw [cv3 (a := a) (b := b) (by assumption) (by assumption) (by assumption)]; rfl)
      | (rw [cv4 (a := a) (b := b) (by assumption) (by assumption) (by assumption)]; rfl)
      | (rw [cv5 (a := a) (b := b) (by assumption) (by assumption) (by assumption) (by assumption) (by assumption)]; rfl)
      | (rw [cv6 (a := a) (b := b) (by assumption) (by assumption) (by assumption) (by assumption) (by assumption) (by assumption)]; rfl)
      | (rw [cv7 (a := a) (b := b) (by assumption) (by assumption) (by assumption) (by assumption) (by assumption) (by assumption)]; rfl)
theorem callee46 : callee Try.prog 46 := callee_of Try.func46 rfl rfl
theorem rcompareRows_spec (a b : Row) (hla : a.length ≤ 9223372036854775807) (hlb : b.length ≤ 9223372036854775807) : PSpec Try.prog 21 [.one (rowC a), .one (rowC b)] (fun r => r = .one (.int .i64 (cmpR a b))) := by
  refine pspec_x env08_ok mixed08 Try.func21 rfl 43 rfl _ rfl rfl ?_
  refine wn ?_
  refine loopX_of env08_ok mixed08 (σ := Nat) (fun i => AS.of 43 0 0 [(0, .one (rowC a)), (1, .one (rowC b)), (5, .one (.int .i64 (i : Nat)))] [])
    (fun i => i ≤ a.length ∧ i ≤ b.length ∧ cmpR a b = cmpR (a.drop i) (b.drop i)) (fun i => a.length - i) 0 (fun _ => rfl) (Tr.ofId rfl rfl (Nat.zero_le _) (Nat.le_refl _) ⟨⟨rfl, rfl⟩, ⟨rfl, rfl⟩, ⟨rfl, rfl⟩, trivial⟩ trivial) ⟨Nat.zero_le _, Nat.zero_le _, rfl⟩ ?_
  rintro i ⟨hia, hib, hc⟩
  have out : ¬ (i < a.length ∧ i < b.length) → cmpR a b = if a.length < b.length then -1 else if a.length > b.length then 1 else 0 := fun h => by
    rw [hc]
    by_cases h1 : i < a.length
    · have h2 : b.drop i = [] := List.drop_eq_nil_of_le (by omega)
      rw [List.drop_eq_getElem_cons h1, h2, cmpR, if_neg (by omega), if_pos (by omega)]
    · have h2 : a.drop i = [] := List.drop_eq_nil_of_le (by omega)
      by_cases h3 : i < b.length
      · rw [List.drop_eq_getElem_cons h3, h2, cmpR, if_pos (by omega)]
      · have h4 : b.drop i = [] := List.drop_eq_nil_of_le (by omega)
        rw [h2, h4, cmpR, if_neg (by omega), if_neg (by omega)]
  refine wn ?_
  refine exI_as _ rfl ?_
  refine wn ?_
  refine forkB_dec (fun h => ?_) (fun h => ?_)
  · refine wn ?_
    refine exI_as _ rfl ?_
    refine wn ?_
    refine forkB_dec (fun h2 => ?_) (fun h2 => ?_)
    · have h1 : i < a.length := by omega
      have h2 : i < b.length := by omega
      refine wn ?_
      refine drawnX_phase env08_ok (fun _ => true) (List.range 10) (tks 0 8 (.one 8 (tks 9 1 (.stop)))) 0 (lst 10 []) (by kernel_rfl) ?_
      refine wn ?_
      refine rq ?_
      refine wn ?_
      refine forceL_as (vC a[i]) (flat_get (f := vC) vC_len a i h1) ?_
      refine wn ?_
      refine rq ?_
      refine wn ?_
      refine forceL_as (vC b[i]) (flat_get (f := vC) vC_len b i h2) ?_
      refine wn ?_
      refine cle (rcompare_spec a[i] b[i]) callee46 ?_
      rintro r hr rfl
      refine wn ?_
      refine drawnX_done (by kernel_rfl) ?_
      refine wn ?_
      refine forkB_intro (fun h3 => ?_) (fun h3 => ?_)
      · have h3 : cmpV a[i] b[i] ≠ 0 := by simpa using h3
        refine wn ?_
        refine retX_val rfl ?_
        conv => whnf
        rw [hc, cmpR_ne a b i h1 h2 h3]
        rfl
      · have h3 : cmpV a[i] b[i] = 0 := by simpa using h3
        refine wn ?_
        refine i64 ?_
        refine wn ?_
        exact ⟨i + 1, ⟨by omega, by omega, by rw [hc, cmpR_step a b i h1 h2 h3]⟩, by omega, Tr.ofId rfl rfl (Nat.zero_le _) (Nat.le_refl _) ⟨⟨rfl, rfl⟩, ⟨rfl, rfl⟩, ⟨rfl, rfl⟩, trivial⟩ trivial⟩
    · have o := out (by omega)
      refine wn ?_
      refine exI_as _ rfl ?_
      refine wn ?_
      refine exI_as _ rfl ?_
      refine wn ?_
      refine forkB_dec (fun h4 => ?_) (fun h4 => ?_)
      · refine wn ?_
        refine retX_val rfl ?_
        conv => whnf
        rw [o, if_pos (by omega)]
        rfl
      · refine wn ?_
        refine exI_as _ rfl ?_
        refine wn ?_
        refine exI_as _ rfl ?_
        refine wn ?_
        refine forkB_dec (fun h5 => ?_) (fun h5 => ?_)
        · refine wn ?_
          refine retX_val rfl ?_
          conv => whnf
          rw [o, if_neg (by omega), if_pos (by omega)]
          rfl
        · refine wn ?_
          refine retX_val rfl ?_
          conv => whnf
          rw [o, if_neg (by omega), if_neg (by omega)]
          rfl
  · have o := out (by omega)
    refine wn ?_
    refine exI_as _ rfl ?_
    refine wn ?_
    refine exI_as _ rfl ?_
    refine wn ?_
    refine forkB_dec (fun h4 => ?_) (fun h4 => ?_)
    · refine wn ?_
      refine retX_val rfl ?_
      conv => whnf
      rw [o, if_pos (by omega)]
      rfl
    · refine wn ?_
      refine exI_as _ rfl ?_
      refine wn ?_
      refine exI_as _ rfl ?_
      refine wn ?_
      refine forkB_dec (fun h5 => ?_) (fun h5 => ?_)
      · refine wn ?_
        refine retX_val rfl ?_
        conv => whnf
        rw [o, if_neg (by omega), if_pos (by omega)]
        rfl
      · refine wn ?_
        refine retX_val rfl ?_
        conv => whnf
        rw [o, if_neg (by omega), if_neg (by omega)]
        rfl
theorem callee21 : callee Try.prog 21 := callee_of Try.func21 rfl rfl
theorem rcountW_spec (st : St) (h1 : st.length ≤ 5864062014634) : PSpec Try.prog 14 [.agg (stC st)] (fun r => r = .one (.int .i64 (countW st))) := by
  refine pspec_x env08_ok mixed08 Try.func14 rfl 19 rfl _ rfl rfl ?_
  refine wn ?_
  refine exI_as _ rfl ?_
  refine wn ?_
  refine loopX_of env08_ok mixed08 (σ := Nat) (fun i => AS.of 19 0 0 [(3, .one (.int .i64 (countW (st.take i)))), (9, .one (.int .i64 (i : Nat))), (8, .one (.int .i64 st.length)), (7, .one (tabsC st))] [])
    (fun i => i ≤ st.length) (fun i => st.length - i) 0 (fun _ => rfl) (Tr.ofId rfl rfl (Nat.zero_le _) (show 0 ≤ 1 by decide) ⟨⟨rfl, rfl⟩, ⟨rfl, rfl⟩, ⟨rfl, rfl⟩, ⟨rfl, rfl⟩, trivial⟩ trivial) (Nat.zero_le _) ?_
  intro i hi
  refine wn ?_
  refine forkB_dec (fun h => ?_) (fun h => ?_)
  · have hi2 : i < st.length := by omega
    refine wn ?_
    refine rq ?_
    refine forceL_as (tabC1 st[i]) (flat_get (f := tabC1) tabC1_len st i hi2) ?_
    refine wn ?_
    refine exI_as _ rfl ?_
    refine wn ?_
    refine exI_as _ (countW_step st i hi2).symm ?_
    refine wn ?_
    refine i64 ?_
    refine wn ?_
    exact ⟨i + 1, by omega, by omega, Tr.ofId rfl rfl (Nat.zero_le _) (Nat.le_refl _) ⟨⟨rfl, rfl⟩, ⟨rfl, rfl⟩, ⟨rfl, rfl⟩, ⟨rfl, rfl⟩, trivial⟩ trivial⟩
  · refine wn ?_
    have e : i = st.length := by omega
    subst e
    refine retX_val rfl ?_
    conv => whnf
    refine Eq.trans (b := .one (.int .i64 (countW (st.take st.length)))) rfl ?_
    rw [List.take_length]
theorem callee14 : callee Try.prog 14 := callee_of Try.func14 rfl rfl
end Go.Proofs.Ve


/-
  VeK6: the reference: finding rows.
-/
set_option linter.unusedVariables false
set_option linter.unusedSimpArgs false
set_option pp.maxSteps 2000
namespace Go.Proofs.Ve
open Go

def findL (s : Sch) (t : Int) (key : Row) : Tab → Nat → Int
  | [], _ => -1
  | r :: l, i => if cmpR (keyR s t r) key = 0 then i else findL s t key l (i + 1)
def findR (s : Sch) (st : St) (t : Int) (key : Row) : Int := if h : 0 ≤ t ∧ t < s.tables.length ∧ t < st.length then findL s t key (st[t.toNat]'(by omega)) 0 else -1
theorem findL_spec (s : Sch) (t : Int) (key : Row) : ∀ (l : Tab) (i : Nat), (findL s t key l i = -1 ∧ l.find? (fun r => cmpR (keyR s t r) key == 0) = none) ∨ ∃ (j : Nat) (h : j < l.length), findL s t key l i = ((i + j : Nat) : Int) ∧ l.find? (fun r => cmpR (keyR s t r) key == 0) = some l[j]
  | [], i => .inl ⟨rfl, rfl⟩
  | r :: l, i => by
    by_cases h : cmpR (keyR s t r) key = 0
    · refine .inr ⟨0, by simp, ?_, ?_⟩
      · rw [findL, if_pos h]; rfl
      · rw [List.find?_cons, show (cmpR (keyR s t r) key == 0) = true by simpa using h]; rfl
    · have e : (cmpR (keyR s t r) key == 0) = false := by simpa using h
      rcases findL_spec s t key l (i + 1) with ⟨h1, h2⟩ | ⟨j, hj, h1, h2⟩
      · exact .inl ⟨by rw [findL, if_neg h, h1], by rw [List.find?_cons, e]; exact h2⟩
      · refine .inr ⟨j + 1, by simp; omega, ?_, ?_⟩
        · rw [findL, if_neg h, h1]; congr 1; omega
        · rw [List.find?_cons, e]; exact h2

theorem find_spec (s : Sch) (st : St) (t : Int) (key : Row) (hst : ∀ l ∈ st, okT l) (hk : okR key) : PSpec Try.prog 45 [.agg (schC s), .agg (stC st), .one (.int .i64 t), .one (rowC key)] (fun r => r = .one (.int .i64 (findR s st t key))) := by
  refine pspec_x env08_ok mixed08 Try.func45 rfl 47 rfl _ rfl rfl ?_
  have bad : ¬ (0 ≤ t ∧ t < s.tables.length ∧ t < st.length) → findR s st t key = -1 := fun h => dif_neg h
  refine wn ?_
  refine forkB_dec (fun h1 => ?_) (fun h1 => ?_)
  · refine wn ?_
    refine retX_val rfl ?_
    conv => whnf
    rw [bad (by omega)]
    rfl
  · refine wn ?_
    refine exI_as _ rfl ?_
    refine wn ?_
    refine forkB_dec (fun h2 => ?_) (fun h2 => ?_)
    · refine wn ?_
      refine retX_val rfl ?_
      conv => whnf
      rw [bad (by omega)]
      rfl
    · refine wn ?_
      refine exI_as _ rfl ?_
      refine wn ?_
      refine forkB_dec (fun h3 => ?_) (fun h3 => ?_)
      · refine wn ?_
        refine retX_val rfl ?_
        conv => whnf
        rw [bad (by omega)]
        rfl
      · have ht : 0 ≤ t ∧ t < s.tables.length ∧ t < st.length := by omega
        have htn : t.toNat < st.length := by omega
        have e : findR s st t key = findL s t key st[t.toNat] 0 := dif_pos ht
        have hT := hst _ (List.getElem_mem htn)
        obtain ⟨l, hle⟩ : ∃ l, st[t.toNat] = l := ⟨_, rfl⟩
        rw [hle] at e hT
        have hTl := hT.1
        refine wn ?_
        try (refine rq ?_)
        refine wn ?_
        refine forceL_as (tabC1 l) ((flat_get (f := tabC1) tabC1_len st t.toNat htn).trans (by rw [hle])) ?_
        refine wn ?_
        refine exI_as _ rfl ?_
        refine wn ?_
        refine loopX_of env08_ok mixed08 (σ := Nat) (fun i => AS.of 47 0 1 [(2, .one (.int .i64 t)), (3, .one (rowC key)), (4, .one (.ptr 0 0)), (31, .one (tabC l)), (32, .one (.int .i64 l.length)), (33, .one (.int .i64 (i : Nat)))] [(0, ⟨32, 0, 0, schC s⟩)])
          (fun i => i ≤ l.length ∧ findR s st t key = findL s t key (l.drop i) i) (fun i => l.length - i) 0 (fun _ => rfl) tid ⟨Nat.zero_le _, e⟩ ?_
        rintro i ⟨hi, hf⟩
        refine wn ?_
        refine forkB_dec (fun h4 => ?_) (fun h4 => ?_)
        · have hi2 : i < l.length := by omega
          rw [List.drop_eq_getElem_cons hi2, findL] at hf
          have hr := hT.2 _ (List.getElem_mem hi2)
          have hkr := keyR_le s t l[i]
          unfold okR at hr hk
          refine wn ?_
          try (refine rq ?_)
          refine wn ?_
          refine forceL_as (rowC1 l[i]) (flat_get (f := rowC1) rowC1_len l i hi2) ?_
          refine wn ?_
          refine cle (rkey_spec s t l[i] hr) callee18 ?_
          rintro x hx rfl
          refine wn ?_
          refine cle (rcompareRows_spec (keyR s t l[i]) key (by omega) (by omega)) callee21 ?_
          rintro x hx rfl
          refine wn ?_
          refine forkB_intro (fun h5 => ?_) (fun h5 => ?_)
          · have h5 : cmpR (keyR s t l[i]) key = 0 := by simpa using h5
            refine wn ?_
            refine retX_val rfl ?_
            conv => whnf
            rw [hf, if_pos h5]
            rfl
          · have h5 : ¬ cmpR (keyR s t l[i]) key = 0 := by simpa using h5
            refine wn ?_
            refine i64 ?_
            refine wn ?_
            exact ⟨i + 1, ⟨by omega, by rw [hf, if_neg h5]⟩, by omega, tid⟩
        · have ei : i = l.length := by omega
          subst ei
          rw [List.drop_eq_nil_of_le (Nat.le_refl _), findL] at hf
          refine wn ?_
          refine retX_val rfl ?_
          conv => whnf
          rw [hf]
          rfl
theorem callee45 : callee Try.prog 45 := callee_of Try.func45 rfl rfl

theorem rget_spec (s : Sch) (st : St) (t : Int) (key : Row) (hst : ∀ l ∈ st, okT l) (hk : okR key) : PSpec Try.prog 20 [.agg (schC s), .agg (stC st), .one (.int .i64 t), .one (rowC key)] (fun r => r = getV (getR s st t key)) := by
  refine pspec_x env08_ok mixed08 Try.func20 rfl 27 rfl _ rfl rfl ?_
  refine wn ?_
  refine cle (find_spec s st t key hst hk) callee45 ?_
  rintro x hx rfl
  refine wn ?_
  by_cases ht : 0 ≤ t ∧ t < s.tables.length ∧ t < st.length
  · have e : findR s st t key = findL s t key (st[t.toNat]'(by omega)) 0 := dif_pos ht
    have eg : getR s st t key = (st[t.toNat]'(by omega)).find? (fun r => cmpR (keyR s t r) key == 0) := dif_pos ht
    have htn : t.toNat < st.length := by omega
    obtain ⟨l, hle⟩ : ∃ l, st[t.toNat] = l := ⟨_, rfl⟩
    have hT := hst _ (List.getElem_mem htn)
    rw [hle] at e eg hT
    rcases findL_spec s t key l 0 with ⟨h1, h2⟩ | ⟨j, hj, h1, h2⟩
    · rw [e, h1]
      rw [h2] at eg
      refine wn ?_
      refine retX_tr (Tr.slot 8 (AV.Le.nilOf (f := vC) (B := 32) (l := []) rfl)) ?_
      refine retX_val rfl ?_
      conv => whnf
      rw [eg]
      rfl
    · rw [e, h1]
      rw [h2] at eg
      refine forkB_dec (fun h1 => ?_) (fun h1 => ?_)
      · exfalso; omega
      · refine wn ?_
        refine reqD_dec (by omega) ?_
        refine forceL_as (tabC1 l) ((flat_get (f := tabC1) tabC1_len st t.toNat htn).trans (by rw [hle])) ?_
        refine wn ?_
        refine reqD_dec (by omega) ?_
        refine forceL_as (rowC1 l[j]) (by rw [show (((0 + j : Nat) : Int)).toNat = j by omega]; exact flat_get (f := rowC1) rowC1_len l j hj) ?_
        refine wn ?_
        refine cle (rcopy_spec l[j] (hT.2 _ (List.getElem_mem hj))) callee40 ?_
        rintro x hx rfl
        refine wn ?_
        refine retX_val rfl ?_
        conv => whnf
        rw [eg]
        rfl
  · have e : findR s st t key = -1 := dif_neg ht
    have eg : getR s st t key = none := dif_neg ht
    rw [e]
    refine wn ?_
    refine retX_tr (Tr.slot 8 (AV.Le.nilOf (f := vC) (B := 32) (l := []) rfl)) ?_
    refine retX_val rfl ?_
    conv => whnf
    rw [eg]
    rfl
theorem callee20 : callee Try.prog 20 := callee_of Try.func20 rfl rfl
end Go.Proofs.Ve


/-
  VeK7: the reference: Put.
-/
set_option linter.unusedVariables false
set_option linter.unusedSimpArgs false
set_option pp.maxSteps 2000
set_option maxHeartbeats 2000000
namespace Go.Proofs.Ve
open Go

def putL (s : Sch) (t : Int) (key row : Row) : Bool → Tab → Tab
  | put, [] => bif put then [] else [row]
  | put, r :: l => (bif !put && decide (cmpR (keyR s t r) key ≥ 0) then [row] else []) ++ ((bif decide (cmpR (keyR s t r) key ≠ 0) then [r] else []) ++ putL s t key row (put || decide (cmpR (keyR s t r) key ≥ 0)) l)
def putT (s : Sch) (st : St) (t : Int) (key row : Row) : Tab := putL s t key row (row.length == 0) (tabAt st t)
def putS (s : Sch) (st : St) (t : Int) (key row : Row) : St := st.set t.toNat (putT s st t key row)
def stO (st : St) : Ob := ⟨41, 1, 24, st.flatMap tabC1⟩
theorem stO_ren (st : St) (ρ : Nat → Nat) : (stO st).ren ρ = stO st := ob_ren_deep ρ (all_flat tabC1_deep st)
theorem stO_lt (st : St) (n : Nat) : (stO st).lt n = true := ob_lt_deep n (all_flat tabC1_deep st)

def puA (s : Sch) (st : St) (t : Int) (key row : Row) (l : Tab) (i : Nat) (put : Bool) : Tab → AS
  | [] => AS.of 66 1 4 [(2, .one (.int .i64 t)), (3, .one (rowC key)), (4, .one (rowC row)), (5, .one (.ptr 1 0)), (6, .one (.ptr 2 0)), (10, .one (.ptr 3 0)), (11, .one (.sl true 0 0 [])), (12, .one (.bool put)), (23, .one (tabC l)), (24, .one (.int .i64 l.length)), (25, .one (.int .i64 (i : Nat)))]
      [(0, stO st), (1, ⟨32, 0, 0, schC s⟩), (2, ⟨25, 0, 0, [.gref 0]⟩), (3, ⟨25, 0, 0, [nilC]⟩)]
  | v :: r => AS.of 66 1 5 [(2, .one (.int .i64 t)), (3, .one (rowC key)), (4, .one (rowC row)), (5, .one (.ptr 1 0)), (6, .one (.ptr 2 0)), (10, .one (.ptr 3 0)), (11, .one (.gref 4)), (12, .one (.bool put)), (23, .one (tabC l)), (24, .one (.int .i64 l.length)), (25, .one (.int .i64 (i : Nat)))]
      [(0, stO st), (1, ⟨32, 0, 0, schC s⟩), (2, ⟨25, 0, 0, [.gref 0]⟩), (3, ⟨25, 0, 0, [nilC]⟩), (4, ⟨27, 1, 24, (v :: r).flatMap rowC1⟩)]

theorem put_spec (s : Sch) (st : St) (t : Int) (key row : Row) (hst : ∀ l ∈ st, okT l) (hk : okR key) (hr : okR row) (ht : 0 ≤ t ∧ t < st.length) (hl : (tabAt st t).length ≤ 1099511627776) :
    MSpec Try.prog 37 [.agg (schC s), .agg [.gref 0], .one (.int .i64 t), .one (rowC key), .one (rowC row)] (stO st) (stO (putS s st t key row)) (.agg [.gref 0]) := by
  refine mspec_x env08_ok mixed08 Try.func37 rfl 66 rfl _ rfl rfl ?_
  have htn : t.toNat < st.length := by omega
  obtain ⟨l, hle⟩ : ∃ l, tabAt st t = l := ⟨_, rfl⟩
  have hlg : st[t.toNat] = l := by rw [← tabAt_get htn]; exact hle
  rw [hle] at hl
  have hT := hst _ (List.getElem_mem htn)
  rw [hlg] at hT
  have ep : putS s st t key row = st.set t.toNat (putL s t key row (row.length == 0) l) := by rw [putS, putT, hle]
  rw [ep]
  refine wn ?_
  refine exI_as _ rfl ?_
  refine wn ?_
  refine ⟨?_⟩
  have hp0 : ((row.length : Int) == 0) = (row.length == 0) := by
    cases row <;> simp
    omega
  rw [hp0]
  obtain ⟨put0, hput⟩ : ∃ b, (row.length == 0) = b := ⟨_, rfl⟩
  rw [hput]
  refine wn ?_
  refine reqD_dec (by show 0 ≤ t ∧ t.toNat * 1 < (st.flatMap tabC1).length; rw [flat_len tabC1_len]; omega) ?_
  refine wn ?_
  refine forceL_as [tabC l] ((flat_get (f := tabC1) tabC1_len st t.toNat htn).trans (by rw [hlg]; rfl)) ?_
  refine wn ?_
  refine exI_as _ rfl ?_
  refine wn ?_
  refine loopX_of env08_ok mixed08 (σ := Nat × Bool × Tab) (fun q => puA s st t key row l q.1 q.2.1 q.2.2)
    (fun q => q.1 ≤ l.length ∧ q.2.2.length + (bif q.2.1 then 0 else 1) ≤ q.1 + 1 ∧ putL s t key row put0 l = q.2.2 ++ putL s t key row q.2.1 (l.drop q.1)) (fun q => l.length - q.1) (0, put0, []) (fun q => by obtain ⟨i, p, r⟩ := q; cases r <;> rfl) ?_ ⟨Nat.zero_le _, by show 0 + (bif put0 then 0 else 1) ≤ 1; cases put0 <;> decide, rfl⟩ ?_
  · exact (tid ⟨⟨(congrArg some (stO_ren st id)).symm, stO_lt st _, by decide⟩, ⟨rfl, rfl, by decide⟩, ⟨rfl, rfl, by decide⟩, ⟨rfl, rfl, by decide⟩, trivial⟩)
  rintro ⟨i, put, out⟩ ⟨hi, ho, hpu⟩
  have hi : i ≤ l.length := hi
  have ho : out.length + (bif put then 0 else 1) ≤ i + 1 := ho
  have hpu : putL s t key row put0 l = out ++ putL s t key row put (l.drop i) := hpu
  cases out with
  | nil =>
    refine wn ?_
    refine forkB_dec (fun h1 => ?_) (fun h1 => ?_)
    · have hi2 : i < l.length := by have h1 : (i : Int) < l.length := h1; omega
      rw [List.drop_eq_getElem_cons hi2] at hpu
      have hrr := hT.2 _ (List.getElem_mem hi2)
      obtain ⟨r, hre⟩ : ∃ r, l[i] = r := ⟨_, rfl⟩
      rw [hre] at hpu hrr
      rw [putL] at hpu
      have hkr := keyR_le s t r
      unfold okR at hrr hk
      refine wn ?_
      try (refine rq ?_)
      refine wn ?_
      refine forceL_as (rowC1 r) ((flat_get (f := rowC1) rowC1_len l i hi2).trans (by rw [hre])) ?_
      refine wn ?_
      refine cle (rkey_spec s t r hrr) callee18 ?_
      rintro x hx rfl
      refine wn ?_
      refine cle (rcompareRows_spec (keyR s t r) key (by omega) (by omega)) callee21 ?_
      rintro x hx rfl
      obtain ⟨o, hoe⟩ : ∃ o, cmpR (keyR s t r) key = o := ⟨_, rfl⟩
      rw [hoe] at hpu ⊢
      cases put with
      | true =>
        refine forkB_dec (fun h2 => ?_) (fun h2 => ?_)
        · have h2 : o ≥ 0 := h2
          refine wn ?_
          refine forkB_intro (fun h3 => ?_) (fun h3 => ?_)
          · have h3 : o ≠ 0 := by simpa using h3
            refine wn ?_
            try (refine rq ?_)
            refine wn ?_
            try (refine forkB_intro (fun h => absurd h (by simp [ty27])) (fun _ => ?_))
            refine wn ?_
            try (refine rq ?_)
            refine wn ?_
            refine exI_i64 (by show -9223372036854775808 ≤ (i : Int) + 1; omega) (by show (i : Int) + 1 ≤ 9223372036854775807; omega) ?_
            refine wn ?_
            refine ⟨(i + 1, true, [r]), ⟨by show i + 1 ≤ l.length; omega, by first | (simp at ho ⊢; done) | (simp at ho ⊢; omega), by rw [hpu]; simp [h2, h3]⟩, by show l.length - (i + 1) < l.length - i; omega, ?_⟩
            exact (tmv 4 5 ⟨⟨(congrArg some (stO_ren st _)).symm, stO_lt st _, by decide⟩, ⟨rfl, rfl, by decide⟩, ⟨rfl, rfl, by decide⟩, ⟨rfl, rfl, by decide⟩, ⟨rfl, rfl, by decide⟩, trivial⟩)
          · have h3 : o = 0 := by simpa using h3
            refine wn ?_
            refine exI_i64 (by show -9223372036854775808 ≤ (i : Int) + 1; omega) (by show (i : Int) + 1 ≤ 9223372036854775807; omega) ?_
            refine wn ?_
            refine ⟨(i + 1, true, []), ⟨by show i + 1 ≤ l.length; omega, by first | (simp at ho ⊢; done) | (simp at ho ⊢; omega), by rw [hpu]; simp [h2, h3]⟩, by show l.length - (i + 1) < l.length - i; omega, ?_⟩
            exact (tid ⟨⟨(congrArg some (stO_ren st id)).symm, stO_lt st _, by decide⟩, ⟨rfl, rfl, by decide⟩, ⟨rfl, rfl, by decide⟩, ⟨rfl, rfl, by decide⟩, trivial⟩)
        · have h2 : ¬ o ≥ 0 := h2
          have h3 : o ≠ 0 := by omega
          refine wn ?_
          refine forkB_intro (fun _ => ?_) (fun h => absurd (show o = 0 by simpa using h) h3)
          refine wn ?_
          try (refine rq ?_)
          refine wn ?_
          try (refine forkB_intro (fun h => absurd h (by simp [ty27])) (fun _ => ?_))
          refine wn ?_
          try (refine rq ?_)
          refine wn ?_
          refine exI_i64 (by show -9223372036854775808 ≤ (i : Int) + 1; omega) (by show (i : Int) + 1 ≤ 9223372036854775807; omega) ?_
          refine wn ?_
          refine ⟨(i + 1, true, [r]), ⟨by show i + 1 ≤ l.length; omega, by first | (simp at ho ⊢; done) | (simp at ho ⊢; omega), by rw [hpu]; simp [h2, h3]⟩, by show l.length - (i + 1) < l.length - i; omega, ?_⟩
          exact (tmv 4 5 ⟨⟨(congrArg some (stO_ren st _)).symm, stO_lt st _, by decide⟩, ⟨rfl, rfl, by decide⟩, ⟨rfl, rfl, by decide⟩, ⟨rfl, rfl, by decide⟩, ⟨rfl, rfl, by decide⟩, trivial⟩)
      | false =>
        refine forkB_dec (fun h2 => ?_) (fun h2 => ?_)
        · have h2 : o ≥ 0 := h2
          refine wn ?_
          refine cle (rcopy_spec row hr) callee40 ?_
          rintro x hx rfl
          refine wn ?_
          try (refine rq ?_)
          refine wn ?_
          try (refine forkB_intro (fun h => absurd h (by simp [ty27])) (fun _ => ?_))
          refine wn ?_
          try (refine rq ?_)
          refine wn ?_
          refine forkB_intro (fun h3 => ?_) (fun h3 => ?_)
          · have h3 : o ≠ 0 := by simpa using h3
            refine wn ?_
            try (refine rq ?_)
            refine wn ?_
            try (refine forkB_intro (fun h => absurd h (by simp [ty27])) (fun _ => ?_))
            refine wn ?_
            try (refine rq ?_)
            refine wn ?_
            try (refine rq ?_)
            refine wn ?_
            refine exI_i64 (by show -9223372036854775808 ≤ (i : Int) + 1; omega) (by show (i : Int) + 1 ≤ 9223372036854775807; omega) ?_
            refine wn ?_
            refine ⟨(i + 1, true, [row, r]), ⟨by show i + 1 ≤ l.length; omega, by first | (simp at ho ⊢; done) | (simp at ho ⊢; omega), by rw [hpu]; simp [h2, h3]⟩, by show l.length - (i + 1) < l.length - i; omega, ?_⟩
            exact (tmv 4 7 ⟨⟨(congrArg some (stO_ren st _)).symm, stO_lt st _, by decide⟩, ⟨rfl, rfl, by decide⟩, ⟨rfl, rfl, by decide⟩, ⟨rfl, rfl, by decide⟩, ⟨rfl, rfl, by decide⟩, trivial⟩)
          · have h3 : o = 0 := by simpa using h3
            refine wn ?_
            refine exI_i64 (by show -9223372036854775808 ≤ (i : Int) + 1; omega) (by show (i : Int) + 1 ≤ 9223372036854775807; omega) ?_
            refine wn ?_
            refine ⟨(i + 1, true, [row]), ⟨by show i + 1 ≤ l.length; omega, by first | (simp at ho ⊢; done) | (simp at ho ⊢; omega), by rw [hpu]; simp [h2, h3]⟩, by show l.length - (i + 1) < l.length - i; omega, ?_⟩
            exact (tmv 4 5 ⟨⟨(congrArg some (stO_ren st _)).symm, stO_lt st _, by decide⟩, ⟨rfl, rfl, by decide⟩, ⟨rfl, rfl, by decide⟩, ⟨rfl, rfl, by decide⟩, ⟨rfl, rfl, by decide⟩, trivial⟩)
        · have h2 : ¬ o ≥ 0 := h2
          have h3 : o ≠ 0 := by omega
          refine wn ?_
          refine forkB_intro (fun _ => ?_) (fun h => absurd (show o = 0 by simpa using h) h3)
          refine wn ?_
          try (refine rq ?_)
          refine wn ?_
          try (refine forkB_intro (fun h => absurd h (by simp [ty27])) (fun _ => ?_))
          refine wn ?_
          try (refine rq ?_)
          refine wn ?_
          refine exI_i64 (by show -9223372036854775808 ≤ (i : Int) + 1; omega) (by show (i : Int) + 1 ≤ 9223372036854775807; omega) ?_
          refine wn ?_
          refine ⟨(i + 1, false, [r]), ⟨by show i + 1 ≤ l.length; omega, by first | (simp at ho ⊢; done) | (simp at ho ⊢; omega), by rw [hpu]; simp [h2, h3]⟩, by show l.length - (i + 1) < l.length - i; omega, ?_⟩
          exact (tmv 4 5 ⟨⟨(congrArg some (stO_ren st _)).symm, stO_lt st _, by decide⟩, ⟨rfl, rfl, by decide⟩, ⟨rfl, rfl, by decide⟩, ⟨rfl, rfl, by decide⟩, ⟨rfl, rfl, by decide⟩, trivial⟩)
    · have ei : i = l.length := by have h1 : ¬ (i : Int) < l.length := h1; omega
      rw [List.drop_eq_nil_of_le (by omega), putL] at hpu
      cases put with
      | true =>
        refine wn ?_
        refine reqD_dec (by show 0 ≤ t ∧ t.toNat * 1 < (st.flatMap tabC1).length; rw [flat_len tabC1_len]; omega) ?_
        refine wn ?_
        refine reqD_dec (by show t.toNat * 1 + 1 ≤ (st.flatMap tabC1).length; rw [flat_len tabC1_len]; omega) ?_
        refine wn ?_
        refine forceL_as ((st.flatMap tabC1).set t.toNat (nilC)) (setR1 _ t.toNat _ (by show t.toNat < (st.flatMap tabC1).length; rw [flat_len tabC1_len]; omega)) ?_
        refine wn ?_
        refine retX_tr (Tr.obj 0 (ob := ⟨41, 1, 24, (st.flatMap tabC1).set t.toNat nilC⟩) (by rfl) (cells := (st.set t.toNat []).flatMap tabC1) (set_flat st t.toNat [] ▸ Pw.set AC.LeV.refl (AC.LeV.sl (AC.Le.nil (.inl rfl))))) ?_
        refine retX_mut1 rfl rfl (by exact Nat.le_of_ble_eq_true rfl) (o1 := stO (st.set t.toNat [])) rfl rfl (stO_lt _ _) rfl ?_ rfl
        rw [hpu]
        rfl
      | false =>
        refine wn ?_
        refine cle (rcopy_spec row hr) callee40 ?_
        rintro x hx rfl
        refine wn ?_
        try (refine rq ?_)
        refine wn ?_
        try (refine forkB_intro (fun h => absurd h (by simp [ty27])) (fun _ => ?_))
        refine wn ?_
        try (refine rq ?_)
        refine wn ?_
        refine reqD_dec (by show 0 ≤ t ∧ t.toNat * 1 < (st.flatMap tabC1).length; rw [flat_len tabC1_len]; omega) ?_
        refine wn ?_
        refine reqD_dec (by show t.toNat * 1 + 1 ≤ (st.flatMap tabC1).length; rw [flat_len tabC1_len]; omega) ?_
        refine wn ?_
        refine forceL_as ((st.flatMap tabC1).set t.toNat (.gref 5)) (setR1 _ t.toNat _ (by show t.toNat < (st.flatMap tabC1).length; rw [flat_len tabC1_len]; omega)) ?_
        refine wn ?_
        refine retX_tr (Tr.frz' (T := 27) (s := 1) (B := 24) (cells := ([row]).flatMap rowC1) 5 ([row]).length (by rfl) (by decide) (flat_len rowC1_len _) (all_flat rowC1_deep _)) ?_
        have hX : ((st.flatMap tabC1).set t.toNat (.gref 5)).map (fun c => c.sub 5 (.sl false 24 ([row]).length (([row]).flatMap rowC1))) = (st.set t.toNat ([row])).flatMap tabC1 := by
          rw [sub_set 5 _ (all_flat tabC1_deep st), ← set_flat]
          rfl
        refine retX_mut1 rfl rfl (by exact Nat.le_of_ble_eq_true rfl) (o1 := stO (st.set t.toNat ([row]))) (congrArg (fun z => some (Ob.mk 41 1 24 z)) hX) rfl (stO_lt _ _) rfl ?_ rfl
        rw [hpu]
        simp
  | cons v out =>
    refine wn ?_
    refine forkB_dec (fun h1 => ?_) (fun h1 => ?_)
    · have hi2 : i < l.length := by have h1 : (i : Int) < l.length := h1; omega
      rw [List.drop_eq_getElem_cons hi2] at hpu
      have hrr := hT.2 _ (List.getElem_mem hi2)
      obtain ⟨r, hre⟩ : ∃ r, l[i] = r := ⟨_, rfl⟩
      rw [hre] at hpu hrr
      rw [putL] at hpu
      have hkr := keyR_le s t r
      unfold okR at hrr hk
      refine wn ?_
      try (refine rq ?_)
      refine wn ?_
      refine forceL_as (rowC1 r) ((flat_get (f := rowC1) rowC1_len l i hi2).trans (by rw [hre])) ?_
      refine wn ?_
      refine cle (rkey_spec s t r hrr) callee18 ?_
      rintro x hx rfl
      refine wn ?_
      refine cle (rcompareRows_spec (keyR s t r) key (by omega) (by omega)) callee21 ?_
      rintro x hx rfl
      obtain ⟨o, hoe⟩ : ∃ o, cmpR (keyR s t r) key = o := ⟨_, rfl⟩
      rw [hoe] at hpu ⊢
      cases put with
      | true =>
        refine forkB_dec (fun h2 => ?_) (fun h2 => ?_)
        · have h2 : o ≥ 0 := h2
          refine wn ?_
          refine forkB_intro (fun h3 => ?_) (fun h3 => ?_)
          · have h3 : o ≠ 0 := by simpa using h3
            refine wn ?_
            try (refine rq ?_)
            refine wn ?_
            try (refine reqD_dec (flat_div rowC1_len (by decide) _) ?_)
            refine reqD_dec (by simp only [flat_len rowC1_len]; simp [ty27]; simp at ho; omega) ?_
            refine forceL_as (((v :: out) ++ [r]).flatMap rowC1) (by rw [List.flatMap_append]; rfl) ?_
            refine wn ?_
            refine exI_i64 (by show -9223372036854775808 ≤ (i : Int) + 1; omega) (by show (i : Int) + 1 ≤ 9223372036854775807; omega) ?_
            refine wn ?_
            refine ⟨(i + 1, true, v :: (out ++ [r])), ⟨by show i + 1 ≤ l.length; omega, by first | (simp at ho ⊢; done) | (simp at ho ⊢; omega), by rw [hpu]; simp [h2, h3]⟩, by show l.length - (i + 1) < l.length - i; omega, ?_⟩
            exact (tmv 4 6 ⟨⟨(congrArg some (stO_ren st _)).symm, stO_lt st _, by decide⟩, ⟨rfl, rfl, by decide⟩, ⟨rfl, rfl, by decide⟩, ⟨rfl, rfl, by decide⟩, ⟨(congrArg some (ob_ren_deep (mv 4 6) (all_flat rowC1_deep (v :: (out ++ (r :: List.nil)))))).symm, ob_lt_deep _ (all_flat rowC1_deep _), by decide⟩, trivial⟩)
          · have h3 : o = 0 := by simpa using h3
            refine wn ?_
            refine exI_i64 (by show -9223372036854775808 ≤ (i : Int) + 1; omega) (by show (i : Int) + 1 ≤ 9223372036854775807; omega) ?_
            refine wn ?_
            refine ⟨(i + 1, true, v :: out), ⟨by show i + 1 ≤ l.length; omega, by first | (simp at ho ⊢; done) | (simp at ho ⊢; omega), by rw [hpu]; simp [h2, h3]⟩, by show l.length - (i + 1) < l.length - i; omega, ?_⟩
            exact (tid ⟨⟨(congrArg some (stO_ren st id)).symm, stO_lt st _, by decide⟩, ⟨rfl, rfl, by decide⟩, ⟨rfl, rfl, by decide⟩, ⟨rfl, rfl, by decide⟩, ⟨(congrArg some (ob_ren_deep id (all_flat rowC1_deep (v :: out)))).symm, ob_lt_deep _ (all_flat rowC1_deep _), by decide⟩, trivial⟩)
        · have h2 : ¬ o ≥ 0 := h2
          have h3 : o ≠ 0 := by omega
          refine wn ?_
          refine forkB_intro (fun _ => ?_) (fun h => absurd (show o = 0 by simpa using h) h3)
          refine wn ?_
          try (refine rq ?_)
          refine wn ?_
          try (refine reqD_dec (flat_div rowC1_len (by decide) _) ?_)
          refine reqD_dec (by simp only [flat_len rowC1_len]; simp [ty27]; simp at ho; omega) ?_
          refine forceL_as (((v :: out) ++ [r]).flatMap rowC1) (by rw [List.flatMap_append]; rfl) ?_
          refine wn ?_
          refine exI_i64 (by show -9223372036854775808 ≤ (i : Int) + 1; omega) (by show (i : Int) + 1 ≤ 9223372036854775807; omega) ?_
          refine wn ?_
          refine ⟨(i + 1, true, v :: (out ++ [r])), ⟨by show i + 1 ≤ l.length; omega, by first | (simp at ho ⊢; done) | (simp at ho ⊢; omega), by rw [hpu]; simp [h2, h3]⟩, by show l.length - (i + 1) < l.length - i; omega, ?_⟩
          exact (tmv 4 6 ⟨⟨(congrArg some (stO_ren st _)).symm, stO_lt st _, by decide⟩, ⟨rfl, rfl, by decide⟩, ⟨rfl, rfl, by decide⟩, ⟨rfl, rfl, by decide⟩, ⟨(congrArg some (ob_ren_deep (mv 4 6) (all_flat rowC1_deep (v :: (out ++ (r :: List.nil)))))).symm, ob_lt_deep _ (all_flat rowC1_deep _), by decide⟩, trivial⟩)
      | false =>
        refine forkB_dec (fun h2 => ?_) (fun h2 => ?_)
        · have h2 : o ≥ 0 := h2
          refine wn ?_
          refine cle (rcopy_spec row hr) callee40 ?_
          rintro x hx rfl
          refine wn ?_
          try (refine rq ?_)
          refine wn ?_
          try (refine reqD_dec (flat_div rowC1_len (by decide) _) ?_)
          refine reqD_dec (by simp only [flat_len rowC1_len]; simp [ty27]; simp at ho; omega) ?_
          refine forceL_as (((v :: out) ++ [row]).flatMap rowC1) (by rw [List.flatMap_append]; rfl) ?_
          refine wn ?_
          refine forkB_intro (fun h3 => ?_) (fun h3 => ?_)
          · have h3 : o ≠ 0 := by simpa using h3
            refine wn ?_
            try (refine rq ?_)
            refine wn ?_
            try (refine reqD_dec (flat_div rowC1_len (by decide) _) ?_)
            refine reqD_dec (by simp only [flat_len rowC1_len]; simp [ty27]; simp at ho; omega) ?_
            refine forceL_as ((((v :: out) ++ [row]) ++ [r]).flatMap rowC1) (by simp only [List.flatMap_append]; rfl) ?_
            refine wn ?_
            refine exI_i64 (by show -9223372036854775808 ≤ (i : Int) + 1; omega) (by show (i : Int) + 1 ≤ 9223372036854775807; omega) ?_
            refine wn ?_
            refine ⟨(i + 1, true, v :: (out ++ [row, r])), ⟨by show i + 1 ≤ l.length; omega, by first | (simp at ho ⊢; done) | (simp at ho ⊢; omega), by rw [hpu]; simp [h2, h3]⟩, by show l.length - (i + 1) < l.length - i; omega, ?_⟩
            have hZ : (v :: (out ++ [row, r])).flatMap rowC1 = (((v :: out) ++ [row]) ++ [r]).flatMap rowC1 := by simp
            exact (tmv 4 8 ⟨⟨(congrArg some (stO_ren st _)).symm, stO_lt st _, by decide⟩, ⟨rfl, rfl, by decide⟩, ⟨rfl, rfl, by decide⟩, ⟨rfl, rfl, by decide⟩, ⟨(congrArg some ((ob_ren_deep (mv 4 8) (all_flat rowC1_deep (v :: (out ++ (row :: r :: List.nil))))).trans (congrArg (Ob.mk 27 1 24) hZ))).symm, ob_lt_deep _ (all_flat rowC1_deep _), by decide⟩, trivial⟩)
          · have h3 : o = 0 := by simpa using h3
            refine wn ?_
            refine exI_i64 (by show -9223372036854775808 ≤ (i : Int) + 1; omega) (by show (i : Int) + 1 ≤ 9223372036854775807; omega) ?_
            refine wn ?_
            refine ⟨(i + 1, true, v :: (out ++ [row])), ⟨by show i + 1 ≤ l.length; omega, by first | (simp at ho ⊢; done) | (simp at ho ⊢; omega), by rw [hpu]; simp [h2, h3]⟩, by show l.length - (i + 1) < l.length - i; omega, ?_⟩
            exact (tmv 4 6 ⟨⟨(congrArg some (stO_ren st _)).symm, stO_lt st _, by decide⟩, ⟨rfl, rfl, by decide⟩, ⟨rfl, rfl, by decide⟩, ⟨rfl, rfl, by decide⟩, ⟨(congrArg some (ob_ren_deep (mv 4 6) (all_flat rowC1_deep (v :: (out ++ (row :: List.nil)))))).symm, ob_lt_deep _ (all_flat rowC1_deep _), by decide⟩, trivial⟩)
        · have h2 : ¬ o ≥ 0 := h2
          have h3 : o ≠ 0 := by omega
          refine wn ?_
          refine forkB_intro (fun _ => ?_) (fun h => absurd (show o = 0 by simpa using h) h3)
          refine wn ?_
          try (refine rq ?_)
          refine wn ?_
          try (refine reqD_dec (flat_div rowC1_len (by decide) _) ?_)
          refine reqD_dec (by simp only [flat_len rowC1_len]; simp [ty27]; simp at ho; omega) ?_
          refine forceL_as (((v :: out) ++ [r]).flatMap rowC1) (by rw [List.flatMap_append]; rfl) ?_
          refine wn ?_
          refine exI_i64 (by show -9223372036854775808 ≤ (i : Int) + 1; omega) (by show (i : Int) + 1 ≤ 9223372036854775807; omega) ?_
          refine wn ?_
          refine ⟨(i + 1, false, v :: (out ++ [r])), ⟨by show i + 1 ≤ l.length; omega, by first | (simp at ho ⊢; done) | (simp at ho ⊢; omega), by rw [hpu]; simp [h2, h3]⟩, by show l.length - (i + 1) < l.length - i; omega, ?_⟩
          exact (tmv 4 6 ⟨⟨(congrArg some (stO_ren st _)).symm, stO_lt st _, by decide⟩, ⟨rfl, rfl, by decide⟩, ⟨rfl, rfl, by decide⟩, ⟨rfl, rfl, by decide⟩, ⟨(congrArg some (ob_ren_deep (mv 4 6) (all_flat rowC1_deep (v :: (out ++ (r :: List.nil)))))).symm, ob_lt_deep _ (all_flat rowC1_deep _), by decide⟩, trivial⟩)
    · have ei : i = l.length := by have h1 : ¬ (i : Int) < l.length := h1; omega
      rw [List.drop_eq_nil_of_le (by omega), putL] at hpu
      cases put with
      | true =>
        refine wn ?_
        refine reqD_dec (by show 0 ≤ t ∧ t.toNat * 1 < (st.flatMap tabC1).length; rw [flat_len tabC1_len]; omega) ?_
        refine wn ?_
        refine reqD_dec (by show t.toNat * 1 + 1 ≤ (st.flatMap tabC1).length; rw [flat_len tabC1_len]; omega) ?_
        refine wn ?_
        refine forceL_as ((st.flatMap tabC1).set t.toNat (.gref 4)) (setR1 _ t.toNat _ (by show t.toNat < (st.flatMap tabC1).length; rw [flat_len tabC1_len]; omega)) ?_
        refine wn ?_
        refine retX_tr (Tr.frz' (T := 27) (s := 1) (B := 24) (cells := (v :: out).flatMap rowC1) 4 (v :: out).length (by rfl) (by decide) (flat_len rowC1_len _) (all_flat rowC1_deep _)) ?_
        have hX : ((st.flatMap tabC1).set t.toNat (.gref 4)).map (fun c => c.sub 4 (.sl false 24 (v :: out).length ((v :: out).flatMap rowC1))) = (st.set t.toNat (v :: out)).flatMap tabC1 := by
          rw [sub_set 4 _ (all_flat tabC1_deep st), ← set_flat]
          rfl
        refine retX_mut1 rfl rfl (by exact Nat.le_of_ble_eq_true rfl) (o1 := stO (st.set t.toNat (v :: out))) (congrArg (fun z => some (Ob.mk 41 1 24 z)) hX) rfl (stO_lt _ _) rfl ?_ rfl
        rw [hpu]
        simp
      | false =>
        refine wn ?_
        refine cle (rcopy_spec row hr) callee40 ?_
        rintro x hx rfl
        refine wn ?_
        try (refine rq ?_)
        refine wn ?_
        try (refine reqD_dec (flat_div rowC1_len (by decide) _) ?_)
        refine reqD_dec (by simp only [flat_len rowC1_len]; simp [ty27]; simp at ho; omega) ?_
        refine forceL_as (((v :: out) ++ [row]).flatMap rowC1) (by rw [List.flatMap_append]; rfl) ?_
        refine wn ?_
        refine reqD_dec (by show 0 ≤ t ∧ t.toNat * 1 < (st.flatMap tabC1).length; rw [flat_len tabC1_len]; omega) ?_
        refine wn ?_
        refine reqD_dec (by show t.toNat * 1 + 1 ≤ (st.flatMap tabC1).length; rw [flat_len tabC1_len]; omega) ?_
        refine wn ?_
        refine forceL_as ((st.flatMap tabC1).set t.toNat (.gref 6)) (setR1 _ t.toNat _ (by show t.toNat < (st.flatMap tabC1).length; rw [flat_len tabC1_len]; omega)) ?_
        refine wn ?_
        refine retX_tr (Tr.frz' (T := 27) (s := 1) (B := 24) (cells := ((v :: out) ++ [row]).flatMap rowC1) 6 ((v :: out) ++ [row]).length (by rfl) (by decide) (flat_len rowC1_len _) (all_flat rowC1_deep _)) ?_
        have hX : ((st.flatMap tabC1).set t.toNat (.gref 6)).map (fun c => c.sub 6 (.sl false 24 ((v :: out) ++ [row]).length (((v :: out) ++ [row]).flatMap rowC1))) = (st.set t.toNat ((v :: out) ++ [row])).flatMap tabC1 := by
          rw [sub_set 6 _ (all_flat tabC1_deep st), ← set_flat]
          rfl
        refine retX_mut1 rfl rfl (by exact Nat.le_of_ble_eq_true rfl) (o1 := stO (st.set t.toNat ((v :: out) ++ [row]))) (congrArg (fun z => some (Ob.mk 41 1 24 z)) hX) rfl (stO_lt _ _) rfl ?_ rfl
        rw [hpu]
        simp
theorem callee37 : callee Try.prog 37 := callee_of Try.func37 rfl rfl
end Go.Proofs.Ve


/-
  VeK8: the case generator: states.
-/
set_option linter.unusedVariables false
set_option linter.unusedSimpArgs false
set_option pp.maxSteps 2000
set_option maxHeartbeats 2000000
namespace Go.Proofs.Ve
open Go

theorem putL_len (s : Sch) (t : Int) (key row : Row) : ∀ (l : Tab) (put : Bool), (putL s t key row put l).length + (bif put then 1 else 0) ≤ l.length + 1
  | [], put => by cases put <;> simp [putL]
  | r :: l, put => by
    have h := putL_len s t key row l (put || decide (cmpR (keyR s t r) key ≥ 0))
    rw [putL]
    simp only [List.length_append, List.length_cons]
    cases put <;> by_cases h1 : cmpR (keyR s t r) key ≥ 0 <;> by_cases h2 : cmpR (keyR s t r) key = 0 <;> simp [h1, h2] at h ⊢ <;> omega
theorem putL_mem (s : Sch) (t : Int) (key row : Row) : ∀ (l : Tab) (put : Bool) (x : Row), x ∈ putL s t key row put l → x = row ∨ x ∈ l
  | [], put, x, h => by cases put <;> simp [putL] at h; exact .inl h
  | r :: l, put, x, h => by
    rw [putL] at h
    rcases List.mem_append.1 h with h | h
    · left
      cases hb : (!put && decide (cmpR (keyR s t r) key ≥ 0)) <;> rw [hb] at h
      · cases h
      · exact List.mem_singleton.1 h
    · rcases List.mem_append.1 h with h | h
      · right
        cases hb : decide (cmpR (keyR s t r) key ≠ 0) <;> rw [hb] at h
        · cases h
        · exact List.mem_singleton.1 h ▸ List.mem_cons_self ..
      · rcases putL_mem s t key row l _ x h with h | h
        · exact .inl h
        · exact .inr (List.mem_cons_of_mem _ h)

/-- What is kept of a state that grows: its rows are of modest length, its tables have at most n rows. -/
structure okG (st : St) (n : Nat) : Prop where
  row : ∀ l ∈ st, ∀ r ∈ l, okR r
  len : ∀ l ∈ st, l.length ≤ n
theorem okG.tabs {st : St} {n : Nat} (h : okG st n) (hn : n ≤ 1099511627776) : ∀ l ∈ st, okT l := fun l hl => ⟨by have := h.len l hl; omega, h.row l hl⟩
theorem okG.put {s : Sch} {st : St} {n : Nat} (h : okG st n) {t : Int} (ht : t.toNat < st.length) {key row : Row} (hr : okR row) : okG (putS s st t key row) (n + 1) := by
  have hm : tabAt st t ∈ st := by rw [tabAt_get ht]; exact List.getElem_mem ht
  constructor
  · intro l hl r hrl
    rcases List.mem_or_eq_of_mem_set hl with h1 | h1
    · exact h.row l h1 r hrl
    · rw [h1] at hrl
      rcases putL_mem s t key row _ _ r hrl with h2 | h2
      · rw [h2]; exact hr
      · exact h.row _ hm r h2
  · intro l hl
    rcases List.mem_or_eq_of_mem_set hl with h1 | h1
    · have := h.len l h1; omega
    · rw [h1]
      have h2 := putL_len s t key row (tabAt st t) (row.length == 0)
      have h3 := h.len _ hm
      unfold putT
      omega
theorem okG.mono {st : St} {n m : Nat} (h : okG st n) (hm : n ≤ m) : okG st m := ⟨h.row, fun l hl => Nat.le_trans (h.len l hl) hm⟩

theorem rowG_len (cs : List Int) (key mode : Int) : ∀ (ks : List Int) (i p : Nat), (rowG cs key mode i ks p).1.length = ks.length
  | [], i, p => rfl
  | k :: r, i, p => by rw [rowG]; simp [rowG_len cs key mode r]
theorem rowG_in {cs : List Int} (key mode : Int) : ∀ (ks : List Int) (i p : Nat), p ≤ cs.length → (rowG cs key mode i ks p).2 ≤ cs.length
  | [], i, p, h => h
  | k :: r, i, p, h => by rw [rowG]; exact rowG_in key mode r _ _ (cellG_in h)

def keyAt (s : Sch) (t : Int) : Int := if h : 0 ≤ t ∧ t < s.tables.length then (s.tables[t.toNat]'(by omega)).key else 0
def fillG (cs : List Int) (s : Sch) (mode t : Int) : Nat → St → Nat → St × Nat
  | 0, st, p => (st, p)
  | n + 1, st, p => fillG cs s mode t n (putS s st t (keyR s t (rowG cs (keyAt s t) mode 0 (kindsR s t) p).1) (rowG cs (keyAt s t) mode 0 (kindsR s t) p).1) (rowG cs (keyAt s t) mode 0 (kindsR s t) p).2
def tabsG (cs : List Int) (s : Sch) (mode : Int) : Nat → Nat → St → Nat → St × Nat
  | 0, _, st, p => (st, p)
  | k + 1, t, st, p => tabsG cs s mode k (t + 1) (fillG cs s mode t (intG cs 5 p).toNat st (intP cs 5 p)).1 (fillG cs s mode t (intG cs 5 p).toNat st (intP cs 5 p)).2
def stateG (cs : List Int) (s : Sch) (mode : Int) (p : Nat) : St × Nat := tabsG cs s mode s.tables.length 0 (List.replicate s.tables.length []) p

theorem pw_repl : ∀ n : Nat, Pw AC.LeV (outC (List.replicate n []) 0) ((List.replicate n ([] : Tab)).flatMap tabC1) := by
  have key : ∀ n : Nat, Pw AC.LeV (List.replicate n nilC) ((List.replicate n ([] : Tab)).flatMap tabC1) := fun n => by
    induction n with
    | zero => exact .nil
    | succ n ih =>
      rw [List.replicate_succ, List.replicate_succ, List.flatMap_cons]
      exact .cons (AC.LeV.sl (AC.Le.nil (.inl rfl))) ih
  intro n
  have e : outC (List.replicate n []) 0 = List.replicate n nilC := by simp [outC]
  rw [e]
  exact key n
theorem state_spec (cs : List Int) (h : ok8 cs) (s : Sch) (hs : ∀ T ∈ s.tables, T.cols.length ≤ 1099511627776) (hl : s.tables.length ≤ 1073741824) (mode : Int) (p : Nat) (hp : p ≤ cs.length) :
    MSpec Try.prog 11 [.one (.ptr 0 0), .agg (schC s), .one (.int .i64 mode)] (caseO cs p) (caseO cs (stateG cs s mode p).2) (.agg (stC (stateG cs s mode p).1)) := by
  refine mspec_x env08_ok mixed08 Try.func11 rfl 51 rfl _ rfl rfl ?_
  refine wn ?_
  refine exI_as _ rfl ?_
  refine wn ?_
  try (refine rq ?_)
  refine wn ?_
  try (refine rq ?_)
  refine wn ?_
  refine forceL_as (outC (List.replicate s.tables.length []) 0) (by simp [outC, nilC, ty41]) ?_
  refine wn ?_
  refine exI_as _ rfl ?_
  refine wn ?_
  obtain ⟨N, hN⟩ : ∃ N, s.tables.length = N := ⟨_, rfl⟩
  have eS : stateG cs s mode p = tabsG cs s mode N 0 (List.replicate N []) p := by rw [stateG, hN]
  rw [hN] at hl ⊢
  refine loopX_of env08_ok mixed08 (σ := Nat × St × Nat) (fun q => AS.of 51 1 5 [(0, .one (.ptr 0 0)), (2, .one (.int .i64 mode)), (4, .one (.ptr 1 0)), (6, .one (.ptr 2 0)), (7, .one (.ptr 4 0)), (18, .one (.int .i64 N)), (19, .one (.int .i64 (q.1 : Nat)))]
      [(0, caseO cs q.2.2), (1, ⟨32, 0, 0, schC s⟩), (2, ⟨25, 0, 0, [nilC]⟩), (3, stO q.2.1), (4, ⟨25, 0, 0, [.gref 3]⟩)])
    (fun q => q.1 ≤ N ∧ q.2.1.length = N ∧ okG q.2.1 (4 * q.1) ∧ q.2.2 ≤ cs.length ∧ stateG cs s mode p = tabsG cs s mode (N - q.1) q.1 q.2.1 q.2.2) (fun q => N - q.1) (0, List.replicate N [], p) (fun _ => rfl) ?_ ⟨Nat.zero_le _, by simp, ⟨fun l hl' r hr => ?_, fun l hl' => ?_⟩, hp, eS⟩ ?_
  · refine Tr.trans (Tr.obj 3 (ob := ⟨41, 1, 24, outC (List.replicate N []) 0⟩) (by rfl) (cells := (List.replicate N ([] : Tab)).flatMap tabC1) (pw_repl N)) ?_
    exact (tid ⟨⟨rfl, rfl, by decide⟩, ⟨rfl, rfl, by decide⟩, ⟨rfl, rfl, by decide⟩, ⟨(congrArg some (stO_ren (List.replicate N List.nil) id)).symm, stO_lt _ _, by decide⟩, ⟨rfl, rfl, by decide⟩, trivial⟩)
  · rw [List.eq_of_mem_replicate hl'] at hr; cases hr
  · rw [List.eq_of_mem_replicate hl']; exact Nat.zero_le _
  rintro ⟨i, st, p1⟩ ⟨hi, hst, hok, hp1, hsp⟩
  have hi : i ≤ N := hi
  have hst : st.length = N := hst
  have hok : okG st (4 * i) := hok
  have hp1 : p1 ≤ cs.length := hp1
  have hsp : stateG cs s mode p = tabsG cs s mode (N - i) i st p1 := hsp
  refine wn ?_
  refine forkB_dec (fun h1 => ?_) (fun h1 => ?_)
  · have hi2 : i < N := by have h1 : (i : Int) < N := h1; omega
    rw [show N - i = (N - (i + 1)) + 1 by omega, tabsG] at hsp
    have g0 := intG_lo cs h 5 p1
    have g5 := intG_hi cs h 5 (by decide) p1
    obtain ⟨m0, hm0⟩ : ∃ m, (intG cs 5 p1).toNat = m := ⟨_, rfl⟩
    have hm1 : intG cs 5 p1 = (m0 : Int) := by omega
    rw [hm0] at hsp
    refine wn ?_
    refine cm (int_spec cs h 5 p1 hp1) (callee25) ?_
    refine wn ?_
    rw [hm1]
    refine loopX_of env08_ok mixed08 (σ := Nat × St × Nat) (fun q => AS.of 51 1 5 [(0, .one (.ptr 0 0)), (2, .one (.int .i64 mode)), (4, .one (.ptr 1 0)), (6, .one (.ptr 2 0)), (7, .one (.ptr 4 0)), (8, .one (.int .i64 (i : Nat))), (9, .one (.int .i64 (q.1 : Nat))), (18, .one (.int .i64 N)), (19, .one (.int .i64 (i : Nat)))]
      [(0, caseO cs q.2.2), (1, ⟨32, 0, 0, schC s⟩), (2, ⟨25, 0, 0, [nilC]⟩), (3, stO q.2.1), (4, ⟨25, 0, 0, [.gref 3]⟩)])
      (fun q => q.1 ≤ 4 ∧ q.2.1.length = N ∧ okG q.2.1 (4 * i + 4 - q.1) ∧ q.2.2 ≤ cs.length ∧ fillG cs s mode i m0 st (intP cs 5 p1) = fillG cs s mode i q.1 q.2.1 q.2.2) (fun q => q.1) (m0, st, intP cs 5 p1) (fun _ => rfl)
      (tid ⟨⟨rfl, rfl, by decide⟩, ⟨rfl, rfl, by decide⟩, ⟨rfl, rfl, by decide⟩, ⟨(congrArg some (stO_ren st id)).symm, stO_lt _ _, by decide⟩, ⟨rfl, rfl, by decide⟩, trivial⟩) ⟨by show m0 ≤ 4; omega, hst, hok.mono (by omega), intP_in hp1, rfl⟩ ?_
    rintro ⟨m, st2, p2⟩ ⟨hm, hst2, hok2, hp2, hsp2⟩
    have hm : m ≤ 4 := hm
    have hst2 : st2.length = N := hst2
    have hok2 : okG st2 (4 * i + 4 - m) := hok2
    have hp2 : p2 ≤ cs.length := hp2
    have hsp2 : fillG cs s mode i m0 st (intP cs 5 p1) = fillG cs s mode i m st2 p2 := hsp2
    refine wn ?_
    refine forkB_dec (fun h2 => ?_) (fun h2 => ?_)
    · obtain ⟨k, rfl⟩ : ∃ k, m = k + 1 := ⟨m - 1, by have h2 : (m : Int) > 0 := h2; omega⟩
      rw [fillG] at hsp2
      have hti : i < s.tables.length := by omega
      have hT := hs _ (List.getElem_mem hti)
      have hka : keyAt s i = s.tables[i].key := dif_pos (by omega)
      rw [hka] at hsp2
      obtain ⟨T, hTe⟩ : ∃ T, s.tables[i] = T := ⟨_, rfl⟩
      rw [hTe] at hsp2 hT
      have hkl : (kindsR s i).length ≤ 1099511627776 := by
        unfold kindsR
        rw [dif_pos (by omega), tblKinds, kindsOf_len]
        show s.tables[i].cols.length ≤ _
        rw [hTe]; exact hT
      refine wn ?_
      refine drawnX_phase env08_ok (fun id => id == 1) (List.range 13) (tks 0 3 (tks 4 7 (.one 3 (.one 11 (tks 12 1 (.stop)))))) 0 (lst 13 []) (by kernel_rfl) ?_
      refine wn ?_
      refine reqD_dec (by omega) ?_
      refine forceL_as (tblC T) ((flat_get (f := tblC) tblC_len s.tables i hti).trans (by rw [hTe])) ?_
      refine wn ?_
      refine cle (kinds_spec s i hs) callee36 ?_
      rintro x hx rfl
      refine wn ?_
      refine callX_mut 0 (row_spec cs h (kindsR s i) T.key mode hkl p2 hp2) (callee15) rfl rfl rfl (.cons (AV.Le.refl _) (.cons (kindsV_le _) (.cons (AV.Le.refl _) (.cons (AV.Le.refl _) .nil)))) rfl (by exact Nat.le_of_ble_eq_true rfl) rfl rfl (caseO_ren cs _) rfl ?_
      refine wn ?_
      refine drawnX_done (by kernel_rfl) ?_
      refine wn ?_
      obtain ⟨row, hrow⟩ : ∃ row, (rowG cs T.key mode 0 (kindsR s i) p2).1 = row := ⟨_, rfl⟩
      obtain ⟨p3, hp3⟩ : ∃ p3, (rowG cs T.key mode 0 (kindsR s i) p2).2 = p3 := ⟨_, rfl⟩
      have hrl : okR row := by
        have := rowG_len cs T.key mode (kindsR s i) 0 p2
        rw [hrow] at this
        unfold okR
        omega
      have hp3l : p3 ≤ cs.length := by rw [← hp3]; exact rowG_in T.key mode (kindsR s i) 0 p2 hp2
      rw [hrow, hp3] at hsp2 ⊢
      have hok3 := okG.put (s := s) hok2 (t := i) (by omega) (key := keyR s i row) hrl
      have hkR : okR (keyR s i row) := by
        have := keyR_le s i row
        unfold okR at hrl ⊢
        omega
      have htl : (tabAt st2 i).length ≤ 1099511627776 := by
        have h5 : tabAt st2 i ∈ st2 := by rw [tabAt_get (by omega)]; exact List.getElem_mem _
        have := hok2.len _ h5
        omega
      have hsl : (putS s st2 i (keyR s i row) row).length = N := by unfold putS; rw [List.length_set]; exact hst2
      refine wn ?_
      refine drawnX_phase env08_ok (fun id => id == 1 || id == 4) (List.range 9) (tks 0 6 (tks 7 1 (.one 6 (.one 8 (.stop))))) 1 (lst 10 [9]) (by kernel_rfl) ?_
      refine wn ?_
      refine cle (rkey_spec s i row hrl) callee18 ?_
      rintro x hx rfl
      refine wn ?_
      refine callX_mut1 3 (.agg [.gref 3]) (put_spec s st2 i (keyR s i row) row (hok2.tabs (by omega)) hkR hrl (by omega) htl) callee37 rfl rfl rfl (.cons (AV.Le.refl _) (.cons (AV.Le.refl _) (.cons (AV.Le.refl _) (.cons (AV.Le.refl _) (.cons (AV.Le.refl _) .nil))))) rfl (by exact Nat.le_of_ble_eq_true rfl) (congrArg some (stO_ren st2 _).symm) (stO_lt _ _) (stO_ren _) (fun nx => rfl) ?_
      refine wn ?_
      refine drawnX_phase env08_ok (fun _ => false) (List.range 10) (.one 9 (.stop)) 0 (lst 10 []) (by kernel_rfl) ?_
      refine wn ?_
      refine drawnX_done (by kernel_rfl) ?_
      refine wn ?_
      refine exI_as (k : Int) (by show IntKind.i64.wrap (((k + 1 : Nat) : Int) - 1) = _; unfold IntKind.wrap; simp [IntKind.signed, IntKind.bits]; split <;> omega) ?_
      refine wn ?_
      refine ⟨(k, putS s st2 i (keyR s i row) row, p3), ⟨by show k ≤ 4; omega, hsl, hok3.mono (by show 4 * i + 4 - (k + 1) + 1 ≤ 4 * i + 4 - k; omega), hp3l, hsp2⟩, by show k < k + 1; omega, ?_⟩
      exact (tid ⟨⟨rfl, rfl, by decide⟩, ⟨rfl, rfl, by decide⟩, ⟨rfl, rfl, by decide⟩, ⟨(congrArg some (stO_ren (putS s st2 i (keyR s i row) row) id)).symm, stO_lt _ _, by decide⟩, ⟨rfl, rfl, by decide⟩, trivial⟩)
    · have em : m = 0 := by have h2 : ¬ (m : Int) > 0 := h2; omega
      subst em
      rw [fillG] at hsp2
      rw [hsp2] at hsp
      refine wn ?_
      refine exI_i64 (by show -9223372036854775808 ≤ (i : Int) + 1; omega) (by show (i : Int) + 1 ≤ 9223372036854775807; omega) ?_
      refine wn ?_
      refine ⟨(i + 1, st2, p2), ⟨by show i + 1 ≤ N; omega, hst2, hok2.mono (by show 4 * i + 4 - 0 ≤ 4 * (i + 1); omega), hp2, hsp⟩, by show N - (i + 1) < N - i; omega, ?_⟩
      exact (tid ⟨⟨rfl, rfl, by decide⟩, ⟨rfl, rfl, by decide⟩, ⟨rfl, rfl, by decide⟩, ⟨(congrArg some (stO_ren st2 id)).symm, stO_lt _ _, by decide⟩, ⟨rfl, rfl, by decide⟩, trivial⟩)
  · have ei : i = N := by have h1 : ¬ (i : Int) < N := h1; omega
    rw [show N - i = 0 by omega, tabsG] at hsp
    rw [hsp]
    refine wn ?_
    refine retX_tr (Tr.frz' (T := 41) (s := 1) (B := 24) (cells := st.flatMap tabC1) 3 st.length (by rfl) (by decide) (flat_len tabC1_len st) (all_flat tabC1_deep st)) ?_
    refine rtm ?_
    (conv => lhs; whnf)
    rfl
theorem callee11 : callee Try.prog 11 := callee_of Try.func11 rfl rfl
end Go.Proofs.Ve


/-
  VeK9: the case generator: operands.
-/
set_option linter.unusedVariables false
set_option linter.unusedSimpArgs false
set_option pp.maxSteps 2000
set_option maxHeartbeats 2000000
namespace Go.Proofs.Ve
open Go

abbrev zeroV : V := ⟨0, 0, ⟨#[]⟩⟩
def colIx (kind : Int) : List Int → Nat → List Opd
  | [], _ => []
  | k :: r, i => if k = kind then ⟨1, i, zeroV⟩ :: colIx kind r (i + 1) else colIx kind r (i + 1)
theorem colIx_len (kind : Int) : ∀ (l : List Int) (i : Nat), (colIx kind l i).length ≤ l.length
  | [], i => Nat.le_refl _
  | k :: r, i => by
    rw [colIx]
    split <;> simp <;> have := colIx_len kind r (i + 1) <;> omega
def operandG (cs : List Int) (cols : List Int) (kind : Int) (p : Nat) : Opd :=
  if h : (intG cs ((colIx kind cols 0).length + 1) p).toNat < (colIx kind cols 0).length then (colIx kind cols 0)[(intG cs ((colIx kind cols 0).length + 1) p).toNat]
  else ⟨3, 0, valueG cs kind (intP cs ((colIx kind cols 0).length + 1) p)⟩
def operandP (cs : List Int) (cols : List Int) (kind : Int) (p : Nat) : Nat :=
  if (intG cs ((colIx kind cols 0).length + 1) p).toNat < (colIx kind cols 0).length then intP cs ((colIx kind cols 0).length + 1) p
  else valueP cs kind (intP cs ((colIx kind cols 0).length + 1) p)
theorem operandP_in {cs : List Int} {cols : List Int} {kind : Int} {p : Nat} (h : p ≤ cs.length) : operandP cs cols kind p ≤ cs.length := by
  unfold operandP
  split
  · exact intP_in h
  · exact valueP_in (intP_in h)
theorem opdC_len (o : Opd) : (opdC o).length = 5 := rfl
theorem opdC_deep (o : Opd) : (opdC o).all (·.deep) = true := rfl

def odA (cs : List Int) (cols : List Int) (kind : Int) (p i : Nat) : List Opd → AS
  | [] => AS.of 64 1 2 [(0, .one (.ptr 0 0)), (2, .one (slC intC 8 [])), (3, .one (.int .i64 kind)), (8, .one (.ptr 1 0)), (9, .one (.sl true 0 0 [])), (15, .one (slC intC 8 cols)), (16, .one (.int .i64 cols.length)), (17, .one (.int .i64 (i : Nat)))]
      [(0, caseO cs p), (1, ⟨83, 0, 0, opdC ⟨0, 0, zeroV⟩⟩)]
  | o :: r => AS.of 64 1 3 [(0, .one (.ptr 0 0)), (2, .one (slC intC 8 [])), (3, .one (.int .i64 kind)), (8, .one (.ptr 1 0)), (9, .one (.gref 2)), (15, .one (slC intC 8 cols)), (16, .one (.int .i64 cols.length)), (17, .one (.int .i64 (i : Nat)))]
      [(0, caseO cs p), (1, ⟨83, 0, 0, opdC ⟨0, 0, zeroV⟩⟩), (2, ⟨83, 5, 48, (o :: r).flatMap opdC⟩)]

theorem operand_spec (cs : List Int) (h : ok8 cs) (cols : List Int) (hc : cols.length ≤ 1099511627776) (kind : Int) (p : Nat) (hp : p ≤ cs.length) :
    MSpec Try.prog 75 [.one (.ptr 0 0), .one (slC intC 8 cols), .one (slC intC 8 []), .one (.int .i64 kind)] (caseO cs p) (caseO cs (operandP cs cols kind p)) (.agg (opdC (operandG cs cols kind p))) := by
  refine mspec_x env08_ok mixed08 Try.func75 rfl 64 rfl _ rfl rfl ?_
  refine wn ?_
  refine exI_as _ rfl ?_
  refine wn ?_
  refine loopX_of env08_ok mixed08 (σ := Nat × List Opd) (fun q => odA cs cols kind p q.1 q.2)
    (fun q => q.1 ≤ cols.length ∧ q.2.length ≤ q.1 ∧ colIx kind cols 0 = q.2 ++ colIx kind (cols.drop q.1) q.1) (fun q => cols.length - q.1) (0, []) (fun q => by obtain ⟨i, r⟩ := q; cases r <;> rfl) tid ⟨Nat.zero_le _, Nat.le_refl _, rfl⟩ ?_
  rintro ⟨i, acc⟩ ⟨hi, hacc, hl⟩
  have hi : i ≤ cols.length := hi
  have hacc : acc.length ≤ i := hacc
  have hl : colIx kind cols 0 = acc ++ colIx kind (cols.drop i) i := hl
  cases acc with
  | nil =>
    refine wn ?_
    refine forkB_dec (fun h1 => ?_) (fun h1 => ?_)
    · have hi2 : i < cols.length := by have h1 : (i : Int) < cols.length := h1; omega
      rw [List.drop_eq_getElem_cons hi2] at hl
      obtain ⟨k, hke⟩ : ∃ k, cols[i] = k := ⟨_, rfl⟩
      rw [hke, colIx] at hl
      refine wn ?_
      try (refine rq ?_)
      refine wn ?_
      refine forceL_as (intC k) ((flat_get (f := intC) intC_len cols i hi2).trans (by rw [hke])) ?_
      refine wn ?_
      refine forkB_intro (fun h2 => ?_) (fun h2 => ?_)
      · have h2 : k = kind := by simpa using h2
        rw [if_pos h2] at hl
        refine wn ?_
        try (refine rq ?_)
        refine wn ?_
        try (refine forkB_intro (fun h => absurd h (by simp [ty83])) (fun _ => ?_))
        refine wn ?_
        try (refine rq ?_)
        refine wn ?_
        refine exI_i64 (by show -9223372036854775808 ≤ (i : Int) + 1; omega) (by show (i : Int) + 1 ≤ 9223372036854775807; omega) ?_
        refine wn ?_
        refine ⟨(i + 1, [⟨1, i, zeroV⟩]), ⟨by show i + 1 ≤ cols.length; omega, by show 1 ≤ i + 1; omega, hl⟩, by show cols.length - (i + 1) < cols.length - i; omega, ?_⟩
        exact (tmv 2 3)
      · have h2 : ¬ k = kind := by simpa using h2
        rw [if_neg h2] at hl
        refine wn ?_
        refine exI_i64 (by show -9223372036854775808 ≤ (i : Int) + 1; omega) (by show (i : Int) + 1 ≤ 9223372036854775807; omega) ?_
        refine wn ?_
        refine ⟨(i + 1, []), ⟨by show i + 1 ≤ cols.length; omega, Nat.zero_le _, hl⟩, by show cols.length - (i + 1) < cols.length - i; omega, ?_⟩
        exact tid
    · have ei : i = cols.length := by have h1 : ¬ (i : Int) < cols.length := h1; omega
      rw [List.drop_eq_nil_of_le (by omega), colIx, List.append_nil] at hl
      refine wn ?_
      refine exI_as 0 rfl ?_
      refine wn ?_
      refine loopX_n env08_ok mixed08 1 ?_
      refine wn ?_
      refine exI_as _ rfl ?_
      refine wn ?_
      refine exI_as 1 (by rfl) ?_
      refine wn ?_
      refine cm (int_spec cs h 1 p hp) (callee25) ?_
      refine wn ?_
      have g0 := intG_lo cs h 1 p
      have eG : operandG cs cols kind p = ⟨3, 0, valueG cs kind (intP cs 1 p)⟩ := by
        unfold operandG
        rw [hl]
        exact dif_neg (by simp)
      have eP : operandP cs cols kind p = valueP cs kind (intP cs 1 p) := by
        unfold operandP
        rw [hl]
        exact if_neg (by simp)
      rw [eG, eP]
      refine exI_as _ rfl ?_
      refine wn ?_
      refine forkB_dec (fun h5 => absurd (show intG cs 1 p < 0 from h5) (by omega)) (fun _ => ?_)
      refine wn ?_
      refine cm (value_spec cs h kind (intP cs 1 p) (intP_in hp)) (callee41) ?_
      refine wn ?_
      refine rtm ?_
      (conv => lhs; whnf)
      rfl
  | cons o acc =>
    refine wn ?_
    refine forkB_dec (fun h1 => ?_) (fun h1 => ?_)
    · have hi2 : i < cols.length := by have h1 : (i : Int) < cols.length := h1; omega
      rw [List.drop_eq_getElem_cons hi2] at hl
      obtain ⟨k, hke⟩ : ∃ k, cols[i] = k := ⟨_, rfl⟩
      rw [hke, colIx] at hl
      refine wn ?_
      try (refine rq ?_)
      refine wn ?_
      refine forceL_as (intC k) ((flat_get (f := intC) intC_len cols i hi2).trans (by rw [hke])) ?_
      refine wn ?_
      refine forkB_intro (fun h2 => ?_) (fun h2 => ?_)
      · have h2 : k = kind := by simpa using h2
        rw [if_pos h2] at hl
        refine wn ?_
        try (refine rq ?_)
        refine wn ?_
        try (refine reqD_dec (flat_div opdC_len (by decide) _) ?_)
        refine reqD_dec (by simp only [flat_len opdC_len]; simp [ty83]; simp at hacc; omega) ?_
        refine forceL_as (((o :: acc) ++ [(⟨1, i, zeroV⟩ : Opd)]).flatMap opdC) (by rw [List.flatMap_append]; rfl) ?_
        refine wn ?_
        refine exI_i64 (by show -9223372036854775808 ≤ (i : Int) + 1; omega) (by show (i : Int) + 1 ≤ 9223372036854775807; omega) ?_
        refine wn ?_
        refine ⟨(i + 1, o :: (acc ++ [⟨1, i, zeroV⟩])), ⟨by show i + 1 ≤ cols.length; omega, by simp at hacc ⊢; omega, by rw [hl]; simp⟩, by show cols.length - (i + 1) < cols.length - i; omega, ?_⟩
        exact (tmv 2 4 ⟨⟨rfl, rfl, by decide⟩, ⟨rfl, rfl, by decide⟩, ⟨(congrArg some (ob_ren_deep (mv 2 4) (all_flat opdC_deep (o :: (acc ++ ((Opd.mk 1 i zeroV) :: List.nil)))))).symm, ob_lt_deep _ (all_flat opdC_deep _), by decide⟩, trivial⟩)
      · have h2 : ¬ k = kind := by simpa using h2
        rw [if_neg h2] at hl
        refine wn ?_
        refine exI_i64 (by show -9223372036854775808 ≤ (i : Int) + 1; omega) (by show (i : Int) + 1 ≤ 9223372036854775807; omega) ?_
        refine wn ?_
        refine ⟨(i + 1, o :: acc), ⟨by show i + 1 ≤ cols.length; omega, by simp at hacc ⊢; omega, hl⟩, by show cols.length - (i + 1) < cols.length - i; omega, ?_⟩
        exact (tid ⟨⟨rfl, rfl, by decide⟩, ⟨rfl, rfl, by decide⟩, ⟨(congrArg some (ob_ren_deep id (all_flat opdC_deep (o :: acc)))).symm, ob_lt_deep _ (all_flat opdC_deep _), by decide⟩, trivial⟩)
    · have ei : i = cols.length := by have h1 : ¬ (i : Int) < cols.length := h1; omega
      rw [List.drop_eq_nil_of_le (by omega), colIx, List.append_nil] at hl
      refine wn ?_
      refine exI_as 0 rfl ?_
      refine wn ?_
      refine loopX_n env08_ok mixed08 1 ?_
      refine wn ?_
      refine ⟨(o :: acc).length, flat_len opdC_len _, ?_⟩
      refine wn ?_
      have hal : (o :: acc).length ≤ 1099511627776 := by simp at hacc ⊢; omega
      refine exI_as (((o :: acc).length + 1 : Nat) : Int) (by show IntKind.i64.wrap (((o :: acc).length : Int) + 1) = _; unfold IntKind.wrap; simp [IntKind.signed, IntKind.bits]; simp at hal; split <;> omega) ?_
      refine wn ?_
      refine cm (int_spec cs h (((o :: acc).length + 1 : Nat) : Int) p hp) (callee25) ?_
      refine wn ?_
      obtain ⟨P, hP⟩ : ∃ P, intP cs (((o :: acc).length + 1 : Nat) : Int) p = P := ⟨_, rfl⟩
      have hPl : P ≤ cs.length := by rw [← hP]; exact intP_in hp
      have g0 := intG_lo cs h (((o :: acc).length + 1 : Nat) : Int) p
      obtain ⟨j, hj⟩ : ∃ j : Nat, intG cs (((o :: acc).length + 1 : Nat) : Int) p = j := ⟨_, (Int.toNat_of_nonneg g0).symm⟩
      have eL : ((colIx kind cols 0).length : Int) + 1 = (((o :: acc).length + 1 : Nat) : Int) := by rw [hl]; rfl
      have eG : ∀ (hjl : j < (o :: acc).length), operandG cs cols kind p = (o :: acc)[j] := fun hjl => by
        unfold operandG
        simp only [eL, hj, Int.toNat_natCast]
        simp only [hl]
        exact dif_pos hjl
      have eP : j < (o :: acc).length → operandP cs cols kind p = P := fun hjl => by
        unfold operandP
        rw [eL, hj, hP, hl]
        exact if_pos hjl
      have eG2 : ¬ j < (o :: acc).length → operandG cs cols kind p = ⟨3, 0, valueG cs kind P⟩ := fun hjl => by
        unfold operandG
        simp only [eL, hj, hP, Int.toNat_natCast]
        simp only [hl]
        exact dif_neg hjl
      have eP2 : ¬ j < (o :: acc).length → operandP cs cols kind p = valueP cs kind P := fun hjl => by
        unfold operandP
        rw [eL, hj, hP, hl]
        exact if_neg hjl
      rw [hj, hP]
      refine ⟨(o :: acc).length, flat_len opdC_len _, ?_⟩
      refine wn ?_
      refine forkB_dec (fun h5 => ?_) (fun h5 => ?_)
      · have h5 : j < (o :: acc).length := by have h5 : (j : Int) < ((o :: acc).length : Int) := h5; omega
        rw [eG h5, eP h5]
        refine wn ?_
        refine reqD_dec (by show 0 ≤ (j : Int) ∧ j * 5 < ((o :: acc).flatMap opdC).length; rw [flat_len opdC_len]; omega) ?_
        refine wn ?_
        refine forceL_as (opdC (o :: acc)[j]) (flat_get (f := opdC) opdC_len (o :: acc) j h5) ?_
        refine wn ?_
        refine rtm ?_
        (conv => lhs; whnf)
        rfl
      · have h5 : ¬ j < (o :: acc).length := by have h5 : ¬ (j : Int) < ((o :: acc).length : Int) := h5; omega
        rw [eG2 h5, eP2 h5]
        refine wn ?_
        refine cm (value_spec cs h kind P hPl) (callee41) ?_
        refine wn ?_
        refine rtm ?_
        (conv => lhs; whnf)
        rfl
theorem callee75 : callee Try.prog 75 := callee_of Try.func75 rfl rfl
end Go.Proofs.Ve


/-
  VeKa: the case generator: predicates.
-/
set_option linter.unusedVariables false
set_option linter.unusedSimpArgs false
set_option pp.maxSteps 2000
set_option maxHeartbeats 4000000
namespace Go.Proofs.Ve
open Go

structure P0 where
  op : Int
  cmp : Int
  l : Opd
  r : Opd
abbrev zeroO : Opd := ⟨0, 0, zeroV⟩
def p0C (q : P0) : List AC := [.int .i64 q.op, .int .i64 q.cmp, .int .i64 q.l.kind, .int .i64 q.l.index, .int .i64 q.l.v.k, .int .i64 q.l.v.n, .str q.l.v.t, .int .i64 q.r.kind, .int .i64 q.r.index, .int .i64 q.r.v.k, .int .i64 q.r.v.n, .str q.r.v.t, .sl true 0 0 []]
theorem p0C_len (q : P0) : (p0C q).length = 13 := rfl
theorem p0C_deep (q : P0) : (p0C q).all (·.deep) = true := rfl

def lp3 (cs cols : List Int) (k : Int) (p : Nat) : Nat := operandP cs cols k (intP cs 6 p)
def lp4 (cs cols : List Int) (k : Int) (p : Nat) : Nat := valueP cs k (lp3 cs cols k p)
def lleft (cs cols : List Int) (k : Int) (p : Nat) : Opd := operandG cs cols k (intP cs 6 p)
def lright (cs cols : List Int) (k : Int) (p : Nat) : Opd := bif boolG cs 3 (lp4 cs cols k p) then operandG cs cols k (intP cs 3 (lp4 cs cols k p)) else ⟨3, 0, valueG cs k (lp3 cs cols k p)⟩
def lp6 (cs cols : List Int) (k : Int) (p : Nat) : Nat := bif boolG cs 3 (lp4 cs cols k p) then operandP cs cols k (intP cs 3 (lp4 cs cols k p)) else intP cs 3 (lp4 cs cols k p)
def leafK (cs cols : List Int) (k : Int) (p : Nat) : P0 × Nat :=
  (bif boolG cs 6 (lp6 cs cols k p) then ⟨3, 1 + intG cs 6 p, lright cs cols k p, lleft cs cols k p⟩ else ⟨3, 1 + intG cs 6 p, lleft cs cols k p, lright cs cols k p⟩, intP cs 6 (lp6 cs cols k p))
def leafG (cs cols : List Int) (p : Nat) : P0 × Nat := if 0 < cols.length then leafK cs cols (cols.getD (intG cs cols.length p).toNat 0) (intP cs cols.length p) else leafK cs cols 4 p
theorem lp6_in {cs cols : List Int} {k : Int} {p : Nat} (h : p ≤ cs.length) : lp6 cs cols k p ≤ cs.length := by
  have h3 : lp4 cs cols k p ≤ cs.length := valueP_in (operandP_in (intP_in h))
  unfold lp6
  cases boolG cs 3 (lp4 cs cols k p)
  · exact intP_in h3
  · exact operandP_in (intP_in h3)
def headP (cs : List Int) (p : Nat) : Nat := if intG cs 9 p = 0 then intP cs 2 (intP cs 9 p) else intP cs 9 p
def treeG0 (cs cols : List Int) (p : Nat) : P0 × Nat :=
  if (decide (intG cs 9 p = 0) && boolG cs 2 (intP cs 9 p)) = true then (⟨1 + intG cs 2 (headP cs p), 0, zeroO, zeroO⟩, intP cs 2 (headP cs p)) else leafG cs cols (headP cs p)

theorem tree0_spec (cs : List Int) (h : ok8 cs) (cols : List Int) (hc : cols.length ≤ 1099511627776) (p : Nat) (hp : p ≤ cs.length) :
    MSpec Try.prog 58 [.one (.ptr 0 0), .one (slC intC 8 cols), .one (slC intC 8 []), .one (.int .i64 0)] (caseO cs p) (caseO cs (treeG0 cs cols p).2) (.agg (p0C (treeG0 cs cols p).1)) := by
  refine mspec_x env08_ok mixed08 Try.func58 rfl 107 rfl _ rfl rfl ?_
  refine wn ?_
  refine cm (int_spec cs h 9 p hp) (callee25) ?_
  refine wn ?_
  have hp1 : intP cs 9 p ≤ cs.length := intP_in hp
  refine forkB_intro (fun h1 => ?_) (fun h1 => ?_)
  · have h1 : intG cs 9 p = 0 := by simpa using h1
    refine wn ?_
    refine cm (bool_spec cs h 2 (intP cs 9 p) hp1 (by decide)) (callee17) ?_
    refine wn ?_
    have eh : headP cs p = intP cs 2 (intP cs 9 p) := if_pos h1
    obtain ⟨P, hP⟩ : ∃ P, intP cs 2 (intP cs 9 p) = P := ⟨_, rfl⟩
    have hPl : P ≤ cs.length := by rw [← hP]; exact intP_in hp1
    rw [hP] at eh ⊢
    cases hb : boolG cs 2 (intP cs 9 p) with
    | true =>
      have eT : treeG0 cs cols p = (⟨1 + intG cs 2 P, 0, zeroO, zeroO⟩, intP cs 2 P) := by
        rw [treeG0, eh, if_pos (by rw [hb, decide_eq_true h1]; rfl)]
      rw [eT]
      have g0 := intG_lo cs h 2 P
      have g1 := intG_hi cs h 2 (by decide) P
      refine wn ?_
      refine cm (int_spec cs h 2 P hPl) (callee25) ?_
      refine wn ?_
      refine i64 ?_
      refine wn ?_
      refine rtm ?_
      (conv => lhs; whnf)
      rfl
    | false =>
      have eT : treeG0 cs cols p = leafG cs cols P := by
        rw [treeG0, eh, if_neg (by rw [hb]; simp)]
      rw [eT]
      refine wn ?_
      rw [h1]
      refine wn ?_
      refine exI_as _ rfl ?_
      refine wn ?_
      refine forkB_dec (fun h7 => ?_) (fun h7 => ?_)
      · have h7 : 0 < cols.length := by omega
        have eL : leafG cs cols P = leafK cs cols (cols.getD (intG cs cols.length P).toNat 0) (intP cs cols.length P) := if_pos h7
        have g0 := intG_lo cs h cols.length P
        have g1 := intG_hi cs h cols.length (by omega) P
        obtain ⟨j, hj⟩ : ∃ j : Nat, intG cs cols.length P = j := ⟨_, (Int.toNat_of_nonneg g0).symm⟩
        have hjl : j < cols.length := by omega
        rw [eL, hj, Int.toNat_natCast, List.getD_eq_getElem?_getD, List.getElem?_eq_getElem hjl, Option.getD_some]
        obtain ⟨Q, hQ⟩ : ∃ Q, intP cs cols.length P = Q := ⟨_, rfl⟩
        have hQl : Q ≤ cs.length := by rw [← hQ]; exact intP_in hPl
        rw [hQ]
        refine wn ?_
        refine exI_as _ rfl ?_
        refine wn ?_
        refine cm (int_spec cs h cols.length P hPl) (callee25) ?_
        refine wn ?_
        rw [hj, hQ]
        refine wn ?_
        refine reqD_dec (by omega) ?_
        refine wn ?_
        refine forceL_as (intC cols[j]) (flat_get (f := intC) intC_len cols j hjl) ?_
        refine wn ?_
        refine cm (int_spec cs h 6 (Q) (hQl)) (callee25) ?_
        refine wn ?_
        have c0 := intG_lo cs h 6 (Q)
        have c1 := intG_hi cs h 6 (by decide) (Q)
        refine i64 ?_
        refine wn ?_
        have hq1 : intP cs 6 (Q) ≤ cs.length := intP_in (hQl)
        refine cm (operand_spec cs h cols hc (cols[j]) (intP cs 6 (Q)) hq1) (callee75) ?_
        refine wn ?_
        have hq3 : lp3 cs cols (cols[j]) (Q) ≤ cs.length := operandP_in hq1
        have hq4 : lp4 cs cols (cols[j]) (Q) ≤ cs.length := valueP_in hq3
        refine cm (value_spec cs h (cols[j]) (lp3 cs cols (cols[j]) (Q)) hq3) (callee41) ?_
        refine wn ?_
        refine cm (bool_spec cs h 3 (lp4 cs cols (cols[j]) (Q)) hq4 (by decide)) (callee17) ?_
        refine wn ?_
        have hq5 : intP cs 3 (lp4 cs cols (cols[j]) (Q)) ≤ cs.length := intP_in hq4
        cases hb3 : boolG cs 3 (lp4 cs cols (cols[j]) (Q)) with
        | true =>
          refine wn ?_
          refine cm (operand_spec cs h cols hc (cols[j]) (intP cs 3 (lp4 cs cols (cols[j]) (Q))) hq5) (callee75) ?_
          refine wn ?_
          have e6 : lp6 cs cols (cols[j]) (Q) = operandP cs cols (cols[j]) (intP cs 3 (lp4 cs cols (cols[j]) (Q))) := by rw [lp6, hb3]; rfl
          have hq6 : lp6 cs cols (cols[j]) (Q) ≤ cs.length := lp6_in (hQl)
          rw [← e6]
          refine wn ?_
          refine cm (bool_spec cs h 6 (lp6 cs cols (cols[j]) (Q)) hq6 (by decide)) (callee17) ?_
          refine wn ?_
          cases hb6 : boolG cs 6 (lp6 cs cols (cols[j]) (Q)) with
          | true =>
            have eK : leafK cs cols (cols[j]) (Q) = (⟨3, 1 + intG cs 6 (Q), lright cs cols (cols[j]) (Q), lleft cs cols (cols[j]) (Q)⟩, intP cs 6 (lp6 cs cols (cols[j]) (Q))) := by rw [leafK, hb6]; rfl
            rw [eK]
            refine wn ?_
            refine rtm ?_
            (conv => lhs; whnf)
            unfold lright lleft
            rw [hb3]
            rfl
          | false =>
            have eK : leafK cs cols (cols[j]) (Q) = (⟨3, 1 + intG cs 6 (Q), lleft cs cols (cols[j]) (Q), lright cs cols (cols[j]) (Q)⟩, intP cs 6 (lp6 cs cols (cols[j]) (Q))) := by rw [leafK, hb6]; rfl
            rw [eK]
            refine wn ?_
            refine rtm ?_
            (conv => lhs; whnf)
            unfold lright lleft
            rw [hb3]
            rfl
        | false =>
          have e6 : lp6 cs cols (cols[j]) (Q) = intP cs 3 (lp4 cs cols (cols[j]) (Q)) := by rw [lp6, hb3]; rfl
          have hq6 : lp6 cs cols (cols[j]) (Q) ≤ cs.length := lp6_in (hQl)
          rw [← e6]
          refine wn ?_
          refine cm (bool_spec cs h 6 (lp6 cs cols (cols[j]) (Q)) hq6 (by decide)) (callee17) ?_
          refine wn ?_
          cases hb6 : boolG cs 6 (lp6 cs cols (cols[j]) (Q)) with
          | true =>
            have eK : leafK cs cols (cols[j]) (Q) = (⟨3, 1 + intG cs 6 (Q), lright cs cols (cols[j]) (Q), lleft cs cols (cols[j]) (Q)⟩, intP cs 6 (lp6 cs cols (cols[j]) (Q))) := by rw [leafK, hb6]; rfl
            rw [eK]
            refine wn ?_
            refine rtm ?_
            (conv => lhs; whnf)
            unfold lright lleft
            rw [hb3]
            rfl
          | false =>
            have eK : leafK cs cols (cols[j]) (Q) = (⟨3, 1 + intG cs 6 (Q), lleft cs cols (cols[j]) (Q), lright cs cols (cols[j]) (Q)⟩, intP cs 6 (lp6 cs cols (cols[j]) (Q))) := by rw [leafK, hb6]; rfl
            rw [eK]
            refine wn ?_
            refine rtm ?_
            (conv => lhs; whnf)
            unfold lright lleft
            rw [hb3]
            rfl
      · have eL : leafG cs cols P = leafK cs cols 4 P := if_neg (by omega)
        rw [eL]
        refine wn ?_
        refine cm (int_spec cs h 6 (P) (hPl)) (callee25) ?_
        refine wn ?_
        have c0 := intG_lo cs h 6 (P)
        have c1 := intG_hi cs h 6 (by decide) (P)
        refine i64 ?_
        refine wn ?_
        have hq1 : intP cs 6 (P) ≤ cs.length := intP_in (hPl)
        refine cm (operand_spec cs h cols hc (4) (intP cs 6 (P)) hq1) (callee75) ?_
        refine wn ?_
        have hq3 : lp3 cs cols (4) (P) ≤ cs.length := operandP_in hq1
        have hq4 : lp4 cs cols (4) (P) ≤ cs.length := valueP_in hq3
        refine cm (value_spec cs h (4) (lp3 cs cols (4) (P)) hq3) (callee41) ?_
        refine wn ?_
        refine cm (bool_spec cs h 3 (lp4 cs cols (4) (P)) hq4 (by decide)) (callee17) ?_
        refine wn ?_
        have hq5 : intP cs 3 (lp4 cs cols (4) (P)) ≤ cs.length := intP_in hq4
        cases hb3 : boolG cs 3 (lp4 cs cols (4) (P)) with
        | true =>
          refine wn ?_
          refine cm (operand_spec cs h cols hc (4) (intP cs 3 (lp4 cs cols (4) (P))) hq5) (callee75) ?_
          refine wn ?_
          have e6 : lp6 cs cols (4) (P) = operandP cs cols (4) (intP cs 3 (lp4 cs cols (4) (P))) := by rw [lp6, hb3]; rfl
          have hq6 : lp6 cs cols (4) (P) ≤ cs.length := lp6_in (hPl)
          rw [← e6]
          refine wn ?_
          refine cm (bool_spec cs h 6 (lp6 cs cols (4) (P)) hq6 (by decide)) (callee17) ?_
          refine wn ?_
          cases hb6 : boolG cs 6 (lp6 cs cols (4) (P)) with
          | true =>
            have eK : leafK cs cols (4) (P) = (⟨3, 1 + intG cs 6 (P), lright cs cols (4) (P), lleft cs cols (4) (P)⟩, intP cs 6 (lp6 cs cols (4) (P))) := by rw [leafK, hb6]; rfl
            rw [eK]
            refine wn ?_
            refine rtm ?_
            (conv => lhs; whnf)
            unfold lright lleft
            rw [hb3]
            rfl
          | false =>
            have eK : leafK cs cols (4) (P) = (⟨3, 1 + intG cs 6 (P), lleft cs cols (4) (P), lright cs cols (4) (P)⟩, intP cs 6 (lp6 cs cols (4) (P))) := by rw [leafK, hb6]; rfl
            rw [eK]
            refine wn ?_
            refine rtm ?_
            (conv => lhs; whnf)
            unfold lright lleft
            rw [hb3]
            rfl
        | false =>
          have e6 : lp6 cs cols (4) (P) = intP cs 3 (lp4 cs cols (4) (P)) := by rw [lp6, hb3]; rfl
          have hq6 : lp6 cs cols (4) (P) ≤ cs.length := lp6_in (hPl)
          rw [← e6]
          refine wn ?_
          refine cm (bool_spec cs h 6 (lp6 cs cols (4) (P)) hq6 (by decide)) (callee17) ?_
          refine wn ?_
          cases hb6 : boolG cs 6 (lp6 cs cols (4) (P)) with
          | true =>
            have eK : leafK cs cols (4) (P) = (⟨3, 1 + intG cs 6 (P), lright cs cols (4) (P), lleft cs cols (4) (P)⟩, intP cs 6 (lp6 cs cols (4) (P))) := by rw [leafK, hb6]; rfl
            rw [eK]
            refine wn ?_
            refine rtm ?_
            (conv => lhs; whnf)
            unfold lright lleft
            rw [hb3]
            rfl
          | false =>
            have eK : leafK cs cols (4) (P) = (⟨3, 1 + intG cs 6 (P), lleft cs cols (4) (P), lright cs cols (4) (P)⟩, intP cs 6 (lp6 cs cols (4) (P))) := by rw [leafK, hb6]; rfl
            rw [eK]
            refine wn ?_
            refine rtm ?_
            (conv => lhs; whnf)
            unfold lright lleft
            rw [hb3]
            rfl
  · have h1 : ¬ intG cs 9 p = 0 := by simpa using h1
    have eh : headP cs p = intP cs 9 p := if_neg h1
    obtain ⟨P, hP⟩ : ∃ P, intP cs 9 p = P := ⟨_, rfl⟩
    have hPl : P ≤ cs.length := by rw [← hP]; exact hp1
    rw [hP] at eh ⊢
    have eT : treeG0 cs cols p = leafG cs cols P := by
      rw [treeG0, eh, if_neg (by rw [decide_eq_false h1]; simp)]
    rw [eT]
    refine wn ?_
    refine forkB_dec (fun _ => ?_) (fun _ => ?_)
    · refine wn ?_
      refine exI_as _ rfl ?_
      refine wn ?_
      refine forkB_dec (fun h7 => ?_) (fun h7 => ?_)
      · have h7 : 0 < cols.length := by omega
        have eL : leafG cs cols P = leafK cs cols (cols.getD (intG cs cols.length P).toNat 0) (intP cs cols.length P) := if_pos h7
        have g0 := intG_lo cs h cols.length P
        have g1 := intG_hi cs h cols.length (by omega) P
        obtain ⟨j, hj⟩ : ∃ j : Nat, intG cs cols.length P = j := ⟨_, (Int.toNat_of_nonneg g0).symm⟩
        have hjl : j < cols.length := by omega
        rw [eL, hj, Int.toNat_natCast, List.getD_eq_getElem?_getD, List.getElem?_eq_getElem hjl, Option.getD_some]
        obtain ⟨Q, hQ⟩ : ∃ Q, intP cs cols.length P = Q := ⟨_, rfl⟩
        have hQl : Q ≤ cs.length := by rw [← hQ]; exact intP_in hPl
        rw [hQ]
        refine wn ?_
        refine exI_as _ rfl ?_
        refine wn ?_
        refine cm (int_spec cs h cols.length P hPl) (callee25) ?_
        refine wn ?_
        rw [hj, hQ]
        refine wn ?_
        refine reqD_dec (by omega) ?_
        refine wn ?_
        refine forceL_as (intC cols[j]) (flat_get (f := intC) intC_len cols j hjl) ?_
        refine wn ?_
        refine cm (int_spec cs h 6 (Q) (hQl)) (callee25) ?_
        refine wn ?_
        have c0 := intG_lo cs h 6 (Q)
        have c1 := intG_hi cs h 6 (by decide) (Q)
        refine i64 ?_
        refine wn ?_
        have hq1 : intP cs 6 (Q) ≤ cs.length := intP_in (hQl)
        refine cm (operand_spec cs h cols hc (cols[j]) (intP cs 6 (Q)) hq1) (callee75) ?_
        refine wn ?_
        have hq3 : lp3 cs cols (cols[j]) (Q) ≤ cs.length := operandP_in hq1
        have hq4 : lp4 cs cols (cols[j]) (Q) ≤ cs.length := valueP_in hq3
        refine cm (value_spec cs h (cols[j]) (lp3 cs cols (cols[j]) (Q)) hq3) (callee41) ?_
        refine wn ?_
        refine cm (bool_spec cs h 3 (lp4 cs cols (cols[j]) (Q)) hq4 (by decide)) (callee17) ?_
        refine wn ?_
        have hq5 : intP cs 3 (lp4 cs cols (cols[j]) (Q)) ≤ cs.length := intP_in hq4
        cases hb3 : boolG cs 3 (lp4 cs cols (cols[j]) (Q)) with
        | true =>
          refine wn ?_
          refine cm (operand_spec cs h cols hc (cols[j]) (intP cs 3 (lp4 cs cols (cols[j]) (Q))) hq5) (callee75) ?_
          refine wn ?_
          have e6 : lp6 cs cols (cols[j]) (Q) = operandP cs cols (cols[j]) (intP cs 3 (lp4 cs cols (cols[j]) (Q))) := by rw [lp6, hb3]; rfl
          have hq6 : lp6 cs cols (cols[j]) (Q) ≤ cs.length := lp6_in (hQl)
          rw [← e6]
          refine wn ?_
          refine cm (bool_spec cs h 6 (lp6 cs cols (cols[j]) (Q)) hq6 (by decide)) (callee17) ?_
          refine wn ?_
          cases hb6 : boolG cs 6 (lp6 cs cols (cols[j]) (Q)) with
          | true =>
            have eK : leafK cs cols (cols[j]) (Q) = (⟨3, 1 + intG cs 6 (Q), lright cs cols (cols[j]) (Q), lleft cs cols (cols[j]) (Q)⟩, intP cs 6 (lp6 cs cols (cols[j]) (Q))) := by rw [leafK, hb6]; rfl
            rw [eK]
            refine wn ?_
            refine rtm ?_
            (conv => lhs; whnf)
            unfold lright lleft
            rw [hb3]
            rfl
          | false =>
            have eK : leafK cs cols (cols[j]) (Q) = (⟨3, 1 + intG cs 6 (Q), lleft cs cols (cols[j]) (Q), lright cs cols (cols[j]) (Q)⟩, intP cs 6 (lp6 cs cols (cols[j]) (Q))) := by rw [leafK, hb6]; rfl
            rw [eK]
            refine wn ?_
            refine rtm ?_
            (conv => lhs; whnf)
            unfold lright lleft
            rw [hb3]
            rfl
        | false =>
          have e6 : lp6 cs cols (cols[j]) (Q) = intP cs 3 (lp4 cs cols (cols[j]) (Q)) := by rw [lp6, hb3]; rfl
          have hq6 : lp6 cs cols (cols[j]) (Q) ≤ cs.length := lp6_in (hQl)
          rw [← e6]
          refine wn ?_
          refine cm (bool_spec cs h 6 (lp6 cs cols (cols[j]) (Q)) hq6 (by decide)) (callee17) ?_
          refine wn ?_
          cases hb6 : boolG cs 6 (lp6 cs cols (cols[j]) (Q)) with
          | true =>
            have eK : leafK cs cols (cols[j]) (Q) = (⟨3, 1 + intG cs 6 (Q), lright cs cols (cols[j]) (Q), lleft cs cols (cols[j]) (Q)⟩, intP cs 6 (lp6 cs cols (cols[j]) (Q))) := by rw [leafK, hb6]; rfl
            rw [eK]
            refine wn ?_
            refine rtm ?_
            (conv => lhs; whnf)
            unfold lright lleft
            rw [hb3]
            rfl
          | false =>
            have eK : leafK cs cols (cols[j]) (Q) = (⟨3, 1 + intG cs 6 (Q), lleft cs cols (cols[j]) (Q), lright cs cols (cols[j]) (Q)⟩, intP cs 6 (lp6 cs cols (cols[j]) (Q))) := by rw [leafK, hb6]; rfl
            rw [eK]
            refine wn ?_
            refine rtm ?_
            (conv => lhs; whnf)
            unfold lright lleft
            rw [hb3]
            rfl
      · have eL : leafG cs cols P = leafK cs cols 4 P := if_neg (by omega)
        rw [eL]
        refine wn ?_
        refine cm (int_spec cs h 6 (P) (hPl)) (callee25) ?_
        refine wn ?_
        have c0 := intG_lo cs h 6 (P)
        have c1 := intG_hi cs h 6 (by decide) (P)
        refine i64 ?_
        refine wn ?_
        have hq1 : intP cs 6 (P) ≤ cs.length := intP_in (hPl)
        refine cm (operand_spec cs h cols hc (4) (intP cs 6 (P)) hq1) (callee75) ?_
        refine wn ?_
        have hq3 : lp3 cs cols (4) (P) ≤ cs.length := operandP_in hq1
        have hq4 : lp4 cs cols (4) (P) ≤ cs.length := valueP_in hq3
        refine cm (value_spec cs h (4) (lp3 cs cols (4) (P)) hq3) (callee41) ?_
        refine wn ?_
        refine cm (bool_spec cs h 3 (lp4 cs cols (4) (P)) hq4 (by decide)) (callee17) ?_
        refine wn ?_
        have hq5 : intP cs 3 (lp4 cs cols (4) (P)) ≤ cs.length := intP_in hq4
        cases hb3 : boolG cs 3 (lp4 cs cols (4) (P)) with
        | true =>
          refine wn ?_
          refine cm (operand_spec cs h cols hc (4) (intP cs 3 (lp4 cs cols (4) (P))) hq5) (callee75) ?_
          refine wn ?_
          have e6 : lp6 cs cols (4) (P) = operandP cs cols (4) (intP cs 3 (lp4 cs cols (4) (P))) := by rw [lp6, hb3]; rfl
          have hq6 : lp6 cs cols (4) (P) ≤ cs.length := lp6_in (hPl)
          rw [← e6]
          refine wn ?_
          refine cm (bool_spec cs h 6 (lp6 cs cols (4) (P)) hq6 (by decide)) (callee17) ?_
          refine wn ?_
          cases hb6 : boolG cs 6 (lp6 cs cols (4) (P)) with
          | true =>
            have eK : leafK cs cols (4) (P) = (⟨3, 1 + intG cs 6 (P), lright cs cols (4) (P), lleft cs cols (4) (P)⟩, intP cs 6 (lp6 cs cols (4) (P))) := by rw [leafK, hb6]; rfl
            rw [eK]
            refine wn ?_
            refine rtm ?_
            (conv => lhs; whnf)
            unfold lright lleft
            rw [hb3]
            rfl
          | false =>
            have eK : leafK cs cols (4) (P) = (⟨3, 1 + intG cs 6 (P), lleft cs cols (4) (P), lright cs cols (4) (P)⟩, intP cs 6 (lp6 cs cols (4) (P))) := by rw [leafK, hb6]; rfl
            rw [eK]
            refine wn ?_
            refine rtm ?_
            (conv => lhs; whnf)
            unfold lright lleft
            rw [hb3]
            rfl
        | false =>
          have e6 : lp6 cs cols (4) (P) = intP cs 3 (lp4 cs cols (4) (P)) := by rw [lp6, hb3]; rfl
          have hq6 : lp6 cs cols (4) (P) ≤ cs.length := lp6_in (hPl)
          rw [← e6]
          refine wn ?_
          refine cm (bool_spec cs h 6 (lp6 cs cols (4) (P)) hq6 (by decide)) (callee17) ?_
          refine wn ?_
          cases hb6 : boolG cs 6 (lp6 cs cols (4) (P)) with
          | true =>
            have eK : leafK cs cols (4) (P) = (⟨3, 1 + intG cs 6 (P), lright cs cols (4) (P), lleft cs cols (4) (P)⟩, intP cs 6 (lp6 cs cols (4) (P))) := by rw [leafK, hb6]; rfl
            rw [eK]
            refine wn ?_
            refine rtm ?_
            (conv => lhs; whnf)
            unfold lright lleft
            rw [hb3]
            rfl
          | false =>
            have eK : leafK cs cols (4) (P) = (⟨3, 1 + intG cs 6 (P), lleft cs cols (4) (P), lright cs cols (4) (P)⟩, intP cs 6 (lp6 cs cols (4) (P))) := by rw [leafK, hb6]; rfl
            rw [eK]
            refine wn ?_
            refine rtm ?_
            (conv => lhs; whnf)
            unfold lright lleft
            rw [hb3]
            rfl
    · refine wn ?_
      refine exI_as _ rfl ?_
      refine wn ?_
      refine forkB_dec (fun h7 => ?_) (fun h7 => ?_)
      · have h7 : 0 < cols.length := by omega
        have eL : leafG cs cols P = leafK cs cols (cols.getD (intG cs cols.length P).toNat 0) (intP cs cols.length P) := if_pos h7
        have g0 := intG_lo cs h cols.length P
        have g1 := intG_hi cs h cols.length (by omega) P
        obtain ⟨j, hj⟩ : ∃ j : Nat, intG cs cols.length P = j := ⟨_, (Int.toNat_of_nonneg g0).symm⟩
        have hjl : j < cols.length := by omega
        rw [eL, hj, Int.toNat_natCast, List.getD_eq_getElem?_getD, List.getElem?_eq_getElem hjl, Option.getD_some]
        obtain ⟨Q, hQ⟩ : ∃ Q, intP cs cols.length P = Q := ⟨_, rfl⟩
        have hQl : Q ≤ cs.length := by rw [← hQ]; exact intP_in hPl
        rw [hQ]
        refine wn ?_
        refine exI_as _ rfl ?_
        refine wn ?_
        refine cm (int_spec cs h cols.length P hPl) (callee25) ?_
        refine wn ?_
        rw [hj, hQ]
        refine wn ?_
        refine reqD_dec (by omega) ?_
        refine wn ?_
        refine forceL_as (intC cols[j]) (flat_get (f := intC) intC_len cols j hjl) ?_
        refine wn ?_
        refine cm (int_spec cs h 6 (Q) (hQl)) (callee25) ?_
        refine wn ?_
        have c0 := intG_lo cs h 6 (Q)
        have c1 := intG_hi cs h 6 (by decide) (Q)
        refine i64 ?_
        refine wn ?_
        have hq1 : intP cs 6 (Q) ≤ cs.length := intP_in (hQl)
        refine cm (operand_spec cs h cols hc (cols[j]) (intP cs 6 (Q)) hq1) (callee75) ?_
        refine wn ?_
        have hq3 : lp3 cs cols (cols[j]) (Q) ≤ cs.length := operandP_in hq1
        have hq4 : lp4 cs cols (cols[j]) (Q) ≤ cs.length := valueP_in hq3
        refine cm (value_spec cs h (cols[j]) (lp3 cs cols (cols[j]) (Q)) hq3) (callee41) ?_
        refine wn ?_
        refine cm (bool_spec cs h 3 (lp4 cs cols (cols[j]) (Q)) hq4 (by decide)) (callee17) ?_
        refine wn ?_
        have hq5 : intP cs 3 (lp4 cs cols (cols[j]) (Q)) ≤ cs.length := intP_in hq4
        cases hb3 : boolG cs 3 (lp4 cs cols (cols[j]) (Q)) with
        | true =>
          refine wn ?_
          refine cm (operand_spec cs h cols hc (cols[j]) (intP cs 3 (lp4 cs cols (cols[j]) (Q))) hq5) (callee75) ?_
          refine wn ?_
          have e6 : lp6 cs cols (cols[j]) (Q) = operandP cs cols (cols[j]) (intP cs 3 (lp4 cs cols (cols[j]) (Q))) := by rw [lp6, hb3]; rfl
          have hq6 : lp6 cs cols (cols[j]) (Q) ≤ cs.length := lp6_in (hQl)
          rw [← e6]
          refine wn ?_
          refine cm (bool_spec cs h 6 (lp6 cs cols (cols[j]) (Q)) hq6 (by decide)) (callee17) ?_
          refine wn ?_
          cases hb6 : boolG cs 6 (lp6 cs cols (cols[j]) (Q)) with
          | true =>
            have eK : leafK cs cols (cols[j]) (Q) = (⟨3, 1 + intG cs 6 (Q), lright cs cols (cols[j]) (Q), lleft cs cols (cols[j]) (Q)⟩, intP cs 6 (lp6 cs cols (cols[j]) (Q))) := by rw [leafK, hb6]; rfl
            rw [eK]
            refine wn ?_
            refine rtm ?_
            (conv => lhs; whnf)
            unfold lright lleft
            rw [hb3]
            rfl
          | false =>
            have eK : leafK cs cols (cols[j]) (Q) = (⟨3, 1 + intG cs 6 (Q), lleft cs cols (cols[j]) (Q), lright cs cols (cols[j]) (Q)⟩, intP cs 6 (lp6 cs cols (cols[j]) (Q))) := by rw [leafK, hb6]; rfl
            rw [eK]
            refine wn ?_
            refine rtm ?_
            (conv => lhs; whnf)
            unfold lright lleft
            rw [hb3]
            rfl
        | false =>
          have e6 : lp6 cs cols (cols[j]) (Q) = intP cs 3 (lp4 cs cols (cols[j]) (Q)) := by rw [lp6, hb3]; rfl
          have hq6 : lp6 cs cols (cols[j]) (Q) ≤ cs.length := lp6_in (hQl)
          rw [← e6]
          refine wn ?_
          refine cm (bool_spec cs h 6 (lp6 cs cols (cols[j]) (Q)) hq6 (by decide)) (callee17) ?_
          refine wn ?_
          cases hb6 : boolG cs 6 (lp6 cs cols (cols[j]) (Q)) with
          | true =>
            have eK : leafK cs cols (cols[j]) (Q) = (⟨3, 1 + intG cs 6 (Q), lright cs cols (cols[j]) (Q), lleft cs cols (cols[j]) (Q)⟩, intP cs 6 (lp6 cs cols (cols[j]) (Q))) := by rw [leafK, hb6]; rfl
            rw [eK]
            refine wn ?_
            refine rtm ?_
            (conv => lhs; whnf)
            unfold lright lleft
            rw [hb3]
            rfl
          | false =>
            have eK : leafK cs cols (cols[j]) (Q) = (⟨3, 1 + intG cs 6 (Q), lleft cs cols (cols[j]) (Q), lright cs cols (cols[j]) (Q)⟩, intP cs 6 (lp6 cs cols (cols[j]) (Q))) := by rw [leafK, hb6]; rfl
            rw [eK]
            refine wn ?_
            refine rtm ?_
            (conv => lhs; whnf)
            unfold lright lleft
            rw [hb3]
            rfl
      · have eL : leafG cs cols P = leafK cs cols 4 P := if_neg (by omega)
        rw [eL]
        refine wn ?_
        refine cm (int_spec cs h 6 (P) (hPl)) (callee25) ?_
        refine wn ?_
        have c0 := intG_lo cs h 6 (P)
        have c1 := intG_hi cs h 6 (by decide) (P)
        refine i64 ?_
        refine wn ?_
        have hq1 : intP cs 6 (P) ≤ cs.length := intP_in (hPl)
        refine cm (operand_spec cs h cols hc (4) (intP cs 6 (P)) hq1) (callee75) ?_
        refine wn ?_
        have hq3 : lp3 cs cols (4) (P) ≤ cs.length := operandP_in hq1
        have hq4 : lp4 cs cols (4) (P) ≤ cs.length := valueP_in hq3
        refine cm (value_spec cs h (4) (lp3 cs cols (4) (P)) hq3) (callee41) ?_
        refine wn ?_
        refine cm (bool_spec cs h 3 (lp4 cs cols (4) (P)) hq4 (by decide)) (callee17) ?_
        refine wn ?_
        have hq5 : intP cs 3 (lp4 cs cols (4) (P)) ≤ cs.length := intP_in hq4
        cases hb3 : boolG cs 3 (lp4 cs cols (4) (P)) with
        | true =>
          refine wn ?_
          refine cm (operand_spec cs h cols hc (4) (intP cs 3 (lp4 cs cols (4) (P))) hq5) (callee75) ?_
          refine wn ?_
          have e6 : lp6 cs cols (4) (P) = operandP cs cols (4) (intP cs 3 (lp4 cs cols (4) (P))) := by rw [lp6, hb3]; rfl
          have hq6 : lp6 cs cols (4) (P) ≤ cs.length := lp6_in (hPl)
          rw [← e6]
          refine wn ?_
          refine cm (bool_spec cs h 6 (lp6 cs cols (4) (P)) hq6 (by decide)) (callee17) ?_
          refine wn ?_
          cases hb6 : boolG cs 6 (lp6 cs cols (4) (P)) with
          | true =>
            have eK : leafK cs cols (4) (P) = (⟨3, 1 + intG cs 6 (P), lright cs cols (4) (P), lleft cs cols (4) (P)⟩, intP cs 6 (lp6 cs cols (4) (P))) := by rw [leafK, hb6]; rfl
            rw [eK]
            refine wn ?_
            refine rtm ?_
            (conv => lhs; whnf)
            unfold lright lleft
            rw [hb3]
            rfl
          | false =>
            have eK : leafK cs cols (4) (P) = (⟨3, 1 + intG cs 6 (P), lleft cs cols (4) (P), lright cs cols (4) (P)⟩, intP cs 6 (lp6 cs cols (4) (P))) := by rw [leafK, hb6]; rfl
            rw [eK]
            refine wn ?_
            refine rtm ?_
            (conv => lhs; whnf)
            unfold lright lleft
            rw [hb3]
            rfl
        | false =>
          have e6 : lp6 cs cols (4) (P) = intP cs 3 (lp4 cs cols (4) (P)) := by rw [lp6, hb3]; rfl
          have hq6 : lp6 cs cols (4) (P) ≤ cs.length := lp6_in (hPl)
          rw [← e6]
          refine wn ?_
          refine cm (bool_spec cs h 6 (lp6 cs cols (4) (P)) hq6 (by decide)) (callee17) ?_
          refine wn ?_
          cases hb6 : boolG cs 6 (lp6 cs cols (4) (P)) with
          | true =>
            have eK : leafK cs cols (4) (P) = (⟨3, 1 + intG cs 6 (P), lright cs cols (4) (P), lleft cs cols (4) (P)⟩, intP cs 6 (lp6 cs cols (4) (P))) := by rw [leafK, hb6]; rfl
            rw [eK]
            refine wn ?_
            refine rtm ?_
            (conv => lhs; whnf)
            unfold lright lleft
            rw [hb3]
            rfl
          | false =>
            have eK : leafK cs cols (4) (P) = (⟨3, 1 + intG cs 6 (P), lleft cs cols (4) (P), lright cs cols (4) (P)⟩, intP cs 6 (lp6 cs cols (4) (P))) := by rw [leafK, hb6]; rfl
            rw [eK]
            refine wn ?_
            refine rtm ?_
            (conv => lhs; whnf)
            unfold lright lleft
            rw [hb3]
            rfl
theorem callee58 : callee Try.prog 58 := callee_of Try.func58 rfl rfl
end Go.Proofs.Ve

