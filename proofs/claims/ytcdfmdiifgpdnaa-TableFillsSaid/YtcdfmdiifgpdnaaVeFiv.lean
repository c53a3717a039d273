/-
  VeFiv: joined by wip/tools/merge.py out of VeU8 VeU9 VeUa VeV1 VeV2 VeV3 VeV4 VeV5 VeV6.
-/
import Derived.Test.YtcdfmdiifgpdnaaVeFou
import Derived.Test.YtcdfmdiifgpdnaaVeTri
/-
  VeU8: a row of two cells; whether a state is within another.
-/
set_option linter.unusedVariables false
set_option linter.unusedSimpArgs false
set_option pp.maxSteps 1500
namespace Go.Proofs.Ve
open Go

def namedR (i : Int) (t : ByteArray) : Row := [⟨4, i, ⟨#[]⟩⟩, ⟨5, 0, t⟩]
theorem named_spec (i : Int) (t : ByteArray) : PSpec Try.prog 47 [.one (.int .i64 i), .one (.str t)] (fun x => x = .one (rowC (namedR i t))) := by
  refine pspec_x env08_ok mixed08 Try.func47 rfl 10 rfl _ rfl rfl ?_
  conv => whnf
  repeat (first | (refine forkB_true ?_; conv => whnf) | (refine forkB_false ?_; conv => whnf) | (refine reqD_dec (by exact Nat.le_of_ble_eq_true rfl) ?_; conv => whnf) | (refine reqD_dec (by exact Nat.eq_of_beq_eq_true rfl) ?_; conv => whnf) | (refine reqD_dec ⟨by decide, by exact Nat.le_of_ble_eq_true rfl⟩ ?_; conv => whnf))
  refine retX_tr (Tr.frz' 0 2 rfl (show 0 < 3 by decide) rfl rfl) ?_
  refine retX_val rfl ?_
  conv => whnf
  rfl
theorem callee47 : callee Try.prog 47 := callee_of Try.func47 rfl rfl

/-- v is in no way other than w, if it is there. -/
def cellIn (v : V) (w : V) : Bool := v.k == 1 || eqV v w
def cellsIn : Row → Row → Bool
  | v :: r, w :: q => cellIn v w && cellsIn r q
  | _, _ => true
def rowIn (s : Sch) (b : St) (t : Int) (r : Row) : Bool := match getR s b t (keyR s t r) with
  | some x => x.length == r.length && cellsIn r x
  | none => false
def tabIn (s : Sch) (b : St) (t : Int) (l : Tab) : Bool := !(decide (0 < l.length) && decide ((s.tables.length : Int) ≤ t)) && l.all (rowIn s b t)
def withinFrom (s : Sch) (b : St) : Nat → St → Bool
  | i, l :: a => tabIn s b i l && withinFrom s b (i + 1) a
  | _, [] => true

theorem cellsIn_step (r q : Row) (i : Nat) (h1 : i < r.length) (h2 : i < q.length) : cellsIn (r.drop i) (q.drop i) = (cellIn r[i] q[i] && cellsIn (r.drop (i + 1)) (q.drop (i + 1))) := by
  rw [List.drop_eq_getElem_cons h1, List.drop_eq_getElem_cons h2, cellsIn]
theorem all_step {α : Type} (p : α → Bool) (l : List α) (i : Nat) (h : i < l.length) : (l.drop i).all p = (p l[i] && (l.drop (i + 1)).all p) := by
  rw [List.drop_eq_getElem_cons h, List.all_cons]
theorem within_step (s : Sch) (b a : St) (i : Nat) (h : i < a.length) : withinFrom s b i (a.drop i) = (tabIn s b i a[i] && withinFrom s b (i + 1) (a.drop (i + 1))) := by
  rw [List.drop_eq_getElem_cons h, withinFrom]

theorem within_spec (s : Sch) (a b : St) (ha : a.length ≤ 4398046511104) (hat : ∀ l ∈ a, okT l) (hbt : ∀ l ∈ b, okT l) : PSpec Try.prog 48 [.agg (schC s), .agg (stC a), .agg (stC b)] (fun x => x = .one (.bool (withinFrom s b 0 a))) := by
  refine pspec_x env08_ok mixed08 Try.func48 rfl 80 rfl _ rfl rfl ?_
  conv => whnf
  repeat (first | (refine forkB_true ?_; conv => whnf) | (refine forkB_false ?_; conv => whnf) | (refine reqD_dec (by exact Nat.le_of_ble_eq_true rfl) ?_; conv => whnf) | (refine reqD_dec (by exact Nat.eq_of_beq_eq_true rfl) ?_; conv => whnf) | (refine reqD_dec ⟨by decide, by exact Nat.le_of_ble_eq_true rfl⟩ ?_; conv => whnf))
  refine exI_as _ rfl ?_
  conv => whnf
  repeat (first | (refine forkB_true ?_; conv => whnf) | (refine forkB_false ?_; conv => whnf) | (refine reqD_dec (by exact Nat.le_of_ble_eq_true rfl) ?_; conv => whnf) | (refine reqD_dec (by exact Nat.eq_of_beq_eq_true rfl) ?_; conv => whnf) | (refine reqD_dec ⟨by decide, by exact Nat.le_of_ble_eq_true rfl⟩ ?_; conv => whnf))
  refine loopX_of env08_ok mixed08 (σ := Nat) (fun i => AS.of 80 0 3 [(3, .one (.ptr 0 0)), (5, .one (.ptr 2 0)), (16, .one (tabsC a)), (17, .one (.int .i64 a.length)), (18, .one (.int .i64 (i : Nat)))] [(0, ⟨32, 0, 0, schC s⟩), (2, ⟨25, 0, 0, stC b⟩)])
    (fun i => i ≤ a.length ∧ withinFrom s b 0 a = withinFrom s b i (a.drop i)) (fun i => a.length - i) 0 (fun _ => rfl)
    (Tr.ofId rfl rfl (Nat.zero_le _) (show 3 ≤ 3 by decide) ⟨⟨rfl, rfl⟩, ⟨rfl, rfl⟩, ⟨rfl, rfl⟩, ⟨rfl, rfl⟩, ⟨rfl, rfl⟩, trivial⟩ ⟨⟨rfl, rfl, by decide⟩, ⟨rfl, rfl, by decide⟩, trivial⟩) ⟨Nat.zero_le _, rfl⟩ ?_
  rintro i ⟨hi, hfi⟩
  conv => whnf
  repeat (first | (refine forkB_true ?_; conv => whnf) | (refine forkB_false ?_; conv => whnf) | (refine reqD_dec (by exact Nat.le_of_ble_eq_true rfl) ?_; conv => whnf) | (refine reqD_dec (by exact Nat.eq_of_beq_eq_true rfl) ?_; conv => whnf) | (refine reqD_dec ⟨by decide, by exact Nat.le_of_ble_eq_true rfl⟩ ?_; conv => whnf))
  refine forkB_dec (fun h => ?_) (fun h => ?_)
  · have hi2 : i < a.length := by omega
    have hs := within_step s b a i hi2
    have hl := hat _ (List.getElem_mem hi2)
    obtain ⟨l, hle⟩ : ∃ l, a[i] = l := ⟨_, rfl⟩
    rw [hle] at hs hl
    have hl42 := hl.1
    conv => whnf
    repeat (first | (refine forkB_true ?_; conv => whnf) | (refine forkB_false ?_; conv => whnf) | (refine reqD_dec (by exact Nat.le_of_ble_eq_true rfl) ?_; conv => whnf) | (refine reqD_dec (by exact Nat.eq_of_beq_eq_true rfl) ?_; conv => whnf) | (refine reqD_dec ⟨by decide, by exact Nat.le_of_ble_eq_true rfl⟩ ?_; conv => whnf))
    refine reqD_dec (by first | omega | decide | (simp [ty27, ty58, ty41, ty23, ty55, ty30, ty60, ty56, ty3, ty39]; done) | (simp [ty27, ty58, ty41, ty23, ty55, ty30, ty60, ty56, ty3, ty39]; omega)) ?_
    refine forceL_as (tabC1 l) ((flat_get (f := tabC1) tabC1_len a i hi2).trans (by rw [hle])) ?_
    conv => whnf
    repeat (first | (refine forkB_true ?_; conv => whnf) | (refine forkB_false ?_; conv => whnf) | (refine reqD_dec (by exact Nat.le_of_ble_eq_true rfl) ?_; conv => whnf) | (refine reqD_dec (by exact Nat.eq_of_beq_eq_true rfl) ?_; conv => whnf) | (refine reqD_dec ⟨by decide, by exact Nat.le_of_ble_eq_true rfl⟩ ?_; conv => whnf))
    refine exI_as _ rfl ?_
    conv => whnf
    repeat (first | (refine forkB_true ?_; conv => whnf) | (refine forkB_false ?_; conv => whnf) | (refine reqD_dec (by exact Nat.le_of_ble_eq_true rfl) ?_; conv => whnf) | (refine reqD_dec (by exact Nat.eq_of_beq_eq_true rfl) ?_; conv => whnf) | (refine reqD_dec ⟨by decide, by exact Nat.le_of_ble_eq_true rfl⟩ ?_; conv => whnf))
    refine forkB_dec (fun h2 => ?_) (fun h2 => ?_)
    · conv => whnf
      repeat (first | (refine forkB_true ?_; conv => whnf) | (refine forkB_false ?_; conv => whnf) | (refine reqD_dec (by exact Nat.le_of_ble_eq_true rfl) ?_; conv => whnf) | (refine reqD_dec (by exact Nat.eq_of_beq_eq_true rfl) ?_; conv => whnf) | (refine reqD_dec ⟨by decide, by exact Nat.le_of_ble_eq_true rfl⟩ ?_; conv => whnf))
      refine exI_as _ rfl ?_
      conv => whnf
      repeat (first | (refine forkB_true ?_; conv => whnf) | (refine forkB_false ?_; conv => whnf) | (refine reqD_dec (by exact Nat.le_of_ble_eq_true rfl) ?_; conv => whnf) | (refine reqD_dec (by exact Nat.eq_of_beq_eq_true rfl) ?_; conv => whnf) | (refine reqD_dec ⟨by decide, by exact Nat.le_of_ble_eq_true rfl⟩ ?_; conv => whnf))
      refine forkB_dec (fun h3 => ?_) (fun h3 => ?_)
      · have e : tabIn s b i l = false := by
          rw [tabIn, decide_eq_true (by omega), decide_eq_true (by omega)]
          rfl
        conv => whnf
        repeat (first | (refine forkB_true ?_; conv => whnf) | (refine forkB_false ?_; conv => whnf) | (refine reqD_dec (by exact Nat.le_of_ble_eq_true rfl) ?_; conv => whnf) | (refine reqD_dec (by exact Nat.eq_of_beq_eq_true rfl) ?_; conv => whnf) | (refine reqD_dec ⟨by decide, by exact Nat.le_of_ble_eq_true rfl⟩ ?_; conv => whnf))
        refine retX_val rfl ?_
        conv => whnf
        rw [hfi, hs, e]
        rfl
      · have e : tabIn s b i l = l.all (rowIn s b i) := by
          rw [tabIn, decide_eq_false (show ¬ (s.tables.length : Int) ≤ i by omega)]
          simp
        conv => whnf
        repeat (first | (refine forkB_true ?_; conv => whnf) | (refine forkB_false ?_; conv => whnf) | (refine reqD_dec (by exact Nat.le_of_ble_eq_true rfl) ?_; conv => whnf) | (refine reqD_dec (by exact Nat.eq_of_beq_eq_true rfl) ?_; conv => whnf) | (refine reqD_dec ⟨by decide, by exact Nat.le_of_ble_eq_true rfl⟩ ?_; conv => whnf))
        refine exI_as _ rfl ?_
        conv => whnf
        repeat (first | (refine forkB_true ?_; conv => whnf) | (refine forkB_false ?_; conv => whnf) | (refine reqD_dec (by exact Nat.le_of_ble_eq_true rfl) ?_; conv => whnf) | (refine reqD_dec (by exact Nat.eq_of_beq_eq_true rfl) ?_; conv => whnf) | (refine reqD_dec ⟨by decide, by exact Nat.le_of_ble_eq_true rfl⟩ ?_; conv => whnf))
        refine loopX_of env08_ok mixed08 (σ := Nat) (fun j => AS.of 80 0 3 [(3, .one (.ptr 0 0)), (5, .one (.ptr 2 0)), (16, .one (tabsC a)), (17, .one (.int .i64 a.length)), (18, .one (.int .i64 (i : Nat))), (7, .one (.int .i64 (i : Nat))), (33, .one (tabC l)), (34, .one (.int .i64 l.length)), (35, .one (.int .i64 (j : Nat)))] [(0, ⟨32, 0, 0, schC s⟩), (2, ⟨25, 0, 0, stC b⟩)])
          (fun j => j ≤ l.length ∧ withinFrom s b 0 a = ((l.drop j).all (rowIn s b i) && withinFrom s b (i + 1) (a.drop (i + 1)))) (fun j => l.length - j) 0 (fun _ => rfl) (Tr.ofId rfl rfl (Nat.zero_le _) (show 3 ≤ 3 by decide) ⟨⟨rfl, rfl⟩, ⟨rfl, rfl⟩, ⟨rfl, rfl⟩, ⟨rfl, rfl⟩, ⟨rfl, rfl⟩, ⟨rfl, rfl⟩, ⟨rfl, rfl⟩, ⟨rfl, rfl⟩, ⟨rfl, rfl⟩, trivial⟩ ⟨⟨rfl, rfl, by decide⟩, ⟨rfl, rfl, by decide⟩, trivial⟩) ⟨Nat.zero_le _, by rw [hfi, hs, e]; rfl⟩ ?_
        rintro j ⟨hj, hfj⟩
        conv => whnf
        repeat (first | (refine forkB_true ?_; conv => whnf) | (refine forkB_false ?_; conv => whnf) | (refine reqD_dec (by exact Nat.le_of_ble_eq_true rfl) ?_; conv => whnf) | (refine reqD_dec (by exact Nat.eq_of_beq_eq_true rfl) ?_; conv => whnf) | (refine reqD_dec ⟨by decide, by exact Nat.le_of_ble_eq_true rfl⟩ ?_; conv => whnf))
        refine forkB_dec (fun h4 => ?_) (fun h4 => ?_)
        · have hj2 : j < l.length := by omega
          have ha2 := all_step (rowIn s b i) l j hj2
          have hr := hl.2 _ (List.getElem_mem hj2)
          obtain ⟨r, hre⟩ : ∃ r, l[j] = r := ⟨_, rfl⟩
          rw [hre] at ha2 hr
          unfold okR at hr
          have hkl := keyR_le s i r
          conv => whnf
          repeat (first | (refine forkB_true ?_; conv => whnf) | (refine forkB_false ?_; conv => whnf) | (refine reqD_dec (by exact Nat.le_of_ble_eq_true rfl) ?_; conv => whnf) | (refine reqD_dec (by exact Nat.eq_of_beq_eq_true rfl) ?_; conv => whnf) | (refine reqD_dec ⟨by decide, by exact Nat.le_of_ble_eq_true rfl⟩ ?_; conv => whnf))
          refine reqD_dec (by first | omega | decide | (simp [ty27, ty58, ty41, ty23, ty55, ty30, ty60, ty56, ty3, ty39]; done) | (simp [ty27, ty58, ty41, ty23, ty55, ty30, ty60, ty56, ty3, ty39]; omega)) ?_
          refine forceL_as (rowC1 r) ((flat_get (f := rowC1) rowC1_len l j hj2).trans (by rw [hre])) ?_
          conv => whnf
          repeat (first | (refine forkB_true ?_; conv => whnf) | (refine forkB_false ?_; conv => whnf) | (refine reqD_dec (by exact Nat.le_of_ble_eq_true rfl) ?_; conv => whnf) | (refine reqD_dec (by exact Nat.eq_of_beq_eq_true rfl) ?_; conv => whnf) | (refine reqD_dec ⟨by decide, by exact Nat.le_of_ble_eq_true rfl⟩ ?_; conv => whnf))
          refine drawnX_phase env08_ok (fun _ => true) [0, 1, 2, 3, 4, 5, 6, 7, 8, 9, 10, 11, 12] (.take 0 (.take 1 (.take 2 (.take 3 (.take 4 (.take 5 (.one 6 (.one 7 (.take 8 (.take 9 (.take 10 (.take 11 (.take 12 (.stop)))))))))))))) 0 #[true, true, true, true, true, true, true, true, true, true, true, true, true] (by kernel_rfl) ?_
          conv => whnf
          repeat (first | (refine forkB_true ?_; conv => whnf) | (refine forkB_false ?_; conv => whnf) | (refine reqD_dec (by exact Nat.le_of_ble_eq_true rfl) ?_; conv => whnf) | (refine reqD_dec (by exact Nat.eq_of_beq_eq_true rfl) ?_; conv => whnf) | (refine reqD_dec ⟨by decide, by exact Nat.le_of_ble_eq_true rfl⟩ ?_; conv => whnf))
          refine callX_le (key_spec s i r hr) callee43 rfl rfl (.cons (AV.Le.refl _) (.cons (AV.Le.refl _) (.cons (AV.Le.refl _) .nil))) rfl ?_
          rintro x hx rfl
          conv => whnf
          repeat (first | (refine forkB_true ?_; conv => whnf) | (refine forkB_false ?_; conv => whnf) | (refine reqD_dec (by exact Nat.le_of_ble_eq_true rfl) ?_; conv => whnf) | (refine reqD_dec (by exact Nat.eq_of_beq_eq_true rfl) ?_; conv => whnf) | (refine reqD_dec ⟨by decide, by exact Nat.le_of_ble_eq_true rfl⟩ ?_; conv => whnf))
          refine callX_le (get_spec s b i (keyR s i r) hbt (by omega)) callee19 rfl rfl (.cons (AV.Le.refl _) (.cons (AV.Le.refl _) (.cons (AV.Le.refl _) (.cons (AV.Le.refl _) .nil)))) rfl ?_
          intro x hx hx2
          cases hg : getR s b i (keyR s i r) with
          | none =>
            rw [hg] at hx2
            subst hx2
            have e5 : rowIn s b i r = false := by
              unfold rowIn
              rw [hg]
            conv => whnf
            repeat (first | (refine forkB_true ?_; conv => whnf) | (refine forkB_false ?_; conv => whnf) | (refine reqD_dec (by exact Nat.le_of_ble_eq_true rfl) ?_; conv => whnf) | (refine reqD_dec (by exact Nat.eq_of_beq_eq_true rfl) ?_; conv => whnf) | (refine reqD_dec ⟨by decide, by exact Nat.le_of_ble_eq_true rfl⟩ ?_; conv => whnf))
            refine drawnX_done (by kernel_rfl) ?_
            conv => whnf
            repeat (first | (refine forkB_true ?_; conv => whnf) | (refine forkB_false ?_; conv => whnf) | (refine reqD_dec (by exact Nat.le_of_ble_eq_true rfl) ?_; conv => whnf) | (refine reqD_dec (by exact Nat.eq_of_beq_eq_true rfl) ?_; conv => whnf) | (refine reqD_dec ⟨by decide, by exact Nat.le_of_ble_eq_true rfl⟩ ?_; conv => whnf))
            refine retX_val rfl ?_
            conv => whnf
            rw [hfj, ha2, e5]
            rfl
          | some q =>
            rw [hg] at hx2
            subst hx2
            have e5 : rowIn s b i r = (q.length == r.length && cellsIn r q) := by
              unfold rowIn
              rw [hg]
            conv => whnf
            repeat (first | (refine forkB_true ?_; conv => whnf) | (refine forkB_false ?_; conv => whnf) | (refine reqD_dec (by exact Nat.le_of_ble_eq_true rfl) ?_; conv => whnf) | (refine reqD_dec (by exact Nat.eq_of_beq_eq_true rfl) ?_; conv => whnf) | (refine reqD_dec ⟨by decide, by exact Nat.le_of_ble_eq_true rfl⟩ ?_; conv => whnf))
            refine drawnX_done (by kernel_rfl) ?_
            conv => whnf
            repeat (first | (refine forkB_true ?_; conv => whnf) | (refine forkB_false ?_; conv => whnf) | (refine reqD_dec (by exact Nat.le_of_ble_eq_true rfl) ?_; conv => whnf) | (refine reqD_dec (by exact Nat.eq_of_beq_eq_true rfl) ?_; conv => whnf) | (refine reqD_dec ⟨by decide, by exact Nat.le_of_ble_eq_true rfl⟩ ?_; conv => whnf))
            refine exI_as _ rfl ?_
            conv => whnf
            repeat (first | (refine forkB_true ?_; conv => whnf) | (refine forkB_false ?_; conv => whnf) | (refine reqD_dec (by exact Nat.le_of_ble_eq_true rfl) ?_; conv => whnf) | (refine reqD_dec (by exact Nat.eq_of_beq_eq_true rfl) ?_; conv => whnf) | (refine reqD_dec ⟨by decide, by exact Nat.le_of_ble_eq_true rfl⟩ ?_; conv => whnf))
            refine exI_as _ rfl ?_
            conv => whnf
            repeat (first | (refine forkB_true ?_; conv => whnf) | (refine forkB_false ?_; conv => whnf) | (refine reqD_dec (by exact Nat.le_of_ble_eq_true rfl) ?_; conv => whnf) | (refine reqD_dec (by exact Nat.eq_of_beq_eq_true rfl) ?_; conv => whnf) | (refine reqD_dec ⟨by decide, by exact Nat.le_of_ble_eq_true rfl⟩ ?_; conv => whnf))
            refine forkB_intro (fun h6 => ?_) (fun h6 => ?_)
            · have h6 : (q.length == r.length) = false := by
                simp at h6 ⊢
                omega
              conv => whnf
              repeat (first | (refine forkB_true ?_; conv => whnf) | (refine forkB_false ?_; conv => whnf) | (refine reqD_dec (by exact Nat.le_of_ble_eq_true rfl) ?_; conv => whnf) | (refine reqD_dec (by exact Nat.eq_of_beq_eq_true rfl) ?_; conv => whnf) | (refine reqD_dec ⟨by decide, by exact Nat.le_of_ble_eq_true rfl⟩ ?_; conv => whnf))
              refine retX_val rfl ?_
              conv => whnf
              rw [hfj, ha2, e5, h6]
              rfl
            · have h6 : q.length = r.length := by
                simp at h6
                omega
              rw [show (q.length == r.length) = true by simpa using h6, Bool.true_and] at e5
              conv => whnf
              repeat (first | (refine forkB_true ?_; conv => whnf) | (refine forkB_false ?_; conv => whnf) | (refine reqD_dec (by exact Nat.le_of_ble_eq_true rfl) ?_; conv => whnf) | (refine reqD_dec (by exact Nat.eq_of_beq_eq_true rfl) ?_; conv => whnf) | (refine reqD_dec ⟨by decide, by exact Nat.le_of_ble_eq_true rfl⟩ ?_; conv => whnf))
              refine exI_as _ rfl ?_
              conv => whnf
              repeat (first | (refine forkB_true ?_; conv => whnf) | (refine forkB_false ?_; conv => whnf) | (refine reqD_dec (by exact Nat.le_of_ble_eq_true rfl) ?_; conv => whnf) | (refine reqD_dec (by exact Nat.eq_of_beq_eq_true rfl) ?_; conv => whnf) | (refine reqD_dec ⟨by decide, by exact Nat.le_of_ble_eq_true rfl⟩ ?_; conv => whnf))
              refine loopX_of env08_ok mixed08 (σ := Nat) (fun k => AS.of 80 0 3 [(3, .one (.ptr 0 0)), (5, .one (.ptr 2 0)), (16, .one (tabsC a)), (17, .one (.int .i64 a.length)), (18, .one (.int .i64 (i : Nat))), (7, .one (.int .i64 (i : Nat))), (33, .one (tabC l)), (34, .one (.int .i64 l.length)), (35, .one (.int .i64 (j : Nat))), (11, .one (rowC q)), (59, .one (rowC r)), (60, .one (.int .i64 r.length)), (61, .one (.int .i64 (k : Nat)))] [(0, ⟨32, 0, 0, schC s⟩), (2, ⟨25, 0, 0, stC b⟩)])
                (fun k => k ≤ r.length ∧ rowIn s b i r = cellsIn (r.drop k) (q.drop k)) (fun k => r.length - k) 0 (fun _ => rfl) (Tr.ofId rfl rfl (Nat.zero_le _) (show 3 ≤ 3 by decide) ⟨⟨rfl, rfl⟩, ⟨rfl, rfl⟩, ⟨rfl, rfl⟩, ⟨rfl, rfl⟩, ⟨rfl, rfl⟩, ⟨rfl, rfl⟩, ⟨rfl, rfl⟩, ⟨rfl, rfl⟩, ⟨rfl, rfl⟩, ⟨rfl, rfl⟩, ⟨rfl, rfl⟩, ⟨rfl, rfl⟩, ⟨rfl, rfl⟩, trivial⟩ ⟨⟨rfl, rfl, by decide⟩, ⟨rfl, rfl, by decide⟩, trivial⟩) ⟨Nat.zero_le _, e5⟩ ?_
              rintro k ⟨hk, hfk⟩
              conv => whnf
              repeat (first | (refine forkB_true ?_; conv => whnf) | (refine forkB_false ?_; conv => whnf) | (refine reqD_dec (by exact Nat.le_of_ble_eq_true rfl) ?_; conv => whnf) | (refine reqD_dec (by exact Nat.eq_of_beq_eq_true rfl) ?_; conv => whnf) | (refine reqD_dec ⟨by decide, by exact Nat.le_of_ble_eq_true rfl⟩ ?_; conv => whnf))
              refine forkB_dec (fun h7 => ?_) (fun h7 => ?_)
              · have hk2 : k < r.length := by omega
                have hk3 : k < q.length := by omega
                have hc := cellsIn_step r q k hk2 hk3
                obtain ⟨v, hv⟩ : ∃ v, r[k] = v := ⟨_, rfl⟩
                obtain ⟨u, hu⟩ : ∃ u, q[k] = u := ⟨_, rfl⟩
                rw [hv, hu] at hc
                conv => whnf
                repeat (first | (refine forkB_true ?_; conv => whnf) | (refine forkB_false ?_; conv => whnf) | (refine reqD_dec (by exact Nat.le_of_ble_eq_true rfl) ?_; conv => whnf) | (refine reqD_dec (by exact Nat.eq_of_beq_eq_true rfl) ?_; conv => whnf) | (refine reqD_dec ⟨by decide, by exact Nat.le_of_ble_eq_true rfl⟩ ?_; conv => whnf))
                refine reqD_dec (by first | omega | decide | (simp [ty27, ty58, ty41, ty23, ty55, ty30, ty60, ty56, ty3, ty39]; done) | (simp [ty27, ty58, ty41, ty23, ty55, ty30, ty60, ty56, ty3, ty39]; omega)) ?_
                refine forceL_as (vC v) ((flat_get (f := vC) vC_len r k hk2).trans (by rw [hv])) ?_
                conv => whnf
                repeat (first | (refine forkB_true ?_; conv => whnf) | (refine forkB_false ?_; conv => whnf) | (refine reqD_dec (by exact Nat.le_of_ble_eq_true rfl) ?_; conv => whnf) | (refine reqD_dec (by exact Nat.eq_of_beq_eq_true rfl) ?_; conv => whnf) | (refine reqD_dec ⟨by decide, by exact Nat.le_of_ble_eq_true rfl⟩ ?_; conv => whnf))
                refine drawnX_phase env08_ok (fun _ => true) [0, 1, 2, 3, 4, 5, 6, 7, 8, 9, 10] (.take 0 (.take 1 (.take 2 (.take 3 (.take 4 (.take 5 (.take 6 (.take 7 (.take 8 (.take 9 (.take 10 (.stop)))))))))))) 0 #[true, true, true, true, true, true, true, true, true, true, true] (by kernel_rfl) ?_
                conv => whnf
                repeat (first | (refine forkB_true ?_; conv => whnf) | (refine forkB_false ?_; conv => whnf) | (refine reqD_dec (by exact Nat.le_of_ble_eq_true rfl) ?_; conv => whnf) | (refine reqD_dec (by exact Nat.eq_of_beq_eq_true rfl) ?_; conv => whnf) | (refine reqD_dec ⟨by decide, by exact Nat.le_of_ble_eq_true rfl⟩ ?_; conv => whnf))
                refine forkB_intro (fun h8 => ?_) (fun h8 => ?_)
                · have h8 : (v.k == 1) = false := by
                    simp at h8 ⊢
                    exact h8
                  conv => whnf
                  repeat (first | (refine forkB_true ?_; conv => whnf) | (refine forkB_false ?_; conv => whnf) | (refine reqD_dec (by exact Nat.le_of_ble_eq_true rfl) ?_; conv => whnf) | (refine reqD_dec (by exact Nat.eq_of_beq_eq_true rfl) ?_; conv => whnf) | (refine reqD_dec ⟨by decide, by exact Nat.le_of_ble_eq_true rfl⟩ ?_; conv => whnf))
                  refine reqD_dec (by first | omega | decide | (simp [ty27, ty58, ty41, ty23, ty55, ty30, ty60, ty56, ty3, ty39]; done) | (simp [ty27, ty58, ty41, ty23, ty55, ty30, ty60, ty56, ty3, ty39]; omega)) ?_
                  refine forceL_as (vC u) ((flat_get (f := vC) vC_len q k hk3).trans (by rw [hu])) ?_
                  conv => whnf
                  repeat (first | (refine forkB_true ?_; conv => whnf) | (refine forkB_false ?_; conv => whnf) | (refine reqD_dec (by exact Nat.le_of_ble_eq_true rfl) ?_; conv => whnf) | (refine reqD_dec (by exact Nat.eq_of_beq_eq_true rfl) ?_; conv => whnf) | (refine reqD_dec ⟨by decide, by exact Nat.le_of_ble_eq_true rfl⟩ ?_; conv => whnf))
                  refine forkB_intro (fun h9 => ?_) (fun h9 => ?_)
                  · have h9 : (!eqV v u) = true := h9
                    conv => whnf
                    repeat (first | (refine forkB_true ?_; conv => whnf) | (refine forkB_false ?_; conv => whnf) | (refine reqD_dec (by exact Nat.le_of_ble_eq_true rfl) ?_; conv => whnf) | (refine reqD_dec (by exact Nat.eq_of_beq_eq_true rfl) ?_; conv => whnf) | (refine reqD_dec ⟨by decide, by exact Nat.le_of_ble_eq_true rfl⟩ ?_; conv => whnf))
                    refine drawnX_done (by kernel_rfl) ?_
                    conv => whnf
                    repeat (first | (refine forkB_true ?_; conv => whnf) | (refine forkB_false ?_; conv => whnf) | (refine reqD_dec (by exact Nat.le_of_ble_eq_true rfl) ?_; conv => whnf) | (refine reqD_dec (by exact Nat.eq_of_beq_eq_true rfl) ?_; conv => whnf) | (refine reqD_dec ⟨by decide, by exact Nat.le_of_ble_eq_true rfl⟩ ?_; conv => whnf))
                    refine retX_val rfl ?_
                    conv => whnf
                    rw [hfj, ha2, hfk, hc, cellIn, h8, show eqV v u = false by simpa using h9]
                    rfl
                  · have h9 : (!eqV v u) = false := h9
                    conv => whnf
                    repeat (first | (refine forkB_true ?_; conv => whnf) | (refine forkB_false ?_; conv => whnf) | (refine reqD_dec (by exact Nat.le_of_ble_eq_true rfl) ?_; conv => whnf) | (refine reqD_dec (by exact Nat.eq_of_beq_eq_true rfl) ?_; conv => whnf) | (refine reqD_dec ⟨by decide, by exact Nat.le_of_ble_eq_true rfl⟩ ?_; conv => whnf))
                    refine drawnX_done (by kernel_rfl) ?_
                    conv => whnf
                    repeat (first | (refine forkB_true ?_; conv => whnf) | (refine forkB_false ?_; conv => whnf) | (refine reqD_dec (by exact Nat.le_of_ble_eq_true rfl) ?_; conv => whnf) | (refine reqD_dec (by exact Nat.eq_of_beq_eq_true rfl) ?_; conv => whnf) | (refine reqD_dec ⟨by decide, by exact Nat.le_of_ble_eq_true rfl⟩ ?_; conv => whnf))
                    refine exI_i64 (by omega) (by omega) ?_
                    conv => whnf
                    repeat (first | (refine forkB_true ?_; conv => whnf) | (refine forkB_false ?_; conv => whnf) | (refine reqD_dec (by exact Nat.le_of_ble_eq_true rfl) ?_; conv => whnf) | (refine reqD_dec (by exact Nat.eq_of_beq_eq_true rfl) ?_; conv => whnf) | (refine reqD_dec ⟨by decide, by exact Nat.le_of_ble_eq_true rfl⟩ ?_; conv => whnf))
                    exact ⟨k + 1, ⟨by omega, by rw [hfk, hc, cellIn, h8, show eqV v u = true by simpa using h9]; rfl⟩, by omega, (Tr.ofId rfl rfl (Nat.zero_le _) (show 3 ≤ 4 by decide) ⟨⟨rfl, rfl⟩, ⟨rfl, rfl⟩, ⟨rfl, rfl⟩, ⟨rfl, rfl⟩, ⟨rfl, rfl⟩, ⟨rfl, rfl⟩, ⟨rfl, rfl⟩, ⟨rfl, rfl⟩, ⟨rfl, rfl⟩, ⟨rfl, rfl⟩, ⟨rfl, rfl⟩, ⟨rfl, rfl⟩, ⟨rfl, rfl⟩, trivial⟩ ⟨⟨rfl, rfl, by decide⟩, ⟨rfl, rfl, by decide⟩, trivial⟩)⟩
                · have h8 : (v.k == 1) = true := by
                    simp at h8 ⊢
                    exact h8
                  conv => whnf
                  repeat (first | (refine forkB_true ?_; conv => whnf) | (refine forkB_false ?_; conv => whnf) | (refine reqD_dec (by exact Nat.le_of_ble_eq_true rfl) ?_; conv => whnf) | (refine reqD_dec (by exact Nat.eq_of_beq_eq_true rfl) ?_; conv => whnf) | (refine reqD_dec ⟨by decide, by exact Nat.le_of_ble_eq_true rfl⟩ ?_; conv => whnf))
                  refine drawnX_done (by kernel_rfl) ?_
                  conv => whnf
                  repeat (first | (refine forkB_true ?_; conv => whnf) | (refine forkB_false ?_; conv => whnf) | (refine reqD_dec (by exact Nat.le_of_ble_eq_true rfl) ?_; conv => whnf) | (refine reqD_dec (by exact Nat.eq_of_beq_eq_true rfl) ?_; conv => whnf) | (refine reqD_dec ⟨by decide, by exact Nat.le_of_ble_eq_true rfl⟩ ?_; conv => whnf))
                  refine exI_i64 (by omega) (by omega) ?_
                  conv => whnf
                  repeat (first | (refine forkB_true ?_; conv => whnf) | (refine forkB_false ?_; conv => whnf) | (refine reqD_dec (by exact Nat.le_of_ble_eq_true rfl) ?_; conv => whnf) | (refine reqD_dec (by exact Nat.eq_of_beq_eq_true rfl) ?_; conv => whnf) | (refine reqD_dec ⟨by decide, by exact Nat.le_of_ble_eq_true rfl⟩ ?_; conv => whnf))
                  exact ⟨k + 1, ⟨by omega, by rw [hfk, hc, cellIn, h8]; rfl⟩, by omega, (Tr.ofId rfl rfl (Nat.zero_le _) (show 3 ≤ 4 by decide) ⟨⟨rfl, rfl⟩, ⟨rfl, rfl⟩, ⟨rfl, rfl⟩, ⟨rfl, rfl⟩, ⟨rfl, rfl⟩, ⟨rfl, rfl⟩, ⟨rfl, rfl⟩, ⟨rfl, rfl⟩, ⟨rfl, rfl⟩, ⟨rfl, rfl⟩, ⟨rfl, rfl⟩, ⟨rfl, rfl⟩, ⟨rfl, rfl⟩, trivial⟩ ⟨⟨rfl, rfl, by decide⟩, ⟨rfl, rfl, by decide⟩, trivial⟩)⟩
              · have e7 : k = r.length := by omega
                subst e7
                rw [List.drop_eq_nil_of_le (Nat.le_refl _), cellsIn] at hfk
                · conv => whnf
                  repeat (first | (refine forkB_true ?_; conv => whnf) | (refine forkB_false ?_; conv => whnf) | (refine reqD_dec (by exact Nat.le_of_ble_eq_true rfl) ?_; conv => whnf) | (refine reqD_dec (by exact Nat.eq_of_beq_eq_true rfl) ?_; conv => whnf) | (refine reqD_dec ⟨by decide, by exact Nat.le_of_ble_eq_true rfl⟩ ?_; conv => whnf))
                  refine exI_i64 (by omega) (by omega) ?_
                  conv => whnf
                  repeat (first | (refine forkB_true ?_; conv => whnf) | (refine forkB_false ?_; conv => whnf) | (refine reqD_dec (by exact Nat.le_of_ble_eq_true rfl) ?_; conv => whnf) | (refine reqD_dec (by exact Nat.eq_of_beq_eq_true rfl) ?_; conv => whnf) | (refine reqD_dec ⟨by decide, by exact Nat.le_of_ble_eq_true rfl⟩ ?_; conv => whnf))
                  exact ⟨j + 1, ⟨by omega, by rw [hfj, ha2, hfk, Bool.true_and]⟩, by omega, (Tr.ofId rfl rfl (Nat.zero_le _) (show 3 ≤ 3 by decide) ⟨⟨rfl, rfl⟩, ⟨rfl, rfl⟩, ⟨rfl, rfl⟩, ⟨rfl, rfl⟩, ⟨rfl, rfl⟩, ⟨rfl, rfl⟩, ⟨rfl, rfl⟩, ⟨rfl, rfl⟩, ⟨rfl, rfl⟩, trivial⟩ ⟨⟨rfl, rfl, by decide⟩, ⟨rfl, rfl, by decide⟩, trivial⟩)⟩
                · intro v r' w q' h1
                  cases h1
        · have e4 : j = l.length := by omega
          subst e4
          rw [List.drop_eq_nil_of_le (Nat.le_refl _), List.all_nil, Bool.true_and] at hfj
          conv => whnf
          repeat (first | (refine forkB_true ?_; conv => whnf) | (refine forkB_false ?_; conv => whnf) | (refine reqD_dec (by exact Nat.le_of_ble_eq_true rfl) ?_; conv => whnf) | (refine reqD_dec (by exact Nat.eq_of_beq_eq_true rfl) ?_; conv => whnf) | (refine reqD_dec ⟨by decide, by exact Nat.le_of_ble_eq_true rfl⟩ ?_; conv => whnf))
          refine exI_i64 (by omega) (by omega) ?_
          conv => whnf
          repeat (first | (refine forkB_true ?_; conv => whnf) | (refine forkB_false ?_; conv => whnf) | (refine reqD_dec (by exact Nat.le_of_ble_eq_true rfl) ?_; conv => whnf) | (refine reqD_dec (by exact Nat.eq_of_beq_eq_true rfl) ?_; conv => whnf) | (refine reqD_dec ⟨by decide, by exact Nat.le_of_ble_eq_true rfl⟩ ?_; conv => whnf))
          exact ⟨i + 1, ⟨by omega, hfj⟩, by omega, (Tr.ofId rfl rfl (Nat.zero_le _) (show 3 ≤ 3 by decide) ⟨⟨rfl, rfl⟩, ⟨rfl, rfl⟩, ⟨rfl, rfl⟩, ⟨rfl, rfl⟩, ⟨rfl, rfl⟩, trivial⟩ ⟨⟨rfl, rfl, by decide⟩, ⟨rfl, rfl, by decide⟩, trivial⟩)⟩
    · have e : tabIn s b i l = l.all (rowIn s b i) := by
        rw [tabIn, decide_eq_false (show ¬ 0 < l.length by omega)]
        rfl
      conv => whnf
      repeat (first | (refine forkB_true ?_; conv => whnf) | (refine forkB_false ?_; conv => whnf) | (refine reqD_dec (by exact Nat.le_of_ble_eq_true rfl) ?_; conv => whnf) | (refine reqD_dec (by exact Nat.eq_of_beq_eq_true rfl) ?_; conv => whnf) | (refine reqD_dec ⟨by decide, by exact Nat.le_of_ble_eq_true rfl⟩ ?_; conv => whnf))
      refine exI_as _ rfl ?_
      conv => whnf
      repeat (first | (refine forkB_true ?_; conv => whnf) | (refine forkB_false ?_; conv => whnf) | (refine reqD_dec (by exact Nat.le_of_ble_eq_true rfl) ?_; conv => whnf) | (refine reqD_dec (by exact Nat.eq_of_beq_eq_true rfl) ?_; conv => whnf) | (refine reqD_dec ⟨by decide, by exact Nat.le_of_ble_eq_true rfl⟩ ?_; conv => whnf))
      refine loopX_of env08_ok mixed08 (σ := Nat) (fun j => AS.of 80 0 3 [(3, .one (.ptr 0 0)), (5, .one (.ptr 2 0)), (16, .one (tabsC a)), (17, .one (.int .i64 a.length)), (18, .one (.int .i64 (i : Nat))), (7, .one (.int .i64 (i : Nat))), (33, .one (tabC l)), (34, .one (.int .i64 l.length)), (35, .one (.int .i64 (j : Nat)))] [(0, ⟨32, 0, 0, schC s⟩), (2, ⟨25, 0, 0, stC b⟩)])
        (fun j => j ≤ l.length ∧ withinFrom s b 0 a = ((l.drop j).all (rowIn s b i) && withinFrom s b (i + 1) (a.drop (i + 1)))) (fun j => l.length - j) 0 (fun _ => rfl) (Tr.ofId rfl rfl (Nat.zero_le _) (show 3 ≤ 3 by decide) ⟨⟨rfl, rfl⟩, ⟨rfl, rfl⟩, ⟨rfl, rfl⟩, ⟨rfl, rfl⟩, ⟨rfl, rfl⟩, ⟨rfl, rfl⟩, ⟨rfl, rfl⟩, ⟨rfl, rfl⟩, ⟨rfl, rfl⟩, trivial⟩ ⟨⟨rfl, rfl, by decide⟩, ⟨rfl, rfl, by decide⟩, trivial⟩) ⟨Nat.zero_le _, by rw [hfi, hs, e]; rfl⟩ ?_
      rintro j ⟨hj, hfj⟩
      conv => whnf
      repeat (first | (refine forkB_true ?_; conv => whnf) | (refine forkB_false ?_; conv => whnf) | (refine reqD_dec (by exact Nat.le_of_ble_eq_true rfl) ?_; conv => whnf) | (refine reqD_dec (by exact Nat.eq_of_beq_eq_true rfl) ?_; conv => whnf) | (refine reqD_dec ⟨by decide, by exact Nat.le_of_ble_eq_true rfl⟩ ?_; conv => whnf))
      refine forkB_dec (fun h4 => ?_) (fun h4 => ?_)
      · have hj2 : j < l.length := by omega
        have ha2 := all_step (rowIn s b i) l j hj2
        have hr := hl.2 _ (List.getElem_mem hj2)
        obtain ⟨r, hre⟩ : ∃ r, l[j] = r := ⟨_, rfl⟩
        rw [hre] at ha2 hr
        unfold okR at hr
        have hkl := keyR_le s i r
        conv => whnf
        repeat (first | (refine forkB_true ?_; conv => whnf) | (refine forkB_false ?_; conv => whnf) | (refine reqD_dec (by exact Nat.le_of_ble_eq_true rfl) ?_; conv => whnf) | (refine reqD_dec (by exact Nat.eq_of_beq_eq_true rfl) ?_; conv => whnf) | (refine reqD_dec ⟨by decide, by exact Nat.le_of_ble_eq_true rfl⟩ ?_; conv => whnf))
        refine reqD_dec (by first | omega | decide | (simp [ty27, ty58, ty41, ty23, ty55, ty30, ty60, ty56, ty3, ty39]; done) | (simp [ty27, ty58, ty41, ty23, ty55, ty30, ty60, ty56, ty3, ty39]; omega)) ?_
        refine forceL_as (rowC1 r) ((flat_get (f := rowC1) rowC1_len l j hj2).trans (by rw [hre])) ?_
        conv => whnf
        repeat (first | (refine forkB_true ?_; conv => whnf) | (refine forkB_false ?_; conv => whnf) | (refine reqD_dec (by exact Nat.le_of_ble_eq_true rfl) ?_; conv => whnf) | (refine reqD_dec (by exact Nat.eq_of_beq_eq_true rfl) ?_; conv => whnf) | (refine reqD_dec ⟨by decide, by exact Nat.le_of_ble_eq_true rfl⟩ ?_; conv => whnf))
        refine drawnX_phase env08_ok (fun _ => true) [0, 1, 2, 3, 4, 5, 6, 7, 8, 9, 10, 11, 12] (.take 0 (.take 1 (.take 2 (.take 3 (.take 4 (.take 5 (.one 6 (.one 7 (.take 8 (.take 9 (.take 10 (.take 11 (.take 12 (.stop)))))))))))))) 0 #[true, true, true, true, true, true, true, true, true, true, true, true, true] (by kernel_rfl) ?_
        conv => whnf
        repeat (first | (refine forkB_true ?_; conv => whnf) | (refine forkB_false ?_; conv => whnf) | (refine reqD_dec (by exact Nat.le_of_ble_eq_true rfl) ?_; conv => whnf) | (refine reqD_dec (by exact Nat.eq_of_beq_eq_true rfl) ?_; conv => whnf) | (refine reqD_dec ⟨by decide, by exact Nat.le_of_ble_eq_true rfl⟩ ?_; conv => whnf))
        refine callX_le (key_spec s i r hr) callee43 rfl rfl (.cons (AV.Le.refl _) (.cons (AV.Le.refl _) (.cons (AV.Le.refl _) .nil))) rfl ?_
        rintro x hx rfl
        conv => whnf
        repeat (first | (refine forkB_true ?_; conv => whnf) | (refine forkB_false ?_; conv => whnf) | (refine reqD_dec (by exact Nat.le_of_ble_eq_true rfl) ?_; conv => whnf) | (refine reqD_dec (by exact Nat.eq_of_beq_eq_true rfl) ?_; conv => whnf) | (refine reqD_dec ⟨by decide, by exact Nat.le_of_ble_eq_true rfl⟩ ?_; conv => whnf))
        refine callX_le (get_spec s b i (keyR s i r) hbt (by omega)) callee19 rfl rfl (.cons (AV.Le.refl _) (.cons (AV.Le.refl _) (.cons (AV.Le.refl _) (.cons (AV.Le.refl _) .nil)))) rfl ?_
        intro x hx hx2
        cases hg : getR s b i (keyR s i r) with
        | none =>
          rw [hg] at hx2
          subst hx2
          have e5 : rowIn s b i r = false := by
            unfold rowIn
            rw [hg]
          conv => whnf
          repeat (first | (refine forkB_true ?_; conv => whnf) | (refine forkB_false ?_; conv => whnf) | (refine reqD_dec (by exact Nat.le_of_ble_eq_true rfl) ?_; conv => whnf) | (refine reqD_dec (by exact Nat.eq_of_beq_eq_true rfl) ?_; conv => whnf) | (refine reqD_dec ⟨by decide, by exact Nat.le_of_ble_eq_true rfl⟩ ?_; conv => whnf))
          refine drawnX_done (by kernel_rfl) ?_
          conv => whnf
          repeat (first | (refine forkB_true ?_; conv => whnf) | (refine forkB_false ?_; conv => whnf) | (refine reqD_dec (by exact Nat.le_of_ble_eq_true rfl) ?_; conv => whnf) | (refine reqD_dec (by exact Nat.eq_of_beq_eq_true rfl) ?_; conv => whnf) | (refine reqD_dec ⟨by decide, by exact Nat.le_of_ble_eq_true rfl⟩ ?_; conv => whnf))
          refine retX_val rfl ?_
          conv => whnf
          rw [hfj, ha2, e5]
          rfl
        | some q =>
          rw [hg] at hx2
          subst hx2
          have e5 : rowIn s b i r = (q.length == r.length && cellsIn r q) := by
            unfold rowIn
            rw [hg]
          conv => whnf
          repeat (first | (refine forkB_true ?_; conv => whnf) | (refine forkB_false ?_; conv => whnf) | (refine reqD_dec (by exact Nat.le_of_ble_eq_true rfl) ?_; conv => whnf) | (refine reqD_dec (by exact Nat.eq_of_beq_eq_true rfl) ?_; conv => whnf) | (refine reqD_dec ⟨by decide, by exact Nat.le_of_ble_eq_true rfl⟩ ?_; conv => whnf))
          refine drawnX_done (by kernel_rfl) ?_
          conv => whnf
          repeat (first | (refine forkB_true ?_; conv => whnf) | (refine forkB_false ?_; conv => whnf) | (refine reqD_dec (by exact Nat.le_of_ble_eq_true rfl) ?_; conv => whnf) | (refine reqD_dec (by exact Nat.eq_of_beq_eq_true rfl) ?_; conv => whnf) | (refine reqD_dec ⟨by decide, by exact Nat.le_of_ble_eq_true rfl⟩ ?_; conv => whnf))
          refine exI_as _ rfl ?_
          conv => whnf
          repeat (first | (refine forkB_true ?_; conv => whnf) | (refine forkB_false ?_; conv => whnf) | (refine reqD_dec (by exact Nat.le_of_ble_eq_true rfl) ?_; conv => whnf) | (refine reqD_dec (by exact Nat.eq_of_beq_eq_true rfl) ?_; conv => whnf) | (refine reqD_dec ⟨by decide, by exact Nat.le_of_ble_eq_true rfl⟩ ?_; conv => whnf))
          refine exI_as _ rfl ?_
          conv => whnf
          repeat (first | (refine forkB_true ?_; conv => whnf) | (refine forkB_false ?_; conv => whnf) | (refine reqD_dec (by exact Nat.le_of_ble_eq_true rfl) ?_; conv => whnf) | (refine reqD_dec (by exact Nat.eq_of_beq_eq_true rfl) ?_; conv => whnf) | (refine reqD_dec ⟨by decide, by exact Nat.le_of_ble_eq_true rfl⟩ ?_; conv => whnf))
          refine forkB_intro (fun h6 => ?_) (fun h6 => ?_)
          · have h6 : (q.length == r.length) = false := by
              simp at h6 ⊢
              omega
            conv => whnf
            repeat (first | (refine forkB_true ?_; conv => whnf) | (refine forkB_false ?_; conv => whnf) | (refine reqD_dec (by exact Nat.le_of_ble_eq_true rfl) ?_; conv => whnf) | (refine reqD_dec (by exact Nat.eq_of_beq_eq_true rfl) ?_; conv => whnf) | (refine reqD_dec ⟨by decide, by exact Nat.le_of_ble_eq_true rfl⟩ ?_; conv => whnf))
            refine retX_val rfl ?_
            conv => whnf
            rw [hfj, ha2, e5, h6]
            rfl
          · have h6 : q.length = r.length := by
              simp at h6
              omega
            rw [show (q.length == r.length) = true by simpa using h6, Bool.true_and] at e5
            conv => whnf
            repeat (first | (refine forkB_true ?_; conv => whnf) | (refine forkB_false ?_; conv => whnf) | (refine reqD_dec (by exact Nat.le_of_ble_eq_true rfl) ?_; conv => whnf) | (refine reqD_dec (by exact Nat.eq_of_beq_eq_true rfl) ?_; conv => whnf) | (refine reqD_dec ⟨by decide, by exact Nat.le_of_ble_eq_true rfl⟩ ?_; conv => whnf))
            refine exI_as _ rfl ?_
            conv => whnf
            repeat (first | (refine forkB_true ?_; conv => whnf) | (refine forkB_false ?_; conv => whnf) | (refine reqD_dec (by exact Nat.le_of_ble_eq_true rfl) ?_; conv => whnf) | (refine reqD_dec (by exact Nat.eq_of_beq_eq_true rfl) ?_; conv => whnf) | (refine reqD_dec ⟨by decide, by exact Nat.le_of_ble_eq_true rfl⟩ ?_; conv => whnf))
            refine loopX_of env08_ok mixed08 (σ := Nat) (fun k => AS.of 80 0 3 [(3, .one (.ptr 0 0)), (5, .one (.ptr 2 0)), (16, .one (tabsC a)), (17, .one (.int .i64 a.length)), (18, .one (.int .i64 (i : Nat))), (7, .one (.int .i64 (i : Nat))), (33, .one (tabC l)), (34, .one (.int .i64 l.length)), (35, .one (.int .i64 (j : Nat))), (11, .one (rowC q)), (59, .one (rowC r)), (60, .one (.int .i64 r.length)), (61, .one (.int .i64 (k : Nat)))] [(0, ⟨32, 0, 0, schC s⟩), (2, ⟨25, 0, 0, stC b⟩)])
              (fun k => k ≤ r.length ∧ rowIn s b i r = cellsIn (r.drop k) (q.drop k)) (fun k => r.length - k) 0 (fun _ => rfl) (Tr.ofId rfl rfl (Nat.zero_le _) (show 3 ≤ 3 by decide) ⟨⟨rfl, rfl⟩, ⟨rfl, rfl⟩, ⟨rfl, rfl⟩, ⟨rfl, rfl⟩, ⟨rfl, rfl⟩, ⟨rfl, rfl⟩, ⟨rfl, rfl⟩, ⟨rfl, rfl⟩, ⟨rfl, rfl⟩, ⟨rfl, rfl⟩, ⟨rfl, rfl⟩, ⟨rfl, rfl⟩, ⟨rfl, rfl⟩, trivial⟩ ⟨⟨rfl, rfl, by decide⟩, ⟨rfl, rfl, by decide⟩, trivial⟩) ⟨Nat.zero_le _, e5⟩ ?_
            rintro k ⟨hk, hfk⟩
            conv => whnf
            repeat (first | (refine forkB_true ?_; conv => whnf) | (refine forkB_false ?_; conv => whnf) | (refine reqD_dec (by exact Nat.le_of_ble_eq_true rfl) ?_; conv => whnf) | (refine reqD_dec (by exact Nat.eq_of_beq_eq_true rfl) ?_; conv => whnf) | (refine reqD_dec ⟨by decide, by exact Nat.le_of_ble_eq_true rfl⟩ ?_; conv => whnf))
            refine forkB_dec (fun h7 => ?_) (fun h7 => ?_)
            · have hk2 : k < r.length := by omega
              have hk3 : k < q.length := by omega
              have hc := cellsIn_step r q k hk2 hk3
              obtain ⟨v, hv⟩ : ∃ v, r[k] = v := ⟨_, rfl⟩
              obtain ⟨u, hu⟩ : ∃ u, q[k] = u := ⟨_, rfl⟩
              rw [hv, hu] at hc
              conv => whnf
              repeat (first | (refine forkB_true ?_; conv => whnf) | (refine forkB_false ?_; conv => whnf) | (refine reqD_dec (by exact Nat.le_of_ble_eq_true rfl) ?_; conv => whnf) | (refine reqD_dec (by exact Nat.eq_of_beq_eq_true rfl) ?_; conv => whnf) | (refine reqD_dec ⟨by decide, by exact Nat.le_of_ble_eq_true rfl⟩ ?_; conv => whnf))
              refine reqD_dec (by first | omega | decide | (simp [ty27, ty58, ty41, ty23, ty55, ty30, ty60, ty56, ty3, ty39]; done) | (simp [ty27, ty58, ty41, ty23, ty55, ty30, ty60, ty56, ty3, ty39]; omega)) ?_
              refine forceL_as (vC v) ((flat_get (f := vC) vC_len r k hk2).trans (by rw [hv])) ?_
              conv => whnf
              repeat (first | (refine forkB_true ?_; conv => whnf) | (refine forkB_false ?_; conv => whnf) | (refine reqD_dec (by exact Nat.le_of_ble_eq_true rfl) ?_; conv => whnf) | (refine reqD_dec (by exact Nat.eq_of_beq_eq_true rfl) ?_; conv => whnf) | (refine reqD_dec ⟨by decide, by exact Nat.le_of_ble_eq_true rfl⟩ ?_; conv => whnf))
              refine drawnX_phase env08_ok (fun _ => true) [0, 1, 2, 3, 4, 5, 6, 7, 8, 9, 10] (.take 0 (.take 1 (.take 2 (.take 3 (.take 4 (.take 5 (.take 6 (.take 7 (.take 8 (.take 9 (.take 10 (.stop)))))))))))) 0 #[true, true, true, true, true, true, true, true, true, true, true] (by kernel_rfl) ?_
              conv => whnf
              repeat (first | (refine forkB_true ?_; conv => whnf) | (refine forkB_false ?_; conv => whnf) | (refine reqD_dec (by exact Nat.le_of_ble_eq_true rfl) ?_; conv => whnf) | (refine reqD_dec (by exact Nat.eq_of_beq_eq_true rfl) ?_; conv => whnf) | (refine reqD_dec ⟨by decide, by exact Nat.le_of_ble_eq_true rfl⟩ ?_; conv => whnf))
              refine forkB_intro (fun h8 => ?_) (fun h8 => ?_)
              · have h8 : (v.k == 1) = false := by
                  simp at h8 ⊢
                  exact h8
                conv => whnf
                repeat (first | (refine forkB_true ?_; conv => whnf) | (refine forkB_false ?_; conv => whnf) | (refine reqD_dec (by exact Nat.le_of_ble_eq_true rfl) ?_; conv => whnf) | (refine reqD_dec (by exact Nat.eq_of_beq_eq_true rfl) ?_; conv => whnf) | (refine reqD_dec ⟨by decide, by exact Nat.le_of_ble_eq_true rfl⟩ ?_; conv => whnf))
                refine reqD_dec (by first | omega | decide | (simp [ty27, ty58, ty41, ty23, ty55, ty30, ty60, ty56, ty3, ty39]; done) | (simp [ty27, ty58, ty41, ty23, ty55, ty30, ty60, ty56, ty3, ty39]; omega)) ?_
                refine forceL_as (vC u) ((flat_get (f := vC) vC_len q k hk3).trans (by rw [hu])) ?_
                conv => whnf
                repeat (first | (refine forkB_true ?_; conv => whnf) | (refine forkB_false ?_; conv => whnf) | (refine reqD_dec (by exact Nat.le_of_ble_eq_true rfl) ?_; conv => whnf) | (refine reqD_dec (by exact Nat.eq_of_beq_eq_true rfl) ?_; conv => whnf) | (refine reqD_dec ⟨by decide, by exact Nat.le_of_ble_eq_true rfl⟩ ?_; conv => whnf))
                refine forkB_intro (fun h9 => ?_) (fun h9 => ?_)
                · have h9 : (!eqV v u) = true := h9
                  conv => whnf
                  repeat (first | (refine forkB_true ?_; conv => whnf) | (refine forkB_false ?_; conv => whnf) | (refine reqD_dec (by exact Nat.le_of_ble_eq_true rfl) ?_; conv => whnf) | (refine reqD_dec (by exact Nat.eq_of_beq_eq_true rfl) ?_; conv => whnf) | (refine reqD_dec ⟨by decide, by exact Nat.le_of_ble_eq_true rfl⟩ ?_; conv => whnf))
                  refine drawnX_done (by kernel_rfl) ?_
                  conv => whnf
                  repeat (first | (refine forkB_true ?_; conv => whnf) | (refine forkB_false ?_; conv => whnf) | (refine reqD_dec (by exact Nat.le_of_ble_eq_true rfl) ?_; conv => whnf) | (refine reqD_dec (by exact Nat.eq_of_beq_eq_true rfl) ?_; conv => whnf) | (refine reqD_dec ⟨by decide, by exact Nat.le_of_ble_eq_true rfl⟩ ?_; conv => whnf))
                  refine retX_val rfl ?_
                  conv => whnf
                  rw [hfj, ha2, hfk, hc, cellIn, h8, show eqV v u = false by simpa using h9]
                  rfl
                · have h9 : (!eqV v u) = false := h9
                  conv => whnf
                  repeat (first | (refine forkB_true ?_; conv => whnf) | (refine forkB_false ?_; conv => whnf) | (refine reqD_dec (by exact Nat.le_of_ble_eq_true rfl) ?_; conv => whnf) | (refine reqD_dec (by exact Nat.eq_of_beq_eq_true rfl) ?_; conv => whnf) | (refine reqD_dec ⟨by decide, by exact Nat.le_of_ble_eq_true rfl⟩ ?_; conv => whnf))
                  refine drawnX_done (by kernel_rfl) ?_
                  conv => whnf
                  repeat (first | (refine forkB_true ?_; conv => whnf) | (refine forkB_false ?_; conv => whnf) | (refine reqD_dec (by exact Nat.le_of_ble_eq_true rfl) ?_; conv => whnf) | (refine reqD_dec (by exact Nat.eq_of_beq_eq_true rfl) ?_; conv => whnf) | (refine reqD_dec ⟨by decide, by exact Nat.le_of_ble_eq_true rfl⟩ ?_; conv => whnf))
                  refine exI_i64 (by omega) (by omega) ?_
                  conv => whnf
                  repeat (first | (refine forkB_true ?_; conv => whnf) | (refine forkB_false ?_; conv => whnf) | (refine reqD_dec (by exact Nat.le_of_ble_eq_true rfl) ?_; conv => whnf) | (refine reqD_dec (by exact Nat.eq_of_beq_eq_true rfl) ?_; conv => whnf) | (refine reqD_dec ⟨by decide, by exact Nat.le_of_ble_eq_true rfl⟩ ?_; conv => whnf))
                  exact ⟨k + 1, ⟨by omega, by rw [hfk, hc, cellIn, h8, show eqV v u = true by simpa using h9]; rfl⟩, by omega, (Tr.ofId rfl rfl (Nat.zero_le _) (show 3 ≤ 4 by decide) ⟨⟨rfl, rfl⟩, ⟨rfl, rfl⟩, ⟨rfl, rfl⟩, ⟨rfl, rfl⟩, ⟨rfl, rfl⟩, ⟨rfl, rfl⟩, ⟨rfl, rfl⟩, ⟨rfl, rfl⟩, ⟨rfl, rfl⟩, ⟨rfl, rfl⟩, ⟨rfl, rfl⟩, ⟨rfl, rfl⟩, ⟨rfl, rfl⟩, trivial⟩ ⟨⟨rfl, rfl, by decide⟩, ⟨rfl, rfl, by decide⟩, trivial⟩)⟩
              · have h8 : (v.k == 1) = true := by
                  simp at h8 ⊢
                  exact h8
                conv => whnf
                repeat (first | (refine forkB_true ?_; conv => whnf) | (refine forkB_false ?_; conv => whnf) | (refine reqD_dec (by exact Nat.le_of_ble_eq_true rfl) ?_; conv => whnf) | (refine reqD_dec (by exact Nat.eq_of_beq_eq_true rfl) ?_; conv => whnf) | (refine reqD_dec ⟨by decide, by exact Nat.le_of_ble_eq_true rfl⟩ ?_; conv => whnf))
                refine drawnX_done (by kernel_rfl) ?_
                conv => whnf
                repeat (first | (refine forkB_true ?_; conv => whnf) | (refine forkB_false ?_; conv => whnf) | (refine reqD_dec (by exact Nat.le_of_ble_eq_true rfl) ?_; conv => whnf) | (refine reqD_dec (by exact Nat.eq_of_beq_eq_true rfl) ?_; conv => whnf) | (refine reqD_dec ⟨by decide, by exact Nat.le_of_ble_eq_true rfl⟩ ?_; conv => whnf))
                refine exI_i64 (by omega) (by omega) ?_
                conv => whnf
                repeat (first | (refine forkB_true ?_; conv => whnf) | (refine forkB_false ?_; conv => whnf) | (refine reqD_dec (by exact Nat.le_of_ble_eq_true rfl) ?_; conv => whnf) | (refine reqD_dec (by exact Nat.eq_of_beq_eq_true rfl) ?_; conv => whnf) | (refine reqD_dec ⟨by decide, by exact Nat.le_of_ble_eq_true rfl⟩ ?_; conv => whnf))
                exact ⟨k + 1, ⟨by omega, by rw [hfk, hc, cellIn, h8]; rfl⟩, by omega, (Tr.ofId rfl rfl (Nat.zero_le _) (show 3 ≤ 4 by decide) ⟨⟨rfl, rfl⟩, ⟨rfl, rfl⟩, ⟨rfl, rfl⟩, ⟨rfl, rfl⟩, ⟨rfl, rfl⟩, ⟨rfl, rfl⟩, ⟨rfl, rfl⟩, ⟨rfl, rfl⟩, ⟨rfl, rfl⟩, ⟨rfl, rfl⟩, ⟨rfl, rfl⟩, ⟨rfl, rfl⟩, ⟨rfl, rfl⟩, trivial⟩ ⟨⟨rfl, rfl, by decide⟩, ⟨rfl, rfl, by decide⟩, trivial⟩)⟩
            · have e7 : k = r.length := by omega
              subst e7
              rw [List.drop_eq_nil_of_le (Nat.le_refl _), cellsIn] at hfk
              · conv => whnf
                repeat (first | (refine forkB_true ?_; conv => whnf) | (refine forkB_false ?_; conv => whnf) | (refine reqD_dec (by exact Nat.le_of_ble_eq_true rfl) ?_; conv => whnf) | (refine reqD_dec (by exact Nat.eq_of_beq_eq_true rfl) ?_; conv => whnf) | (refine reqD_dec ⟨by decide, by exact Nat.le_of_ble_eq_true rfl⟩ ?_; conv => whnf))
                refine exI_i64 (by omega) (by omega) ?_
                conv => whnf
                repeat (first | (refine forkB_true ?_; conv => whnf) | (refine forkB_false ?_; conv => whnf) | (refine reqD_dec (by exact Nat.le_of_ble_eq_true rfl) ?_; conv => whnf) | (refine reqD_dec (by exact Nat.eq_of_beq_eq_true rfl) ?_; conv => whnf) | (refine reqD_dec ⟨by decide, by exact Nat.le_of_ble_eq_true rfl⟩ ?_; conv => whnf))
                exact ⟨j + 1, ⟨by omega, by rw [hfj, ha2, hfk, Bool.true_and]⟩, by omega, (Tr.ofId rfl rfl (Nat.zero_le _) (show 3 ≤ 3 by decide) ⟨⟨rfl, rfl⟩, ⟨rfl, rfl⟩, ⟨rfl, rfl⟩, ⟨rfl, rfl⟩, ⟨rfl, rfl⟩, ⟨rfl, rfl⟩, ⟨rfl, rfl⟩, ⟨rfl, rfl⟩, ⟨rfl, rfl⟩, trivial⟩ ⟨⟨rfl, rfl, by decide⟩, ⟨rfl, rfl, by decide⟩, trivial⟩)⟩
              · intro v r' w q' h1
                cases h1
      · have e4 : j = l.length := by omega
        subst e4
        rw [List.drop_eq_nil_of_le (Nat.le_refl _), List.all_nil, Bool.true_and] at hfj
        conv => whnf
        repeat (first | (refine forkB_true ?_; conv => whnf) | (refine forkB_false ?_; conv => whnf) | (refine reqD_dec (by exact Nat.le_of_ble_eq_true rfl) ?_; conv => whnf) | (refine reqD_dec (by exact Nat.eq_of_beq_eq_true rfl) ?_; conv => whnf) | (refine reqD_dec ⟨by decide, by exact Nat.le_of_ble_eq_true rfl⟩ ?_; conv => whnf))
        refine exI_i64 (by omega) (by omega) ?_
        conv => whnf
        repeat (first | (refine forkB_true ?_; conv => whnf) | (refine forkB_false ?_; conv => whnf) | (refine reqD_dec (by exact Nat.le_of_ble_eq_true rfl) ?_; conv => whnf) | (refine reqD_dec (by exact Nat.eq_of_beq_eq_true rfl) ?_; conv => whnf) | (refine reqD_dec ⟨by decide, by exact Nat.le_of_ble_eq_true rfl⟩ ?_; conv => whnf))
        exact ⟨i + 1, ⟨by omega, hfj⟩, by omega, (Tr.ofId rfl rfl (Nat.zero_le _) (show 3 ≤ 3 by decide) ⟨⟨rfl, rfl⟩, ⟨rfl, rfl⟩, ⟨rfl, rfl⟩, ⟨rfl, rfl⟩, ⟨rfl, rfl⟩, trivial⟩ ⟨⟨rfl, rfl, by decide⟩, ⟨rfl, rfl, by decide⟩, trivial⟩)⟩
  · have e : i = a.length := by omega
    subst e
    conv => whnf
    repeat (first | (refine forkB_true ?_; conv => whnf) | (refine forkB_false ?_; conv => whnf) | (refine reqD_dec (by exact Nat.le_of_ble_eq_true rfl) ?_; conv => whnf) | (refine reqD_dec (by exact Nat.eq_of_beq_eq_true rfl) ?_; conv => whnf) | (refine reqD_dec ⟨by decide, by exact Nat.le_of_ble_eq_true rfl⟩ ?_; conv => whnf))
    refine retX_val rfl ?_
    conv => whnf
    rw [hfi, List.drop_eq_nil_of_le (Nat.le_refl _)]
    rfl
end Go.Proofs.Ve


/-
  VeU9: checking a state.
-/
set_option linter.unusedVariables false
set_option linter.unusedSimpArgs false
set_option pp.maxSteps 1500
namespace Go.Proofs.Ve
open Go

/-- Row j of table t is in order: it fits, and stands behind the row ahead of it. -/
def rowOk (s : Sch) (mode t : Int) (l : Tab) (j : Nat) : Bool :=
  match l[j]? with
  | some r => fitsS s t r mode && (match j with
    | 0 => true
    | i + 1 => match l[i]? with
      | some q => decide (cmpR (keyR s t q) (keyR s t r) < 0)
      | none => true)
  | none => true
def rowsFrom (s : Sch) (mode t : Int) (l : Tab) (j : Nat) : Bool := (List.range' j (l.length - j)).all (rowOk s mode t l)
def tabsFrom (s : Sch) (mode : Int) : Nat → St → Bool
  | i, l :: a => rowsFrom s mode i l 0 && tabsFrom s mode (i + 1) a
  | _, [] => true
/-- The error of a state whose schema has the error e. -/
def checkS (s : Sch) (e mode : Int) (st : St) : Int :=
  if e ≠ 0 then e else if mode < 1 ∨ 3 < mode then 1 else if (countS st : Int) > 512 then 2 else if st.length ≠ s.tables.length then 80 else if tabsFrom s mode 0 st then 0 else 80

theorem rows_step (s : Sch) (mode t : Int) (l : Tab) (j : Nat) (h : j < l.length) : rowsFrom s mode t l j = (rowOk s mode t l j && rowsFrom s mode t l (j + 1)) := by
  unfold rowsFrom
  rw [show l.length - j = (l.length - (j + 1)) + 1 by omega, List.range'_succ, List.all_cons]
theorem tabs_step (s : Sch) (mode : Int) (st : St) (i : Nat) (h : i < st.length) : tabsFrom s mode i (st.drop i) = (rowsFrom s mode i st[i] 0 && tabsFrom s mode (i + 1) (st.drop (i + 1))) := by
  rw [List.drop_eq_getElem_cons h, tabsFrom]

theorem check_spec (s : Sch) (e mode : Int) (st : St) (h53 : PSpec Try.prog 53 [.agg (schC s)] (fun x => x = .one (.int .i64 e))) (hl : st.length ≤ 4398046511104) (hst : ∀ l ∈ st, okT l) (hc : countS st ≤ 9223372036854775807) :
    PSpec Try.prog 24 [.agg (schC s), .one (.int .i64 mode), .agg (stC st)] (fun x => x = .one (.int .i64 (checkS s e mode st))) := by
  refine pspec_x env08_ok mixed08 Try.func24 rfl 74 rfl _ rfl rfl ?_
  conv => whnf
  repeat (first | (refine forkB_true ?_; conv => whnf) | (refine forkB_false ?_; conv => whnf) | (refine reqD_dec (by exact Nat.le_of_ble_eq_true rfl) ?_; conv => whnf) | (refine reqD_dec (by exact Nat.eq_of_beq_eq_true rfl) ?_; conv => whnf) | (refine reqD_dec ⟨by decide, by exact Nat.le_of_ble_eq_true rfl⟩ ?_; conv => whnf))
  refine callX_le h53 (callee_of Try.func53 rfl rfl) rfl rfl (.cons (AV.Le.refl _) .nil) rfl ?_
  rintro x hx rfl
  conv => whnf
  repeat (first | (refine forkB_true ?_; conv => whnf) | (refine forkB_false ?_; conv => whnf) | (refine reqD_dec (by exact Nat.le_of_ble_eq_true rfl) ?_; conv => whnf) | (refine reqD_dec (by exact Nat.eq_of_beq_eq_true rfl) ?_; conv => whnf) | (refine reqD_dec ⟨by decide, by exact Nat.le_of_ble_eq_true rfl⟩ ?_; conv => whnf))
  refine forkB_intro (fun h => ?_) (fun h => ?_)
  · have h : e ≠ 0 := by simpa using h
    conv => whnf
    repeat (first | (refine forkB_true ?_; conv => whnf) | (refine forkB_false ?_; conv => whnf) | (refine reqD_dec (by exact Nat.le_of_ble_eq_true rfl) ?_; conv => whnf) | (refine reqD_dec (by exact Nat.eq_of_beq_eq_true rfl) ?_; conv => whnf) | (refine reqD_dec ⟨by decide, by exact Nat.le_of_ble_eq_true rfl⟩ ?_; conv => whnf))
    refine retX_val rfl ?_
    conv => whnf
    rw [checkS, if_pos h]
    rfl
  · have h : ¬ e ≠ 0 := by simpa using h
    conv => whnf
    repeat (first | (refine forkB_true ?_; conv => whnf) | (refine forkB_false ?_; conv => whnf) | (refine reqD_dec (by exact Nat.le_of_ble_eq_true rfl) ?_; conv => whnf) | (refine reqD_dec (by exact Nat.eq_of_beq_eq_true rfl) ?_; conv => whnf) | (refine reqD_dec ⟨by decide, by exact Nat.le_of_ble_eq_true rfl⟩ ?_; conv => whnf))
    refine forkB_dec (fun h1 => ?_) (fun h1 => ?_)
    · conv => whnf
      repeat (first | (refine forkB_true ?_; conv => whnf) | (refine forkB_false ?_; conv => whnf) | (refine reqD_dec (by exact Nat.le_of_ble_eq_true rfl) ?_; conv => whnf) | (refine reqD_dec (by exact Nat.eq_of_beq_eq_true rfl) ?_; conv => whnf) | (refine reqD_dec ⟨by decide, by exact Nat.le_of_ble_eq_true rfl⟩ ?_; conv => whnf))
      refine retX_val rfl ?_
      conv => whnf
      rw [checkS, if_neg h, if_pos (.inl h1)]
      rfl
    · conv => whnf
      repeat (first | (refine forkB_true ?_; conv => whnf) | (refine forkB_false ?_; conv => whnf) | (refine reqD_dec (by exact Nat.le_of_ble_eq_true rfl) ?_; conv => whnf) | (refine reqD_dec (by exact Nat.eq_of_beq_eq_true rfl) ?_; conv => whnf) | (refine reqD_dec ⟨by decide, by exact Nat.le_of_ble_eq_true rfl⟩ ?_; conv => whnf))
      refine forkB_dec (fun h2 => ?_) (fun h2 => ?_)
      · conv => whnf
        repeat (first | (refine forkB_true ?_; conv => whnf) | (refine forkB_false ?_; conv => whnf) | (refine reqD_dec (by exact Nat.le_of_ble_eq_true rfl) ?_; conv => whnf) | (refine reqD_dec (by exact Nat.eq_of_beq_eq_true rfl) ?_; conv => whnf) | (refine reqD_dec ⟨by decide, by exact Nat.le_of_ble_eq_true rfl⟩ ?_; conv => whnf))
        refine retX_val rfl ?_
        conv => whnf
        rw [checkS, if_neg h, if_pos (.inr h2)]
        rfl
      · have h12 : ¬ (mode < 1 ∨ 3 < mode) := by omega
        conv => whnf
        repeat (first | (refine forkB_true ?_; conv => whnf) | (refine forkB_false ?_; conv => whnf) | (refine reqD_dec (by exact Nat.le_of_ble_eq_true rfl) ?_; conv => whnf) | (refine reqD_dec (by exact Nat.eq_of_beq_eq_true rfl) ?_; conv => whnf) | (refine reqD_dec ⟨by decide, by exact Nat.le_of_ble_eq_true rfl⟩ ?_; conv => whnf))
        refine callX_le (count_spec st hl hc) callee13 rfl rfl (.cons (AV.Le.refl _) .nil) rfl ?_
        rintro x hx rfl
        conv => whnf
        repeat (first | (refine forkB_true ?_; conv => whnf) | (refine forkB_false ?_; conv => whnf) | (refine reqD_dec (by exact Nat.le_of_ble_eq_true rfl) ?_; conv => whnf) | (refine reqD_dec (by exact Nat.eq_of_beq_eq_true rfl) ?_; conv => whnf) | (refine reqD_dec ⟨by decide, by exact Nat.le_of_ble_eq_true rfl⟩ ?_; conv => whnf))
        refine forkB_dec (fun h3 => ?_) (fun h3 => ?_)
        · conv => whnf
          repeat (first | (refine forkB_true ?_; conv => whnf) | (refine forkB_false ?_; conv => whnf) | (refine reqD_dec (by exact Nat.le_of_ble_eq_true rfl) ?_; conv => whnf) | (refine reqD_dec (by exact Nat.eq_of_beq_eq_true rfl) ?_; conv => whnf) | (refine reqD_dec ⟨by decide, by exact Nat.le_of_ble_eq_true rfl⟩ ?_; conv => whnf))
          refine retX_val rfl ?_
          conv => whnf
          rw [checkS, if_neg h, if_neg h12, if_pos h3]
          rfl
        · conv => whnf
          repeat (first | (refine forkB_true ?_; conv => whnf) | (refine forkB_false ?_; conv => whnf) | (refine reqD_dec (by exact Nat.le_of_ble_eq_true rfl) ?_; conv => whnf) | (refine reqD_dec (by exact Nat.eq_of_beq_eq_true rfl) ?_; conv => whnf) | (refine reqD_dec ⟨by decide, by exact Nat.le_of_ble_eq_true rfl⟩ ?_; conv => whnf))
          refine exI_as _ rfl ?_
          conv => whnf
          repeat (first | (refine forkB_true ?_; conv => whnf) | (refine forkB_false ?_; conv => whnf) | (refine reqD_dec (by exact Nat.le_of_ble_eq_true rfl) ?_; conv => whnf) | (refine reqD_dec (by exact Nat.eq_of_beq_eq_true rfl) ?_; conv => whnf) | (refine reqD_dec ⟨by decide, by exact Nat.le_of_ble_eq_true rfl⟩ ?_; conv => whnf))
          refine exI_as _ rfl ?_
          conv => whnf
          repeat (first | (refine forkB_true ?_; conv => whnf) | (refine forkB_false ?_; conv => whnf) | (refine reqD_dec (by exact Nat.le_of_ble_eq_true rfl) ?_; conv => whnf) | (refine reqD_dec (by exact Nat.eq_of_beq_eq_true rfl) ?_; conv => whnf) | (refine reqD_dec ⟨by decide, by exact Nat.le_of_ble_eq_true rfl⟩ ?_; conv => whnf))
          refine forkB_intro (fun h4 => ?_) (fun h4 => ?_)
          · have h4 : st.length ≠ s.tables.length := by
              simp at h4
              omega
            conv => whnf
            repeat (first | (refine forkB_true ?_; conv => whnf) | (refine forkB_false ?_; conv => whnf) | (refine reqD_dec (by exact Nat.le_of_ble_eq_true rfl) ?_; conv => whnf) | (refine reqD_dec (by exact Nat.eq_of_beq_eq_true rfl) ?_; conv => whnf) | (refine reqD_dec ⟨by decide, by exact Nat.le_of_ble_eq_true rfl⟩ ?_; conv => whnf))
            refine retX_val rfl ?_
            conv => whnf
            rw [checkS, if_neg h, if_neg h12, if_neg h3, if_pos h4]
            rfl
          · have h4 : ¬ st.length ≠ s.tables.length := by
              simp at h4
              omega
            have ec : checkS s e mode st = if tabsFrom s mode 0 st then 0 else 80 := by rw [checkS, if_neg h, if_neg h12, if_neg h3, if_neg h4]
            conv => whnf
            repeat (first | (refine forkB_true ?_; conv => whnf) | (refine forkB_false ?_; conv => whnf) | (refine reqD_dec (by exact Nat.le_of_ble_eq_true rfl) ?_; conv => whnf) | (refine reqD_dec (by exact Nat.eq_of_beq_eq_true rfl) ?_; conv => whnf) | (refine reqD_dec ⟨by decide, by exact Nat.le_of_ble_eq_true rfl⟩ ?_; conv => whnf))
            refine exI_as _ rfl ?_
            conv => whnf
            repeat (first | (refine forkB_true ?_; conv => whnf) | (refine forkB_false ?_; conv => whnf) | (refine reqD_dec (by exact Nat.le_of_ble_eq_true rfl) ?_; conv => whnf) | (refine reqD_dec (by exact Nat.eq_of_beq_eq_true rfl) ?_; conv => whnf) | (refine reqD_dec ⟨by decide, by exact Nat.le_of_ble_eq_true rfl⟩ ?_; conv => whnf))
            refine loopX_of env08_ok mixed08 (σ := Nat) (fun i => AS.of 74 0 1 [(3, .one (.ptr 0 0)), (1, .one (.int .i64 mode)), (34, .one (tabsC st)), (35, .one (.int .i64 st.length)), (36, .one (.int .i64 (i : Nat)))] [(0, ⟨32, 0, 0, schC s⟩)])
              (fun i => i ≤ st.length ∧ tabsFrom s mode 0 st = tabsFrom s mode i (st.drop i)) (fun i => st.length - i) 0 (fun _ => rfl) (Tr.ofId rfl rfl (Nat.zero_le _) (show 1 ≤ 2 by decide) ⟨⟨rfl, rfl⟩, ⟨rfl, rfl⟩, ⟨rfl, rfl⟩, ⟨rfl, rfl⟩, ⟨rfl, rfl⟩, trivial⟩ ⟨⟨rfl, rfl, by decide⟩, trivial⟩) ⟨Nat.zero_le _, rfl⟩ ?_
            rintro i ⟨hi, hfi⟩
            conv => whnf
            repeat (first | (refine forkB_true ?_; conv => whnf) | (refine forkB_false ?_; conv => whnf) | (refine reqD_dec (by exact Nat.le_of_ble_eq_true rfl) ?_; conv => whnf) | (refine reqD_dec (by exact Nat.eq_of_beq_eq_true rfl) ?_; conv => whnf) | (refine reqD_dec ⟨by decide, by exact Nat.le_of_ble_eq_true rfl⟩ ?_; conv => whnf))
            refine forkB_dec (fun h5 => ?_) (fun h5 => ?_)
            · have hi2 : i < st.length := by omega
              have hs := tabs_step s mode st i hi2
              have hlt := hst _ (List.getElem_mem hi2)
              obtain ⟨l, hle⟩ : ∃ l, st[i] = l := ⟨_, rfl⟩
              rw [hle] at hs hlt
              have hl42 := hlt.1
              conv => whnf
              repeat (first | (refine forkB_true ?_; conv => whnf) | (refine forkB_false ?_; conv => whnf) | (refine reqD_dec (by exact Nat.le_of_ble_eq_true rfl) ?_; conv => whnf) | (refine reqD_dec (by exact Nat.eq_of_beq_eq_true rfl) ?_; conv => whnf) | (refine reqD_dec ⟨by decide, by exact Nat.le_of_ble_eq_true rfl⟩ ?_; conv => whnf))
              refine reqD_dec (by first | omega | decide | (simp [ty27, ty58, ty41, ty23, ty55, ty30, ty60, ty56, ty3, ty39]; done) | (simp [ty27, ty58, ty41, ty23, ty55, ty30, ty60, ty56, ty3, ty39]; omega)) ?_
              refine forceL_as (tabC1 l) ((flat_get (f := tabC1) tabC1_len st i hi2).trans (by rw [hle])) ?_
              conv => whnf
              repeat (first | (refine forkB_true ?_; conv => whnf) | (refine forkB_false ?_; conv => whnf) | (refine reqD_dec (by exact Nat.le_of_ble_eq_true rfl) ?_; conv => whnf) | (refine reqD_dec (by exact Nat.eq_of_beq_eq_true rfl) ?_; conv => whnf) | (refine reqD_dec ⟨by decide, by exact Nat.le_of_ble_eq_true rfl⟩ ?_; conv => whnf))
              refine exI_as _ rfl ?_
              conv => whnf
              repeat (first | (refine forkB_true ?_; conv => whnf) | (refine forkB_false ?_; conv => whnf) | (refine reqD_dec (by exact Nat.le_of_ble_eq_true rfl) ?_; conv => whnf) | (refine reqD_dec (by exact Nat.eq_of_beq_eq_true rfl) ?_; conv => whnf) | (refine reqD_dec ⟨by decide, by exact Nat.le_of_ble_eq_true rfl⟩ ?_; conv => whnf))
              refine loopX_of env08_ok mixed08 (σ := Nat) (fun j => AS.of 74 0 1 [(3, .one (.ptr 0 0)), (1, .one (.int .i64 mode)), (34, .one (tabsC st)), (35, .one (.int .i64 st.length)), (36, .one (.int .i64 (i : Nat))), (8, .one (.int .i64 (i : Nat))), (9, .one (tabC l)), (41, .one (tabC l)), (42, .one (.int .i64 l.length)), (43, .one (.int .i64 (j : Nat)))] [(0, ⟨32, 0, 0, schC s⟩)])
                (fun j => j ≤ l.length ∧ rowsFrom s mode i l 0 = rowsFrom s mode i l j) (fun j => l.length - j) 0 (fun _ => rfl) (Tr.ofId rfl rfl (Nat.zero_le _) (show 1 ≤ 1 by decide) ⟨⟨rfl, rfl⟩, ⟨rfl, rfl⟩, ⟨rfl, rfl⟩, ⟨rfl, rfl⟩, ⟨rfl, rfl⟩, ⟨rfl, rfl⟩, ⟨rfl, rfl⟩, ⟨rfl, rfl⟩, ⟨rfl, rfl⟩, ⟨rfl, rfl⟩, trivial⟩ ⟨⟨rfl, rfl, by decide⟩, trivial⟩) ⟨Nat.zero_le _, rfl⟩ ?_
              rintro j ⟨hj, hfj⟩
              conv => whnf
              repeat (first | (refine forkB_true ?_; conv => whnf) | (refine forkB_false ?_; conv => whnf) | (refine reqD_dec (by exact Nat.le_of_ble_eq_true rfl) ?_; conv => whnf) | (refine reqD_dec (by exact Nat.eq_of_beq_eq_true rfl) ?_; conv => whnf) | (refine reqD_dec ⟨by decide, by exact Nat.le_of_ble_eq_true rfl⟩ ?_; conv => whnf))
              refine forkB_dec (fun h6 => ?_) (fun h6 => ?_)
              · have hj2 : j < l.length := by omega
                have hj3 := rows_step s mode i l j hj2
                have hr := hlt.2 _ (List.getElem_mem hj2)
                have hget := List.getElem?_eq_getElem hj2
                obtain ⟨r, hre⟩ : ∃ r, l[j] = r := ⟨_, rfl⟩
                rw [hre] at hr hget
                unfold okR at hr
                have hkr := keyR_le s i r
                conv => whnf
                repeat (first | (refine forkB_true ?_; conv => whnf) | (refine forkB_false ?_; conv => whnf) | (refine reqD_dec (by exact Nat.le_of_ble_eq_true rfl) ?_; conv => whnf) | (refine reqD_dec (by exact Nat.eq_of_beq_eq_true rfl) ?_; conv => whnf) | (refine reqD_dec ⟨by decide, by exact Nat.le_of_ble_eq_true rfl⟩ ?_; conv => whnf))
                refine reqD_dec (by first | omega | decide | (simp [ty27, ty58, ty41, ty23, ty55, ty30, ty60, ty56, ty3, ty39]; done) | (simp [ty27, ty58, ty41, ty23, ty55, ty30, ty60, ty56, ty3, ty39]; omega)) ?_
                refine forceL_as (rowC1 r) ((flat_get (f := rowC1) rowC1_len l j hj2).trans (by rw [hre])) ?_
                conv => whnf
                repeat (first | (refine forkB_true ?_; conv => whnf) | (refine forkB_false ?_; conv => whnf) | (refine reqD_dec (by exact Nat.le_of_ble_eq_true rfl) ?_; conv => whnf) | (refine reqD_dec (by exact Nat.eq_of_beq_eq_true rfl) ?_; conv => whnf) | (refine reqD_dec ⟨by decide, by exact Nat.le_of_ble_eq_true rfl⟩ ?_; conv => whnf))
                refine callX_le (fits_spec s i r mode hr) (callee_of Try.func54 rfl rfl) rfl rfl (.cons (AV.Le.refl _) (.cons (AV.Le.refl _) (.cons (AV.Le.refl _) (.cons (AV.Le.refl _) .nil)))) rfl ?_
                rintro x hx rfl
                cases hf : fitsS s i r mode with
                | false =>
                  have bad : rowOk s mode i l j = false := by
                    unfold rowOk
                    rw [hget]
                    simp only [hf, Bool.false_and]
                  conv => whnf
                  repeat (first | (refine forkB_true ?_; conv => whnf) | (refine forkB_false ?_; conv => whnf) | (refine reqD_dec (by exact Nat.le_of_ble_eq_true rfl) ?_; conv => whnf) | (refine reqD_dec (by exact Nat.eq_of_beq_eq_true rfl) ?_; conv => whnf) | (refine reqD_dec ⟨by decide, by exact Nat.le_of_ble_eq_true rfl⟩ ?_; conv => whnf))
                  refine retX_val rfl ?_
                  conv => whnf
                  rw [ec, hfi, hs, hfj, hj3, bad]
                  rfl
                | true =>
                  conv => whnf
                  repeat (first | (refine forkB_true ?_; conv => whnf) | (refine forkB_false ?_; conv => whnf) | (refine reqD_dec (by exact Nat.le_of_ble_eq_true rfl) ?_; conv => whnf) | (refine reqD_dec (by exact Nat.eq_of_beq_eq_true rfl) ?_; conv => whnf) | (refine reqD_dec ⟨by decide, by exact Nat.le_of_ble_eq_true rfl⟩ ?_; conv => whnf))
                  refine drawnX_phase env08_ok (fun _ => true) [0, 1, 2, 3, 4, 5, 6, 7, 8, 9, 10, 11, 12, 13, 14, 15, 16, 17] (.take 0 (.take 1 (.take 2 (.take 3 (.take 4 (.take 5 (.take 6 (.take 7 (.take 8 (.take 9 (.take 11 (.take 12 (.take 13 (.one 10 (.one 14 (.one 15 (.take 16 (.take 17 (.stop))))))))))))))))))) 0 #[true, true, true, true, true, true, true, true, true, true, true, true, true, true, true, true, true, true] (by kernel_rfl) ?_
                  conv => whnf
                  repeat (first | (refine forkB_true ?_; conv => whnf) | (refine forkB_false ?_; conv => whnf) | (refine reqD_dec (by exact Nat.le_of_ble_eq_true rfl) ?_; conv => whnf) | (refine reqD_dec (by exact Nat.eq_of_beq_eq_true rfl) ?_; conv => whnf) | (refine reqD_dec ⟨by decide, by exact Nat.le_of_ble_eq_true rfl⟩ ?_; conv => whnf))
                  refine forkB_dec (fun h7 => ?_) (fun h7 => ?_)
                  · obtain ⟨k, rfl⟩ : ∃ k, j = k + 1 := ⟨j - 1, by omega⟩
                    have hk2 : k < l.length := by omega
                    have hq := hlt.2 _ (List.getElem_mem hk2)
                    have hgetq := List.getElem?_eq_getElem hk2
                    obtain ⟨q, hqe⟩ : ∃ q, l[k] = q := ⟨_, rfl⟩
                    rw [hqe] at hq hgetq
                    unfold okR at hq
                    have hkq := keyR_le s i q
                    have ro : rowOk s mode i l (k + 1) = decide (cmpR (keyR s i q) (keyR s i r) < 0) := by
                      unfold rowOk
                      rw [hget]
                      simp only [hf, hgetq, Bool.true_and]
                    conv => whnf
                    repeat (first | (refine forkB_true ?_; conv => whnf) | (refine forkB_false ?_; conv => whnf) | (refine reqD_dec (by exact Nat.le_of_ble_eq_true rfl) ?_; conv => whnf) | (refine reqD_dec (by exact Nat.eq_of_beq_eq_true rfl) ?_; conv => whnf) | (refine reqD_dec ⟨by decide, by exact Nat.le_of_ble_eq_true rfl⟩ ?_; conv => whnf))
                    refine exI_i64 (by omega) (by omega) ?_
                    conv => whnf
                    repeat (first | (refine forkB_true ?_; conv => whnf) | (refine forkB_false ?_; conv => whnf) | (refine reqD_dec (by exact Nat.le_of_ble_eq_true rfl) ?_; conv => whnf) | (refine reqD_dec (by exact Nat.eq_of_beq_eq_true rfl) ?_; conv => whnf) | (refine reqD_dec ⟨by decide, by exact Nat.le_of_ble_eq_true rfl⟩ ?_; conv => whnf))
                    refine reqD_dec (by first | omega | decide | (simp [ty27, ty58, ty41, ty23, ty55, ty30, ty60, ty56, ty3, ty39]; done) | (simp [ty27, ty58, ty41, ty23, ty55, ty30, ty60, ty56, ty3, ty39]; omega)) ?_
                    refine forceL_as (rowC1 q) ((congrArg (fun z => ((List.flatMap rowC1 l).drop (z * 1)).take 1) (show (((k + 1 : Nat) : Int) - 1).toNat = k by omega)).trans ((flat_get (f := rowC1) rowC1_len l k hk2).trans (by rw [hqe]))) ?_
                    conv => whnf
                    repeat (first | (refine forkB_true ?_; conv => whnf) | (refine forkB_false ?_; conv => whnf) | (refine reqD_dec (by exact Nat.le_of_ble_eq_true rfl) ?_; conv => whnf) | (refine reqD_dec (by exact Nat.eq_of_beq_eq_true rfl) ?_; conv => whnf) | (refine reqD_dec ⟨by decide, by exact Nat.le_of_ble_eq_true rfl⟩ ?_; conv => whnf))
                    refine callX_le (key_spec s i q hq) callee43 rfl rfl (.cons (AV.Le.refl _) (.cons (AV.Le.refl _) (.cons (AV.Le.refl _) .nil))) rfl ?_
                    rintro x hx rfl
                    conv => whnf
                    repeat (first | (refine forkB_true ?_; conv => whnf) | (refine forkB_false ?_; conv => whnf) | (refine reqD_dec (by exact Nat.le_of_ble_eq_true rfl) ?_; conv => whnf) | (refine reqD_dec (by exact Nat.eq_of_beq_eq_true rfl) ?_; conv => whnf) | (refine reqD_dec ⟨by decide, by exact Nat.le_of_ble_eq_true rfl⟩ ?_; conv => whnf))
                    refine callX_le (key_spec s i r hr) callee43 rfl rfl (.cons (AV.Le.refl _) (.cons (AV.Le.refl _) (.cons (AV.Le.refl _) .nil))) rfl ?_
                    rintro x hx rfl
                    conv => whnf
                    repeat (first | (refine forkB_true ?_; conv => whnf) | (refine forkB_false ?_; conv => whnf) | (refine reqD_dec (by exact Nat.le_of_ble_eq_true rfl) ?_; conv => whnf) | (refine reqD_dec (by exact Nat.eq_of_beq_eq_true rfl) ?_; conv => whnf) | (refine reqD_dec ⟨by decide, by exact Nat.le_of_ble_eq_true rfl⟩ ?_; conv => whnf))
                    refine callX_le (compareRows_spec (keyR s i q) (keyR s i r) (by omega) (by omega)) callee42 rfl rfl (.cons (AV.Le.refl _) (.cons (AV.Le.refl _) .nil)) rfl ?_
                    rintro x hx rfl
                    conv => whnf
                    repeat (first | (refine forkB_true ?_; conv => whnf) | (refine forkB_false ?_; conv => whnf) | (refine reqD_dec (by exact Nat.le_of_ble_eq_true rfl) ?_; conv => whnf) | (refine reqD_dec (by exact Nat.eq_of_beq_eq_true rfl) ?_; conv => whnf) | (refine reqD_dec ⟨by decide, by exact Nat.le_of_ble_eq_true rfl⟩ ?_; conv => whnf))
                    refine forkB_dec (fun h8 => ?_) (fun h8 => ?_)
                    · have bad : rowOk s mode i l (k + 1) = false := by rw [ro, decide_eq_false (by omega)]
                      conv => whnf
                      repeat (first | (refine forkB_true ?_; conv => whnf) | (refine forkB_false ?_; conv => whnf) | (refine reqD_dec (by exact Nat.le_of_ble_eq_true rfl) ?_; conv => whnf) | (refine reqD_dec (by exact Nat.eq_of_beq_eq_true rfl) ?_; conv => whnf) | (refine reqD_dec ⟨by decide, by exact Nat.le_of_ble_eq_true rfl⟩ ?_; conv => whnf))
                      refine drawnX_done (by kernel_rfl) ?_
                      conv => whnf
                      repeat (first | (refine forkB_true ?_; conv => whnf) | (refine forkB_false ?_; conv => whnf) | (refine reqD_dec (by exact Nat.le_of_ble_eq_true rfl) ?_; conv => whnf) | (refine reqD_dec (by exact Nat.eq_of_beq_eq_true rfl) ?_; conv => whnf) | (refine reqD_dec ⟨by decide, by exact Nat.le_of_ble_eq_true rfl⟩ ?_; conv => whnf))
                      conv => whnf
                      repeat (first | (refine forkB_true ?_; conv => whnf) | (refine forkB_false ?_; conv => whnf) | (refine reqD_dec (by exact Nat.le_of_ble_eq_true rfl) ?_; conv => whnf) | (refine reqD_dec (by exact Nat.eq_of_beq_eq_true rfl) ?_; conv => whnf) | (refine reqD_dec ⟨by decide, by exact Nat.le_of_ble_eq_true rfl⟩ ?_; conv => whnf))
                      refine retX_val rfl ?_
                      conv => whnf
                      rw [ec, hfi, hs, hfj, hj3, bad]
                      rfl
                    · have ok : rowOk s mode i l (k + 1) = true := by rw [ro, decide_eq_true (by omega)]
                      conv => whnf
                      repeat (first | (refine forkB_true ?_; conv => whnf) | (refine forkB_false ?_; conv => whnf) | (refine reqD_dec (by exact Nat.le_of_ble_eq_true rfl) ?_; conv => whnf) | (refine reqD_dec (by exact Nat.eq_of_beq_eq_true rfl) ?_; conv => whnf) | (refine reqD_dec ⟨by decide, by exact Nat.le_of_ble_eq_true rfl⟩ ?_; conv => whnf))
                      refine drawnX_done (by kernel_rfl) ?_
                      conv => whnf
                      repeat (first | (refine forkB_true ?_; conv => whnf) | (refine forkB_false ?_; conv => whnf) | (refine reqD_dec (by exact Nat.le_of_ble_eq_true rfl) ?_; conv => whnf) | (refine reqD_dec (by exact Nat.eq_of_beq_eq_true rfl) ?_; conv => whnf) | (refine reqD_dec ⟨by decide, by exact Nat.le_of_ble_eq_true rfl⟩ ?_; conv => whnf))
                      refine exI_i64 (by omega) (by omega) ?_
                      conv => whnf
                      repeat (first | (refine forkB_true ?_; conv => whnf) | (refine forkB_false ?_; conv => whnf) | (refine reqD_dec (by exact Nat.le_of_ble_eq_true rfl) ?_; conv => whnf) | (refine reqD_dec (by exact Nat.eq_of_beq_eq_true rfl) ?_; conv => whnf) | (refine reqD_dec ⟨by decide, by exact Nat.le_of_ble_eq_true rfl⟩ ?_; conv => whnf))
                      exact ⟨k + 1 + 1, ⟨by omega, by rw [hfj, hj3, ok, Bool.true_and]⟩, by omega, (Tr.ofId rfl rfl (Nat.zero_le _) (show 1 ≤ 1 by decide) ⟨⟨rfl, rfl⟩, ⟨rfl, rfl⟩, ⟨rfl, rfl⟩, ⟨rfl, rfl⟩, ⟨rfl, rfl⟩, ⟨rfl, rfl⟩, ⟨rfl, rfl⟩, ⟨rfl, rfl⟩, ⟨rfl, rfl⟩, ⟨rfl, rfl⟩, trivial⟩ ⟨⟨rfl, rfl, by decide⟩, trivial⟩)⟩
                  · have e0 : j = 0 := by omega
                    subst e0
                    have ok : rowOk s mode i l 0 = true := by
                      unfold rowOk
                      rw [hget]
                      simp only [hf, Bool.true_and]
                    conv => whnf
                    repeat (first | (refine forkB_true ?_; conv => whnf) | (refine forkB_false ?_; conv => whnf) | (refine reqD_dec (by exact Nat.le_of_ble_eq_true rfl) ?_; conv => whnf) | (refine reqD_dec (by exact Nat.eq_of_beq_eq_true rfl) ?_; conv => whnf) | (refine reqD_dec ⟨by decide, by exact Nat.le_of_ble_eq_true rfl⟩ ?_; conv => whnf))
                    refine drawnX_done (by kernel_rfl) ?_
                    conv => whnf
                    repeat (first | (refine forkB_true ?_; conv => whnf) | (refine forkB_false ?_; conv => whnf) | (refine reqD_dec (by exact Nat.le_of_ble_eq_true rfl) ?_; conv => whnf) | (refine reqD_dec (by exact Nat.eq_of_beq_eq_true rfl) ?_; conv => whnf) | (refine reqD_dec ⟨by decide, by exact Nat.le_of_ble_eq_true rfl⟩ ?_; conv => whnf))
                    refine exI_i64 (by omega) (by omega) ?_
                    conv => whnf
                    repeat (first | (refine forkB_true ?_; conv => whnf) | (refine forkB_false ?_; conv => whnf) | (refine reqD_dec (by exact Nat.le_of_ble_eq_true rfl) ?_; conv => whnf) | (refine reqD_dec (by exact Nat.eq_of_beq_eq_true rfl) ?_; conv => whnf) | (refine reqD_dec ⟨by decide, by exact Nat.le_of_ble_eq_true rfl⟩ ?_; conv => whnf))
                    exact ⟨0 + 1, ⟨by omega, by rw [hfj, hj3, ok, Bool.true_and]⟩, by omega, (Tr.ofId rfl rfl (Nat.zero_le _) (show 1 ≤ 1 by decide) ⟨⟨rfl, rfl⟩, ⟨rfl, rfl⟩, ⟨rfl, rfl⟩, ⟨rfl, rfl⟩, ⟨rfl, rfl⟩, ⟨rfl, rfl⟩, ⟨rfl, rfl⟩, ⟨rfl, rfl⟩, ⟨rfl, rfl⟩, ⟨rfl, rfl⟩, trivial⟩ ⟨⟨rfl, rfl, by decide⟩, trivial⟩)⟩
              · have ej : j = l.length := by omega
                subst ej
                have okl : rowsFrom s mode i l l.length = true := by
                  unfold rowsFrom
                  rw [Nat.sub_self]
                  rfl
                conv => whnf
                repeat (first | (refine forkB_true ?_; conv => whnf) | (refine forkB_false ?_; conv => whnf) | (refine reqD_dec (by exact Nat.le_of_ble_eq_true rfl) ?_; conv => whnf) | (refine reqD_dec (by exact Nat.eq_of_beq_eq_true rfl) ?_; conv => whnf) | (refine reqD_dec ⟨by decide, by exact Nat.le_of_ble_eq_true rfl⟩ ?_; conv => whnf))
                refine exI_i64 (by omega) (by omega) ?_
                conv => whnf
                repeat (first | (refine forkB_true ?_; conv => whnf) | (refine forkB_false ?_; conv => whnf) | (refine reqD_dec (by exact Nat.le_of_ble_eq_true rfl) ?_; conv => whnf) | (refine reqD_dec (by exact Nat.eq_of_beq_eq_true rfl) ?_; conv => whnf) | (refine reqD_dec ⟨by decide, by exact Nat.le_of_ble_eq_true rfl⟩ ?_; conv => whnf))
                exact ⟨i + 1, ⟨by omega, by rw [hfi, hs, hfj, okl, Bool.true_and]⟩, by omega, (Tr.ofId rfl rfl (Nat.zero_le _) (show 1 ≤ 1 by decide) ⟨⟨rfl, rfl⟩, ⟨rfl, rfl⟩, ⟨rfl, rfl⟩, ⟨rfl, rfl⟩, ⟨rfl, rfl⟩, trivial⟩ ⟨⟨rfl, rfl, by decide⟩, trivial⟩)⟩
            · have ei : i = st.length := by omega
              subst ei
              rw [List.drop_eq_nil_of_le (Nat.le_refl _), tabsFrom] at hfi
              conv => whnf
              repeat (first | (refine forkB_true ?_; conv => whnf) | (refine forkB_false ?_; conv => whnf) | (refine reqD_dec (by exact Nat.le_of_ble_eq_true rfl) ?_; conv => whnf) | (refine reqD_dec (by exact Nat.eq_of_beq_eq_true rfl) ?_; conv => whnf) | (refine reqD_dec ⟨by decide, by exact Nat.le_of_ble_eq_true rfl⟩ ?_; conv => whnf))
              refine retX_val rfl ?_
              conv => whnf
              rw [ec, hfi]
              rfl
theorem callee24 : callee Try.prog 24 := callee_of Try.func24 rfl rfl
end Go.Proofs.Ve


/-
  VeUa: the limits of a schema.
-/
set_option linter.unusedVariables false
set_option linter.unusedSimpArgs false
set_option pp.maxSteps 1500
namespace Go.Proofs.Ve
open Go

def limT (T : Tbl) : Bool := decide (T.cols.length ≤ 8) && (decide (T.refs.length ≤ 4) && decide (T.checks.length ≤ 4))
def limS (s : Sch) : Bool := decide (s.tables.length ≤ 8) && s.tables.all limT

theorem limits_spec (s : Sch) : PSpec Try.prog 68 [.agg (schC s)] (fun x => x = .one (.bool (limS s))) := by
  refine pspec_x env08_ok mixed08 Try.func68 rfl 33 rfl _ rfl rfl ?_
  conv => whnf
  repeat (first | (refine forkB_true ?_; conv => whnf) | (refine forkB_false ?_; conv => whnf) | (refine reqD_dec (by exact Nat.le_of_ble_eq_true rfl) ?_; conv => whnf) | (refine reqD_dec (by exact Nat.eq_of_beq_eq_true rfl) ?_; conv => whnf) | (refine reqD_dec ⟨by decide, by exact Nat.le_of_ble_eq_true rfl⟩ ?_; conv => whnf))
  refine exI_as _ rfl ?_
  conv => whnf
  repeat (first | (refine forkB_true ?_; conv => whnf) | (refine forkB_false ?_; conv => whnf) | (refine reqD_dec (by exact Nat.le_of_ble_eq_true rfl) ?_; conv => whnf) | (refine reqD_dec (by exact Nat.eq_of_beq_eq_true rfl) ?_; conv => whnf) | (refine reqD_dec ⟨by decide, by exact Nat.le_of_ble_eq_true rfl⟩ ?_; conv => whnf))
  refine forkB_dec (fun h => ?_) (fun h => ?_)
  · conv => whnf
    repeat (first | (refine forkB_true ?_; conv => whnf) | (refine forkB_false ?_; conv => whnf) | (refine reqD_dec (by exact Nat.le_of_ble_eq_true rfl) ?_; conv => whnf) | (refine reqD_dec (by exact Nat.eq_of_beq_eq_true rfl) ?_; conv => whnf) | (refine reqD_dec ⟨by decide, by exact Nat.le_of_ble_eq_true rfl⟩ ?_; conv => whnf))
    refine retX_val rfl ?_
    conv => whnf
    rw [limS, decide_eq_false (by omega)]
    rfl
  · have e : limS s = s.tables.all limT := by rw [limS, decide_eq_true (by omega), Bool.true_and]
    have hlen : s.tables.length ≤ 8 := by omega
    conv => whnf
    repeat (first | (refine forkB_true ?_; conv => whnf) | (refine forkB_false ?_; conv => whnf) | (refine reqD_dec (by exact Nat.le_of_ble_eq_true rfl) ?_; conv => whnf) | (refine reqD_dec (by exact Nat.eq_of_beq_eq_true rfl) ?_; conv => whnf) | (refine reqD_dec ⟨by decide, by exact Nat.le_of_ble_eq_true rfl⟩ ?_; conv => whnf))
    refine exI_as _ rfl ?_
    conv => whnf
    repeat (first | (refine forkB_true ?_; conv => whnf) | (refine forkB_false ?_; conv => whnf) | (refine reqD_dec (by exact Nat.le_of_ble_eq_true rfl) ?_; conv => whnf) | (refine reqD_dec (by exact Nat.eq_of_beq_eq_true rfl) ?_; conv => whnf) | (refine reqD_dec ⟨by decide, by exact Nat.le_of_ble_eq_true rfl⟩ ?_; conv => whnf))
    refine loopX_of env08_ok mixed08 (σ := Nat) (fun i => AS.of 33 0 0 [(10, .one (slC tblC 96 s.tables)), (11, .one (.int .i64 s.tables.length)), (12, .one (.int .i64 (i : Nat)))] [])
      (fun i => i ≤ s.tables.length ∧ limS s = (s.tables.drop i).all limT) (fun i => s.tables.length - i) 0 (fun _ => rfl)
      (Tr.ofId rfl rfl (Nat.zero_le _) (show 0 ≤ 1 by decide) ⟨⟨rfl, rfl⟩, ⟨rfl, rfl⟩, ⟨rfl, rfl⟩, trivial⟩ trivial) ⟨Nat.zero_le _, e⟩ ?_
    rintro i ⟨hi, hfi⟩
    conv => whnf
    repeat (first | (refine forkB_true ?_; conv => whnf) | (refine forkB_false ?_; conv => whnf) | (refine reqD_dec (by exact Nat.le_of_ble_eq_true rfl) ?_; conv => whnf) | (refine reqD_dec (by exact Nat.eq_of_beq_eq_true rfl) ?_; conv => whnf) | (refine reqD_dec ⟨by decide, by exact Nat.le_of_ble_eq_true rfl⟩ ?_; conv => whnf))
    refine forkB_dec (fun h2 => ?_) (fun h2 => ?_)
    · have hi2 : i < s.tables.length := by omega
      have hs := all_step limT s.tables i hi2
      obtain ⟨T, hT⟩ : ∃ T, s.tables[i] = T := ⟨_, rfl⟩
      rw [hT] at hs
      conv => whnf
      repeat (first | (refine forkB_true ?_; conv => whnf) | (refine forkB_false ?_; conv => whnf) | (refine reqD_dec (by exact Nat.le_of_ble_eq_true rfl) ?_; conv => whnf) | (refine reqD_dec (by exact Nat.eq_of_beq_eq_true rfl) ?_; conv => whnf) | (refine reqD_dec ⟨by decide, by exact Nat.le_of_ble_eq_true rfl⟩ ?_; conv => whnf))
      refine reqD_dec (by first | omega | decide | (simp [ty27, ty58, ty41, ty23, ty55, ty30, ty60, ty56, ty3, ty39]; done) | (simp [ty27, ty58, ty41, ty23, ty55, ty30, ty60, ty56, ty3, ty39]; omega)) ?_
      refine forceL_as (tblC T) ((flat_get (f := tblC) tblC_len s.tables i hi2).trans (by rw [hT])) ?_
      conv => whnf
      repeat (first | (refine forkB_true ?_; conv => whnf) | (refine forkB_false ?_; conv => whnf) | (refine reqD_dec (by exact Nat.le_of_ble_eq_true rfl) ?_; conv => whnf) | (refine reqD_dec (by exact Nat.eq_of_beq_eq_true rfl) ?_; conv => whnf) | (refine reqD_dec ⟨by decide, by exact Nat.le_of_ble_eq_true rfl⟩ ?_; conv => whnf))
      refine exI_as _ rfl ?_
      conv => whnf
      repeat (first | (refine forkB_true ?_; conv => whnf) | (refine forkB_false ?_; conv => whnf) | (refine reqD_dec (by exact Nat.le_of_ble_eq_true rfl) ?_; conv => whnf) | (refine reqD_dec (by exact Nat.eq_of_beq_eq_true rfl) ?_; conv => whnf) | (refine reqD_dec ⟨by decide, by exact Nat.le_of_ble_eq_true rfl⟩ ?_; conv => whnf))
      refine forkB_dec (fun h3 => ?_) (fun h3 => ?_)
      · have bad : limT T = false := by rw [limT, decide_eq_false (by omega), Bool.false_and]
        conv => whnf
        repeat (first | (refine forkB_true ?_; conv => whnf) | (refine forkB_false ?_; conv => whnf) | (refine reqD_dec (by exact Nat.le_of_ble_eq_true rfl) ?_; conv => whnf) | (refine reqD_dec (by exact Nat.eq_of_beq_eq_true rfl) ?_; conv => whnf) | (refine reqD_dec ⟨by decide, by exact Nat.le_of_ble_eq_true rfl⟩ ?_; conv => whnf))
        refine retX_val rfl ?_
        conv => whnf
        rw [hfi, hs, bad]
        rfl
      · conv => whnf
        repeat (first | (refine forkB_true ?_; conv => whnf) | (refine forkB_false ?_; conv => whnf) | (refine reqD_dec (by exact Nat.le_of_ble_eq_true rfl) ?_; conv => whnf) | (refine reqD_dec (by exact Nat.eq_of_beq_eq_true rfl) ?_; conv => whnf) | (refine reqD_dec ⟨by decide, by exact Nat.le_of_ble_eq_true rfl⟩ ?_; conv => whnf))
        refine exI_as _ rfl ?_
        conv => whnf
        repeat (first | (refine forkB_true ?_; conv => whnf) | (refine forkB_false ?_; conv => whnf) | (refine reqD_dec (by exact Nat.le_of_ble_eq_true rfl) ?_; conv => whnf) | (refine reqD_dec (by exact Nat.eq_of_beq_eq_true rfl) ?_; conv => whnf) | (refine reqD_dec ⟨by decide, by exact Nat.le_of_ble_eq_true rfl⟩ ?_; conv => whnf))
        refine forkB_dec (fun h4 => ?_) (fun h4 => ?_)
        · have bad : limT T = false := by rw [limT, decide_eq_false (show ¬ T.refs.length ≤ 4 by omega), Bool.false_and, Bool.and_false]
          conv => whnf
          repeat (first | (refine forkB_true ?_; conv => whnf) | (refine forkB_false ?_; conv => whnf) | (refine reqD_dec (by exact Nat.le_of_ble_eq_true rfl) ?_; conv => whnf) | (refine reqD_dec (by exact Nat.eq_of_beq_eq_true rfl) ?_; conv => whnf) | (refine reqD_dec ⟨by decide, by exact Nat.le_of_ble_eq_true rfl⟩ ?_; conv => whnf))
          refine retX_val rfl ?_
          conv => whnf
          rw [hfi, hs, bad]
          rfl
        · conv => whnf
          repeat (first | (refine forkB_true ?_; conv => whnf) | (refine forkB_false ?_; conv => whnf) | (refine reqD_dec (by exact Nat.le_of_ble_eq_true rfl) ?_; conv => whnf) | (refine reqD_dec (by exact Nat.eq_of_beq_eq_true rfl) ?_; conv => whnf) | (refine reqD_dec ⟨by decide, by exact Nat.le_of_ble_eq_true rfl⟩ ?_; conv => whnf))
          refine exI_as _ rfl ?_
          conv => whnf
          repeat (first | (refine forkB_true ?_; conv => whnf) | (refine forkB_false ?_; conv => whnf) | (refine reqD_dec (by exact Nat.le_of_ble_eq_true rfl) ?_; conv => whnf) | (refine reqD_dec (by exact Nat.eq_of_beq_eq_true rfl) ?_; conv => whnf) | (refine reqD_dec ⟨by decide, by exact Nat.le_of_ble_eq_true rfl⟩ ?_; conv => whnf))
          refine forkB_dec (fun h5 => ?_) (fun h5 => ?_)
          · have bad : limT T = false := by rw [limT, decide_eq_false (show ¬ T.checks.length ≤ 4 by omega), Bool.and_false, Bool.and_false]
            conv => whnf
            repeat (first | (refine forkB_true ?_; conv => whnf) | (refine forkB_false ?_; conv => whnf) | (refine reqD_dec (by exact Nat.le_of_ble_eq_true rfl) ?_; conv => whnf) | (refine reqD_dec (by exact Nat.eq_of_beq_eq_true rfl) ?_; conv => whnf) | (refine reqD_dec ⟨by decide, by exact Nat.le_of_ble_eq_true rfl⟩ ?_; conv => whnf))
            refine retX_val rfl ?_
            conv => whnf
            rw [hfi, hs, bad]
            rfl
          · have ok : limT T = true := by rw [limT, decide_eq_true (by omega), decide_eq_true (show T.refs.length ≤ 4 by omega), decide_eq_true (show T.checks.length ≤ 4 by omega)]; rfl
            conv => whnf
            repeat (first | (refine forkB_true ?_; conv => whnf) | (refine forkB_false ?_; conv => whnf) | (refine reqD_dec (by exact Nat.le_of_ble_eq_true rfl) ?_; conv => whnf) | (refine reqD_dec (by exact Nat.eq_of_beq_eq_true rfl) ?_; conv => whnf) | (refine reqD_dec ⟨by decide, by exact Nat.le_of_ble_eq_true rfl⟩ ?_; conv => whnf))
            refine exI_i64 (by omega) (by omega) ?_
            conv => whnf
            repeat (first | (refine forkB_true ?_; conv => whnf) | (refine forkB_false ?_; conv => whnf) | (refine reqD_dec (by exact Nat.le_of_ble_eq_true rfl) ?_; conv => whnf) | (refine reqD_dec (by exact Nat.eq_of_beq_eq_true rfl) ?_; conv => whnf) | (refine reqD_dec ⟨by decide, by exact Nat.le_of_ble_eq_true rfl⟩ ?_; conv => whnf))
            exact ⟨i + 1, ⟨by omega, by rw [hfi, hs, ok, Bool.true_and]⟩, by omega, Tr.ofId rfl rfl (Nat.zero_le _) (Nat.zero_le _) ⟨⟨rfl, rfl⟩, ⟨rfl, rfl⟩, ⟨rfl, rfl⟩, trivial⟩ trivial⟩
    · have ei : i = s.tables.length := by omega
      subst ei
      rw [List.drop_eq_nil_of_le (Nat.le_refl _), List.all_nil] at hfi
      conv => whnf
      repeat (first | (refine forkB_true ?_; conv => whnf) | (refine forkB_false ?_; conv => whnf) | (refine reqD_dec (by exact Nat.le_of_ble_eq_true rfl) ?_; conv => whnf) | (refine reqD_dec (by exact Nat.eq_of_beq_eq_true rfl) ?_; conv => whnf) | (refine reqD_dec ⟨by decide, by exact Nat.le_of_ble_eq_true rfl⟩ ?_; conv => whnf))
      refine retX_val rfl ?_
      conv => whnf
      rw [hfi]
      rfl
theorem callee68 : callee Try.prog 68 := callee_of Try.func68 rfl rfl
end Go.Proofs.Ve


/-
  VeV1: names.
-/
set_option linter.unusedVariables false
set_option linter.unusedSimpArgs false
set_option pp.maxSteps 2000
namespace Go.Proofs.Ve
open Go

def badC (pos : Nat) (c : Int) : Bool := !(decide (c ≥ 97) && decide (c ≤ 122)) && (pos == 0 || (decide (c ≠ 95) && (decide (c < 48) || decide (c > 57))))
def nameGo (s : ByteArray) : Nat → Nat → Bool
  | 0, _ => true
  | f + 1, pos => if pos < s.size then (if badC pos ((Utf8.decode s pos).1 : Int) then false else nameGo s f (pos + (Utf8.decode s pos).2)) else true
def nameR (s : ByteArray) : Bool := if (s.size : Int) < 1 ∨ (s.size : Int) > 32 then false else nameGo s s.size 0

theorem nameGo_end (s : ByteArray) (pos : Nat) (h : ¬ pos < s.size) : ∀ f, nameGo s f pos = true
  | 0 => rfl
  | f + 1 => by rw [nameGo, if_neg h]
theorem decode_pos (s : ByteArray) (pos : Nat) : 1 ≤ (Utf8.decode s pos).2 := by
  simp only [Utf8.decode]
  repeat' split
  all_goals simp

theorem name_spec (s : ByteArray) (hs : s.size ≤ 4611686018427387904) : PSpec Try.prog 80 [.one (.str s)] (fun r => r = .one (.bool (nameR s))) := by
  refine pspec_x env08_ok mixed08 Try.func80 rfl 44 rfl _ rfl rfl ?_
  conv => whnf
  repeat (first | (refine forkB_true ?_; conv => whnf) | (refine forkB_false ?_; conv => whnf) | (refine reqD_dec (by exact Nat.le_of_ble_eq_true rfl) ?_; conv => whnf) | (refine reqD_dec (by exact Nat.eq_of_beq_eq_true rfl) ?_; conv => whnf) | (refine reqD_dec ⟨by decide, by exact Nat.le_of_ble_eq_true rfl⟩ ?_; conv => whnf))
  refine exI_as _ rfl ?_
  conv => whnf
  repeat (first | (refine forkB_true ?_; conv => whnf) | (refine forkB_false ?_; conv => whnf) | (refine reqD_dec (by exact Nat.le_of_ble_eq_true rfl) ?_; conv => whnf) | (refine reqD_dec (by exact Nat.eq_of_beq_eq_true rfl) ?_; conv => whnf) | (refine reqD_dec ⟨by decide, by exact Nat.le_of_ble_eq_true rfl⟩ ?_; conv => whnf))
  refine forkB_dec (fun h1 => ?_) (fun h1 => ?_)
  · conv => whnf
    repeat (first | (refine forkB_true ?_; conv => whnf) | (refine forkB_false ?_; conv => whnf) | (refine reqD_dec (by exact Nat.le_of_ble_eq_true rfl) ?_; conv => whnf) | (refine reqD_dec (by exact Nat.eq_of_beq_eq_true rfl) ?_; conv => whnf) | (refine reqD_dec ⟨by decide, by exact Nat.le_of_ble_eq_true rfl⟩ ?_; conv => whnf))
    refine retX_val rfl ?_
    conv => whnf
    rw [nameR, if_pos (.inl h1)]
    rfl
  · conv => whnf
    repeat (first | (refine forkB_true ?_; conv => whnf) | (refine forkB_false ?_; conv => whnf) | (refine reqD_dec (by exact Nat.le_of_ble_eq_true rfl) ?_; conv => whnf) | (refine reqD_dec (by exact Nat.eq_of_beq_eq_true rfl) ?_; conv => whnf) | (refine reqD_dec ⟨by decide, by exact Nat.le_of_ble_eq_true rfl⟩ ?_; conv => whnf))
    refine exI_as _ rfl ?_
    conv => whnf
    repeat (first | (refine forkB_true ?_; conv => whnf) | (refine forkB_false ?_; conv => whnf) | (refine reqD_dec (by exact Nat.le_of_ble_eq_true rfl) ?_; conv => whnf) | (refine reqD_dec (by exact Nat.eq_of_beq_eq_true rfl) ?_; conv => whnf) | (refine reqD_dec ⟨by decide, by exact Nat.le_of_ble_eq_true rfl⟩ ?_; conv => whnf))
    refine forkB_dec (fun h2 => ?_) (fun h2 => ?_)
    · conv => whnf
      repeat (first | (refine forkB_true ?_; conv => whnf) | (refine forkB_false ?_; conv => whnf) | (refine reqD_dec (by exact Nat.le_of_ble_eq_true rfl) ?_; conv => whnf) | (refine reqD_dec (by exact Nat.eq_of_beq_eq_true rfl) ?_; conv => whnf) | (refine reqD_dec ⟨by decide, by exact Nat.le_of_ble_eq_true rfl⟩ ?_; conv => whnf))
      refine retX_val rfl ?_
      conv => whnf
      rw [nameR, if_pos (.inr h2)]
      rfl
    · have e : nameR s = nameGo s s.size 0 := by rw [nameR, if_neg (by omega)]
      conv => whnf
      repeat (first | (refine forkB_true ?_; conv => whnf) | (refine forkB_false ?_; conv => whnf) | (refine reqD_dec (by exact Nat.le_of_ble_eq_true rfl) ?_; conv => whnf) | (refine reqD_dec (by exact Nat.eq_of_beq_eq_true rfl) ?_; conv => whnf) | (refine reqD_dec ⟨by decide, by exact Nat.le_of_ble_eq_true rfl⟩ ?_; conv => whnf))
      refine loopX_of env08_ok mixed08 (σ := Nat) (fun i => AS.of 44 0 1 [(0, .one (.str s)), (15, .one (.ptr 0 0))] [(0, ⟨.iter s i, 0, 0, []⟩)])
        (fun i => ∃ f, s.size ≤ f + i ∧ nameR s = nameGo s f i) (fun i => s.size - i) 0 (fun _ => rfl) (Tr.ofId rfl rfl (by decide) (by exact Nat.le_of_ble_eq_true rfl) ⟨⟨rfl, rfl⟩, ⟨rfl, rfl⟩, trivial⟩ ⟨⟨rfl, rfl, by decide⟩, trivial⟩) ⟨s.size, Nat.le_refl _, e⟩ ?_
      rintro i ⟨f, hf, hi⟩
      conv => whnf
      repeat (first | (refine forkB_true ?_; conv => whnf) | (refine forkB_false ?_; conv => whnf) | (refine reqD_dec (by exact Nat.le_of_ble_eq_true rfl) ?_; conv => whnf) | (refine reqD_dec (by exact Nat.eq_of_beq_eq_true rfl) ?_; conv => whnf) | (refine reqD_dec ⟨by decide, by exact Nat.le_of_ble_eq_true rfl⟩ ?_; conv => whnf))
      refine forkB_dec (fun h3 => ?_) (fun h3 => ?_)
      · have h3 : i < s.size := h3
        have hd := decode_pos s i
        obtain ⟨f, rfl⟩ : ∃ g, f = g + 1 := ⟨f - 1, by omega⟩
        rw [nameGo, if_pos h3] at hi
        have out : badC i ((Utf8.decode s i).1 : Int) = true → nameR s = false := fun h => by rw [hi, if_pos h]
        have go : badC i ((Utf8.decode s i).1 : Int) = false → nameR s = nameGo s f (i + (Utf8.decode s i).2) := fun h => by rw [hi, if_neg (by rw [h]; simp)]
        clear hi
        conv => whnf
        repeat' (first | (refine forkB_true ?_; conv => whnf) | (refine forkB_false ?_; conv => whnf) | (refine reqD_dec (by exact Nat.le_of_ble_eq_true rfl) ?_; conv => whnf) | (refine reqD_dec (by exact Nat.eq_of_beq_eq_true rfl) ?_; conv => whnf) | (refine exI_i64 (by omega) (by omega) ?_; conv => whnf) | (refine exI_as _ rfl ?_; conv => whnf) | (refine forkB_dec (fun _ => ?_) (fun _ => ?_) <;> conv => whnf) | (refine forkB_intro (fun _ => ?_) (fun _ => ?_) <;> conv => whnf))
        all_goals first
          | (refine retX_val rfl ?_; (conv => whnf); rw [out (by clear out go; simp_all [badC] <;> omega)]; rfl)
          | (exact ⟨i + (Utf8.decode s i).2, ⟨f, by omega, go (by clear out go; simp_all [badC] <;> omega)⟩, by omega, (Tr.ofId rfl rfl (by decide) (by exact Nat.le_of_ble_eq_true rfl) ⟨⟨rfl, rfl⟩, ⟨rfl, rfl⟩, trivial⟩ ⟨⟨rfl, rfl, by decide⟩, trivial⟩)⟩)
          | (exfalso; clear out go; simp_all <;> omega)
      · conv => whnf
        repeat (first | (refine forkB_true ?_; conv => whnf) | (refine forkB_false ?_; conv => whnf) | (refine reqD_dec (by exact Nat.le_of_ble_eq_true rfl) ?_; conv => whnf) | (refine reqD_dec (by exact Nat.eq_of_beq_eq_true rfl) ?_; conv => whnf) | (refine reqD_dec ⟨by decide, by exact Nat.le_of_ble_eq_true rfl⟩ ?_; conv => whnf))
        refine retX_val rfl ?_
        conv => whnf
        rw [hi, nameGo_end s i h3]
        rfl
end Go.Proofs.Ve


/-
  VeV2: sound schemas (of tables without references).
-/
set_option linter.unusedVariables false
set_option linter.unusedSimpArgs false
set_option pp.maxSteps 2000
namespace Go.Proofs.Ve
open Go

def badCol (ks : List ByteArray) (c : Col) : Bool := !nameR c.name || (hasK c.name ks || decide (c.kind ≠ 3 ∧ c.kind ≠ 4 ∧ c.kind ≠ 5))
def colsFrom : List ByteArray → List Col → Bool
  | _, [] => true
  | ks, c :: r => !badCol ks c && colsFrom (ks ++ [c.name]) r
def badTbl (ks : List ByteArray) (T : Tbl) : Bool := !nameR T.name || (hasK T.name ks || decide ((T.cols.length : Int) = 0 ∨ T.key < 1 ∨ T.key > T.cols.length))
def tblsFrom : List ByteArray → List Tbl → Bool
  | _, [] => true
  | ks, T :: r => !badTbl ks T && (colsFrom [] T.cols && tblsFrom (ks ++ [T.name]) r)
def soundS (s : Sch) : Bool := decide (0 ≤ s.ver ∧ s.ver ≤ 1000) && tblsFrom [] s.tables

def okN (n : ByteArray) : Prop := n.size ≤ 4611686018427387904
structure okS (s : Sch) : Prop where
  len : s.tables.length ≤ 4398046511104
  tbl : ∀ T ∈ s.tables, okN T.name ∧ T.cols.length ≤ 4398046511104 ∧ (∀ c ∈ T.cols, okN c.name) ∧ T.refs = [] ∧ T.checks = []

theorem callee80 : callee Try.prog 80 := callee_of Try.func80 rfl rfl

theorem sound_spec (s : Sch) (hs : okS s) : PSpec Try.prog 69 [.agg (schC s)] (fun r => r = .one (.bool (soundS s))) := by
  obtain ⟨hlen, htbl⟩ := hs
  refine pspec_x env08_ok mixed08 Try.func69 rfl 174 rfl _ rfl rfl ?_
  conv => whnf
  repeat (first | (refine forkB_true ?_; conv => whnf) | (refine forkB_false ?_; conv => whnf) | (refine reqD_dec (by exact Nat.le_of_ble_eq_true rfl) ?_; conv => whnf) | (refine reqD_dec (by exact Nat.eq_of_beq_eq_true rfl) ?_; conv => whnf) | (refine reqD_dec ⟨by decide, by exact Nat.le_of_ble_eq_true rfl⟩ ?_; conv => whnf))
  refine forkB_dec (fun h1 => ?_) (fun h1 => ?_)
  · conv => whnf
    repeat (first | (refine forkB_true ?_; conv => whnf) | (refine forkB_false ?_; conv => whnf) | (refine reqD_dec (by exact Nat.le_of_ble_eq_true rfl) ?_; conv => whnf) | (refine reqD_dec (by exact Nat.eq_of_beq_eq_true rfl) ?_; conv => whnf) | (refine reqD_dec ⟨by decide, by exact Nat.le_of_ble_eq_true rfl⟩ ?_; conv => whnf))
    refine retX_val rfl ?_
    conv => whnf
    rw [soundS, decide_eq_false (by omega)]
    rfl
  · conv => whnf
    repeat (first | (refine forkB_true ?_; conv => whnf) | (refine forkB_false ?_; conv => whnf) | (refine reqD_dec (by exact Nat.le_of_ble_eq_true rfl) ?_; conv => whnf) | (refine reqD_dec (by exact Nat.eq_of_beq_eq_true rfl) ?_; conv => whnf) | (refine reqD_dec ⟨by decide, by exact Nat.le_of_ble_eq_true rfl⟩ ?_; conv => whnf))
    refine forkB_dec (fun h2 => ?_) (fun h2 => ?_)
    · conv => whnf
      repeat (first | (refine forkB_true ?_; conv => whnf) | (refine forkB_false ?_; conv => whnf) | (refine reqD_dec (by exact Nat.le_of_ble_eq_true rfl) ?_; conv => whnf) | (refine reqD_dec (by exact Nat.eq_of_beq_eq_true rfl) ?_; conv => whnf) | (refine reqD_dec ⟨by decide, by exact Nat.le_of_ble_eq_true rfl⟩ ?_; conv => whnf))
      refine retX_val rfl ?_
      conv => whnf
      rw [soundS, decide_eq_false (by omega)]
      rfl
    · have e : soundS s = tblsFrom [] s.tables := by rw [soundS, decide_eq_true (by omega), Bool.true_and]
      conv => whnf
      repeat (first | (refine forkB_true ?_; conv => whnf) | (refine forkB_false ?_; conv => whnf) | (refine reqD_dec (by exact Nat.le_of_ble_eq_true rfl) ?_; conv => whnf) | (refine reqD_dec (by exact Nat.eq_of_beq_eq_true rfl) ?_; conv => whnf) | (refine reqD_dec ⟨by decide, by exact Nat.le_of_ble_eq_true rfl⟩ ?_; conv => whnf))
      refine exI_as _ rfl ?_
      conv => whnf
      repeat (first | (refine forkB_true ?_; conv => whnf) | (refine forkB_false ?_; conv => whnf) | (refine reqD_dec (by exact Nat.le_of_ble_eq_true rfl) ?_; conv => whnf) | (refine reqD_dec (by exact Nat.eq_of_beq_eq_true rfl) ?_; conv => whnf) | (refine reqD_dec ⟨by decide, by exact Nat.le_of_ble_eq_true rfl⟩ ?_; conv => whnf))
      refine loopX_of env08_ok mixed08 (σ := Nat × List ByteArray) (fun q => AS.of 174 0 2 [(1, .one (.ptr 0 0)), (3, .one (.mref 1)), (26, .one (slC tblC 96 s.tables)), (27, .one (.int .i64 s.tables.length)), (28, .one (.int .i64 (q.1 : Nat)))] [(0, ⟨32, 0, 0, schC s⟩), (1, ⟨.keys q.2, 0, 0, []⟩)])
        (fun q => q.1 ≤ s.tables.length ∧ soundS s = tblsFrom q.2 (s.tables.drop q.1)) (fun q => s.tables.length - q.1) (0, []) (fun _ => rfl) (Tr.ofId rfl rfl (by decide) (by exact Nat.le_of_ble_eq_true rfl) ⟨⟨rfl, rfl⟩, ⟨rfl, rfl⟩, ⟨rfl, rfl⟩, ⟨rfl, rfl⟩, ⟨rfl, rfl⟩, trivial⟩ ⟨⟨rfl, rfl, by decide⟩, ⟨rfl, rfl, by decide⟩, trivial⟩) ⟨Nat.zero_le _, e⟩ ?_
      rintro ⟨i, ks⟩ ⟨hi, hfi⟩
      have hi : i ≤ s.tables.length := hi
      have hfi : soundS s = tblsFrom ks (s.tables.drop i) := hfi
      conv => whnf
      repeat (first | (refine forkB_true ?_; conv => whnf) | (refine forkB_false ?_; conv => whnf) | (refine reqD_dec (by exact Nat.le_of_ble_eq_true rfl) ?_; conv => whnf) | (refine reqD_dec (by exact Nat.eq_of_beq_eq_true rfl) ?_; conv => whnf) | (refine reqD_dec ⟨by decide, by exact Nat.le_of_ble_eq_true rfl⟩ ?_; conv => whnf))
      refine forkB_dec (fun h3 => ?_) (fun h3 => ?_)
      · have hi2 : i < s.tables.length := by omega
        rw [List.drop_eq_getElem_cons hi2] at hfi
        have hmem := htbl _ (List.getElem_mem hi2)
        obtain ⟨T, hT⟩ : ∃ T, s.tables[i] = T := ⟨_, rfl⟩
        rw [hT] at hfi hmem
        rw [tblsFrom] at hfi
        obtain ⟨hn, hcl, hcn, hnr, hnc⟩ := hmem
        conv => whnf
        repeat (first | (refine forkB_true ?_; conv => whnf) | (refine forkB_false ?_; conv => whnf) | (refine reqD_dec (by exact Nat.le_of_ble_eq_true rfl) ?_; conv => whnf) | (refine reqD_dec (by exact Nat.eq_of_beq_eq_true rfl) ?_; conv => whnf) | (refine reqD_dec ⟨by decide, by exact Nat.le_of_ble_eq_true rfl⟩ ?_; conv => whnf))
        refine reqD_dec (by first | omega | decide | (simp [ty27, ty58, ty41, ty23, ty55, ty30, ty60, ty56, ty3, ty39]; done) | (simp [ty27, ty58, ty41, ty23, ty55, ty30, ty60, ty56, ty3, ty39]; omega)) ?_
        refine forceL_as (tblC T) ((flat_get (f := tblC) tblC_len s.tables i hi2).trans (by rw [hT])) ?_
        conv => whnf
        repeat (first | (refine forkB_true ?_; conv => whnf) | (refine forkB_false ?_; conv => whnf) | (refine reqD_dec (by exact Nat.le_of_ble_eq_true rfl) ?_; conv => whnf) | (refine reqD_dec (by exact Nat.eq_of_beq_eq_true rfl) ?_; conv => whnf) | (refine reqD_dec ⟨by decide, by exact Nat.le_of_ble_eq_true rfl⟩ ?_; conv => whnf))
        refine callX_le (name_spec T.name hn) callee80 rfl rfl (.cons (AV.Le.refl _) .nil) rfl ?_
        rintro x hx rfl
        have bad : badTbl ks T = true → soundS s = false := fun h => by rw [hfi, h]; rfl
        cases hf : nameR T.name with
        | false =>
          conv => whnf
          repeat' (first | (refine forkB_true ?_; conv => whnf) | (refine forkB_false ?_; conv => whnf) | (refine reqD_dec (by exact Nat.le_of_ble_eq_true rfl) ?_; conv => whnf) | (refine reqD_dec (by exact Nat.eq_of_beq_eq_true rfl) ?_; conv => whnf) | (refine exI_i64 (by omega) (by omega) ?_; conv => whnf) | (refine exI_as _ rfl ?_; conv => whnf) | (refine forkB_dec (fun _ => ?_) (fun _ => ?_) <;> conv => whnf) | (refine forkB_intro (fun _ => ?_) (fun _ => ?_) <;> conv => whnf))
          refine retX_val rfl ?_
          conv => whnf
          rw [bad (by rw [badTbl, hf]; rfl)]
          rfl
        | true =>
          conv => whnf
          repeat' (first | (refine forkB_true ?_; conv => whnf) | (refine forkB_false ?_; conv => whnf) | (refine reqD_dec (by exact Nat.le_of_ble_eq_true rfl) ?_; conv => whnf) | (refine reqD_dec (by exact Nat.eq_of_beq_eq_true rfl) ?_; conv => whnf) | (refine exI_i64 (by omega) (by omega) ?_; conv => whnf) | (refine exI_as _ rfl ?_; conv => whnf) | (refine forkB_dec (fun _ => ?_) (fun _ => ?_) <;> conv => whnf) | (refine forkB_intro (fun _ => ?_) (fun _ => ?_) <;> conv => whnf))
          any_goals (refine retX_val rfl ?_; (conv => whnf); rw [bad (by clear bad hfi htbl e; simp_all [badTbl] <;> omega)]; rfl)
          rename_i hk h1 h2 h3
          have hk : hasK T.name ks = false := hk
          have ok : badTbl ks T = false := by clear bad hfi htbl e; simp_all [badTbl] <;> omega
          rw [ok, Bool.not_false, Bool.true_and] at hfi
          refine reqD_intro (congrArg not hk) ?_
          conv => whnf
          repeat' (first | (refine forkB_true ?_; conv => whnf) | (refine forkB_false ?_; conv => whnf) | (refine reqD_dec (by exact Nat.le_of_ble_eq_true rfl) ?_; conv => whnf) | (refine reqD_dec (by exact Nat.eq_of_beq_eq_true rfl) ?_; conv => whnf) | (refine exI_i64 (by omega) (by omega) ?_; conv => whnf) | (refine exI_as _ rfl ?_; conv => whnf) | (refine forkB_dec (fun _ => ?_) (fun _ => ?_) <;> conv => whnf) | (refine forkB_intro (fun _ => ?_) (fun _ => ?_) <;> conv => whnf))
          refine loopX_of env08_ok mixed08 (σ := Nat × List ByteArray) (fun q => AS.of 174 0 4 [(1, .one (.ptr 0 0)), (3, .one (.mref 1)), (6, .one (.mref 3)), (26, .one (slC tblC 96 s.tables)), (27, .one (.int .i64 s.tables.length)), (28, .one (.int .i64 (i : Nat))), (66, .one (slC colC 24 T.cols)), (67, .one (.int .i64 T.cols.length)), (68, .one (.int .i64 (q.1 : Nat)))] [(0, ⟨32, 0, 0, schC s⟩), (1, ⟨.keys (ks ++ [T.name]), 0, 0, []⟩), (3, ⟨.keys q.2, 0, 0, []⟩)])
            (fun q => q.1 ≤ T.cols.length ∧ colsFrom [] T.cols = colsFrom q.2 (T.cols.drop q.1)) (fun q => T.cols.length - q.1) (0, []) (fun _ => rfl) (Tr.ofId rfl rfl (by decide) (by exact Nat.le_of_ble_eq_true rfl) ⟨⟨rfl, rfl⟩, ⟨rfl, rfl⟩, ⟨rfl, rfl⟩, ⟨rfl, rfl⟩, ⟨rfl, rfl⟩, ⟨rfl, rfl⟩, ⟨rfl, rfl⟩, ⟨rfl, rfl⟩, ⟨rfl, rfl⟩, trivial⟩ ⟨⟨rfl, rfl, by decide⟩, ⟨rfl, rfl, by decide⟩, ⟨rfl, rfl, by decide⟩, trivial⟩) ⟨Nat.zero_le _, rfl⟩ ?_
          rintro ⟨j, cs⟩ ⟨hj, hfj⟩
          have hj : j ≤ T.cols.length := hj
          have hfj : colsFrom [] T.cols = colsFrom cs (T.cols.drop j) := hfj
          conv => whnf
          repeat (first | (refine forkB_true ?_; conv => whnf) | (refine forkB_false ?_; conv => whnf) | (refine reqD_dec (by exact Nat.le_of_ble_eq_true rfl) ?_; conv => whnf) | (refine reqD_dec (by exact Nat.eq_of_beq_eq_true rfl) ?_; conv => whnf) | (refine reqD_dec ⟨by decide, by exact Nat.le_of_ble_eq_true rfl⟩ ?_; conv => whnf))
          refine forkB_dec (fun h4 => ?_) (fun h4 => ?_)
          · have hj2 : j < T.cols.length := by omega
            rw [List.drop_eq_getElem_cons hj2] at hfj
            have hcn := hcn _ (List.getElem_mem hj2)
            obtain ⟨C, hC⟩ : ∃ C, T.cols[j] = C := ⟨_, rfl⟩
            rw [hC] at hfj hcn
            rw [colsFrom] at hfj
            conv => whnf
            repeat (first | (refine forkB_true ?_; conv => whnf) | (refine forkB_false ?_; conv => whnf) | (refine reqD_dec (by exact Nat.le_of_ble_eq_true rfl) ?_; conv => whnf) | (refine reqD_dec (by exact Nat.eq_of_beq_eq_true rfl) ?_; conv => whnf) | (refine reqD_dec ⟨by decide, by exact Nat.le_of_ble_eq_true rfl⟩ ?_; conv => whnf))
            refine reqD_dec (by first | omega | decide | (simp [ty27, ty58, ty41, ty23, ty55, ty30, ty60, ty56, ty3, ty39]; done) | (simp [ty27, ty58, ty41, ty23, ty55, ty30, ty60, ty56, ty3, ty39]; omega)) ?_
            refine forceL_as (colC C) ((flat_get (f := colC) colC_len T.cols j hj2).trans (by rw [hC])) ?_
            conv => whnf
            repeat (first | (refine forkB_true ?_; conv => whnf) | (refine forkB_false ?_; conv => whnf) | (refine reqD_dec (by exact Nat.le_of_ble_eq_true rfl) ?_; conv => whnf) | (refine reqD_dec (by exact Nat.eq_of_beq_eq_true rfl) ?_; conv => whnf) | (refine reqD_dec ⟨by decide, by exact Nat.le_of_ble_eq_true rfl⟩ ?_; conv => whnf))
            refine callX_le (name_spec C.name hcn) callee80 rfl rfl (.cons (AV.Le.refl _) .nil) rfl ?_
            rintro x hx rfl
            have badc : badCol cs C = true → soundS s = false := fun h => by rw [hfi, hfj, h]; rfl
            cases hf2 : nameR C.name with
            | false =>
              conv => whnf
              repeat' (first | (refine forkB_true ?_; conv => whnf) | (refine forkB_false ?_; conv => whnf) | (refine reqD_dec (by exact Nat.le_of_ble_eq_true rfl) ?_; conv => whnf) | (refine reqD_dec (by exact Nat.eq_of_beq_eq_true rfl) ?_; conv => whnf) | (refine exI_i64 (by omega) (by omega) ?_; conv => whnf) | (refine exI_as _ rfl ?_; conv => whnf) | (refine forkB_dec (fun _ => ?_) (fun _ => ?_) <;> conv => whnf) | (refine forkB_intro (fun _ => ?_) (fun _ => ?_) <;> conv => whnf))
              refine retX_val rfl ?_
              conv => whnf
              rw [badc (by rw [badCol, hf2]; rfl)]
              rfl
            | true =>
              conv => whnf
              repeat' (first | (refine forkB_true ?_; conv => whnf) | (refine forkB_false ?_; conv => whnf) | (refine reqD_dec (by exact Nat.le_of_ble_eq_true rfl) ?_; conv => whnf) | (refine reqD_dec (by exact Nat.eq_of_beq_eq_true rfl) ?_; conv => whnf) | (refine exI_i64 (by omega) (by omega) ?_; conv => whnf) | (refine exI_as _ rfl ?_; conv => whnf) | (refine forkB_dec (fun _ => ?_) (fun _ => ?_) <;> conv => whnf) | (refine forkB_intro (fun _ => ?_) (fun _ => ?_) <;> conv => whnf))
              any_goals (refine retX_val rfl ?_; (conv => whnf); rw [badc (by clear badc bad hfi hfj htbl e; simp_all [badCol] <;> omega)]; rfl)
              all_goals
                have hk2 : hasK C.name cs = false := by assumption
                have okc : badCol cs C = false := by clear badc bad hfi hfj htbl e hcn; simp_all [badCol] <;> omega
                rw [okc, Bool.not_false, Bool.true_and] at hfj
                refine reqD_intro (congrArg not hk2) ?_
                conv => whnf
                repeat' (first | (refine forkB_true ?_; conv => whnf) | (refine forkB_false ?_; conv => whnf) | (refine reqD_dec (by exact Nat.le_of_ble_eq_true rfl) ?_; conv => whnf) | (refine reqD_dec (by exact Nat.eq_of_beq_eq_true rfl) ?_; conv => whnf) | (refine exI_i64 (by omega) (by omega) ?_; conv => whnf) | (refine exI_as _ rfl ?_; conv => whnf) | (refine forkB_dec (fun _ => ?_) (fun _ => ?_) <;> conv => whnf) | (refine forkB_intro (fun _ => ?_) (fun _ => ?_) <;> conv => whnf))
                exact ⟨(j + 1, cs ++ [C.name]), ⟨by show j + 1 ≤ _; omega, hfj⟩, by show T.cols.length - (j + 1) < T.cols.length - j; omega, (Tr.ofId rfl rfl (by decide) (by exact Nat.le_of_ble_eq_true rfl) ⟨⟨rfl, rfl⟩, ⟨rfl, rfl⟩, ⟨rfl, rfl⟩, ⟨rfl, rfl⟩, ⟨rfl, rfl⟩, ⟨rfl, rfl⟩, ⟨rfl, rfl⟩, ⟨rfl, rfl⟩, ⟨rfl, rfl⟩, trivial⟩ ⟨⟨rfl, rfl, by decide⟩, ⟨rfl, rfl, by decide⟩, ⟨rfl, rfl, by decide⟩, trivial⟩)⟩
          · have ej : j = T.cols.length := by omega
            rw [List.drop_eq_nil_of_le (by omega), colsFrom] at hfj
            rw [hfj, Bool.true_and] at hfi
            conv => whnf
            repeat' (first | (refine forkB_true ?_; conv => whnf) | (refine forkB_false ?_; conv => whnf) | (refine reqD_dec (by exact Nat.le_of_ble_eq_true rfl) ?_; conv => whnf) | (refine reqD_dec (by exact Nat.eq_of_beq_eq_true rfl) ?_; conv => whnf) | (refine exI_i64 (by omega) (by omega) ?_; conv => whnf) | (refine exI_as _ rfl ?_; conv => whnf) | (refine forkB_dec (fun _ => ?_) (fun _ => ?_) <;> conv => whnf) | (refine forkB_intro (fun _ => ?_) (fun _ => ?_) <;> conv => whnf))
            exact ⟨(i + 1, ks ++ [T.name]), ⟨by show i + 1 ≤ _; omega, hfi⟩, by show s.tables.length - (i + 1) < s.tables.length - i; omega, (Tr.ofId rfl rfl (by decide) (by exact Nat.le_of_ble_eq_true rfl) ⟨⟨rfl, rfl⟩, ⟨rfl, rfl⟩, ⟨rfl, rfl⟩, ⟨rfl, rfl⟩, ⟨rfl, rfl⟩, trivial⟩ ⟨⟨rfl, rfl, by decide⟩, ⟨rfl, rfl, by decide⟩, trivial⟩)⟩
      · have ei : i = s.tables.length := by omega
        rw [List.drop_eq_nil_of_le (by omega), tblsFrom] at hfi
        conv => whnf
        repeat' (first | (refine forkB_true ?_; conv => whnf) | (refine forkB_false ?_; conv => whnf) | (refine reqD_dec (by exact Nat.le_of_ble_eq_true rfl) ?_; conv => whnf) | (refine reqD_dec (by exact Nat.eq_of_beq_eq_true rfl) ?_; conv => whnf) | (refine exI_i64 (by omega) (by omega) ?_; conv => whnf) | (refine exI_as _ rfl ?_; conv => whnf) | (refine forkB_dec (fun _ => ?_) (fun _ => ?_) <;> conv => whnf) | (refine forkB_intro (fun _ => ?_) (fun _ => ?_) <;> conv => whnf))
        refine loopX_of env08_ok mixed08 (σ := Nat) (fun q => AS.of 174 0 1 [(1, .one (.ptr 0 0)), (103, .one (slC tblC 96 s.tables)), (104, .one (.int .i64 s.tables.length)), (105, .one (.int .i64 (q : Nat)))] [(0, ⟨32, 0, 0, schC s⟩)])
          (fun q => q ≤ s.tables.length) (fun q => s.tables.length - q) 0 (fun _ => rfl) (Tr.ofId rfl rfl (by decide) (by exact Nat.le_of_ble_eq_true rfl) ⟨⟨rfl, rfl⟩, ⟨rfl, rfl⟩, ⟨rfl, rfl⟩, ⟨rfl, rfl⟩, trivial⟩ ⟨⟨rfl, rfl, by decide⟩, trivial⟩) (Nat.zero_le _) ?_
        intro j hj
        conv => whnf
        repeat (first | (refine forkB_true ?_; conv => whnf) | (refine forkB_false ?_; conv => whnf) | (refine reqD_dec (by exact Nat.le_of_ble_eq_true rfl) ?_; conv => whnf) | (refine reqD_dec (by exact Nat.eq_of_beq_eq_true rfl) ?_; conv => whnf) | (refine reqD_dec ⟨by decide, by exact Nat.le_of_ble_eq_true rfl⟩ ?_; conv => whnf))
        refine forkB_dec (fun h4 => ?_) (fun h4 => ?_)
        · have hj2 : j < s.tables.length := by omega
          have hmem := htbl _ (List.getElem_mem hj2)
          obtain ⟨T, hT⟩ : ∃ T, s.tables[j] = T := ⟨_, rfl⟩
          rw [hT] at hmem
          obtain ⟨hn, hcl, hcn, hnr, hnc⟩ := hmem
          have el : T.refs.length = 0 := by rw [hnr]; rfl
          conv => whnf
          repeat (first | (refine forkB_true ?_; conv => whnf) | (refine forkB_false ?_; conv => whnf) | (refine reqD_dec (by exact Nat.le_of_ble_eq_true rfl) ?_; conv => whnf) | (refine reqD_dec (by exact Nat.eq_of_beq_eq_true rfl) ?_; conv => whnf) | (refine reqD_dec ⟨by decide, by exact Nat.le_of_ble_eq_true rfl⟩ ?_; conv => whnf))
          refine reqD_dec (by first | omega | decide | (simp [ty27, ty58, ty41, ty23, ty55, ty30, ty60, ty56, ty3, ty39]; done) | (simp [ty27, ty58, ty41, ty23, ty55, ty30, ty60, ty56, ty3, ty39]; omega)) ?_
          refine forceL_as (tblC T) ((flat_get (f := tblC) tblC_len s.tables j hj2).trans (by rw [hT])) ?_
          conv => whnf
          repeat (first | (refine forkB_true ?_; conv => whnf) | (refine forkB_false ?_; conv => whnf) | (refine reqD_dec (by exact Nat.le_of_ble_eq_true rfl) ?_; conv => whnf) | (refine reqD_dec (by exact Nat.eq_of_beq_eq_true rfl) ?_; conv => whnf) | (refine reqD_dec ⟨by decide, by exact Nat.le_of_ble_eq_true rfl⟩ ?_; conv => whnf))
          refine exI_as 0 (by rw [hnr]; rfl) ?_
          conv => whnf
          repeat (first | (refine forkB_true ?_; conv => whnf) | (refine forkB_false ?_; conv => whnf) | (refine reqD_dec (by exact Nat.le_of_ble_eq_true rfl) ?_; conv => whnf) | (refine reqD_dec (by exact Nat.eq_of_beq_eq_true rfl) ?_; conv => whnf) | (refine reqD_dec ⟨by decide, by exact Nat.le_of_ble_eq_true rfl⟩ ?_; conv => whnf))
          refine loopX_n env08_ok mixed08 1 ?_
          conv => whnf
          repeat' (first | (refine forkB_true ?_; conv => whnf) | (refine forkB_false ?_; conv => whnf) | (refine reqD_dec (by exact Nat.le_of_ble_eq_true rfl) ?_; conv => whnf) | (refine reqD_dec (by exact Nat.eq_of_beq_eq_true rfl) ?_; conv => whnf) | (refine exI_i64 (by omega) (by omega) ?_; conv => whnf) | (refine exI_as _ rfl ?_; conv => whnf) | (refine forkB_dec (fun _ => ?_) (fun _ => ?_) <;> conv => whnf) | (refine forkB_intro (fun _ => ?_) (fun _ => ?_) <;> conv => whnf))
          exact ⟨j + 1, by omega, by omega, (Tr.ofId rfl rfl (by decide) (by exact Nat.le_of_ble_eq_true rfl) ⟨⟨rfl, rfl⟩, ⟨rfl, rfl⟩, ⟨rfl, rfl⟩, ⟨rfl, rfl⟩, trivial⟩ ⟨⟨rfl, rfl, by decide⟩, trivial⟩)⟩
        · conv => whnf
          repeat (first | (refine forkB_true ?_; conv => whnf) | (refine forkB_false ?_; conv => whnf) | (refine reqD_dec (by exact Nat.le_of_ble_eq_true rfl) ?_; conv => whnf) | (refine reqD_dec (by exact Nat.eq_of_beq_eq_true rfl) ?_; conv => whnf) | (refine reqD_dec ⟨by decide, by exact Nat.le_of_ble_eq_true rfl⟩ ?_; conv => whnf))
          refine retX_val rfl ?_
          conv => whnf
          rw [hfi]
          rfl
end Go.Proofs.Ve


/-
  VeV3: the check of schemas (of tables without references and checks).
-/
set_option linter.unusedVariables false
set_option linter.unusedSimpArgs false
set_option pp.maxSteps 2000
namespace Go.Proofs.Ve
open Go

def schE (s : Sch) : Int := if limS s then (if soundS s then 0 else 70) else 2

theorem schema_spec (s : Sch) (hs : okS s) : PSpec Try.prog 53 [.agg (schC s)] (fun r => r = .one (.int .i64 (schE s))) := by
  refine pspec_x env08_ok mixed08 Try.func53 rfl 39 rfl _ rfl rfl ?_
  have hlen := hs.len
  conv => whnf
  repeat (first | (refine forkB_true ?_; conv => whnf) | (refine forkB_false ?_; conv => whnf) | (refine reqD_dec (by exact Nat.le_of_ble_eq_true rfl) ?_; conv => whnf) | (refine reqD_dec (by exact Nat.eq_of_beq_eq_true rfl) ?_; conv => whnf) | (refine reqD_dec ⟨by decide, by exact Nat.le_of_ble_eq_true rfl⟩ ?_; conv => whnf))
  refine callX_le (limits_spec s) (callee_of Try.func68 rfl rfl) rfl rfl (.cons (AV.Le.refl _) .nil) rfl ?_
  rintro x hx rfl
  cases h1 : limS s with
  | false =>
    conv => whnf
    repeat' (first | (refine forkB_true ?_; conv => whnf) | (refine forkB_false ?_; conv => whnf) | (refine reqD_dec (by exact Nat.le_of_ble_eq_true rfl) ?_; conv => whnf) | (refine reqD_dec (by exact Nat.eq_of_beq_eq_true rfl) ?_; conv => whnf) | (refine exI_i64 (by omega) (by omega) ?_; conv => whnf) | (refine exI_as _ rfl ?_; conv => whnf) | (refine forkB_dec (fun _ => ?_) (fun _ => ?_) <;> conv => whnf) | (refine forkB_intro (fun _ => ?_) (fun _ => ?_) <;> conv => whnf))
    refine retX_val rfl ?_
    conv => whnf
    rw [schE, h1]
    rfl
  | true =>
    conv => whnf
    repeat' (first | (refine forkB_true ?_; conv => whnf) | (refine forkB_false ?_; conv => whnf) | (refine reqD_dec (by exact Nat.le_of_ble_eq_true rfl) ?_; conv => whnf) | (refine reqD_dec (by exact Nat.eq_of_beq_eq_true rfl) ?_; conv => whnf) | (refine exI_i64 (by omega) (by omega) ?_; conv => whnf) | (refine exI_as _ rfl ?_; conv => whnf) | (refine forkB_dec (fun _ => ?_) (fun _ => ?_) <;> conv => whnf) | (refine forkB_intro (fun _ => ?_) (fun _ => ?_) <;> conv => whnf))
    refine callX_le (sound_spec s hs) (callee_of Try.func69 rfl rfl) rfl rfl (.cons (AV.Le.refl _) .nil) rfl ?_
    rintro x hx rfl
    cases h2 : soundS s with
    | false =>
      conv => whnf
      repeat' (first | (refine forkB_true ?_; conv => whnf) | (refine forkB_false ?_; conv => whnf) | (refine reqD_dec (by exact Nat.le_of_ble_eq_true rfl) ?_; conv => whnf) | (refine reqD_dec (by exact Nat.eq_of_beq_eq_true rfl) ?_; conv => whnf) | (refine exI_i64 (by omega) (by omega) ?_; conv => whnf) | (refine exI_as _ rfl ?_; conv => whnf) | (refine forkB_dec (fun _ => ?_) (fun _ => ?_) <;> conv => whnf) | (refine forkB_intro (fun _ => ?_) (fun _ => ?_) <;> conv => whnf))
      refine retX_val rfl ?_
      conv => whnf
      rw [schE, h1, h2]
      rfl
    | true =>
      have e : schE s = 0 := by rw [schE, h1, h2]; rfl
      conv => whnf
      repeat' (first | (refine forkB_true ?_; conv => whnf) | (refine forkB_false ?_; conv => whnf) | (refine reqD_dec (by exact Nat.le_of_ble_eq_true rfl) ?_; conv => whnf) | (refine reqD_dec (by exact Nat.eq_of_beq_eq_true rfl) ?_; conv => whnf) | (refine exI_i64 (by omega) (by omega) ?_; conv => whnf) | (refine exI_as _ rfl ?_; conv => whnf) | (refine forkB_dec (fun _ => ?_) (fun _ => ?_) <;> conv => whnf) | (refine forkB_intro (fun _ => ?_) (fun _ => ?_) <;> conv => whnf))
      refine loopX_of env08_ok mixed08 (σ := Nat) (fun q => AS.of 39 0 1 [(1, .one (.ptr 0 0)), (15, .one (slC tblC 96 s.tables)), (16, .one (.int .i64 s.tables.length)), (17, .one (.int .i64 (q : Nat)))] [(0, ⟨32, 0, 0, schC s⟩)])
        (fun q => q ≤ s.tables.length) (fun q => s.tables.length - q) 0 (fun _ => rfl) (Tr.ofId rfl rfl (by decide) (by exact Nat.le_of_ble_eq_true rfl) ⟨⟨rfl, rfl⟩, ⟨rfl, rfl⟩, ⟨rfl, rfl⟩, ⟨rfl, rfl⟩, trivial⟩ ⟨⟨rfl, rfl, by decide⟩, trivial⟩) (Nat.zero_le _) ?_
      intro j hj
      conv => whnf
      repeat (first | (refine forkB_true ?_; conv => whnf) | (refine forkB_false ?_; conv => whnf) | (refine reqD_dec (by exact Nat.le_of_ble_eq_true rfl) ?_; conv => whnf) | (refine reqD_dec (by exact Nat.eq_of_beq_eq_true rfl) ?_; conv => whnf) | (refine reqD_dec ⟨by decide, by exact Nat.le_of_ble_eq_true rfl⟩ ?_; conv => whnf))
      refine forkB_dec (fun h4 => ?_) (fun h4 => ?_)
      · have hj2 : j < s.tables.length := by omega
        have hmem := hs.tbl _ (List.getElem_mem hj2)
        obtain ⟨T, hT⟩ : ∃ T, s.tables[j] = T := ⟨_, rfl⟩
        rw [hT] at hmem
        obtain ⟨hn, hcl, hcn, hnr, hnc⟩ := hmem
        conv => whnf
        repeat (first | (refine forkB_true ?_; conv => whnf) | (refine forkB_false ?_; conv => whnf) | (refine reqD_dec (by exact Nat.le_of_ble_eq_true rfl) ?_; conv => whnf) | (refine reqD_dec (by exact Nat.eq_of_beq_eq_true rfl) ?_; conv => whnf) | (refine reqD_dec ⟨by decide, by exact Nat.le_of_ble_eq_true rfl⟩ ?_; conv => whnf))
        refine reqD_dec (by first | omega | decide | (simp [ty27, ty58, ty41, ty23, ty55, ty30, ty60, ty56, ty3, ty39]; done) | (simp [ty27, ty58, ty41, ty23, ty55, ty30, ty60, ty56, ty3, ty39]; omega)) ?_
        refine forceL_as (tblC T) ((flat_get (f := tblC) tblC_len s.tables j hj2).trans (by rw [hT])) ?_
        conv => whnf
        repeat (first | (refine forkB_true ?_; conv => whnf) | (refine forkB_false ?_; conv => whnf) | (refine reqD_dec (by exact Nat.le_of_ble_eq_true rfl) ?_; conv => whnf) | (refine reqD_dec (by exact Nat.eq_of_beq_eq_true rfl) ?_; conv => whnf) | (refine reqD_dec ⟨by decide, by exact Nat.le_of_ble_eq_true rfl⟩ ?_; conv => whnf))
        refine exI_as 0 (by rw [hnc]; rfl) ?_
        conv => whnf
        repeat (first | (refine forkB_true ?_; conv => whnf) | (refine forkB_false ?_; conv => whnf) | (refine reqD_dec (by exact Nat.le_of_ble_eq_true rfl) ?_; conv => whnf) | (refine reqD_dec (by exact Nat.eq_of_beq_eq_true rfl) ?_; conv => whnf) | (refine reqD_dec ⟨by decide, by exact Nat.le_of_ble_eq_true rfl⟩ ?_; conv => whnf))
        refine loopX_n env08_ok mixed08 1 ?_
        conv => whnf
        repeat' (first | (refine forkB_true ?_; conv => whnf) | (refine forkB_false ?_; conv => whnf) | (refine reqD_dec (by exact Nat.le_of_ble_eq_true rfl) ?_; conv => whnf) | (refine reqD_dec (by exact Nat.eq_of_beq_eq_true rfl) ?_; conv => whnf) | (refine exI_i64 (by omega) (by omega) ?_; conv => whnf) | (refine exI_as _ rfl ?_; conv => whnf) | (refine forkB_dec (fun _ => ?_) (fun _ => ?_) <;> conv => whnf) | (refine forkB_intro (fun _ => ?_) (fun _ => ?_) <;> conv => whnf))
        exact ⟨j + 1, by omega, by omega, (Tr.ofId rfl rfl (by decide) (by exact Nat.le_of_ble_eq_true rfl) ⟨⟨rfl, rfl⟩, ⟨rfl, rfl⟩, ⟨rfl, rfl⟩, ⟨rfl, rfl⟩, trivial⟩ ⟨⟨rfl, rfl, by decide⟩, trivial⟩)⟩
      · conv => whnf
        repeat (first | (refine forkB_true ?_; conv => whnf) | (refine forkB_false ?_; conv => whnf) | (refine reqD_dec (by exact Nat.le_of_ble_eq_true rfl) ?_; conv => whnf) | (refine reqD_dec (by exact Nat.eq_of_beq_eq_true rfl) ?_; conv => whnf) | (refine reqD_dec ⟨by decide, by exact Nat.le_of_ble_eq_true rfl⟩ ?_; conv => whnf))
        refine retX_val rfl ?_
        conv => whnf
        rw [e]
        rfl
end Go.Proofs.Ve


/-
  VeV4: copies of states.
-/
set_option linter.unusedVariables false
set_option linter.unusedSimpArgs false
set_option pp.maxSteps 2000
namespace Go.Proofs.Ve
open Go

theorem rowC1_deep (r : Row) : (rowC1 r).all (·.deep) = true := rfl
theorem tabC1_deep (r : Tab) : (tabC1 r).all (·.deep) = true := rfl
def nilC : AC := .sl true 0 0 []
def outC (st : St) (i : Nat) : List AC := (st.take i).map tabC ++ List.replicate (st.length - i) nilC
theorem outC_len (st : St) (i : Nat) (h : i ≤ st.length) : (outC st i).length = st.length := by simp [outC]; omega
theorem outC_deep (st : St) (i : Nat) : (outC st i).all (·.deep) = true := by
  simp only [List.all_eq_true, outC, List.mem_append, List.mem_map, List.mem_replicate]
  rintro x (⟨l, _, rfl⟩ | ⟨_, rfl⟩) <;> rfl
theorem outC_step (st : St) (i : Nat) (h : i < st.length) : (outC st i).set i (tabC st[i]) = outC st (i + 1) := by
  have e : ((st.take i).map tabC).length = i := by simp; omega
  unfold outC
  rw [List.set_append_right _ _ (by rw [e]; exact Nat.le_refl _), e, Nat.sub_self]
  rw [show st.length - i = (st.length - (i + 1)) + 1 by omega, List.replicate_succ, List.set_cons_zero, List.take_add_one, List.getElem?_eq_getElem h, List.map_append, List.append_assoc]
  rfl
theorem outC_set (st : St) (i : Nat) (h : i < st.length) : (outC st i).set i nilC = outC st i := by
  have e : ((st.take i).map tabC).length = i := by simp; omega
  unfold outC
  rw [List.set_append_right _ _ (by rw [e]; exact Nat.le_refl _), e, Nat.sub_self]
  rw [show st.length - i = (st.length - (i + 1)) + 1 by omega, List.replicate_succ, List.set_cons_zero]
theorem outC_end (st : St) : outC st st.length = st.flatMap tabC1 := by
  have : ∀ st : St, st.map tabC = st.flatMap tabC1 := fun st => by
    induction st with
    | nil => rfl
    | cons a l ih => rw [List.map_cons, List.flatMap_cons, ih]; rfl
  unfold outC
  simp [this]


theorem take_one_rows (l : Tab) (h : 0 < l.length) : (l.take (0 + 1)).flatMap rowC1 = [rowC l[0]] := by
  cases l with
  | nil => exact absurd h (Nat.lt_irrefl _)
  | cons a l => rfl
theorem take_next_rows (l : Tab) (j : Nat) (h : j < l.length) : (l.take j).flatMap rowC1 ++ [rowC l[j]] = (l.take (j + 1)).flatMap rowC1 := by
  rw [List.take_add_one, List.getElem?_eq_getElem h, List.flatMap_append]
  rfl
def clInner (st : St) (i : Nat) (l : Tab) : Nat → AS
  | 0 => AS.of 43 0 4 [(2, .one (.ptr 1 0)), (3, .one (.ptr 3 0)), (4, .one (.int .i64 (i : Nat))), (14, .one (tabsC st)), (15, .one (.int .i64 st.length)), (16, .one (.int .i64 (i : Nat))), (21, .one (tabC l)), (22, .one (.int .i64 l.length)), (23, .one (.int .i64 0))]
      [(1, ⟨25, 0, 0, [nilC]⟩), (2, ⟨41, 1, 24, (outC st i).set i nilC⟩), (3, ⟨25, 0, 0, [.gref 2]⟩)]
  | j + 1 => AS.of 43 0 5 [(2, .one (.ptr 1 0)), (3, .one (.ptr 3 0)), (4, .one (.int .i64 (i : Nat))), (14, .one (tabsC st)), (15, .one (.int .i64 st.length)), (16, .one (.int .i64 (i : Nat))), (21, .one (tabC l)), (22, .one (.int .i64 l.length)), (23, .one (.int .i64 (j + 1 : Nat)))]
      [(1, ⟨25, 0, 0, [nilC]⟩), (2, ⟨41, 1, 24, (outC st i).set i (.gref 4)⟩), (3, ⟨25, 0, 0, [.gref 2]⟩), (4, ⟨27, 1, 24, (l.take (j + 1)).flatMap rowC1⟩)]

theorem cloned_spec (st : St) (h1 : st.length ≤ 1099511627776) (hok : ∀ l ∈ st, okT l) : NSpec Try.prog 49 [.agg (stC st)] (.agg [.gref 0]) ⟨41, 1, 24, st.flatMap tabC1⟩ := by
  refine nspec_x env08_ok mixed08 Try.func49 rfl 43 rfl _ rfl rfl ?_
  conv => whnf
  repeat (first | (refine forkB_true ?_; conv => whnf) | (refine forkB_false ?_; conv => whnf) | (refine reqD_dec (by exact Nat.le_of_ble_eq_true rfl) ?_; conv => whnf) | (refine reqD_dec (by exact Nat.eq_of_beq_eq_true rfl) ?_; conv => whnf) | (refine reqD_dec ⟨by decide, by exact Nat.le_of_ble_eq_true rfl⟩ ?_; conv => whnf))
  refine exI_as _ rfl ?_
  conv => whnf
  repeat (first | (refine forkB_true ?_; conv => whnf) | (refine forkB_false ?_; conv => whnf) | (refine reqD_dec (by exact Nat.le_of_ble_eq_true rfl) ?_; conv => whnf) | (refine reqD_dec (by exact Nat.eq_of_beq_eq_true rfl) ?_; conv => whnf) | (refine reqD_dec ⟨by decide, by exact Nat.le_of_ble_eq_true rfl⟩ ?_; conv => whnf))
  refine reqD_dec (by first | omega | decide | (simp [ty27, ty58, ty41, ty23, ty55, ty30, ty60, ty56, ty3, ty39]; done) | (simp [ty27, ty58, ty41, ty23, ty55, ty30, ty60, ty56, ty3, ty39]; omega)) ?_
  conv => whnf
  repeat (first | (refine forkB_true ?_; conv => whnf) | (refine forkB_false ?_; conv => whnf) | (refine reqD_dec (by exact Nat.le_of_ble_eq_true rfl) ?_; conv => whnf) | (refine reqD_dec (by exact Nat.eq_of_beq_eq_true rfl) ?_; conv => whnf) | (refine reqD_dec ⟨by decide, by exact Nat.le_of_ble_eq_true rfl⟩ ?_; conv => whnf))
  refine reqD_dec (by first | omega | decide | (simp [ty27, ty58, ty41, ty23, ty55, ty30, ty60, ty56, ty3, ty39]; done) | (simp [ty27, ty58, ty41, ty23, ty55, ty30, ty60, ty56, ty3, ty39]; omega)) ?_
  refine forceL_as (outC st 0) (by simp [outC, nilC, ty41]) ?_
  conv => whnf
  repeat' (first | (refine forkB_true ?_; conv => whnf) | (refine forkB_false ?_; conv => whnf) | (refine reqD_dec (by exact Nat.le_of_ble_eq_true rfl) ?_; conv => whnf) | (refine reqD_dec (by exact Nat.eq_of_beq_eq_true rfl) ?_; conv => whnf) | (refine exI_i64 (by omega) (by omega) ?_; conv => whnf) | (refine exI_as _ rfl ?_; conv => whnf) | (refine forkB_dec (fun _ => ?_) (fun _ => ?_) <;> conv => whnf) | (refine forkB_intro (fun _ => ?_) (fun _ => ?_) <;> conv => whnf))
  refine loopX_of env08_ok mixed08 (σ := Nat) (fun i => AS.of 43 0 4 [(2, .one (.ptr 1 0)), (3, .one (.ptr 3 0)), (14, .one (tabsC st)), (15, .one (.int .i64 st.length)), (16, .one (.int .i64 (i : Nat)))]
      [(1, ⟨25, 0, 0, [nilC]⟩), (2, ⟨41, 1, 24, outC st i⟩), (3, ⟨25, 0, 0, [.gref 2]⟩)])
    (fun i => i ≤ st.length) (fun i => st.length - i) 0 (fun _ => rfl) ?_ (Nat.zero_le _) ?_
  · exact (Tr.ofId rfl rfl (by decide) (by exact Nat.le_of_ble_eq_true rfl) ⟨⟨rfl, rfl⟩, ⟨rfl, rfl⟩, ⟨rfl, rfl⟩, ⟨rfl, rfl⟩, ⟨rfl, rfl⟩, trivial⟩ ⟨⟨rfl, rfl, by decide⟩, ⟨(congrArg some (ob_ren_deep _ (outC_deep st 0))).symm, ob_lt_deep _ (outC_deep st 0), by decide⟩, ⟨rfl, rfl, by decide⟩, trivial⟩)
  intro i hi
  conv => whnf
  repeat (first | (refine forkB_true ?_; conv => whnf) | (refine forkB_false ?_; conv => whnf) | (refine reqD_dec (by exact Nat.le_of_ble_eq_true rfl) ?_; conv => whnf) | (refine reqD_dec (by exact Nat.eq_of_beq_eq_true rfl) ?_; conv => whnf) | (refine reqD_dec ⟨by decide, by exact Nat.le_of_ble_eq_true rfl⟩ ?_; conv => whnf))
  refine forkB_dec (fun h => ?_) (fun h => ?_)
  · have hi2 : i < st.length := by omega
    have hl := hok _ (List.getElem_mem hi2)
    obtain ⟨l, hle⟩ : ∃ l, st[i] = l := ⟨_, rfl⟩
    rw [hle] at hl
    have hll := hl.1
    conv => whnf
    repeat (first | (refine forkB_true ?_; conv => whnf) | (refine forkB_false ?_; conv => whnf) | (refine reqD_dec (by exact Nat.le_of_ble_eq_true rfl) ?_; conv => whnf) | (refine reqD_dec (by exact Nat.eq_of_beq_eq_true rfl) ?_; conv => whnf) | (refine reqD_dec ⟨by decide, by exact Nat.le_of_ble_eq_true rfl⟩ ?_; conv => whnf))
    refine reqD_dec (by first | omega | decide | (simp [ty27, ty58, ty41, ty23, ty55, ty30, ty60, ty56, ty3, ty39]; done) | (simp [ty27, ty58, ty41, ty23, ty55, ty30, ty60, ty56, ty3, ty39]; omega)) ?_
    refine forceL_as (tabC1 l) ((flat_get (f := tabC1) tabC1_len st i hi2).trans (by rw [hle])) ?_
    conv => whnf
    repeat (first | (refine forkB_true ?_; conv => whnf) | (refine forkB_false ?_; conv => whnf) | (refine reqD_dec (by exact Nat.le_of_ble_eq_true rfl) ?_; conv => whnf) | (refine reqD_dec (by exact Nat.eq_of_beq_eq_true rfl) ?_; conv => whnf) | (refine reqD_dec ⟨by decide, by exact Nat.le_of_ble_eq_true rfl⟩ ?_; conv => whnf))
    refine exI_as _ rfl ?_
    conv => whnf
    repeat (first | (refine forkB_true ?_; conv => whnf) | (refine forkB_false ?_; conv => whnf) | (refine reqD_dec (by exact Nat.le_of_ble_eq_true rfl) ?_; conv => whnf) | (refine reqD_dec (by exact Nat.eq_of_beq_eq_true rfl) ?_; conv => whnf) | (refine reqD_dec ⟨by decide, by exact Nat.le_of_ble_eq_true rfl⟩ ?_; conv => whnf))
    refine loopX_of env08_ok mixed08 (σ := Nat) (clInner st i l)
      (fun j => j ≤ l.length) (fun j => l.length - j) 0 (fun j => by cases j <;> rfl) ?_ (Nat.zero_le _) ?_
    · exact (Tr.ofId rfl rfl (by decide) (by exact Nat.le_of_ble_eq_true rfl) ⟨⟨rfl, rfl⟩, ⟨rfl, rfl⟩, ⟨rfl, rfl⟩, ⟨rfl, rfl⟩, ⟨rfl, rfl⟩, ⟨rfl, rfl⟩, ⟨rfl, rfl⟩, ⟨rfl, rfl⟩, ⟨rfl, rfl⟩, trivial⟩ ⟨⟨rfl, rfl, by decide⟩, ⟨(congrArg some ((ob_ren_set _ (outC_deep st i)).trans (congrArg (Ob.mk 41 1 24) (outC_set st i hi2)))).symm, ob_lt_set _ (outC_deep st i) rfl, by decide⟩, ⟨rfl, rfl, by decide⟩, trivial⟩)
    intro j hj
    cases j with
    | zero =>
      conv => whnf
      repeat (first | (refine forkB_true ?_; conv => whnf) | (refine forkB_false ?_; conv => whnf) | (refine reqD_dec (by exact Nat.le_of_ble_eq_true rfl) ?_; conv => whnf) | (refine reqD_dec (by exact Nat.eq_of_beq_eq_true rfl) ?_; conv => whnf) | (refine reqD_dec ⟨by decide, by exact Nat.le_of_ble_eq_true rfl⟩ ?_; conv => whnf))
      refine forkB_dec (fun h2 => ?_) (fun h2 => ?_)
      · have hj2 : 0 < l.length := by omega
        conv => whnf
        repeat (first | (refine forkB_true ?_; conv => whnf) | (refine forkB_false ?_; conv => whnf) | (refine reqD_dec (by exact Nat.le_of_ble_eq_true rfl) ?_; conv => whnf) | (refine reqD_dec (by exact Nat.eq_of_beq_eq_true rfl) ?_; conv => whnf) | (refine reqD_dec ⟨by decide, by exact Nat.le_of_ble_eq_true rfl⟩ ?_; conv => whnf))
        refine reqD_dec (by first | omega | decide | (simp [ty27, ty58, ty41, ty23, ty55, ty30, ty60, ty56, ty3, ty39]; done) | (simp [ty27, ty58, ty41, ty23, ty55, ty30, ty60, ty56, ty3, ty39]; omega)) ?_
        conv => whnf
        repeat (first | (refine forkB_true ?_; conv => whnf) | (refine forkB_false ?_; conv => whnf) | (refine reqD_dec (by exact Nat.le_of_ble_eq_true rfl) ?_; conv => whnf) | (refine reqD_dec (by exact Nat.eq_of_beq_eq_true rfl) ?_; conv => whnf) | (refine reqD_dec ⟨by decide, by exact Nat.le_of_ble_eq_true rfl⟩ ?_; conv => whnf))
        refine forceL_as (rowC1 l[0]) (flat_get (f := rowC1) rowC1_len l 0 hj2) ?_
        conv => whnf
        repeat (first | (refine forkB_true ?_; conv => whnf) | (refine forkB_false ?_; conv => whnf) | (refine reqD_dec (by exact Nat.le_of_ble_eq_true rfl) ?_; conv => whnf) | (refine reqD_dec (by exact Nat.eq_of_beq_eq_true rfl) ?_; conv => whnf) | (refine reqD_dec ⟨by decide, by exact Nat.le_of_ble_eq_true rfl⟩ ?_; conv => whnf))
        refine drawnX_phase env08_ok (fun id => id == 2 || id == 3) [0, 1, 2, 3, 4, 5, 6, 7, 8, 9, 10, 11, 12] (.take 0 (.take 1 (.take 2 (.take 3 (.take 4 (.take 5 (.take 6 (.take 7 (.take 8 (.one 9 (.one 10 (.one 11 (.take 12 (.stop)))))))))))))) 1 #[true, true, true, true, true, true, true, true, true, true, true, true, true, false] (by kernel_rfl) ?_
        conv => whnf
        repeat (first | (refine forkB_true ?_; conv => whnf) | (refine forkB_false ?_; conv => whnf) | (refine reqD_dec (by exact Nat.le_of_ble_eq_true rfl) ?_; conv => whnf) | (refine reqD_dec (by exact Nat.eq_of_beq_eq_true rfl) ?_; conv => whnf) | (refine reqD_dec ⟨by decide, by exact Nat.le_of_ble_eq_true rfl⟩ ?_; conv => whnf))
        refine reqD_dec (by simp [ty41, outC_len st i hi]; omega) ?_
        conv => whnf
        repeat (first | (refine forkB_true ?_; conv => whnf) | (refine forkB_false ?_; conv => whnf) | (refine reqD_dec (by exact Nat.le_of_ble_eq_true rfl) ?_; conv => whnf) | (refine reqD_dec (by exact Nat.eq_of_beq_eq_true rfl) ?_; conv => whnf) | (refine reqD_dec ⟨by decide, by exact Nat.le_of_ble_eq_true rfl⟩ ?_; conv => whnf))
        refine forceL_as [nilC] ((take1 _ i (by simp [outC_len st i hi]; omega)).trans (by simp)) ?_
        conv => whnf
        repeat (first | (refine forkB_true ?_; conv => whnf) | (refine forkB_false ?_; conv => whnf) | (refine reqD_dec (by exact Nat.le_of_ble_eq_true rfl) ?_; conv => whnf) | (refine reqD_dec (by exact Nat.eq_of_beq_eq_true rfl) ?_; conv => whnf) | (refine reqD_dec ⟨by decide, by exact Nat.le_of_ble_eq_true rfl⟩ ?_; conv => whnf))
        refine callX_le (copied_spec l[0] (hl.2 _ (List.getElem_mem hj2))) callee44 rfl rfl (.cons (AV.Le.refl _) .nil) rfl ?_
        rintro x hx rfl
        conv => whnf
        repeat (first | (refine forkB_true ?_; conv => whnf) | (refine forkB_false ?_; conv => whnf) | (refine reqD_dec (by exact Nat.le_of_ble_eq_true rfl) ?_; conv => whnf) | (refine reqD_dec (by exact Nat.eq_of_beq_eq_true rfl) ?_; conv => whnf) | (refine reqD_dec ⟨by decide, by exact Nat.le_of_ble_eq_true rfl⟩ ?_; conv => whnf))
        refine reqD_dec (by first | omega | decide | (simp [ty27, ty58, ty41, ty23, ty55, ty30, ty60, ty56, ty3, ty39]; done) | (simp [ty27, ty58, ty41, ty23, ty55, ty30, ty60, ty56, ty3, ty39]; omega)) ?_
        conv => whnf
        repeat (first | (refine forkB_true ?_; conv => whnf) | (refine forkB_false ?_; conv => whnf) | (refine reqD_dec (by exact Nat.le_of_ble_eq_true rfl) ?_; conv => whnf) | (refine reqD_dec (by exact Nat.eq_of_beq_eq_true rfl) ?_; conv => whnf) | (refine reqD_dec ⟨by decide, by exact Nat.le_of_ble_eq_true rfl⟩ ?_; conv => whnf))
        refine forkB_intro (fun h => absurd h (by simp [ty27])) (fun _ => ?_)
        conv => whnf
        repeat (first | (refine forkB_true ?_; conv => whnf) | (refine forkB_false ?_; conv => whnf) | (refine reqD_dec (by exact Nat.le_of_ble_eq_true rfl) ?_; conv => whnf) | (refine reqD_dec (by exact Nat.eq_of_beq_eq_true rfl) ?_; conv => whnf) | (refine reqD_dec ⟨by decide, by exact Nat.le_of_ble_eq_true rfl⟩ ?_; conv => whnf))
        refine reqD_dec (by first | omega | decide | (simp [ty27, ty58, ty41, ty23, ty55, ty30, ty60, ty56, ty3, ty39]; done) | (simp [ty27, ty58, ty41, ty23, ty55, ty30, ty60, ty56, ty3, ty39]; omega)) ?_
        conv => whnf
        repeat (first | (refine forkB_true ?_; conv => whnf) | (refine forkB_false ?_; conv => whnf) | (refine reqD_dec (by exact Nat.le_of_ble_eq_true rfl) ?_; conv => whnf) | (refine reqD_dec (by exact Nat.eq_of_beq_eq_true rfl) ?_; conv => whnf) | (refine reqD_dec ⟨by decide, by exact Nat.le_of_ble_eq_true rfl⟩ ?_; conv => whnf))
        refine reqD_dec (by simp [ty41, outC_len st i hi]; omega) ?_
        conv => whnf
        repeat (first | (refine forkB_true ?_; conv => whnf) | (refine forkB_false ?_; conv => whnf) | (refine reqD_dec (by exact Nat.le_of_ble_eq_true rfl) ?_; conv => whnf) | (refine reqD_dec (by exact Nat.eq_of_beq_eq_true rfl) ?_; conv => whnf) | (refine reqD_dec ⟨by decide, by exact Nat.le_of_ble_eq_true rfl⟩ ?_; conv => whnf))
        refine drawnX_phase env08_ok (fun _ => false) [0, 1, 2, 3, 4, 5, 6, 7, 8, 9, 10, 11, 12, 13] (.one 13 (.stop)) 0 #[true, true, true, true, true, true, true, true, true, true, true, true, true, true] (by kernel_rfl) ?_
        conv => whnf
        repeat (first | (refine forkB_true ?_; conv => whnf) | (refine forkB_false ?_; conv => whnf) | (refine reqD_dec (by exact Nat.le_of_ble_eq_true rfl) ?_; conv => whnf) | (refine reqD_dec (by exact Nat.eq_of_beq_eq_true rfl) ?_; conv => whnf) | (refine reqD_dec ⟨by decide, by exact Nat.le_of_ble_eq_true rfl⟩ ?_; conv => whnf))
        refine reqD_dec (by simp [ty41, outC_len st i hi]; omega) ?_
        conv => whnf
        repeat (first | (refine forkB_true ?_; conv => whnf) | (refine forkB_false ?_; conv => whnf) | (refine reqD_dec (by exact Nat.le_of_ble_eq_true rfl) ?_; conv => whnf) | (refine reqD_dec (by exact Nat.eq_of_beq_eq_true rfl) ?_; conv => whnf) | (refine reqD_dec ⟨by decide, by exact Nat.le_of_ble_eq_true rfl⟩ ?_; conv => whnf))
        refine forceL_as ((outC st i).set i (.gref 5)) ((setR1 _ i _ (by simp [outC_len st i hi]; omega)).trans (by simp)) ?_
        conv => whnf
        repeat (first | (refine forkB_true ?_; conv => whnf) | (refine forkB_false ?_; conv => whnf) | (refine reqD_dec (by exact Nat.le_of_ble_eq_true rfl) ?_; conv => whnf) | (refine reqD_dec (by exact Nat.eq_of_beq_eq_true rfl) ?_; conv => whnf) | (refine reqD_dec ⟨by decide, by exact Nat.le_of_ble_eq_true rfl⟩ ?_; conv => whnf))
        refine drawnX_done (by kernel_rfl) ?_
        conv => whnf
        repeat (first | (refine forkB_true ?_; conv => whnf) | (refine forkB_false ?_; conv => whnf) | (refine reqD_dec (by exact Nat.le_of_ble_eq_true rfl) ?_; conv => whnf) | (refine reqD_dec (by exact Nat.eq_of_beq_eq_true rfl) ?_; conv => whnf) | (refine reqD_dec ⟨by decide, by exact Nat.le_of_ble_eq_true rfl⟩ ?_; conv => whnf))
        refine exI_i64 (by omega) (by omega) ?_
        conv => whnf
        repeat (first | (refine forkB_true ?_; conv => whnf) | (refine forkB_false ?_; conv => whnf) | (refine reqD_dec (by exact Nat.le_of_ble_eq_true rfl) ?_; conv => whnf) | (refine reqD_dec (by exact Nat.eq_of_beq_eq_true rfl) ?_; conv => whnf) | (refine reqD_dec ⟨by decide, by exact Nat.le_of_ble_eq_true rfl⟩ ?_; conv => whnf))
        refine ⟨1, by omega, by omega, ?_⟩
        exact (Tr.ofMv 4 5 rfl rfl (by decide) (by decide) (by exact Nat.le_of_ble_eq_true rfl) ⟨⟨rfl, rfl⟩, ⟨rfl, rfl⟩, ⟨rfl, rfl⟩, ⟨rfl, rfl⟩, ⟨rfl, rfl⟩, ⟨rfl, rfl⟩, ⟨rfl, rfl⟩, ⟨rfl, rfl⟩, ⟨rfl, rfl⟩, trivial⟩ ⟨⟨rfl, rfl, by decide⟩, ⟨(congrArg some ((ob_ren_set (mv 4 5) (i := i) (c := .gref 4) (outC_deep st i)))).symm, ob_lt_set _ (outC_deep st i) rfl, by decide⟩, ⟨rfl, rfl, by decide⟩, ⟨(congrArg some ((ob_ren_deep (mv 4 5) (all_flat rowC1_deep _)).trans (congrArg (Ob.mk 27 1 24) (take_one_rows l hj2)))).symm, ob_lt_deep _ (all_flat rowC1_deep _), by decide⟩, trivial⟩)
      · have el : l = [] := List.eq_nil_of_length_eq_zero (by omega)
        have en : (outC st i).set i (tabC l) = outC st (i + 1) := by rw [← hle]; exact outC_step st i hi2
        conv => whnf
        repeat (first | (refine forkB_true ?_; conv => whnf) | (refine forkB_false ?_; conv => whnf) | (refine reqD_dec (by exact Nat.le_of_ble_eq_true rfl) ?_; conv => whnf) | (refine reqD_dec (by exact Nat.eq_of_beq_eq_true rfl) ?_; conv => whnf) | (refine reqD_dec ⟨by decide, by exact Nat.le_of_ble_eq_true rfl⟩ ?_; conv => whnf))
        refine exI_i64 (by omega) (by omega) ?_
        conv => whnf
        repeat (first | (refine forkB_true ?_; conv => whnf) | (refine forkB_false ?_; conv => whnf) | (refine reqD_dec (by exact Nat.le_of_ble_eq_true rfl) ?_; conv => whnf) | (refine reqD_dec (by exact Nat.eq_of_beq_eq_true rfl) ?_; conv => whnf) | (refine reqD_dec ⟨by decide, by exact Nat.le_of_ble_eq_true rfl⟩ ?_; conv => whnf))
        refine ⟨i + 1, by omega, by omega, ?_⟩
        subst el
        refine Tr.trans (Tr.obj 2 (ob := ⟨41, 1, 24, (outC st i).set i nilC⟩) rfl (cells := outC st (i + 1)) (en ▸ Pw.set AC.LeV.refl (AC.LeV.sl (AC.Le.nil (.inl rfl))))) ?_
        exact (Tr.ofId rfl rfl (by decide) (by exact Nat.le_of_ble_eq_true rfl) ⟨⟨rfl, rfl⟩, ⟨rfl, rfl⟩, ⟨rfl, rfl⟩, ⟨rfl, rfl⟩, ⟨rfl, rfl⟩, trivial⟩ ⟨⟨rfl, rfl, by decide⟩, ⟨(congrArg some (ob_ren_deep _ (outC_deep st (i + 1)))).symm, ob_lt_deep _ (outC_deep st (i + 1)), by decide⟩, ⟨rfl, rfl, by decide⟩, trivial⟩)
    | succ j =>
      conv => whnf
      repeat (first | (refine forkB_true ?_; conv => whnf) | (refine forkB_false ?_; conv => whnf) | (refine reqD_dec (by exact Nat.le_of_ble_eq_true rfl) ?_; conv => whnf) | (refine reqD_dec (by exact Nat.eq_of_beq_eq_true rfl) ?_; conv => whnf) | (refine reqD_dec ⟨by decide, by exact Nat.le_of_ble_eq_true rfl⟩ ?_; conv => whnf))
      refine forkB_dec (fun h2 => ?_) (fun h2 => ?_)
      · have hj2 : j + 1 < l.length := by omega
        conv => whnf
        repeat (first | (refine forkB_true ?_; conv => whnf) | (refine forkB_false ?_; conv => whnf) | (refine reqD_dec (by exact Nat.le_of_ble_eq_true rfl) ?_; conv => whnf) | (refine reqD_dec (by exact Nat.eq_of_beq_eq_true rfl) ?_; conv => whnf) | (refine reqD_dec ⟨by decide, by exact Nat.le_of_ble_eq_true rfl⟩ ?_; conv => whnf))
        refine reqD_dec (by first | omega | decide | (simp [ty27, ty58, ty41, ty23, ty55, ty30, ty60, ty56, ty3, ty39]; done) | (simp [ty27, ty58, ty41, ty23, ty55, ty30, ty60, ty56, ty3, ty39]; omega)) ?_
        conv => whnf
        repeat (first | (refine forkB_true ?_; conv => whnf) | (refine forkB_false ?_; conv => whnf) | (refine reqD_dec (by exact Nat.le_of_ble_eq_true rfl) ?_; conv => whnf) | (refine reqD_dec (by exact Nat.eq_of_beq_eq_true rfl) ?_; conv => whnf) | (refine reqD_dec ⟨by decide, by exact Nat.le_of_ble_eq_true rfl⟩ ?_; conv => whnf))
        refine forceL_as (rowC1 l[j + 1]) (flat_get (f := rowC1) rowC1_len l (j + 1) hj2) ?_
        conv => whnf
        repeat (first | (refine forkB_true ?_; conv => whnf) | (refine forkB_false ?_; conv => whnf) | (refine reqD_dec (by exact Nat.le_of_ble_eq_true rfl) ?_; conv => whnf) | (refine reqD_dec (by exact Nat.eq_of_beq_eq_true rfl) ?_; conv => whnf) | (refine reqD_dec ⟨by decide, by exact Nat.le_of_ble_eq_true rfl⟩ ?_; conv => whnf))
        refine drawnX_phase env08_ok (fun id => id == 2 || id == 3) [0, 1, 2, 3, 4, 5, 6, 7, 8, 9, 10, 11, 12] (.take 0 (.take 1 (.take 2 (.take 3 (.take 4 (.take 5 (.take 6 (.take 7 (.take 8 (.one 9 (.one 10 (.one 11 (.take 12 (.stop)))))))))))))) 1 #[true, true, true, true, true, true, true, true, true, true, true, true, true, false] (by kernel_rfl) ?_
        conv => whnf
        repeat (first | (refine forkB_true ?_; conv => whnf) | (refine forkB_false ?_; conv => whnf) | (refine reqD_dec (by exact Nat.le_of_ble_eq_true rfl) ?_; conv => whnf) | (refine reqD_dec (by exact Nat.eq_of_beq_eq_true rfl) ?_; conv => whnf) | (refine reqD_dec ⟨by decide, by exact Nat.le_of_ble_eq_true rfl⟩ ?_; conv => whnf))
        refine reqD_dec (by simp [ty41, outC_len st i hi]; omega) ?_
        conv => whnf
        repeat (first | (refine forkB_true ?_; conv => whnf) | (refine forkB_false ?_; conv => whnf) | (refine reqD_dec (by exact Nat.le_of_ble_eq_true rfl) ?_; conv => whnf) | (refine reqD_dec (by exact Nat.eq_of_beq_eq_true rfl) ?_; conv => whnf) | (refine reqD_dec ⟨by decide, by exact Nat.le_of_ble_eq_true rfl⟩ ?_; conv => whnf))
        refine forceL_as [.gref 4] ((take1 _ i (by simp [outC_len st i hi]; omega)).trans (by simp)) ?_
        conv => whnf
        repeat (first | (refine forkB_true ?_; conv => whnf) | (refine forkB_false ?_; conv => whnf) | (refine reqD_dec (by exact Nat.le_of_ble_eq_true rfl) ?_; conv => whnf) | (refine reqD_dec (by exact Nat.eq_of_beq_eq_true rfl) ?_; conv => whnf) | (refine reqD_dec ⟨by decide, by exact Nat.le_of_ble_eq_true rfl⟩ ?_; conv => whnf))
        refine callX_le (copied_spec l[j + 1] (hl.2 _ (List.getElem_mem hj2))) callee44 rfl rfl (.cons (AV.Le.refl _) .nil) rfl ?_
        rintro x hx rfl
        conv => whnf
        repeat (first | (refine forkB_true ?_; conv => whnf) | (refine forkB_false ?_; conv => whnf) | (refine reqD_dec (by exact Nat.le_of_ble_eq_true rfl) ?_; conv => whnf) | (refine reqD_dec (by exact Nat.eq_of_beq_eq_true rfl) ?_; conv => whnf) | (refine reqD_dec ⟨by decide, by exact Nat.le_of_ble_eq_true rfl⟩ ?_; conv => whnf))
        refine reqD_dec (by first | omega | decide | (simp [ty27, ty58, ty41, ty23, ty55, ty30, ty60, ty56, ty3, ty39]; done) | (simp [ty27, ty58, ty41, ty23, ty55, ty30, ty60, ty56, ty3, ty39]; omega)) ?_
        conv => whnf
        repeat (first | (refine forkB_true ?_; conv => whnf) | (refine forkB_false ?_; conv => whnf) | (refine reqD_dec (by exact Nat.le_of_ble_eq_true rfl) ?_; conv => whnf) | (refine reqD_dec (by exact Nat.eq_of_beq_eq_true rfl) ?_; conv => whnf) | (refine reqD_dec ⟨by decide, by exact Nat.le_of_ble_eq_true rfl⟩ ?_; conv => whnf))
        refine reqD_dec (flat_div rowC1_len (by decide) _) ?_
        refine reqD_dec (by simp only [flat_len rowC1_len]; simp [ty27]; omega) ?_
        refine forceL_as ((l.take (j + 1 + 1)).flatMap rowC1) (take_next_rows l (j + 1) hj2) ?_
        conv => whnf
        repeat (first | (refine forkB_true ?_; conv => whnf) | (refine forkB_false ?_; conv => whnf) | (refine reqD_dec (by exact Nat.le_of_ble_eq_true rfl) ?_; conv => whnf) | (refine reqD_dec (by exact Nat.eq_of_beq_eq_true rfl) ?_; conv => whnf) | (refine reqD_dec ⟨by decide, by exact Nat.le_of_ble_eq_true rfl⟩ ?_; conv => whnf))
        refine reqD_dec (by simp [ty41, outC_len st i hi]; omega) ?_
        conv => whnf
        repeat (first | (refine forkB_true ?_; conv => whnf) | (refine forkB_false ?_; conv => whnf) | (refine reqD_dec (by exact Nat.le_of_ble_eq_true rfl) ?_; conv => whnf) | (refine reqD_dec (by exact Nat.eq_of_beq_eq_true rfl) ?_; conv => whnf) | (refine reqD_dec ⟨by decide, by exact Nat.le_of_ble_eq_true rfl⟩ ?_; conv => whnf))
        refine drawnX_phase env08_ok (fun _ => false) [0, 1, 2, 3, 4, 5, 6, 7, 8, 9, 10, 11, 12, 13] (.one 13 (.stop)) 0 #[true, true, true, true, true, true, true, true, true, true, true, true, true, true] (by kernel_rfl) ?_
        conv => whnf
        repeat (first | (refine forkB_true ?_; conv => whnf) | (refine forkB_false ?_; conv => whnf) | (refine reqD_dec (by exact Nat.le_of_ble_eq_true rfl) ?_; conv => whnf) | (refine reqD_dec (by exact Nat.eq_of_beq_eq_true rfl) ?_; conv => whnf) | (refine reqD_dec ⟨by decide, by exact Nat.le_of_ble_eq_true rfl⟩ ?_; conv => whnf))
        refine reqD_dec (by simp [ty41, outC_len st i hi]; omega) ?_
        conv => whnf
        repeat (first | (refine forkB_true ?_; conv => whnf) | (refine forkB_false ?_; conv => whnf) | (refine reqD_dec (by exact Nat.le_of_ble_eq_true rfl) ?_; conv => whnf) | (refine reqD_dec (by exact Nat.eq_of_beq_eq_true rfl) ?_; conv => whnf) | (refine reqD_dec ⟨by decide, by exact Nat.le_of_ble_eq_true rfl⟩ ?_; conv => whnf))
        refine forceL_as ((outC st i).set i (.gref 6)) ((setR1 _ i _ (by simp [outC_len st i hi]; omega)).trans (by simp)) ?_
        conv => whnf
        repeat (first | (refine forkB_true ?_; conv => whnf) | (refine forkB_false ?_; conv => whnf) | (refine reqD_dec (by exact Nat.le_of_ble_eq_true rfl) ?_; conv => whnf) | (refine reqD_dec (by exact Nat.eq_of_beq_eq_true rfl) ?_; conv => whnf) | (refine reqD_dec ⟨by decide, by exact Nat.le_of_ble_eq_true rfl⟩ ?_; conv => whnf))
        refine drawnX_done (by kernel_rfl) ?_
        conv => whnf
        repeat (first | (refine forkB_true ?_; conv => whnf) | (refine forkB_false ?_; conv => whnf) | (refine reqD_dec (by exact Nat.le_of_ble_eq_true rfl) ?_; conv => whnf) | (refine reqD_dec (by exact Nat.eq_of_beq_eq_true rfl) ?_; conv => whnf) | (refine reqD_dec ⟨by decide, by exact Nat.le_of_ble_eq_true rfl⟩ ?_; conv => whnf))
        refine exI_i64 (by omega) (by omega) ?_
        conv => whnf
        repeat (first | (refine forkB_true ?_; conv => whnf) | (refine forkB_false ?_; conv => whnf) | (refine reqD_dec (by exact Nat.le_of_ble_eq_true rfl) ?_; conv => whnf) | (refine reqD_dec (by exact Nat.eq_of_beq_eq_true rfl) ?_; conv => whnf) | (refine reqD_dec ⟨by decide, by exact Nat.le_of_ble_eq_true rfl⟩ ?_; conv => whnf))
        refine ⟨j + 1 + 1, by omega, by omega, ?_⟩
        exact (Tr.ofMv 4 6 rfl rfl (by decide) (by decide) (by exact Nat.le_of_ble_eq_true rfl) ⟨⟨rfl, rfl⟩, ⟨rfl, rfl⟩, ⟨rfl, rfl⟩, ⟨rfl, rfl⟩, ⟨rfl, rfl⟩, ⟨rfl, rfl⟩, ⟨rfl, rfl⟩, ⟨rfl, rfl⟩, ⟨rfl, rfl⟩, trivial⟩ ⟨⟨rfl, rfl, by decide⟩, ⟨(congrArg some ((ob_ren_set (mv 4 6) (i := i) (c := .gref 4) (outC_deep st i)))).symm, ob_lt_set _ (outC_deep st i) rfl, by decide⟩, ⟨rfl, rfl, by decide⟩, ⟨(congrArg some (ob_ren_deep (mv 4 6) (all_flat rowC1_deep _))).symm, ob_lt_deep _ (all_flat rowC1_deep _), by decide⟩, trivial⟩)
      · have el : j + 1 = l.length := by omega
        have en : (outC st i).set i (tabC l) = outC st (i + 1) := by rw [← hle]; exact outC_step st i hi2
        conv => whnf
        repeat (first | (refine forkB_true ?_; conv => whnf) | (refine forkB_false ?_; conv => whnf) | (refine reqD_dec (by exact Nat.le_of_ble_eq_true rfl) ?_; conv => whnf) | (refine reqD_dec (by exact Nat.eq_of_beq_eq_true rfl) ?_; conv => whnf) | (refine reqD_dec ⟨by decide, by exact Nat.le_of_ble_eq_true rfl⟩ ?_; conv => whnf))
        refine exI_i64 (by omega) (by omega) ?_
        conv => whnf
        repeat (first | (refine forkB_true ?_; conv => whnf) | (refine forkB_false ?_; conv => whnf) | (refine reqD_dec (by exact Nat.le_of_ble_eq_true rfl) ?_; conv => whnf) | (refine reqD_dec (by exact Nat.eq_of_beq_eq_true rfl) ?_; conv => whnf) | (refine reqD_dec ⟨by decide, by exact Nat.le_of_ble_eq_true rfl⟩ ?_; conv => whnf))
        refine ⟨i + 1, by omega, by omega, ?_⟩
        refine Tr.trans (Tr.frz' 4 (j + 1) rfl (show 0 < 1 by decide) (by rw [flat_len rowC1_len]; simp; omega) (all_flat rowC1_deep _)) ?_
        have hx : tabC l = (AC.gref 4).sub 4 (.sl false 24 (j + 1) ((l.take (j + 1)).flatMap rowC1)) := by
          show tabC l = .sl false 24 (j + 1) ((l.take (j + 1)).flatMap rowC1)
          rw [el, List.take_length]
          rfl
        have hX : outC st (i + 1) = ((outC st i).set i (.gref 4)).map (·.sub 4 (.sl false 24 (j + 1) ((l.take (j + 1)).flatMap rowC1))) := by
          rw [sub_set 4 _ (outC_deep st i), ← hx, en]
        exact (Tr.ofId rfl rfl (by decide) (by exact Nat.le_of_ble_eq_true rfl) ⟨⟨rfl, rfl⟩, ⟨rfl, rfl⟩, ⟨rfl, rfl⟩, ⟨rfl, rfl⟩, ⟨rfl, rfl⟩, trivial⟩ ⟨⟨rfl, rfl, by decide⟩, ⟨(congrArg some ((ob_ren_deep _ (outC_deep st (i + 1))).trans (congrArg (Ob.mk 41 1 24) hX))).symm, ob_lt_deep _ (outC_deep st (i + 1)), by decide⟩, ⟨rfl, rfl, by decide⟩, trivial⟩)
  · have e : i = st.length := by omega
    subst e
    conv => whnf
    repeat' (first | (refine forkB_true ?_; conv => whnf) | (refine forkB_false ?_; conv => whnf) | (refine reqD_dec (by exact Nat.le_of_ble_eq_true rfl) ?_; conv => whnf) | (refine reqD_dec (by exact Nat.eq_of_beq_eq_true rfl) ?_; conv => whnf) | (refine exI_i64 (by omega) (by omega) ?_; conv => whnf) | (refine exI_as _ rfl ?_; conv => whnf) | (refine forkB_dec (fun _ => ?_) (fun _ => ?_) <;> conv => whnf) | (refine forkB_intro (fun _ => ?_) (fun _ => ?_) <;> conv => whnf))
    refine retX_new 2 rfl (by exact Nat.le_of_ble_eq_true rfl) ?_ (ob_lt_deep 1 (all_flat tabC1_deep st)) rfl rfl
    exact (congrArg some ((ob_ren_deep (fun _ => 2) (all_flat tabC1_deep st)).trans (congrArg (Ob.mk 41 1 24) (outC_end st).symm))).symm
end Go.Proofs.Ve


/-
  VeV5: the place of a key in a table's rows.
-/
set_option linter.unusedVariables false
set_option linter.unusedSimpArgs false
set_option pp.maxSteps 2000
namespace Go.Proofs.Ve
open Go

def plObs (s : Sch) (t : Int) (l : Tab) (key : Row) : List Ob := [⟨32, 0, 0, schC s⟩, ⟨3, 0, 0, [.int .i64 t]⟩, ⟨41, 0, 0, [tabC l]⟩, ⟨27, 0, 0, [rowC key]⟩]
def plFn : AC := .fn 65 [.ptr 0 0, .ptr 1 0, .ptr 2 0, .ptr 3 0]
def plObs5 (s : Sch) (t : Int) (l : Tab) (key : Row) : List Ob := [⟨32, 0, 0, schC s⟩, ⟨3, 0, 0, [.int .i64 t]⟩, ⟨41, 0, 0, [tabC l]⟩, ⟨27, 0, 0, [rowC key]⟩, ⟨66, 0, 0, [plFn]⟩]

theorem at_spec (s : Sch) (t : Int) (l : Tab) (key : Row) (hl : okT l) (hk : okR key) (i : Nat) (hi : i < l.length) :
    OSpec Try.prog 65 [.one (.int .i64 (i : Nat)), .one (.ptr 0 0), .one (.ptr 1 0), .one (.ptr 2 0), .one (.ptr 3 0)] (plObs s t l key) (fun r => r = .one (.int .i64 (cmpR (keyR s t l[i]) key))) := by
  refine ospec_x env08_ok mixed08 Try.func65 rfl 16 rfl _ rfl rfl ?_
  have hr := hl.2 _ (List.getElem_mem hi)
  have hkr := keyR_le s t l[i]
  unfold okR at hr hk
  conv => whnf
  repeat (first | (refine forkB_true ?_; conv => whnf) | (refine forkB_false ?_; conv => whnf) | (refine reqD_dec (by exact Nat.le_of_ble_eq_true rfl) ?_; conv => whnf) | (refine reqD_dec (by exact Nat.eq_of_beq_eq_true rfl) ?_; conv => whnf) | (refine reqD_dec ⟨by decide, by exact Nat.le_of_ble_eq_true rfl⟩ ?_; conv => whnf))
  refine drawnX_phase env08_ok (fun _ => true) [0, 1, 2, 3, 4, 5, 6, 7, 8, 9] (.take 0 (.take 1 (.take 2 (.take 3 (.take 4 (.take 5 (.take 7 (.one 6 (.one 8 (.take 9 (.stop))))))))))) 0 #[true, true, true, true, true, true, true, true, true, true] (by kernel_rfl) ?_
  conv => whnf
  repeat (first | (refine forkB_true ?_; conv => whnf) | (refine forkB_false ?_; conv => whnf) | (refine reqD_dec (by exact Nat.le_of_ble_eq_true rfl) ?_; conv => whnf) | (refine reqD_dec (by exact Nat.eq_of_beq_eq_true rfl) ?_; conv => whnf) | (refine reqD_dec ⟨by decide, by exact Nat.le_of_ble_eq_true rfl⟩ ?_; conv => whnf))
  refine reqD_dec (by first | omega | decide | (simp [ty27, ty58, ty41, ty23, ty55, ty30, ty60, ty56, ty3, ty39]; done) | (simp [ty27, ty58, ty41, ty23, ty55, ty30, ty60, ty56, ty3, ty39]; omega)) ?_
  refine forceL_as (rowC1 l[i]) (flat_get (f := rowC1) rowC1_len l i hi) ?_
  conv => whnf
  repeat (first | (refine forkB_true ?_; conv => whnf) | (refine forkB_false ?_; conv => whnf) | (refine reqD_dec (by exact Nat.le_of_ble_eq_true rfl) ?_; conv => whnf) | (refine reqD_dec (by exact Nat.eq_of_beq_eq_true rfl) ?_; conv => whnf) | (refine reqD_dec ⟨by decide, by exact Nat.le_of_ble_eq_true rfl⟩ ?_; conv => whnf))
  refine callX_le (key_spec s t l[i] hr) (callee_of Try.func43 rfl rfl) rfl rfl (.cons (AV.Le.refl _) (.cons (AV.Le.refl _) (.cons (AV.Le.refl _) .nil))) rfl ?_
  rintro x hx rfl
  conv => whnf
  repeat (first | (refine forkB_true ?_; conv => whnf) | (refine forkB_false ?_; conv => whnf) | (refine reqD_dec (by exact Nat.le_of_ble_eq_true rfl) ?_; conv => whnf) | (refine reqD_dec (by exact Nat.eq_of_beq_eq_true rfl) ?_; conv => whnf) | (refine reqD_dec ⟨by decide, by exact Nat.le_of_ble_eq_true rfl⟩ ?_; conv => whnf))
  refine callX_le (compareRows_spec (keyR s t l[i]) key (by omega) (by omega)) (callee_of Try.func42 rfl rfl) rfl rfl (.cons (AV.Le.refl _) (.cons (AV.Le.refl _) .nil)) rfl ?_
  rintro x hx rfl
  conv => whnf
  repeat (first | (refine forkB_true ?_; conv => whnf) | (refine forkB_false ?_; conv => whnf) | (refine reqD_dec (by exact Nat.le_of_ble_eq_true rfl) ?_; conv => whnf) | (refine reqD_dec (by exact Nat.eq_of_beq_eq_true rfl) ?_; conv => whnf) | (refine reqD_dec ⟨by decide, by exact Nat.le_of_ble_eq_true rfl⟩ ?_; conv => whnf))
  refine drawnX_done (by kernel_rfl) ?_
  conv => whnf
  repeat (first | (refine forkB_true ?_; conv => whnf) | (refine forkB_false ?_; conv => whnf) | (refine reqD_dec (by exact Nat.le_of_ble_eq_true rfl) ?_; conv => whnf) | (refine reqD_dec (by exact Nat.eq_of_beq_eq_true rfl) ?_; conv => whnf) | (refine reqD_dec ⟨by decide, by exact Nat.le_of_ble_eq_true rfl⟩ ?_; conv => whnf))
  refine retX_obs rfl rfl (by exact Nat.le_of_ble_eq_true rfl) ⟨⟨rfl, rfl⟩, ⟨rfl, rfl⟩, ⟨rfl, rfl⟩, ⟨rfl, rfl⟩, trivial⟩ ?_
  conv => whnf
  rfl

theorem less_spec (s : Sch) (t : Int) (l : Tab) (key : Row) (hl : okT l) (hk : okR key) (i : Nat) (hi : i < l.length) :
    OSpec Try.prog 67 [.one (.int .i64 (i : Nat)), .one (.ptr 4 0)] (plObs5 s t l key) (fun r => r = .one (.bool (decide (cmpR (keyR s t l[i]) key ≥ 0)))) := by
  refine ospec_x env08_ok mixed08 Try.func67 rfl 8 rfl _ rfl rfl ?_
  conv => whnf
  repeat (first | (refine forkB_true ?_; conv => whnf) | (refine forkB_false ?_; conv => whnf) | (refine reqD_dec (by exact Nat.le_of_ble_eq_true rfl) ?_; conv => whnf) | (refine reqD_dec (by exact Nat.eq_of_beq_eq_true rfl) ?_; conv => whnf) | (refine reqD_dec ⟨by decide, by exact Nat.le_of_ble_eq_true rfl⟩ ?_; conv => whnf))
  refine callX_obs (at_spec s t l key hl hk i hi) (callee_of Try.func65 rfl rfl) id (posN 4) rfl rfl (.cons (AV.Le.refl _) (.cons (AV.Le.refl _) (.cons (AV.Le.refl _) (.cons (AV.Le.refl _) (.cons (AV.Le.refl _) .nil))))) (passedN (obs := plObs s t l key) rfl (by exact Nat.le_of_ble_eq_true rfl) ⟨⟨rfl, rfl⟩, ⟨rfl, rfl⟩, ⟨rfl, rfl⟩, ⟨rfl, rfl⟩, trivial⟩) ?_
  rintro x hx rfl
  conv => whnf
  repeat (first | (refine forkB_true ?_; conv => whnf) | (refine forkB_false ?_; conv => whnf) | (refine reqD_dec (by exact Nat.le_of_ble_eq_true rfl) ?_; conv => whnf) | (refine reqD_dec (by exact Nat.eq_of_beq_eq_true rfl) ?_; conv => whnf) | (refine reqD_dec ⟨by decide, by exact Nat.le_of_ble_eq_true rfl⟩ ?_; conv => whnf))
  refine forkB_dec (fun h1 => ?_) (fun h1 => ?_)
  · conv => whnf
    repeat (first | (refine forkB_true ?_; conv => whnf) | (refine forkB_false ?_; conv => whnf) | (refine reqD_dec (by exact Nat.le_of_ble_eq_true rfl) ?_; conv => whnf) | (refine reqD_dec (by exact Nat.eq_of_beq_eq_true rfl) ?_; conv => whnf) | (refine reqD_dec ⟨by decide, by exact Nat.le_of_ble_eq_true rfl⟩ ?_; conv => whnf))
    refine retX_obs rfl rfl (by exact Nat.le_of_ble_eq_true rfl) ⟨⟨rfl, rfl⟩, ⟨rfl, rfl⟩, ⟨rfl, rfl⟩, ⟨rfl, rfl⟩, ⟨rfl, rfl⟩, trivial⟩ ?_
    conv => whnf
    rw [decide_eq_true h1]
    rfl
  · conv => whnf
    repeat (first | (refine forkB_true ?_; conv => whnf) | (refine forkB_false ?_; conv => whnf) | (refine reqD_dec (by exact Nat.le_of_ble_eq_true rfl) ?_; conv => whnf) | (refine reqD_dec (by exact Nat.eq_of_beq_eq_true rfl) ?_; conv => whnf) | (refine reqD_dec ⟨by decide, by exact Nat.le_of_ble_eq_true rfl⟩ ?_; conv => whnf))
    refine retX_obs rfl rfl (by exact Nat.le_of_ble_eq_true rfl) ⟨⟨rfl, rfl⟩, ⟨rfl, rfl⟩, ⟨rfl, rfl⟩, ⟨rfl, rfl⟩, ⟨rfl, rfl⟩, trivial⟩ ?_
    conv => whnf
    rw [decide_eq_false h1]
    rfl

theorem search_spec (s : Sch) (t : Int) (l : Tab) (key : Row) (hl : okT l) (hk : okR key) (m : Nat) (hm : m ≤ l.length) (hmono : ∀ (i : Nat) (hi : i < l.length), cmpR (keyR s t l[i]) key ≥ 0 ↔ m ≤ i) :
    OSpec Try.prog 66 [.one (.int .i64 l.length), .one (.fn 67 [.ptr 4 0])] (plObs5 s t l key) (fun r => r = .one (.int .i64 m)) := by
  refine ospec_x env08_ok mixed08 Try.func66 rfl 26 rfl _ rfl rfl ?_
  have hll := hl.1
  conv => whnf
  repeat (first | (refine forkB_true ?_; conv => whnf) | (refine forkB_false ?_; conv => whnf) | (refine reqD_dec (by exact Nat.le_of_ble_eq_true rfl) ?_; conv => whnf) | (refine reqD_dec (by exact Nat.eq_of_beq_eq_true rfl) ?_; conv => whnf) | (refine reqD_dec ⟨by decide, by exact Nat.le_of_ble_eq_true rfl⟩ ?_; conv => whnf))
  refine loopX_of env08_ok mixed08 (σ := Nat × Nat) (fun q => AS.of 26 5 5 [(1, .one (.fn 67 [.ptr 4 0])), (5, .one (.int .i64 (q.1 : Nat))), (6, .one (.int .i64 (q.2 : Nat)))] [(0, ⟨32, 0, 0, schC s⟩), (1, ⟨3, 0, 0, [.int .i64 t]⟩), (2, ⟨41, 0, 0, [tabC l]⟩), (3, ⟨27, 0, 0, [rowC key]⟩), (4, ⟨66, 0, 0, [plFn]⟩)])
    (fun q => q.1 ≤ m ∧ m ≤ q.2 ∧ q.2 ≤ l.length) (fun q => q.2 - q.1) (0, l.length) (fun _ => rfl) (Tr.ofId rfl rfl (by decide) (by exact Nat.le_of_ble_eq_true rfl) ⟨⟨rfl, rfl⟩, ⟨rfl, rfl⟩, ⟨rfl, rfl⟩, trivial⟩ ⟨⟨rfl, rfl, by decide⟩, ⟨rfl, rfl, by decide⟩, ⟨rfl, rfl, by decide⟩, ⟨rfl, rfl, by decide⟩, ⟨rfl, rfl, by decide⟩, trivial⟩) ⟨Nat.zero_le _, hm, Nat.le_refl _⟩ ?_
  rintro ⟨i, j⟩ ⟨h1, h2, h3⟩
  have h1 : i ≤ m := h1
  have h2 : m ≤ j := h2
  have h3 : j ≤ l.length := h3
  conv => whnf
  repeat (first | (refine forkB_true ?_; conv => whnf) | (refine forkB_false ?_; conv => whnf) | (refine reqD_dec (by exact Nat.le_of_ble_eq_true rfl) ?_; conv => whnf) | (refine reqD_dec (by exact Nat.eq_of_beq_eq_true rfl) ?_; conv => whnf) | (refine reqD_dec ⟨by decide, by exact Nat.le_of_ble_eq_true rfl⟩ ?_; conv => whnf))
  refine forkB_dec (fun h4 => ?_) (fun h4 => ?_)
  · have h4 : i < j := by have h4 : (i : Int) < j := h4; omega
    conv => whnf
    repeat (first | (refine forkB_true ?_; conv => whnf) | (refine forkB_false ?_; conv => whnf) | (refine reqD_dec (by exact Nat.le_of_ble_eq_true rfl) ?_; conv => whnf) | (refine reqD_dec (by exact Nat.eq_of_beq_eq_true rfl) ?_; conv => whnf) | (refine reqD_dec ⟨by decide, by exact Nat.le_of_ble_eq_true rfl⟩ ?_; conv => whnf))
    refine exI_i64 (by show -9223372036854775808 ≤ ((i : Int) + j); omega) (by show ((i : Int) + j) ≤ _; omega) ?_
    conv => whnf
    repeat (first | (refine forkB_true ?_; conv => whnf) | (refine forkB_false ?_; conv => whnf) | (refine reqD_dec (by exact Nat.le_of_ble_eq_true rfl) ?_; conv => whnf) | (refine reqD_dec (by exact Nat.eq_of_beq_eq_true rfl) ?_; conv => whnf) | (refine reqD_dec ⟨by decide, by exact Nat.le_of_ble_eq_true rfl⟩ ?_; conv => whnf))
    refine exI_as ((i + j : Nat) : Int) (by show IntKind.u64.wrap ((i : Int) + j) = _; unfold IntKind.wrap; simp [IntKind.signed, IntKind.bits]; omega) ?_
    conv => whnf
    repeat (first | (refine forkB_true ?_; conv => whnf) | (refine forkB_false ?_; conv => whnf) | (refine reqD_dec (by exact Nat.le_of_ble_eq_true rfl) ?_; conv => whnf) | (refine reqD_dec (by exact Nat.eq_of_beq_eq_true rfl) ?_; conv => whnf) | (refine reqD_dec ⟨by decide, by exact Nat.le_of_ble_eq_true rfl⟩ ?_; conv => whnf))
    refine exI_as (((i + j) / 2 : Nat) : Int) (by
      have e : (2 : Int) ^ min (Int.toNat 1) IntKind.u64.bits = 2 := by decide
      rw [e, Int.fdiv_eq_ediv_of_nonneg _ (by omega)]
      omega) ?_
    conv => whnf
    repeat (first | (refine forkB_true ?_; conv => whnf) | (refine forkB_false ?_; conv => whnf) | (refine reqD_dec (by exact Nat.le_of_ble_eq_true rfl) ?_; conv => whnf) | (refine reqD_dec (by exact Nat.eq_of_beq_eq_true rfl) ?_; conv => whnf) | (refine reqD_dec ⟨by decide, by exact Nat.le_of_ble_eq_true rfl⟩ ?_; conv => whnf))
    refine exI_i64 (by omega) (by omega) ?_
    conv => whnf
    repeat (first | (refine forkB_true ?_; conv => whnf) | (refine forkB_false ?_; conv => whnf) | (refine reqD_dec (by exact Nat.le_of_ble_eq_true rfl) ?_; conv => whnf) | (refine reqD_dec (by exact Nat.eq_of_beq_eq_true rfl) ?_; conv => whnf) | (refine reqD_dec ⟨by decide, by exact Nat.le_of_ble_eq_true rfl⟩ ?_; conv => whnf))
    have hh : (i + j) / 2 < l.length := by omega
    have hmm := hmono _ hh
    refine callX_obs (less_spec s t l key hl hk _ hh) (callee_of Try.func67 rfl rfl) id (posN 5) rfl rfl (.cons (AV.Le.refl _) (.cons (AV.Le.refl _) .nil)) (passedN (obs := plObs5 s t l key) rfl (by exact Nat.le_of_ble_eq_true rfl) ⟨⟨rfl, rfl⟩, ⟨rfl, rfl⟩, ⟨rfl, rfl⟩, ⟨rfl, rfl⟩, ⟨rfl, rfl⟩, trivial⟩) ?_
    rintro x hx rfl
    by_cases hc : cmpR (keyR s t l[(i + j) / 2]) key ≥ 0
    · rw [decide_eq_true hc]
      have := hmm.1 hc
      conv => whnf
      repeat' (first | (refine forkB_true ?_; conv => whnf) | (refine forkB_false ?_; conv => whnf) | (refine reqD_dec (by exact Nat.le_of_ble_eq_true rfl) ?_; conv => whnf) | (refine reqD_dec (by exact Nat.eq_of_beq_eq_true rfl) ?_; conv => whnf) | (refine exI_i64 (by omega) (by omega) ?_; conv => whnf) | (refine exI_as _ rfl ?_; conv => whnf) | (refine forkB_dec (fun _ => ?_) (fun _ => ?_) <;> conv => whnf) | (refine forkB_intro (fun _ => ?_) (fun _ => ?_) <;> conv => whnf))
      exact ⟨(i, (i + j) / 2), ⟨h1, this, by show (i + j) / 2 ≤ _; omega⟩, by show (i + j) / 2 - i < j - i; omega, (Tr.ofId rfl rfl (by decide) (by exact Nat.le_of_ble_eq_true rfl) ⟨⟨rfl, rfl⟩, ⟨rfl, rfl⟩, ⟨rfl, rfl⟩, trivial⟩ ⟨⟨rfl, rfl, by decide⟩, ⟨rfl, rfl, by decide⟩, ⟨rfl, rfl, by decide⟩, ⟨rfl, rfl, by decide⟩, ⟨rfl, rfl, by decide⟩, trivial⟩)⟩
    · rw [decide_eq_false hc]
      have : ¬ m ≤ (i + j) / 2 := fun h => hc (hmm.2 h)
      conv => whnf
      repeat' (first | (refine forkB_true ?_; conv => whnf) | (refine forkB_false ?_; conv => whnf) | (refine reqD_dec (by exact Nat.le_of_ble_eq_true rfl) ?_; conv => whnf) | (refine reqD_dec (by exact Nat.eq_of_beq_eq_true rfl) ?_; conv => whnf) | (refine exI_i64 (by omega) (by omega) ?_; conv => whnf) | (refine exI_as _ rfl ?_; conv => whnf) | (refine forkB_dec (fun _ => ?_) (fun _ => ?_) <;> conv => whnf) | (refine forkB_intro (fun _ => ?_) (fun _ => ?_) <;> conv => whnf))
      exact ⟨((i + j) / 2 + 1, j), ⟨by show (i + j) / 2 + 1 ≤ m; omega, h2, h3⟩, by show j - ((i + j) / 2 + 1) < j - i; omega, (Tr.ofId rfl rfl (by decide) (by exact Nat.le_of_ble_eq_true rfl) ⟨⟨rfl, rfl⟩, ⟨rfl, rfl⟩, ⟨rfl, rfl⟩, trivial⟩ ⟨⟨rfl, rfl, by decide⟩, ⟨rfl, rfl, by decide⟩, ⟨rfl, rfl, by decide⟩, ⟨rfl, rfl, by decide⟩, ⟨rfl, rfl, by decide⟩, trivial⟩)⟩
  · have h4 : ¬ i < j := by have h4 : ¬ (i : Int) < j := h4; omega
    have e : i = m := by omega
    subst e
    conv => whnf
    repeat (first | (refine forkB_true ?_; conv => whnf) | (refine forkB_false ?_; conv => whnf) | (refine reqD_dec (by exact Nat.le_of_ble_eq_true rfl) ?_; conv => whnf) | (refine reqD_dec (by exact Nat.eq_of_beq_eq_true rfl) ?_; conv => whnf) | (refine reqD_dec ⟨by decide, by exact Nat.le_of_ble_eq_true rfl⟩ ?_; conv => whnf))
    refine retX_obs rfl rfl (by exact Nat.le_of_ble_eq_true rfl) ⟨⟨rfl, rfl⟩, ⟨rfl, rfl⟩, ⟨rfl, rfl⟩, ⟨rfl, rfl⟩, ⟨rfl, rfl⟩, trivial⟩ ?_
    conv => whnf
    rfl

def thereB (s : Sch) (t : Int) (l : Tab) (key : Row) (m : Nat) : Bool := if h : m < l.length then decide (cmpR (keyR s t l[m]) key = 0) else false
def placeV (s : Sch) (t : Int) (l : Tab) (key : Row) (m : Nat) : AV := .tup [.one (.int .i64 m), .one (.bool (thereB s t l key m))]
theorem place_spec (s : Sch) (t : Int) (l : Tab) (key : Row) (hl : okT l) (hk : okR key) (m : Nat) (hm : m ≤ l.length) (hmono : ∀ (i : Nat) (hi : i < l.length), cmpR (keyR s t l[i]) key ≥ 0 ↔ m ≤ i) :
    PSpec Try.prog 51 [.agg (schC s), .one (.int .i64 t), .one (tabC l), .one (rowC key)] (fun r => r = placeV s t l key m) := by
  refine pspec_x env08_ok mixed08 Try.func51 rfl 28 rfl _ rfl rfl ?_
  conv => whnf
  repeat (first | (refine forkB_true ?_; conv => whnf) | (refine forkB_false ?_; conv => whnf) | (refine reqD_dec (by exact Nat.le_of_ble_eq_true rfl) ?_; conv => whnf) | (refine reqD_dec (by exact Nat.eq_of_beq_eq_true rfl) ?_; conv => whnf) | (refine reqD_dec ⟨by decide, by exact Nat.le_of_ble_eq_true rfl⟩ ?_; conv => whnf))
  refine exI_as _ rfl ?_
  conv => whnf
  repeat (first | (refine forkB_true ?_; conv => whnf) | (refine forkB_false ?_; conv => whnf) | (refine reqD_dec (by exact Nat.le_of_ble_eq_true rfl) ?_; conv => whnf) | (refine reqD_dec (by exact Nat.eq_of_beq_eq_true rfl) ?_; conv => whnf) | (refine reqD_dec ⟨by decide, by exact Nat.le_of_ble_eq_true rfl⟩ ?_; conv => whnf))
  refine callX_obs (search_spec s t l key hl hk m hm hmono) (callee_of Try.func66 rfl rfl) id (posN 5) rfl rfl (.cons (AV.Le.refl _) (.cons (AV.Le.refl _) .nil)) (passedN (obs := plObs5 s t l key) rfl (by exact Nat.le_of_ble_eq_true rfl) ⟨⟨rfl, rfl⟩, ⟨rfl, rfl⟩, ⟨rfl, rfl⟩, ⟨rfl, rfl⟩, ⟨rfl, rfl⟩, trivial⟩) ?_
  rintro x hx rfl
  conv => whnf
  repeat (first | (refine forkB_true ?_; conv => whnf) | (refine forkB_false ?_; conv => whnf) | (refine reqD_dec (by exact Nat.le_of_ble_eq_true rfl) ?_; conv => whnf) | (refine reqD_dec (by exact Nat.eq_of_beq_eq_true rfl) ?_; conv => whnf) | (refine reqD_dec ⟨by decide, by exact Nat.le_of_ble_eq_true rfl⟩ ?_; conv => whnf))
  refine exI_as _ rfl ?_
  conv => whnf
  repeat (first | (refine forkB_true ?_; conv => whnf) | (refine forkB_false ?_; conv => whnf) | (refine reqD_dec (by exact Nat.le_of_ble_eq_true rfl) ?_; conv => whnf) | (refine reqD_dec (by exact Nat.eq_of_beq_eq_true rfl) ?_; conv => whnf) | (refine reqD_dec ⟨by decide, by exact Nat.le_of_ble_eq_true rfl⟩ ?_; conv => whnf))
  have fin : ∀ b : Bool, b = (if h : m < l.length then decide (cmpR (keyR s t l[m]) key = 0) else false) → AV.tup [.one (.int .i64 m), .one (.bool b)] = placeV s t l key m := fun b h => by rw [h]; rfl
  refine forkB_dec (fun h1 => ?_) (fun h1 => ?_)
  · have h1 : m < l.length := by omega
    conv => whnf
    repeat (first | (refine forkB_true ?_; conv => whnf) | (refine forkB_false ?_; conv => whnf) | (refine reqD_dec (by exact Nat.le_of_ble_eq_true rfl) ?_; conv => whnf) | (refine reqD_dec (by exact Nat.eq_of_beq_eq_true rfl) ?_; conv => whnf) | (refine reqD_dec ⟨by decide, by exact Nat.le_of_ble_eq_true rfl⟩ ?_; conv => whnf))
    refine callX_obs (at_spec s t l key hl hk m h1) (callee_of Try.func65 rfl rfl) id (posN 4) rfl rfl (.cons (AV.Le.refl _) (.cons (AV.Le.refl _) (.cons (AV.Le.refl _) (.cons (AV.Le.refl _) (.cons (AV.Le.refl _) .nil))))) (passedN (obs := plObs s t l key) rfl (by exact Nat.le_of_ble_eq_true rfl) ⟨⟨rfl, rfl⟩, ⟨rfl, rfl⟩, ⟨rfl, rfl⟩, ⟨rfl, rfl⟩, trivial⟩) ?_
    rintro x hx rfl
    conv => whnf
    repeat (first | (refine forkB_true ?_; conv => whnf) | (refine forkB_false ?_; conv => whnf) | (refine reqD_dec (by exact Nat.le_of_ble_eq_true rfl) ?_; conv => whnf) | (refine reqD_dec (by exact Nat.eq_of_beq_eq_true rfl) ?_; conv => whnf) | (refine reqD_dec ⟨by decide, by exact Nat.le_of_ble_eq_true rfl⟩ ?_; conv => whnf))
    refine forkB_dec (fun h2 => ?_) (fun h2 => ?_)
    · have h2 : cmpR (keyR s t l[m]) key = 0 := h2
      conv => whnf
      repeat (first | (refine forkB_true ?_; conv => whnf) | (refine forkB_false ?_; conv => whnf) | (refine reqD_dec (by exact Nat.le_of_ble_eq_true rfl) ?_; conv => whnf) | (refine reqD_dec (by exact Nat.eq_of_beq_eq_true rfl) ?_; conv => whnf) | (refine reqD_dec ⟨by decide, by exact Nat.le_of_ble_eq_true rfl⟩ ?_; conv => whnf))
      refine retX_val rfl ?_
      conv => whnf
      exact fin true (by rw [dif_pos h1, decide_eq_true h2])
    · have h2 : ¬ cmpR (keyR s t l[m]) key = 0 := h2
      conv => whnf
      repeat (first | (refine forkB_true ?_; conv => whnf) | (refine forkB_false ?_; conv => whnf) | (refine reqD_dec (by exact Nat.le_of_ble_eq_true rfl) ?_; conv => whnf) | (refine reqD_dec (by exact Nat.eq_of_beq_eq_true rfl) ?_; conv => whnf) | (refine reqD_dec ⟨by decide, by exact Nat.le_of_ble_eq_true rfl⟩ ?_; conv => whnf))
      refine retX_val rfl ?_
      conv => whnf
      exact fin false (by rw [dif_pos h1, decide_eq_false h2])
  · have h1 : ¬ m < l.length := by omega
    conv => whnf
    repeat (first | (refine forkB_true ?_; conv => whnf) | (refine forkB_false ?_; conv => whnf) | (refine reqD_dec (by exact Nat.le_of_ble_eq_true rfl) ?_; conv => whnf) | (refine reqD_dec (by exact Nat.eq_of_beq_eq_true rfl) ?_; conv => whnf) | (refine reqD_dec ⟨by decide, by exact Nat.le_of_ble_eq_true rfl⟩ ?_; conv => whnf))
    refine retX_val rfl ?_
    conv => whnf
    exact fin false (by rw [dif_neg h1])
end Go.Proofs.Ve


/-
  VeV6: what Apply computes.
-/
set_option linter.unusedVariables false
set_option linter.unusedSimpArgs false
namespace Go.Proofs.Ve
open Go

def low (s : Sch) (t : Int) (l : Tab) (key : Row) : Nat := (l.takeWhile (fun r => decide (cmpR (keyR s t r) key < 0))).length
def Mono (s : Sch) (t : Int) (l : Tab) (key : Row) : Prop := ∀ (i : Nat) (hi : i < l.length), cmpR (keyR s t l[i]) key ≥ 0 ↔ low s t l key ≤ i
theorem low_le (s : Sch) (t : Int) (l : Tab) (key : Row) : low s t l key ≤ l.length := (List.takeWhile_sublist _).length_le
theorem there_lt {s : Sch} {t : Int} {l : Tab} {key : Row} {m : Nat} (h : thereB s t l key m = true) : m < l.length := by
  unfold thereB at h
  split at h
  · assumption
  · cases h

def tabAt (cur : St) (t : Int) : Tab := cur.getD t.toNat []
def front (m : Nat) (l : Tab) (new : Row) : Tab := if new.length > 0 then l.take m ++ [new] else l.take m
def behind (th : Bool) (m : Nat) (l : Tab) : Tab := bif th then l.drop (m + 1) else l.drop m
def cnt (th : Bool) (n : Int) (new : Row) : Int := if new.length > 0 then (bif th then n - 1 else n) + 1 else (bif th then n - 1 else n)
def stepC (s : Sch) (mode : Int) (cur : St) (n : Int) (c : Chg) : Int × St × Int :=
  bif !validC s mode c then (71, cur, n) else
    bif (thereB s c.table (tabAt cur c.table) (keyC s c) (low s c.table (tabAt cur c.table) (keyC s c)) != decide (c.old.length > 0)) ||
        (thereB s c.table (tabAt cur c.table) (keyC s c) (low s c.table (tabAt cur c.table) (keyC s c)) && decide (cmpR ((tabAt cur c.table).getD (low s c.table (tabAt cur c.table) (keyC s c)) []) c.old ≠ 0)) then (81, cur, n)
    else if cnt (thereB s c.table (tabAt cur c.table) (keyC s c) (low s c.table (tabAt cur c.table) (keyC s c))) n c.new > 512 then (2, cur, n)
    else (0, cur.set c.table.toNat (front (low s c.table (tabAt cur c.table) (keyC s c)) (tabAt cur c.table) c.new ++ behind (thereB s c.table (tabAt cur c.table) (keyC s c) (low s c.table (tabAt cur c.table) (keyC s c))) (low s c.table (tabAt cur c.table) (keyC s c)) (tabAt cur c.table)),
      cnt (thereB s c.table (tabAt cur c.table) (keyC s c) (low s c.table (tabAt cur c.table) (keyC s c))) n c.new)
/-- The same, once the table, the place and whether it is there are known. -/
def stepT (cur : St) (n : Int) (c : Chg) (l : Tab) (m : Nat) (th : Bool) : Int × St × Int :=
  bif (th != decide (c.old.length > 0)) || (th && decide (cmpR (l.getD m []) c.old ≠ 0)) then (81, cur, n)
  else if cnt th n c.new > 512 then (2, cur, n)
  else (0, cur.set c.table.toNat (front m l c.new ++ behind th m l), cnt th n c.new)
theorem stepC_bad {s : Sch} {mode : Int} {cur : St} {n : Int} {c : Chg} (h : validC s mode c = false) : stepC s mode cur n c = (71, cur, n) := by rw [stepC, h]; rfl
theorem stepC_ok {s : Sch} {mode : Int} {cur : St} {n : Int} {c : Chg} {l : Tab} {m : Nat} {th : Bool} (h : validC s mode c = true) (hl : tabAt cur c.table = l) (hm : low s c.table l (keyC s c) = m) (ht : thereB s c.table l (keyC s c) m = th) : stepC s mode cur n c = stepT cur n c l m th := by
  subst hl hm ht
  rw [stepC, h]
  rfl

def applyL (s : Sch) (mode : Int) : List Chg → St → Int → St × Int
  | [], cur, _ => (cur, 0)
  | c :: r, cur, n => if (stepC s mode cur n c).1 ≠ 0 then ([], (stepC s mode cur n c).1) else applyL s mode r (stepC s mode cur n c).2.1 (stepC s mode cur n c).2.2
def monoL (s : Sch) (mode : Int) : List Chg → St → Int → Prop
  | [], _, _ => True
  | c :: r, cur, n => (validC s mode c = true → Mono s c.table (tabAt cur c.table) (keyC s c)) ∧ ((stepC s mode cur n c).1 = 0 → monoL s mode r (stepC s mode cur n c).2.1 (stepC s mode cur n c).2.2)
def applyS (s : Sch) (e mode : Int) (st : St) (l : List Chg) : St × Int := if checkS s e mode st ≠ 0 then ([], checkS s e mode st) else applyL s mode l st (countS st)
def applyV (q : St × Int) : AV := .tup [.agg (stC q.1), .one (.int .i64 q.2)]

structure okI (s : Sch) (cur : St) (n : Int) : Prop where
  cnt : (countS cur : Int) = n
  le : n ≤ 512
  len : cur.length = s.tables.length
  row : ∀ l ∈ cur, ∀ r ∈ l, okR r

theorem valid_tab {s : Sch} {mode : Int} {c : Chg} (h : validC s mode c = true) : 0 ≤ c.table ∧ c.table < s.tables.length := by
  unfold validC at h
  rw [Bool.and_eq_true] at h
  exact of_decide_eq_true h.1

theorem countS_set : ∀ (cur : St) (t : Nat) (l' : Tab) (h : t < cur.length), countS (cur.set t l') + cur[t].length = countS cur + l'.length
  | a :: cur, 0, l', h => by simp [countS]; omega
  | a :: cur, t + 1, l', h => by
    have := countS_set cur t l' (by simpa using h)
    simp [countS] at this ⊢
    omega
theorem countS_get : ∀ (cur : St) (t : Nat) (h : t < cur.length), cur[t].length ≤ countS cur
  | a :: cur, 0, h => by simp [countS]
  | a :: cur, t + 1, h => by
    have := countS_get cur t (by simpa using h)
    simp [countS] at this ⊢
    omega

theorem tabAt_get {cur : St} {t : Int} (h : t.toNat < cur.length) : tabAt cur t = cur[t.toNat] := by
  unfold tabAt
  rw [List.getD_eq_getElem?_getD, List.getElem?_eq_getElem h]
  rfl

theorem stepT_ok {s : Sch} {cur : St} {n : Int} {c : Chg} {l : Tab} {m : Nat} {th : Bool} (hI : okI s cur n) (ht : 0 ≤ c.table ∧ c.table < s.tables.length) (hl : tabAt cur c.table = l) (hm : m ≤ l.length) (hth : th = true → m < l.length) (hc : okC c)
    (h : cnt th n c.new ≤ 512) : okI s (cur.set c.table.toNat (front m l c.new ++ behind th m l)) (cnt th n c.new) := by
  have hlt : c.table.toNat < cur.length := by rw [hI.len]; omega
  have hg := tabAt_get hlt
  rw [hl] at hg
  refine ⟨?_, h, by rw [List.length_set]; exact hI.len, ?_⟩
  · have h1 := countS_set cur c.table.toNat (front m l c.new ++ behind th m l) hlt
    rw [← hg] at h1
    have h2 := hI.cnt
    have h3 : (front m l c.new ++ behind th m l).length = (if c.new.length > 0 then m + 1 else m) + (bif th then l.length - (m + 1) else l.length - m) := by
      rw [List.length_append]
      unfold front behind
      cases th <;> split <;> simp <;> omega
    rw [h3] at h1
    unfold cnt
    cases th with
    | true =>
      have := hth rfl
      simp only [cond_true] at h1 ⊢
      split at h1 <;> rename_i hn <;> simp only [hn] <;> simp <;> omega
    | false =>
      simp only [cond_false] at h1 ⊢
      split at h1 <;> rename_i hn <;> simp only [hn] <;> simp <;> omega
  · intro x hx r hr
    rcases List.mem_or_eq_of_mem_set hx with h1 | h1
    · exact hI.row x h1 r hr
    · rw [h1] at hr
      have hlm : l ∈ cur := by rw [hg]; exact List.getElem_mem hlt
      rcases List.mem_append.1 hr with h2 | h2
      · unfold front at h2
        split at h2
        · rcases List.mem_append.1 h2 with h3 | h3
          · exact hI.row l hlm r (List.mem_of_mem_take h3)
          · rw [List.mem_singleton] at h3
            rw [h3]
            exact hc.2
        · exact hI.row l hlm r (List.mem_of_mem_take h2)
      · unfold behind at h2
        cases th with
        | true => exact hI.row l hlm r (List.mem_of_mem_drop h2)
        | false => exact hI.row l hlm r (List.mem_of_mem_drop h2)

def fullT (l : Tab) : AC := .sl true 24 l.length (l.flatMap rowC1)
theorem slice_from (l : Tab) (d : Bool) (m : Nat) (hm : m ≤ l.length) : AV.one (.sl (false && d) 24 (l.length - m) (((l.flatMap rowC1).drop (m * 1)).take ((l.length - m) * 1))) = .one (tabC (l.drop m)) := by
  have := slice_flat (f := rowC1) rowC1_len l 24 d m l.length (Nat.le_refl _)
  rw [this, List.take_of_length_le (by simp)]
  rfl
theorem slice_full (l : Tab) (m : Nat) (hm : m ≤ l.length) : AV.one (.sl true 24 m ((l.flatMap rowC1).take (m * 1))) = .one (fullT (l.take m)) := by
  rw [flat_take rowC1_len]
  unfold fullT
  rw [List.length_take, Nat.min_eq_left hm]
theorem set_flat (cur : St) (t : Nat) (l : Tab) : (cur.flatMap tabC1).set t (tabC l) = (cur.set t l).flatMap tabC1 := by
  have : ∀ st : St, st.flatMap tabC1 = st.map tabC := fun st => by
    induction st with
    | nil => rfl
    | cons a l ih => rw [List.map_cons, List.flatMap_cons, ih]; rfl
  rw [this, this, List.map_set]
end Go.Proofs.Ve

