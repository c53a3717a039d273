/-
  VeSix: joined by wip/tools/merge.py out of VeV7 VeV8 VeV9 VeVa VeVb.
-/
import Derived.Test.YtcdfmdiifgpdnaaVeFiv
import Derived.Test.YtcdfmdiifgpdnaaVeTri
/-
  VeV7: Apply.
-/
set_option linter.unusedVariables false
set_option linter.unusedSimpArgs false
set_option pp.maxSteps 1000
set_option maxHeartbeats 2000000
namespace Go.Proofs.Ve
open Go

/-- The state ahead of the last statement of a round. -/
def apS (mode n : Int) (i : Nat) (cur : St) (l : List Chg) (s : Sch) (c : Chg) (F B : Tab) (n' : Int) : AS :=
  AS.of 124 0 6 [(1, .one (.int .i64 mode)), (4, .one (.ptr 0 0)), (8, .one (.ptr 2 0)), (11, .one (.ptr 4 0)), (12, .one (.int .i64 n')), (14, .one (.ptr 5 0)), (15, .one (tabC F)), (18, .one (tabC B)), (31, .one (chgsC l)), (32, .one (.int .i64 l.length)), (33, .one (.int .i64 (i : Nat)))]
    [(0, ⟨32, 0, 0, schC s⟩), (2, ⟨25, 0, 0, [nilC]⟩), (3, ⟨41, 1, 24, cur.flatMap tabC1⟩), (4, ⟨25, 0, 0, [.gref 3]⟩), (5, ⟨60, 0, 0, chgC c⟩)]
theorem apply_spec (s : Sch) (e mode : Int) (st : St) (l : List Chg) (h53 : PSpec Try.prog 53 [.agg (schC s)] (fun x => x = .one (.int .i64 e))) (h1 : st.length ≤ 1099511627776) (hst : ∀ l ∈ st, okT l) (hcs : countS st ≤ 9223372036854775807) (hl : l.length ≤ 1099511627776) (hlc : ∀ c ∈ l, okC c)
    (hmono : checkS s e mode st = 0 → monoL s mode l st (countS st)) :
    PSpec Try.prog 23 [.agg (schC s), .one (.int .i64 mode), .agg (stC st), .one (chgsC l)] (fun r => r = applyV (applyS s e mode st l)) := by
  refine pspec_x env08_ok mixed08 Try.func23 rfl 124 rfl _ rfl rfl ?_
  conv => whnf
  repeat (first | (refine forkB_true ?_; conv => whnf) | (refine forkB_false ?_; conv => whnf) | (refine reqD_dec (by exact Nat.le_of_ble_eq_true rfl) ?_; conv => whnf) | (refine reqD_dec (by exact Nat.eq_of_beq_eq_true rfl) ?_; conv => whnf) | (refine reqD_dec ⟨by decide, by exact Nat.le_of_ble_eq_true rfl⟩ ?_; conv => whnf))
  refine callX_le (check_spec s e mode st h53 (by omega) hst hcs) (callee_of Try.func24 rfl rfl) rfl rfl (.cons (AV.Le.refl _) (.cons (AV.Le.refl _) (.cons (AV.Le.refl _) .nil))) rfl ?_
  rintro x hx rfl
  conv => whnf
  repeat (first | (refine forkB_true ?_; conv => whnf) | (refine forkB_false ?_; conv => whnf) | (refine reqD_dec (by exact Nat.le_of_ble_eq_true rfl) ?_; conv => whnf) | (refine reqD_dec (by exact Nat.eq_of_beq_eq_true rfl) ?_; conv => whnf) | (refine reqD_dec ⟨by decide, by exact Nat.le_of_ble_eq_true rfl⟩ ?_; conv => whnf))
  refine forkB_intro (fun h2 => ?_) (fun h2 => ?_)
  · have h2 : checkS s e mode st ≠ 0 := by simpa using h2
    have ea : applyS s e mode st l = ([], checkS s e mode st) := by rw [applyS, if_pos h2]
    conv => whnf
    repeat (first | (refine forkB_true ?_; conv => whnf) | (refine forkB_false ?_; conv => whnf) | (refine reqD_dec (by exact Nat.le_of_ble_eq_true rfl) ?_; conv => whnf) | (refine reqD_dec (by exact Nat.eq_of_beq_eq_true rfl) ?_; conv => whnf) | (refine reqD_dec ⟨by decide, by exact Nat.le_of_ble_eq_true rfl⟩ ?_; conv => whnf))
    refine retX_tr (Tr.obj 2 (ob := ⟨25, 0, 0, [nilC]⟩) rfl (cells := [tabsC []]) (Pw.one (AC.LeV.sl (AC.Le.nil (.inl rfl))))) ?_
    refine retX_val rfl ?_
    conv => whnf
    rw [ea]
    rfl
  · have h2 : checkS s e mode st = 0 := by simpa using h2
    have ea : applyS s e mode st l = applyL s mode l st (countS st) := by rw [applyS, if_neg (by simpa using h2)]
    have hmono := hmono h2
    conv => whnf
    repeat (first | (refine forkB_true ?_; conv => whnf) | (refine forkB_false ?_; conv => whnf) | (refine reqD_dec (by exact Nat.le_of_ble_eq_true rfl) ?_; conv => whnf) | (refine reqD_dec (by exact Nat.eq_of_beq_eq_true rfl) ?_; conv => whnf) | (refine reqD_dec ⟨by decide, by exact Nat.le_of_ble_eq_true rfl⟩ ?_; conv => whnf))
    refine callX_new (cloned_spec st h1 hst) (callee_of Try.func49 rfl rfl) (fun n => .agg [.gref n]) (fun n => by simp [AV.ren, AC.renL, AC.ren, cren]) (fun ρ => ob_ren_deep ρ (all_flat tabC1_deep st)) rfl rfl (.cons (AV.Le.refl _) .nil) rfl ?_
    conv => whnf
    repeat (first | (refine forkB_true ?_; conv => whnf) | (refine forkB_false ?_; conv => whnf) | (refine reqD_dec (by exact Nat.le_of_ble_eq_true rfl) ?_; conv => whnf) | (refine reqD_dec (by exact Nat.eq_of_beq_eq_true rfl) ?_; conv => whnf) | (refine reqD_dec ⟨by decide, by exact Nat.le_of_ble_eq_true rfl⟩ ?_; conv => whnf))
    refine callX_lend (Tr.frz' 3 st.length rfl (show 0 < 1 by decide) (flat_len tabC1_len st) (all_flat tabC1_deep st)) (count_spec st (by omega) hcs) callee13 (fun r h => by rw [h]; rfl) rfl rfl (.cons (AV.Le.refl _) .nil) rfl ?_
    rintro x rfl
    conv => whnf
    repeat (first | (refine forkB_true ?_; conv => whnf) | (refine forkB_false ?_; conv => whnf) | (refine reqD_dec (by exact Nat.le_of_ble_eq_true rfl) ?_; conv => whnf) | (refine reqD_dec (by exact Nat.eq_of_beq_eq_true rfl) ?_; conv => whnf) | (refine reqD_dec ⟨by decide, by exact Nat.le_of_ble_eq_true rfl⟩ ?_; conv => whnf))
    refine exI_as _ rfl ?_
    conv => whnf
    repeat (first | (refine forkB_true ?_; conv => whnf) | (refine forkB_false ?_; conv => whnf) | (refine reqD_dec (by exact Nat.le_of_ble_eq_true rfl) ?_; conv => whnf) | (refine reqD_dec (by exact Nat.eq_of_beq_eq_true rfl) ?_; conv => whnf) | (refine reqD_dec ⟨by decide, by exact Nat.le_of_ble_eq_true rfl⟩ ?_; conv => whnf))
    have hI0 : okI s st (countS st) := by
      refine ⟨rfl, ?_, ?_, fun l hl => (hst l hl).2⟩
      · unfold checkS at h2
        split at h2
        · omega
        · split at h2
          · omega
          · split at h2
            · omega
            · omega
      · unfold checkS at h2
        split at h2
        · omega
        · split at h2
          · omega
          · split at h2
            · omega
            · split at h2
              · omega
              · rename_i h; simpa using h
    refine loopX_of env08_ok mixed08 (σ := Nat × St × Int) (fun q => AS.of 124 0 5 [(1, .one (.int .i64 mode)), (4, .one (.ptr 0 0)), (8, .one (.ptr 2 0)), (11, .one (.ptr 4 0)), (12, .one (.int .i64 q.2.2)), (31, .one (chgsC l)), (32, .one (.int .i64 l.length)), (33, .one (.int .i64 (q.1 : Nat)))]
        [(0, ⟨32, 0, 0, schC s⟩), (2, ⟨25, 0, 0, [nilC]⟩), (3, ⟨41, 1, 24, q.2.1.flatMap tabC1⟩), (4, ⟨25, 0, 0, [.gref 3]⟩)])
      (fun q => q.1 ≤ l.length ∧ applyL s mode l st (countS st) = applyL s mode (l.drop q.1) q.2.1 q.2.2 ∧ monoL s mode (l.drop q.1) q.2.1 q.2.2 ∧ okI s q.2.1 q.2.2) (fun q => l.length - q.1) (0, st, (countS st : Int)) (fun _ => rfl)
      (Tr.ofId rfl rfl (by decide) (by exact Nat.le_of_ble_eq_true rfl) ⟨⟨rfl, rfl⟩, ⟨rfl, rfl⟩, ⟨rfl, rfl⟩, ⟨rfl, rfl⟩, ⟨rfl, rfl⟩, ⟨rfl, rfl⟩, ⟨rfl, rfl⟩, ⟨rfl, rfl⟩, trivial⟩ ⟨⟨rfl, rfl, by decide⟩, ⟨rfl, rfl, by decide⟩, ⟨(congrArg some (ob_ren_deep _ (all_flat tabC1_deep st))).symm, ob_lt_deep _ (all_flat tabC1_deep st), by decide⟩, ⟨rfl, rfl, by decide⟩, trivial⟩) ⟨Nat.zero_le _, rfl, hmono, hI0⟩ ?_
    rintro ⟨i, cur, n⟩ ⟨hi, hap, hmo, hI⟩
    have hi : i ≤ l.length := hi
    have hap : applyL s mode l st (countS st) = applyL s mode (l.drop i) cur n := hap
    have hmo : monoL s mode (l.drop i) cur n := hmo
    have hI : okI s cur n := hI
    clear hI0 hmono hcs hst
    conv => whnf
    repeat (first | (refine forkB_true ?_; conv => whnf) | (refine forkB_false ?_; conv => whnf) | (refine reqD_dec (by exact Nat.le_of_ble_eq_true rfl) ?_; conv => whnf) | (refine reqD_dec (by exact Nat.eq_of_beq_eq_true rfl) ?_; conv => whnf) | (refine reqD_dec ⟨by decide, by exact Nat.le_of_ble_eq_true rfl⟩ ?_; conv => whnf))
    refine forkB_dec (fun h3 => ?_) (fun h3 => ?_)
    · have hi2 : i < l.length := by have h3 : (i : Int) < l.length := h3; omega
      rw [List.drop_eq_getElem_cons hi2] at hap hmo
      have hc := hlc _ (List.getElem_mem hi2)
      obtain ⟨c, hce⟩ : ∃ c, l[i] = c := ⟨_, rfl⟩
      rw [hce] at hap hmo hc
      rw [applyL] at hap
      obtain ⟨hmo1, hmo2⟩ := hmo
      conv => whnf
      repeat (first | (refine forkB_true ?_; conv => whnf) | (refine forkB_false ?_; conv => whnf) | (refine reqD_dec (by exact Nat.le_of_ble_eq_true rfl) ?_; conv => whnf) | (refine reqD_dec (by exact Nat.eq_of_beq_eq_true rfl) ?_; conv => whnf) | (refine reqD_dec ⟨by decide, by exact Nat.le_of_ble_eq_true rfl⟩ ?_; conv => whnf))
      refine reqD_dec (by first | omega | decide | (simp [ty27, ty58, ty41, ty23, ty55, ty30, ty60, ty56, ty3, ty39]; done) | (simp [ty27, ty58, ty41, ty23, ty55, ty30, ty60, ty56, ty3, ty39]; omega)) ?_
      conv => whnf
      repeat (first | (refine forkB_true ?_; conv => whnf) | (refine forkB_false ?_; conv => whnf) | (refine reqD_dec (by exact Nat.le_of_ble_eq_true rfl) ?_; conv => whnf) | (refine reqD_dec (by exact Nat.eq_of_beq_eq_true rfl) ?_; conv => whnf) | (refine reqD_dec ⟨by decide, by exact Nat.le_of_ble_eq_true rfl⟩ ?_; conv => whnf))
      refine forceL_as (chgC c) ((flat_get (f := chgC) chgC_len l i hi2).trans (by rw [hce])) ?_
      conv => whnf
      repeat (first | (refine forkB_true ?_; conv => whnf) | (refine forkB_false ?_; conv => whnf) | (refine reqD_dec (by exact Nat.le_of_ble_eq_true rfl) ?_; conv => whnf) | (refine reqD_dec (by exact Nat.eq_of_beq_eq_true rfl) ?_; conv => whnf) | (refine reqD_dec ⟨by decide, by exact Nat.le_of_ble_eq_true rfl⟩ ?_; conv => whnf))
      refine callX_le (validC_spec s mode c hc) (callee_of Try.func50 rfl rfl) rfl rfl (.cons (AV.Le.refl _) (.cons (AV.Le.refl _) (.cons (AV.Le.refl _) .nil))) rfl ?_
      rintro x hx rfl
      have bad : ∀ k cur' n', stepC s mode cur n c = (k, cur', n') → k ≠ 0 → applyS s e mode st l = ([], k) := fun k cur' n' h h' => by rw [ea, hap, h, if_pos h']
      cases hv : validC s mode c with
      | false =>
        conv => whnf
        repeat' (first | (refine forkB_true ?_; conv => whnf) | (refine forkB_false ?_; conv => whnf) | (refine reqD_dec (by exact Nat.le_of_ble_eq_true rfl) ?_; conv => whnf) | (refine reqD_dec (by exact Nat.eq_of_beq_eq_true rfl) ?_; conv => whnf) | (refine exI_i64 (by omega) (by omega) ?_; conv => whnf) | (refine exI_as _ rfl ?_; conv => whnf) | (refine forkB_dec (fun _ => ?_) (fun _ => ?_) <;> conv => whnf) | (refine forkB_intro (fun _ => ?_) (fun _ => ?_) <;> conv => whnf))
        refine retX_tr (Tr.obj 2 (ob := ⟨25, 0, 0, [nilC]⟩) rfl (cells := [tabsC []]) (Pw.one (AC.LeV.sl (AC.Le.nil (.inl rfl))))) ?_
        refine retX_val rfl ?_
        conv => whnf
        rw [bad _ _ _ (stepC_bad hv) (by decide)]
        rfl
      | true =>
        have ht := valid_tab hv
        have hlt : c.table.toNat < cur.length := by rw [hI.len]; omega
        have hmm := hmo1 hv
        obtain ⟨T, hT⟩ : ∃ T, tabAt cur c.table = T := ⟨_, rfl⟩
        rw [hT] at hmm
        have hTg : cur[c.table.toNat] = T := by rw [← tabAt_get hlt]; exact hT
        obtain ⟨m, hm⟩ : ∃ m, low s c.table T (keyC s c) = m := ⟨_, rfl⟩
        have hml : m ≤ T.length := hm ▸ low_le s c.table T (keyC s c)
        have hTl : T.length ≤ 512 := by
          have h4 := countS_get cur c.table.toNat hlt
          rw [hTg] at h4
          have h5 := hI.cnt
          have h6 := hI.le
          omega
        have hTm : T ∈ cur := by rw [← hTg]; exact List.getElem_mem hlt
        have hTo : okT T := ⟨by omega, hI.row T hTm⟩
        have hn0 : 0 ≤ n ∧ n ≤ 512 := by have := hI.cnt; have := hI.le; omega
        unfold Mono at hmm
        rw [hm] at hmm
        conv => whnf
        repeat' (first | (refine forkB_true ?_; conv => whnf) | (refine forkB_false ?_; conv => whnf) | (refine reqD_dec (by exact Nat.le_of_ble_eq_true rfl) ?_; conv => whnf) | (refine reqD_dec (by exact Nat.eq_of_beq_eq_true rfl) ?_; conv => whnf) | (refine exI_i64 (by omega) (by omega) ?_; conv => whnf) | (refine exI_as _ rfl ?_; conv => whnf) | (refine forkB_dec (fun _ => ?_) (fun _ => ?_) <;> conv => whnf) | (refine forkB_intro (fun _ => ?_) (fun _ => ?_) <;> conv => whnf))
        refine reqD_dec (by show 0 ≤ c.table ∧ c.table.toNat * 1 < (cur.flatMap tabC1).length; rw [flat_len tabC1_len]; omega) ?_
        conv => whnf
        repeat (first | (refine forkB_true ?_; conv => whnf) | (refine forkB_false ?_; conv => whnf) | (refine reqD_dec (by exact Nat.le_of_ble_eq_true rfl) ?_; conv => whnf) | (refine reqD_dec (by exact Nat.eq_of_beq_eq_true rfl) ?_; conv => whnf) | (refine reqD_dec ⟨by decide, by exact Nat.le_of_ble_eq_true rfl⟩ ?_; conv => whnf))
        refine forceL_as [tabC T] ((flat_get (f := tabC1) tabC1_len cur c.table.toNat hlt).trans (by rw [hTg]; rfl)) ?_
        conv => whnf
        repeat (first | (refine forkB_true ?_; conv => whnf) | (refine forkB_false ?_; conv => whnf) | (refine reqD_dec (by exact Nat.le_of_ble_eq_true rfl) ?_; conv => whnf) | (refine reqD_dec (by exact Nat.eq_of_beq_eq_true rfl) ?_; conv => whnf) | (refine reqD_dec ⟨by decide, by exact Nat.le_of_ble_eq_true rfl⟩ ?_; conv => whnf))
        refine drawnX_phase env08_ok (fun _ => true) [0, 1, 2, 3, 4, 5, 6, 7, 8, 9, 10, 11, 12] (.take 0 (.take 1 (.take 2 (.take 3 (.take 4 (.take 5 (.one 6 (.one 7 (.take 8 (.take 9 (.take 10 (.take 11 (.take 12 (.stop)))))))))))))) 0 #[true, true, true, true, true, true, true, true, true, true, true, true, true] (by kernel_rfl) ?_
        conv => whnf
        repeat (first | (refine forkB_true ?_; conv => whnf) | (refine forkB_false ?_; conv => whnf) | (refine reqD_dec (by exact Nat.le_of_ble_eq_true rfl) ?_; conv => whnf) | (refine reqD_dec (by exact Nat.eq_of_beq_eq_true rfl) ?_; conv => whnf) | (refine reqD_dec ⟨by decide, by exact Nat.le_of_ble_eq_true rfl⟩ ?_; conv => whnf))
        have hko : okR (keyC s c) := by
          unfold okR keyC
          have h4 := keyR_le s c.table c.old
          have h5 := keyR_le s c.table c.new
          have h6 := hc.1
          have h7 := hc.2
          unfold okR at h6 h7
          split <;> omega
        refine callX_le (keyOf_spec s c hc.1 hc.2) (callee_of Try.func52 rfl rfl) rfl rfl (.cons (AV.Le.refl _) (.cons (AV.Le.refl _) .nil)) rfl ?_
        rintro x hx rfl
        conv => whnf
        repeat (first | (refine forkB_true ?_; conv => whnf) | (refine forkB_false ?_; conv => whnf) | (refine reqD_dec (by exact Nat.le_of_ble_eq_true rfl) ?_; conv => whnf) | (refine reqD_dec (by exact Nat.eq_of_beq_eq_true rfl) ?_; conv => whnf) | (refine reqD_dec ⟨by decide, by exact Nat.le_of_ble_eq_true rfl⟩ ?_; conv => whnf))
        refine callX_le (place_spec s c.table T (keyC s c) hTo hko m hml hmm) (callee_of Try.func51 rfl rfl) rfl rfl (.cons (AV.Le.refl _) (.cons (AV.Le.refl _) (.cons (AV.Le.refl _) (.cons (AV.Le.refl _) .nil)))) rfl ?_
        intro x hx h4
        unfold placeV at h4
        subst h4
        have hst := fun th h => stepC_ok (n := n) (th := th) hv hT hm h
        cases hth : thereB s c.table T (keyC s c) m with
        | true =>
          have hst := hst true hth
          have hmT := there_lt hth
          have hthm : true = true → m < T.length := fun _ => hmT
          conv => whnf
          repeat (first | (refine forkB_true ?_; conv => whnf) | (refine forkB_false ?_; conv => whnf) | (refine reqD_dec (by exact Nat.le_of_ble_eq_true rfl) ?_; conv => whnf) | (refine reqD_dec (by exact Nat.eq_of_beq_eq_true rfl) ?_; conv => whnf) | (refine reqD_dec ⟨by decide, by exact Nat.le_of_ble_eq_true rfl⟩ ?_; conv => whnf))
          refine drawnX_done (by kernel_rfl) ?_
          conv => whnf
          repeat (first | (refine forkB_true ?_; conv => whnf) | (refine forkB_false ?_; conv => whnf) | (refine reqD_dec (by exact Nat.le_of_ble_eq_true rfl) ?_; conv => whnf) | (refine reqD_dec (by exact Nat.eq_of_beq_eq_true rfl) ?_; conv => whnf) | (refine reqD_dec ⟨by decide, by exact Nat.le_of_ble_eq_true rfl⟩ ?_; conv => whnf))
          refine drawnX_phase env08_ok (fun _ => true) [0, 1, 2, 3, 4, 5, 6, 7, 8, 9, 10, 11, 12, 13, 14, 15, 16, 17, 18] (.take 0 (.take 1 (.take 2 (.take 3 (.take 4 (.take 5 (.take 6 (.take 7 (.take 8 (.take 9 (.take 10 (.take 11 (.take 12 (.take 13 (.take 14 (.one 15 (.take 16 (.take 17 (.take 18 (.stop)))))))))))))))))))) 0 #[true, true, true, true, true, true, true, true, true, true, true, true, true, true, true, true, true, true, true] (by kernel_rfl) ?_
          conv => whnf
          repeat (first | (refine forkB_true ?_; conv => whnf) | (refine forkB_false ?_; conv => whnf) | (refine reqD_dec (by exact Nat.le_of_ble_eq_true rfl) ?_; conv => whnf) | (refine reqD_dec (by exact Nat.eq_of_beq_eq_true rfl) ?_; conv => whnf) | (refine reqD_dec ⟨by decide, by exact Nat.le_of_ble_eq_true rfl⟩ ?_; conv => whnf))
          refine exI_as _ rfl ?_
          conv => whnf
          repeat (first | (refine forkB_true ?_; conv => whnf) | (refine forkB_false ?_; conv => whnf) | (refine reqD_dec (by exact Nat.le_of_ble_eq_true rfl) ?_; conv => whnf) | (refine reqD_dec (by exact Nat.eq_of_beq_eq_true rfl) ?_; conv => whnf) | (refine reqD_dec ⟨by decide, by exact Nat.le_of_ble_eq_true rfl⟩ ?_; conv => whnf))
          refine forkB_dec (fun h4 => ?_) (fun h4 => ?_)
          · have h4 : decide (c.old.length > 0) = true := decide_eq_true (by omega)
            conv => whnf
            repeat (first | (refine forkB_true ?_; conv => whnf) | (refine forkB_false ?_; conv => whnf) | (refine reqD_dec (by exact Nat.le_of_ble_eq_true rfl) ?_; conv => whnf) | (refine reqD_dec (by exact Nat.eq_of_beq_eq_true rfl) ?_; conv => whnf) | (refine reqD_dec ⟨by decide, by exact Nat.le_of_ble_eq_true rfl⟩ ?_; conv => whnf))
            refine reqD_dec (by omega) ?_
            conv => whnf
            repeat (first | (refine forkB_true ?_; conv => whnf) | (refine forkB_false ?_; conv => whnf) | (refine reqD_dec (by exact Nat.le_of_ble_eq_true rfl) ?_; conv => whnf) | (refine reqD_dec (by exact Nat.eq_of_beq_eq_true rfl) ?_; conv => whnf) | (refine reqD_dec ⟨by decide, by exact Nat.le_of_ble_eq_true rfl⟩ ?_; conv => whnf))
            refine forceL_as (rowC1 T[m]) (flat_get (f := rowC1) rowC1_len T m hmT) ?_
            conv => whnf
            repeat (first | (refine forkB_true ?_; conv => whnf) | (refine forkB_false ?_; conv => whnf) | (refine reqD_dec (by exact Nat.le_of_ble_eq_true rfl) ?_; conv => whnf) | (refine reqD_dec (by exact Nat.eq_of_beq_eq_true rfl) ?_; conv => whnf) | (refine reqD_dec ⟨by decide, by exact Nat.le_of_ble_eq_true rfl⟩ ?_; conv => whnf))
            refine callX_le (compareRows_spec T[m] c.old (by have := hTo.2 _ (List.getElem_mem hmT); unfold okR at this; omega) (by have := hc.1; unfold okR at this; omega)) callee42 rfl rfl (.cons (AV.Le.refl _) (.cons (AV.Le.refl _) .nil)) rfl ?_
            rintro x hx rfl
            conv => whnf
            repeat (first | (refine forkB_true ?_; conv => whnf) | (refine forkB_false ?_; conv => whnf) | (refine reqD_dec (by exact Nat.le_of_ble_eq_true rfl) ?_; conv => whnf) | (refine reqD_dec (by exact Nat.eq_of_beq_eq_true rfl) ?_; conv => whnf) | (refine reqD_dec ⟨by decide, by exact Nat.le_of_ble_eq_true rfl⟩ ?_; conv => whnf))
            have hg : T.getD m [] = T[m] := by rw [List.getD_eq_getElem?_getD, List.getElem?_eq_getElem hmT]; rfl
            refine forkB_intro (fun h5 => ?_) (fun h5 => ?_)
            · have h5 : cmpR T[m] c.old ≠ 0 := by simpa using h5
              conv => whnf
              repeat (first | (refine forkB_true ?_; conv => whnf) | (refine forkB_false ?_; conv => whnf) | (refine reqD_dec (by exact Nat.le_of_ble_eq_true rfl) ?_; conv => whnf) | (refine reqD_dec (by exact Nat.eq_of_beq_eq_true rfl) ?_; conv => whnf) | (refine reqD_dec ⟨by decide, by exact Nat.le_of_ble_eq_true rfl⟩ ?_; conv => whnf))
              refine drawnX_done (by kernel_rfl) ?_
              conv => whnf
              repeat (first | (refine forkB_true ?_; conv => whnf) | (refine forkB_false ?_; conv => whnf) | (refine reqD_dec (by exact Nat.le_of_ble_eq_true rfl) ?_; conv => whnf) | (refine reqD_dec (by exact Nat.eq_of_beq_eq_true rfl) ?_; conv => whnf) | (refine reqD_dec ⟨by decide, by exact Nat.le_of_ble_eq_true rfl⟩ ?_; conv => whnf))
              refine retX_tr (Tr.obj 2 (ob := ⟨25, 0, 0, [nilC]⟩) rfl (cells := [tabsC []]) (Pw.one (AC.LeV.sl (AC.Le.nil (.inl rfl))))) ?_
              refine retX_val rfl ?_
              conv => whnf
              rw [bad 81 cur n (by rw [hst, stepT, h4, hg, decide_eq_true h5]; rfl) (by decide)]
              rfl
            · have h5 : cmpR T[m] c.old = 0 := by simpa using h5
              have hst : stepC s mode cur n c = if cnt true n c.new > 512 then (2, cur, n) else (0, cur.set c.table.toNat (front m T c.new ++ behind true m T), cnt true n c.new) := hst.trans (by rw [stepT, h4, hg, decide_eq_false (by simpa using h5)]; rfl)
              conv => whnf
              repeat (first | (refine forkB_true ?_; conv => whnf) | (refine forkB_false ?_; conv => whnf) | (refine reqD_dec (by exact Nat.le_of_ble_eq_true rfl) ?_; conv => whnf) | (refine reqD_dec (by exact Nat.eq_of_beq_eq_true rfl) ?_; conv => whnf) | (refine reqD_dec ⟨by decide, by exact Nat.le_of_ble_eq_true rfl⟩ ?_; conv => whnf))
              refine drawnX_done (by kernel_rfl) ?_
              conv => whnf
              repeat (first | (refine forkB_true ?_; conv => whnf) | (refine forkB_false ?_; conv => whnf) | (refine reqD_dec (by exact Nat.le_of_ble_eq_true rfl) ?_; conv => whnf) | (refine reqD_dec (by exact Nat.eq_of_beq_eq_true rfl) ?_; conv => whnf) | (refine reqD_dec ⟨by decide, by exact Nat.le_of_ble_eq_true rfl⟩ ?_; conv => whnf))
              refine reqD_dec (flat_len rowC1_len T) ?_
              conv => whnf
              repeat (first | (refine forkB_true ?_; conv => whnf) | (refine forkB_false ?_; conv => whnf) | (refine reqD_dec (by exact Nat.le_of_ble_eq_true rfl) ?_; conv => whnf) | (refine reqD_dec (by exact Nat.eq_of_beq_eq_true rfl) ?_; conv => whnf) | (refine reqD_dec ⟨by decide, by exact Nat.le_of_ble_eq_true rfl⟩ ?_; conv => whnf))
              refine reqD_dec (by omega) ?_
              refine exV_as (.one (tabC (T.drop (m)))) (slice_from T _ (m) (by omega)) ?_
              conv => whnf
              repeat (first | (refine forkB_true ?_; conv => whnf) | (refine forkB_false ?_; conv => whnf) | (refine reqD_dec (by exact Nat.le_of_ble_eq_true rfl) ?_; conv => whnf) | (refine reqD_dec (by exact Nat.eq_of_beq_eq_true rfl) ?_; conv => whnf) | (refine reqD_dec ⟨by decide, by exact Nat.le_of_ble_eq_true rfl⟩ ?_; conv => whnf))
              refine exI_i64 (by omega) (by omega) ?_
              conv => whnf
              repeat (first | (refine forkB_true ?_; conv => whnf) | (refine forkB_false ?_; conv => whnf) | (refine reqD_dec (by exact Nat.le_of_ble_eq_true rfl) ?_; conv => whnf) | (refine reqD_dec (by exact Nat.eq_of_beq_eq_true rfl) ?_; conv => whnf) | (refine reqD_dec ⟨by decide, by exact Nat.le_of_ble_eq_true rfl⟩ ?_; conv => whnf))
              refine reqD_dec (flat_len rowC1_len T) ?_
              conv => whnf
              repeat (first | (refine forkB_true ?_; conv => whnf) | (refine forkB_false ?_; conv => whnf) | (refine reqD_dec (by exact Nat.le_of_ble_eq_true rfl) ?_; conv => whnf) | (refine reqD_dec (by exact Nat.eq_of_beq_eq_true rfl) ?_; conv => whnf) | (refine reqD_dec ⟨by decide, by exact Nat.le_of_ble_eq_true rfl⟩ ?_; conv => whnf))
              refine reqD_dec (by omega) ?_
              refine exV_as (.one (tabC (T.drop (m + 1)))) (slice_from T _ (m + 1) (by omega)) ?_
              conv => whnf
              repeat (first | (refine forkB_true ?_; conv => whnf) | (refine forkB_false ?_; conv => whnf) | (refine reqD_dec (by exact Nat.le_of_ble_eq_true rfl) ?_; conv => whnf) | (refine reqD_dec (by exact Nat.eq_of_beq_eq_true rfl) ?_; conv => whnf) | (refine reqD_dec ⟨by decide, by exact Nat.le_of_ble_eq_true rfl⟩ ?_; conv => whnf))
              refine exI_i64 (by show -9223372036854775808 ≤ n - 1; omega) (by show n - 1 ≤ 9223372036854775807; omega) ?_
              conv => whnf
              repeat (first | (refine forkB_true ?_; conv => whnf) | (refine forkB_false ?_; conv => whnf) | (refine reqD_dec (by exact Nat.le_of_ble_eq_true rfl) ?_; conv => whnf) | (refine reqD_dec (by exact Nat.eq_of_beq_eq_true rfl) ?_; conv => whnf) | (refine reqD_dec ⟨by decide, by exact Nat.le_of_ble_eq_true rfl⟩ ?_; conv => whnf))
              refine reqD_dec (flat_len rowC1_len T) ?_
              conv => whnf
              repeat (first | (refine forkB_true ?_; conv => whnf) | (refine forkB_false ?_; conv => whnf) | (refine reqD_dec (by exact Nat.le_of_ble_eq_true rfl) ?_; conv => whnf) | (refine reqD_dec (by exact Nat.eq_of_beq_eq_true rfl) ?_; conv => whnf) | (refine reqD_dec ⟨by decide, by exact Nat.le_of_ble_eq_true rfl⟩ ?_; conv => whnf))
              refine reqD_dec (by omega) ?_
              refine exV_as (.one (fullT (T.take m))) (slice_full T m (by omega)) ?_
              conv => whnf
              repeat (first | (refine forkB_true ?_; conv => whnf) | (refine forkB_false ?_; conv => whnf) | (refine reqD_dec (by exact Nat.le_of_ble_eq_true rfl) ?_; conv => whnf) | (refine reqD_dec (by exact Nat.eq_of_beq_eq_true rfl) ?_; conv => whnf) | (refine reqD_dec ⟨by decide, by exact Nat.le_of_ble_eq_true rfl⟩ ?_; conv => whnf))
              refine exI_as _ rfl ?_
              conv => whnf
              repeat (first | (refine forkB_true ?_; conv => whnf) | (refine forkB_false ?_; conv => whnf) | (refine reqD_dec (by exact Nat.le_of_ble_eq_true rfl) ?_; conv => whnf) | (refine reqD_dec (by exact Nat.eq_of_beq_eq_true rfl) ?_; conv => whnf) | (refine reqD_dec ⟨by decide, by exact Nat.le_of_ble_eq_true rfl⟩ ?_; conv => whnf))
              refine forkB_dec (fun h6 => ?_) (fun h6 => ?_)
              · have h6 : c.new.length > 0 := by omega
                have ef : front m T c.new = T.take m ++ [c.new] := by rw [front, if_pos h6]
                have ec : cnt true n c.new = n - 1 + 1 := by rw [cnt, if_pos h6]; rfl
                conv => whnf
                repeat (first | (refine forkB_true ?_; conv => whnf) | (refine forkB_false ?_; conv => whnf) | (refine reqD_dec (by exact Nat.le_of_ble_eq_true rfl) ?_; conv => whnf) | (refine reqD_dec (by exact Nat.eq_of_beq_eq_true rfl) ?_; conv => whnf) | (refine reqD_dec ⟨by decide, by exact Nat.le_of_ble_eq_true rfl⟩ ?_; conv => whnf))
                refine callX_le (copied_spec c.new hc.2) callee44 rfl rfl (.cons (AV.Le.refl _) .nil) rfl ?_
                rintro x hx rfl
                conv => whnf
                repeat (first | (refine forkB_true ?_; conv => whnf) | (refine forkB_false ?_; conv => whnf) | (refine reqD_dec (by exact Nat.le_of_ble_eq_true rfl) ?_; conv => whnf) | (refine reqD_dec (by exact Nat.eq_of_beq_eq_true rfl) ?_; conv => whnf) | (refine reqD_dec ⟨by decide, by exact Nat.le_of_ble_eq_true rfl⟩ ?_; conv => whnf))
                refine reqD_dec (by first | omega | decide | (simp [ty27, ty58, ty41, ty23, ty55, ty30, ty60, ty56, ty3, ty39]; done) | (simp [ty27, ty58, ty41, ty23, ty55, ty30, ty60, ty56, ty3, ty39]; omega)) ?_
                conv => whnf
                repeat (first | (refine forkB_true ?_; conv => whnf) | (refine forkB_false ?_; conv => whnf) | (refine reqD_dec (by exact Nat.le_of_ble_eq_true rfl) ?_; conv => whnf) | (refine reqD_dec (by exact Nat.eq_of_beq_eq_true rfl) ?_; conv => whnf) | (refine reqD_dec ⟨by decide, by exact Nat.le_of_ble_eq_true rfl⟩ ?_; conv => whnf))
                refine forkB_intro (fun h => absurd h (by simp [ty27])) (fun _ => ?_)
                conv => whnf
                repeat (first | (refine forkB_true ?_; conv => whnf) | (refine forkB_false ?_; conv => whnf) | (refine reqD_dec (by exact Nat.le_of_ble_eq_true rfl) ?_; conv => whnf) | (refine reqD_dec (by exact Nat.eq_of_beq_eq_true rfl) ?_; conv => whnf) | (refine reqD_dec ⟨by decide, by exact Nat.le_of_ble_eq_true rfl⟩ ?_; conv => whnf))
                refine reqD_dec (flat_len rowC1_len _) ?_
                refine reqD_dec (by simp [ty27]; omega) ?_
                refine forceL_as ((front m T c.new).flatMap rowC1) (by rw [ef, List.flatMap_append]; rfl) ?_
                conv => whnf
                repeat (first | (refine forkB_true ?_; conv => whnf) | (refine forkB_false ?_; conv => whnf) | (refine reqD_dec (by exact Nat.le_of_ble_eq_true rfl) ?_; conv => whnf) | (refine reqD_dec (by exact Nat.eq_of_beq_eq_true rfl) ?_; conv => whnf) | (refine reqD_dec ⟨by decide, by exact Nat.le_of_ble_eq_true rfl⟩ ?_; conv => whnf))
                refine exI_i64 (by show -9223372036854775808 ≤ n - 1 + 1; omega) (by show n - 1 + 1 ≤ 9223372036854775807; omega) ?_
                conv => whnf
                repeat (first | (refine forkB_true ?_; conv => whnf) | (refine forkB_false ?_; conv => whnf) | (refine reqD_dec (by exact Nat.le_of_ble_eq_true rfl) ?_; conv => whnf) | (refine reqD_dec (by exact Nat.eq_of_beq_eq_true rfl) ?_; conv => whnf) | (refine reqD_dec ⟨by decide, by exact Nat.le_of_ble_eq_true rfl⟩ ?_; conv => whnf))
                refine forkB_intro (fun h7 => ?_) (fun h7 => ?_)
                · have h7 : n - 1 + 1 > 512 := by simpa using h7
                  conv => whnf
                  repeat (first | (refine forkB_true ?_; conv => whnf) | (refine forkB_false ?_; conv => whnf) | (refine reqD_dec (by exact Nat.le_of_ble_eq_true rfl) ?_; conv => whnf) | (refine reqD_dec (by exact Nat.eq_of_beq_eq_true rfl) ?_; conv => whnf) | (refine reqD_dec ⟨by decide, by exact Nat.le_of_ble_eq_true rfl⟩ ?_; conv => whnf))
                  refine retX_tr (Tr.obj 2 (ob := ⟨25, 0, 0, [nilC]⟩) rfl (cells := [tabsC []]) (Pw.one (AC.LeV.sl (AC.Le.nil (.inl rfl))))) ?_
                  refine retX_val rfl ?_
                  conv => whnf
                  rw [bad 2 cur n (by rw [hst, if_pos (by rw [ec]; exact h7)]) (by decide)]
                  rfl
                · have h7 : ¬ n - 1 + 1 > 512 := by simpa using h7
                  have hst : stepC s mode cur n c = _ := hst.trans (if_neg (by rw [ec]; exact h7))
                  obtain ⟨F, hF⟩ : ∃ F, front m T c.new = F := ⟨_, rfl⟩
                  have hFl : F.length ≤ 513 := by rw [← hF, ef]; simp; omega
                  rw [hF] at hst ef ⊢
                  conv => whnf
                  repeat (first | (refine forkB_true ?_; conv => whnf) | (refine forkB_false ?_; conv => whnf) | (refine reqD_dec (by exact Nat.le_of_ble_eq_true rfl) ?_; conv => whnf) | (refine reqD_dec (by exact Nat.eq_of_beq_eq_true rfl) ?_; conv => whnf) | (refine reqD_dec ⟨by decide, by exact Nat.le_of_ble_eq_true rfl⟩ ?_; conv => whnf))
                  refine drawnX_tr (A1 := apS mode n i cur l s c F (T.drop (m + 1)) (n - 1 + 1)) ?_ (by rfl) ?_
                  · refine Tr.trans (Tr.frz' (T := 27) (s := 1) (B := 24) (cells := F.flatMap rowC1) 7 F.length (by rfl) (by decide) (flat_len rowC1_len F) (all_flat rowC1_deep F)) ?_
                    exact (Tr.ofId rfl rfl (by decide) (by exact Nat.le_of_ble_eq_true rfl) ⟨⟨rfl, rfl⟩, ⟨rfl, rfl⟩, ⟨rfl, rfl⟩, ⟨rfl, rfl⟩, ⟨rfl, rfl⟩, ⟨rfl, rfl⟩, ⟨rfl, rfl⟩, ⟨rfl, rfl⟩, ⟨rfl, rfl⟩, ⟨rfl, rfl⟩, ⟨rfl, rfl⟩, trivial⟩ ⟨⟨rfl, rfl, by decide⟩, ⟨rfl, rfl, by decide⟩, ⟨(congrArg some ((ob_ren_deep _ (all_flat tabC1_deep cur)).trans (congrArg (Ob.mk 41 1 24) (map_deep (fun c hc => AC.sub_deep 7 _ hc) _ (all_flat tabC1_deep cur)).symm))).symm, ob_lt_deep _ (all_flat tabC1_deep cur), by decide⟩, ⟨rfl, rfl, by decide⟩, ⟨rfl, rfl, by decide⟩, trivial⟩)
                  refine drawnX_phase env08_ok (fun id => id == 3 || id == 4 || id == 5) [0, 1, 2, 3, 4, 5, 6, 7, 8, 9, 10, 11, 12] (.take 0 (.take 1 (.take 2 (.take 3 (.take 4 (.take 5 (.take 6 (.take 7 (.take 8 (.take 9 (.take 10 (.one 11 (.take 12 (.stop)))))))))))))) 1 #[true, true, true, true, true, true, true, true, true, true, true, true, true, false] (by kernel_rfl) ?_
                  conv => whnf
                  repeat (first | (refine forkB_true ?_; conv => whnf) | (refine forkB_false ?_; conv => whnf) | (refine reqD_dec (by exact Nat.le_of_ble_eq_true rfl) ?_; conv => whnf) | (refine reqD_dec (by exact Nat.eq_of_beq_eq_true rfl) ?_; conv => whnf) | (refine reqD_dec ⟨by decide, by exact Nat.le_of_ble_eq_true rfl⟩ ?_; conv => whnf))
                  refine exI_as _ rfl ?_
                  conv => whnf
                  repeat (first | (refine forkB_true ?_; conv => whnf) | (refine forkB_false ?_; conv => whnf) | (refine reqD_dec (by exact Nat.le_of_ble_eq_true rfl) ?_; conv => whnf) | (refine reqD_dec (by exact Nat.eq_of_beq_eq_true rfl) ?_; conv => whnf) | (refine reqD_dec ⟨by decide, by exact Nat.le_of_ble_eq_true rfl⟩ ?_; conv => whnf))
                  refine exI_as _ rfl ?_
                  conv => whnf
                  repeat (first | (refine forkB_true ?_; conv => whnf) | (refine forkB_false ?_; conv => whnf) | (refine reqD_dec (by exact Nat.le_of_ble_eq_true rfl) ?_; conv => whnf) | (refine reqD_dec (by exact Nat.eq_of_beq_eq_true rfl) ?_; conv => whnf) | (refine reqD_dec ⟨by decide, by exact Nat.le_of_ble_eq_true rfl⟩ ?_; conv => whnf))
                  refine reqD_dec (flat_len rowC1_len F) ?_
                  conv => whnf
                  repeat (first | (refine forkB_true ?_; conv => whnf) | (refine forkB_false ?_; conv => whnf) | (refine reqD_dec (by exact Nat.le_of_ble_eq_true rfl) ?_; conv => whnf) | (refine reqD_dec (by exact Nat.eq_of_beq_eq_true rfl) ?_; conv => whnf) | (refine reqD_dec ⟨by decide, by exact Nat.le_of_ble_eq_true rfl⟩ ?_; conv => whnf))
                  refine reqD_dec (by omega) ?_
                  refine exV_as (.one (fullT F)) ((slice_full F F.length (Nat.le_refl _)).trans (by rw [List.take_length])) ?_
                  conv => whnf
                  repeat (first | (refine forkB_true ?_; conv => whnf) | (refine forkB_false ?_; conv => whnf) | (refine reqD_dec (by exact Nat.le_of_ble_eq_true rfl) ?_; conv => whnf) | (refine reqD_dec (by exact Nat.eq_of_beq_eq_true rfl) ?_; conv => whnf) | (refine reqD_dec ⟨by decide, by exact Nat.le_of_ble_eq_true rfl⟩ ?_; conv => whnf))
                  refine reqD_dec (flat_len rowC1_len _) ?_
                  conv => whnf
                  repeat (first | (refine forkB_true ?_; conv => whnf) | (refine forkB_false ?_; conv => whnf) | (refine reqD_dec (by exact Nat.le_of_ble_eq_true rfl) ?_; conv => whnf) | (refine reqD_dec (by exact Nat.eq_of_beq_eq_true rfl) ?_; conv => whnf) | (refine reqD_dec ⟨by decide, by exact Nat.le_of_ble_eq_true rfl⟩ ?_; conv => whnf))
                  rw [hst] at hap hmo2
                  have hap : applyL s mode l st (countS st) = applyL s mode (l.drop (i + 1)) (cur.set c.table.toNat (F ++ T.drop (m + 1))) (n - 1 + 1) := by rw [← ec]; exact hap
                  have hmo2 : monoL s mode (l.drop (i + 1)) (cur.set c.table.toNat (F ++ T.drop (m + 1))) (n - 1 + 1) := by rw [← ec]; exact hmo2 rfl
                  have hI2 : okI s (cur.set c.table.toNat (F ++ T.drop (m + 1))) (n - 1 + 1) := by
                    have h8 := stepT_ok (th := true) hI ht hT hml hthm hc (by rw [ec]; omega)
                    rw [hF, ec] at h8
                    exact h8
                  refine forkB_intro (fun h8 => ?_) (fun h8 => ?_)
                  · have h8 : T.drop (m + 1) = [] := List.eq_nil_of_length_eq_zero (of_decide_eq_true h8)
                    rw [h8, List.append_nil] at hap hmo2 hI2
                    conv => whnf
                    repeat (first | (refine forkB_true ?_; conv => whnf) | (refine forkB_false ?_; conv => whnf) | (refine reqD_dec (by exact Nat.le_of_ble_eq_true rfl) ?_; conv => whnf) | (refine reqD_dec (by exact Nat.eq_of_beq_eq_true rfl) ?_; conv => whnf) | (refine reqD_dec ⟨by decide, by exact Nat.le_of_ble_eq_true rfl⟩ ?_; conv => whnf))
                    refine reqD_dec (by show 0 ≤ c.table ∧ c.table.toNat * 1 < (cur.flatMap tabC1).length; rw [flat_len tabC1_len]; omega) ?_
                    conv => whnf
                    repeat (first | (refine forkB_true ?_; conv => whnf) | (refine forkB_false ?_; conv => whnf) | (refine reqD_dec (by exact Nat.le_of_ble_eq_true rfl) ?_; conv => whnf) | (refine reqD_dec (by exact Nat.eq_of_beq_eq_true rfl) ?_; conv => whnf) | (refine reqD_dec ⟨by decide, by exact Nat.le_of_ble_eq_true rfl⟩ ?_; conv => whnf))
                    refine drawnX_phase env08_ok (fun _ => false) [0, 1, 2, 3, 4, 5, 6, 7, 8, 9, 10, 11, 12, 13] (.one 13 (.stop)) 0 #[true, true, true, true, true, true, true, true, true, true, true, true, true, true] (by kernel_rfl) ?_
                    conv => whnf
                    repeat (first | (refine forkB_true ?_; conv => whnf) | (refine forkB_false ?_; conv => whnf) | (refine reqD_dec (by exact Nat.le_of_ble_eq_true rfl) ?_; conv => whnf) | (refine reqD_dec (by exact Nat.eq_of_beq_eq_true rfl) ?_; conv => whnf) | (refine reqD_dec ⟨by decide, by exact Nat.le_of_ble_eq_true rfl⟩ ?_; conv => whnf))
                    refine reqD_dec (by show c.table.toNat * 1 + 1 ≤ (cur.flatMap tabC1).length; rw [flat_len tabC1_len]; omega) ?_
                    conv => whnf
                    repeat (first | (refine forkB_true ?_; conv => whnf) | (refine forkB_false ?_; conv => whnf) | (refine reqD_dec (by exact Nat.le_of_ble_eq_true rfl) ?_; conv => whnf) | (refine reqD_dec (by exact Nat.eq_of_beq_eq_true rfl) ?_; conv => whnf) | (refine reqD_dec ⟨by decide, by exact Nat.le_of_ble_eq_true rfl⟩ ?_; conv => whnf))
                    refine forceL_as ((cur.flatMap tabC1).set c.table.toNat (fullT F)) (setR1 _ c.table.toNat _ (by rw [flat_len tabC1_len]; omega)) ?_
                    conv => whnf
                    repeat (first | (refine forkB_true ?_; conv => whnf) | (refine forkB_false ?_; conv => whnf) | (refine reqD_dec (by exact Nat.le_of_ble_eq_true rfl) ?_; conv => whnf) | (refine reqD_dec (by exact Nat.eq_of_beq_eq_true rfl) ?_; conv => whnf) | (refine reqD_dec ⟨by decide, by exact Nat.le_of_ble_eq_true rfl⟩ ?_; conv => whnf))
                    refine drawnX_done (by kernel_rfl) ?_
                    conv => whnf
                    repeat (first | (refine forkB_true ?_; conv => whnf) | (refine forkB_false ?_; conv => whnf) | (refine reqD_dec (by exact Nat.le_of_ble_eq_true rfl) ?_; conv => whnf) | (refine reqD_dec (by exact Nat.eq_of_beq_eq_true rfl) ?_; conv => whnf) | (refine reqD_dec ⟨by decide, by exact Nat.le_of_ble_eq_true rfl⟩ ?_; conv => whnf))
                    refine exI_i64 (by omega) (by omega) ?_
                    conv => whnf
                    repeat (first | (refine forkB_true ?_; conv => whnf) | (refine forkB_false ?_; conv => whnf) | (refine reqD_dec (by exact Nat.le_of_ble_eq_true rfl) ?_; conv => whnf) | (refine reqD_dec (by exact Nat.eq_of_beq_eq_true rfl) ?_; conv => whnf) | (refine reqD_dec ⟨by decide, by exact Nat.le_of_ble_eq_true rfl⟩ ?_; conv => whnf))
                    refine ⟨(i + 1, cur.set c.table.toNat F, n - 1 + 1), ⟨by show i + 1 ≤ l.length; omega, hap, hmo2, hI2⟩, by show l.length - (i + 1) < l.length - i; omega, ?_⟩
                    refine Tr.trans (Tr.obj 3 (ob := ⟨41, 1, 24, (cur.flatMap tabC1).set c.table.toNat (fullT F)⟩) (by rfl) (cells := (cur.set c.table.toNat F).flatMap tabC1) (set_flat cur c.table.toNat F ▸ Pw.set AC.LeV.refl (AC.LeV.sl AC.Le.sameB))) ?_
                    exact (Tr.ofId rfl rfl (by decide) (by exact Nat.le_of_ble_eq_true rfl) ⟨⟨rfl, rfl⟩, ⟨rfl, rfl⟩, ⟨rfl, rfl⟩, ⟨rfl, rfl⟩, ⟨rfl, rfl⟩, ⟨rfl, rfl⟩, ⟨rfl, rfl⟩, ⟨rfl, rfl⟩, trivial⟩ ⟨⟨rfl, rfl, by decide⟩, ⟨rfl, rfl, by decide⟩, ⟨(congrArg some (ob_ren_deep _ (all_flat tabC1_deep _))).symm, ob_lt_deep _ (all_flat tabC1_deep _), by decide⟩, ⟨rfl, rfl, by decide⟩, trivial⟩)
                  · conv => whnf
                    repeat (first | (refine forkB_true ?_; conv => whnf) | (refine forkB_false ?_; conv => whnf) | (refine reqD_dec (by exact Nat.le_of_ble_eq_true rfl) ?_; conv => whnf) | (refine reqD_dec (by exact Nat.eq_of_beq_eq_true rfl) ?_; conv => whnf) | (refine reqD_dec ⟨by decide, by exact Nat.le_of_ble_eq_true rfl⟩ ?_; conv => whnf))
                    refine reqD_dec (flat_len rowC1_len F) ?_
                    refine reqD_dec (by simp [ty27]; omega) ?_
                    refine forceL_as ((F ++ T.drop (m + 1)).flatMap rowC1) (List.flatMap_append).symm ?_
                    conv => whnf
                    repeat (first | (refine forkB_true ?_; conv => whnf) | (refine forkB_false ?_; conv => whnf) | (refine reqD_dec (by exact Nat.le_of_ble_eq_true rfl) ?_; conv => whnf) | (refine reqD_dec (by exact Nat.eq_of_beq_eq_true rfl) ?_; conv => whnf) | (refine reqD_dec ⟨by decide, by exact Nat.le_of_ble_eq_true rfl⟩ ?_; conv => whnf))
                    refine reqD_dec (by show 0 ≤ c.table ∧ c.table.toNat * 1 < (cur.flatMap tabC1).length; rw [flat_len tabC1_len]; omega) ?_
                    conv => whnf
                    repeat (first | (refine forkB_true ?_; conv => whnf) | (refine forkB_false ?_; conv => whnf) | (refine reqD_dec (by exact Nat.le_of_ble_eq_true rfl) ?_; conv => whnf) | (refine reqD_dec (by exact Nat.eq_of_beq_eq_true rfl) ?_; conv => whnf) | (refine reqD_dec ⟨by decide, by exact Nat.le_of_ble_eq_true rfl⟩ ?_; conv => whnf))
                    refine drawnX_phase env08_ok (fun _ => false) [0, 1, 2, 3, 4, 5, 6, 7, 8, 9, 10, 11, 12, 13] (.one 13 (.stop)) 0 #[true, true, true, true, true, true, true, true, true, true, true, true, true, true] (by kernel_rfl) ?_
                    conv => whnf
                    repeat (first | (refine forkB_true ?_; conv => whnf) | (refine forkB_false ?_; conv => whnf) | (refine reqD_dec (by exact Nat.le_of_ble_eq_true rfl) ?_; conv => whnf) | (refine reqD_dec (by exact Nat.eq_of_beq_eq_true rfl) ?_; conv => whnf) | (refine reqD_dec ⟨by decide, by exact Nat.le_of_ble_eq_true rfl⟩ ?_; conv => whnf))
                    refine reqD_dec (by show c.table.toNat * 1 + 1 ≤ (cur.flatMap tabC1).length; rw [flat_len tabC1_len]; omega) ?_
                    conv => whnf
                    repeat (first | (refine forkB_true ?_; conv => whnf) | (refine forkB_false ?_; conv => whnf) | (refine reqD_dec (by exact Nat.le_of_ble_eq_true rfl) ?_; conv => whnf) | (refine reqD_dec (by exact Nat.eq_of_beq_eq_true rfl) ?_; conv => whnf) | (refine reqD_dec ⟨by decide, by exact Nat.le_of_ble_eq_true rfl⟩ ?_; conv => whnf))
                    refine forceL_as ((cur.flatMap tabC1).set c.table.toNat (.gref 6)) (setR1 _ c.table.toNat _ (by rw [flat_len tabC1_len]; omega)) ?_
                    conv => whnf
                    repeat (first | (refine forkB_true ?_; conv => whnf) | (refine forkB_false ?_; conv => whnf) | (refine reqD_dec (by exact Nat.le_of_ble_eq_true rfl) ?_; conv => whnf) | (refine reqD_dec (by exact Nat.eq_of_beq_eq_true rfl) ?_; conv => whnf) | (refine reqD_dec ⟨by decide, by exact Nat.le_of_ble_eq_true rfl⟩ ?_; conv => whnf))
                    refine drawnX_done (by kernel_rfl) ?_
                    conv => whnf
                    repeat (first | (refine forkB_true ?_; conv => whnf) | (refine forkB_false ?_; conv => whnf) | (refine reqD_dec (by exact Nat.le_of_ble_eq_true rfl) ?_; conv => whnf) | (refine reqD_dec (by exact Nat.eq_of_beq_eq_true rfl) ?_; conv => whnf) | (refine reqD_dec ⟨by decide, by exact Nat.le_of_ble_eq_true rfl⟩ ?_; conv => whnf))
                    refine exI_i64 (by omega) (by omega) ?_
                    conv => whnf
                    repeat (first | (refine forkB_true ?_; conv => whnf) | (refine forkB_false ?_; conv => whnf) | (refine reqD_dec (by exact Nat.le_of_ble_eq_true rfl) ?_; conv => whnf) | (refine reqD_dec (by exact Nat.eq_of_beq_eq_true rfl) ?_; conv => whnf) | (refine reqD_dec ⟨by decide, by exact Nat.le_of_ble_eq_true rfl⟩ ?_; conv => whnf))
                    refine ⟨(i + 1, cur.set c.table.toNat (F ++ T.drop (m + 1)), n - 1 + 1), ⟨by show i + 1 ≤ l.length; omega, hap, hmo2, hI2⟩, by show l.length - (i + 1) < l.length - i; omega, ?_⟩
                    refine Tr.trans (Tr.frz' (T := 27) (s := 1) (B := 24) (cells := (F ++ T.drop (m + 1)).flatMap rowC1) 6 (F ++ T.drop (m + 1)).length (by rfl) (by decide) (flat_len rowC1_len _) (all_flat rowC1_deep _)) ?_
                    have hX : (cur.set c.table.toNat (F ++ T.drop (m + 1))).flatMap tabC1 = ((cur.flatMap tabC1).set c.table.toNat (.gref 6)).map (·.sub 6 (.sl false 24 (F ++ T.drop (m + 1)).length ((F ++ T.drop (m + 1)).flatMap rowC1))) := by
                      rw [sub_set 6 _ (all_flat tabC1_deep cur), ← set_flat]
                      rfl
                    exact (Tr.ofId rfl rfl (by decide) (by exact Nat.le_of_ble_eq_true rfl) ⟨⟨rfl, rfl⟩, ⟨rfl, rfl⟩, ⟨rfl, rfl⟩, ⟨rfl, rfl⟩, ⟨rfl, rfl⟩, ⟨rfl, rfl⟩, ⟨rfl, rfl⟩, ⟨rfl, rfl⟩, trivial⟩ ⟨⟨rfl, rfl, by decide⟩, ⟨rfl, rfl, by decide⟩, ⟨(congrArg some ((ob_ren_deep _ (all_flat tabC1_deep _)).trans (congrArg (Ob.mk 41 1 24) hX))).symm, ob_lt_deep _ (all_flat tabC1_deep _), by decide⟩, ⟨rfl, rfl, by decide⟩, trivial⟩)
              · have h6 : ¬ c.new.length > 0 := by omega
                have ef : front m T c.new = T.take m := by rw [front, if_neg h6]
                have ec : cnt true n c.new = n - 1 := by rw [cnt, if_neg h6]; rfl
                conv => whnf
                repeat (first | (refine forkB_true ?_; conv => whnf) | (refine forkB_false ?_; conv => whnf) | (refine reqD_dec (by exact Nat.le_of_ble_eq_true rfl) ?_; conv => whnf) | (refine reqD_dec (by exact Nat.eq_of_beq_eq_true rfl) ?_; conv => whnf) | (refine reqD_dec ⟨by decide, by exact Nat.le_of_ble_eq_true rfl⟩ ?_; conv => whnf))
                refine forkB_intro (fun h7 => ?_) (fun h7 => ?_)
                · have h7 : n - 1 > 512 := by simpa using h7
                  conv => whnf
                  repeat (first | (refine forkB_true ?_; conv => whnf) | (refine forkB_false ?_; conv => whnf) | (refine reqD_dec (by exact Nat.le_of_ble_eq_true rfl) ?_; conv => whnf) | (refine reqD_dec (by exact Nat.eq_of_beq_eq_true rfl) ?_; conv => whnf) | (refine reqD_dec ⟨by decide, by exact Nat.le_of_ble_eq_true rfl⟩ ?_; conv => whnf))
                  refine retX_tr (Tr.obj 2 (ob := ⟨25, 0, 0, [nilC]⟩) rfl (cells := [tabsC []]) (Pw.one (AC.LeV.sl (AC.Le.nil (.inl rfl))))) ?_
                  refine retX_val rfl ?_
                  conv => whnf
                  rw [bad 2 cur n (by rw [hst, if_pos (by rw [ec]; exact h7)]) (by decide)]
                  rfl
                · have h7 : ¬ n - 1 > 512 := by simpa using h7
                  have hst : stepC s mode cur n c = _ := hst.trans (if_neg (by rw [ec]; exact h7))
                  obtain ⟨F, hF⟩ : ∃ F, front m T c.new = F := ⟨_, rfl⟩
                  have hFl : F.length ≤ 513 := by rw [← hF, ef]; simp; omega
                  rw [hF] at hst ef
                  rw [← ef]
                  conv => whnf
                  repeat (first | (refine forkB_true ?_; conv => whnf) | (refine forkB_false ?_; conv => whnf) | (refine reqD_dec (by exact Nat.le_of_ble_eq_true rfl) ?_; conv => whnf) | (refine reqD_dec (by exact Nat.eq_of_beq_eq_true rfl) ?_; conv => whnf) | (refine reqD_dec ⟨by decide, by exact Nat.le_of_ble_eq_true rfl⟩ ?_; conv => whnf))
                  refine drawnX_tr (A1 := apS mode n i cur l s c F (T.drop (m + 1)) (n - 1)) ?_ (by rfl) ?_
                  · refine Tr.trans (Tr.slot 15 (v := .one (tabC F)) (AV.Le.one (AC.LeV.sl AC.Le.sameB))) ?_
                    exact (Tr.ofId rfl rfl (by decide) (by exact Nat.le_of_ble_eq_true rfl) ⟨⟨rfl, rfl⟩, ⟨rfl, rfl⟩, ⟨rfl, rfl⟩, ⟨rfl, rfl⟩, ⟨rfl, rfl⟩, ⟨rfl, rfl⟩, ⟨rfl, rfl⟩, ⟨rfl, rfl⟩, ⟨rfl, rfl⟩, ⟨rfl, rfl⟩, ⟨rfl, rfl⟩, trivial⟩ ⟨⟨rfl, rfl, by decide⟩, ⟨rfl, rfl, by decide⟩, ⟨(congrArg some (ob_ren_deep _ (all_flat tabC1_deep cur))).symm, ob_lt_deep _ (all_flat tabC1_deep cur), by decide⟩, ⟨rfl, rfl, by decide⟩, ⟨rfl, rfl, by decide⟩, trivial⟩)
                  refine drawnX_phase env08_ok (fun id => id == 3 || id == 4 || id == 5) [0, 1, 2, 3, 4, 5, 6, 7, 8, 9, 10, 11, 12] (.take 0 (.take 1 (.take 2 (.take 3 (.take 4 (.take 5 (.take 6 (.take 7 (.take 8 (.take 9 (.take 10 (.one 11 (.take 12 (.stop)))))))))))))) 1 #[true, true, true, true, true, true, true, true, true, true, true, true, true, false] (by kernel_rfl) ?_
                  conv => whnf
                  repeat (first | (refine forkB_true ?_; conv => whnf) | (refine forkB_false ?_; conv => whnf) | (refine reqD_dec (by exact Nat.le_of_ble_eq_true rfl) ?_; conv => whnf) | (refine reqD_dec (by exact Nat.eq_of_beq_eq_true rfl) ?_; conv => whnf) | (refine reqD_dec ⟨by decide, by exact Nat.le_of_ble_eq_true rfl⟩ ?_; conv => whnf))
                  refine exI_as _ rfl ?_
                  conv => whnf
                  repeat (first | (refine forkB_true ?_; conv => whnf) | (refine forkB_false ?_; conv => whnf) | (refine reqD_dec (by exact Nat.le_of_ble_eq_true rfl) ?_; conv => whnf) | (refine reqD_dec (by exact Nat.eq_of_beq_eq_true rfl) ?_; conv => whnf) | (refine reqD_dec ⟨by decide, by exact Nat.le_of_ble_eq_true rfl⟩ ?_; conv => whnf))
                  refine exI_as _ rfl ?_
                  conv => whnf
                  repeat (first | (refine forkB_true ?_; conv => whnf) | (refine forkB_false ?_; conv => whnf) | (refine reqD_dec (by exact Nat.le_of_ble_eq_true rfl) ?_; conv => whnf) | (refine reqD_dec (by exact Nat.eq_of_beq_eq_true rfl) ?_; conv => whnf) | (refine reqD_dec ⟨by decide, by exact Nat.le_of_ble_eq_true rfl⟩ ?_; conv => whnf))
                  refine reqD_dec (flat_len rowC1_len F) ?_
                  conv => whnf
                  repeat (first | (refine forkB_true ?_; conv => whnf) | (refine forkB_false ?_; conv => whnf) | (refine reqD_dec (by exact Nat.le_of_ble_eq_true rfl) ?_; conv => whnf) | (refine reqD_dec (by exact Nat.eq_of_beq_eq_true rfl) ?_; conv => whnf) | (refine reqD_dec ⟨by decide, by exact Nat.le_of_ble_eq_true rfl⟩ ?_; conv => whnf))
                  refine reqD_dec (by omega) ?_
                  refine exV_as (.one (fullT F)) ((slice_full F F.length (Nat.le_refl _)).trans (by rw [List.take_length])) ?_
                  conv => whnf
                  repeat (first | (refine forkB_true ?_; conv => whnf) | (refine forkB_false ?_; conv => whnf) | (refine reqD_dec (by exact Nat.le_of_ble_eq_true rfl) ?_; conv => whnf) | (refine reqD_dec (by exact Nat.eq_of_beq_eq_true rfl) ?_; conv => whnf) | (refine reqD_dec ⟨by decide, by exact Nat.le_of_ble_eq_true rfl⟩ ?_; conv => whnf))
                  refine reqD_dec (flat_len rowC1_len _) ?_
                  conv => whnf
                  repeat (first | (refine forkB_true ?_; conv => whnf) | (refine forkB_false ?_; conv => whnf) | (refine reqD_dec (by exact Nat.le_of_ble_eq_true rfl) ?_; conv => whnf) | (refine reqD_dec (by exact Nat.eq_of_beq_eq_true rfl) ?_; conv => whnf) | (refine reqD_dec ⟨by decide, by exact Nat.le_of_ble_eq_true rfl⟩ ?_; conv => whnf))
                  rw [hst] at hap hmo2
                  have hap : applyL s mode l st (countS st) = applyL s mode (l.drop (i + 1)) (cur.set c.table.toNat (F ++ T.drop (m + 1))) (n - 1) := by rw [← ec]; exact hap
                  have hmo2 : monoL s mode (l.drop (i + 1)) (cur.set c.table.toNat (F ++ T.drop (m + 1))) (n - 1) := by rw [← ec]; exact hmo2 rfl
                  have hI2 : okI s (cur.set c.table.toNat (F ++ T.drop (m + 1))) (n - 1) := by
                    have h8 := stepT_ok (th := true) hI ht hT hml hthm hc (by rw [ec]; omega)
                    rw [hF, ec] at h8
                    exact h8
                  refine forkB_intro (fun h8 => ?_) (fun h8 => ?_)
                  · have h8 : T.drop (m + 1) = [] := List.eq_nil_of_length_eq_zero (of_decide_eq_true h8)
                    rw [h8, List.append_nil] at hap hmo2 hI2
                    conv => whnf
                    repeat (first | (refine forkB_true ?_; conv => whnf) | (refine forkB_false ?_; conv => whnf) | (refine reqD_dec (by exact Nat.le_of_ble_eq_true rfl) ?_; conv => whnf) | (refine reqD_dec (by exact Nat.eq_of_beq_eq_true rfl) ?_; conv => whnf) | (refine reqD_dec ⟨by decide, by exact Nat.le_of_ble_eq_true rfl⟩ ?_; conv => whnf))
                    refine reqD_dec (by show 0 ≤ c.table ∧ c.table.toNat * 1 < (cur.flatMap tabC1).length; rw [flat_len tabC1_len]; omega) ?_
                    conv => whnf
                    repeat (first | (refine forkB_true ?_; conv => whnf) | (refine forkB_false ?_; conv => whnf) | (refine reqD_dec (by exact Nat.le_of_ble_eq_true rfl) ?_; conv => whnf) | (refine reqD_dec (by exact Nat.eq_of_beq_eq_true rfl) ?_; conv => whnf) | (refine reqD_dec ⟨by decide, by exact Nat.le_of_ble_eq_true rfl⟩ ?_; conv => whnf))
                    refine drawnX_phase env08_ok (fun _ => false) [0, 1, 2, 3, 4, 5, 6, 7, 8, 9, 10, 11, 12, 13] (.one 13 (.stop)) 0 #[true, true, true, true, true, true, true, true, true, true, true, true, true, true] (by kernel_rfl) ?_
                    conv => whnf
                    repeat (first | (refine forkB_true ?_; conv => whnf) | (refine forkB_false ?_; conv => whnf) | (refine reqD_dec (by exact Nat.le_of_ble_eq_true rfl) ?_; conv => whnf) | (refine reqD_dec (by exact Nat.eq_of_beq_eq_true rfl) ?_; conv => whnf) | (refine reqD_dec ⟨by decide, by exact Nat.le_of_ble_eq_true rfl⟩ ?_; conv => whnf))
                    refine reqD_dec (by show c.table.toNat * 1 + 1 ≤ (cur.flatMap tabC1).length; rw [flat_len tabC1_len]; omega) ?_
                    conv => whnf
                    repeat (first | (refine forkB_true ?_; conv => whnf) | (refine forkB_false ?_; conv => whnf) | (refine reqD_dec (by exact Nat.le_of_ble_eq_true rfl) ?_; conv => whnf) | (refine reqD_dec (by exact Nat.eq_of_beq_eq_true rfl) ?_; conv => whnf) | (refine reqD_dec ⟨by decide, by exact Nat.le_of_ble_eq_true rfl⟩ ?_; conv => whnf))
                    refine forceL_as ((cur.flatMap tabC1).set c.table.toNat (fullT F)) (setR1 _ c.table.toNat _ (by rw [flat_len tabC1_len]; omega)) ?_
                    conv => whnf
                    repeat (first | (refine forkB_true ?_; conv => whnf) | (refine forkB_false ?_; conv => whnf) | (refine reqD_dec (by exact Nat.le_of_ble_eq_true rfl) ?_; conv => whnf) | (refine reqD_dec (by exact Nat.eq_of_beq_eq_true rfl) ?_; conv => whnf) | (refine reqD_dec ⟨by decide, by exact Nat.le_of_ble_eq_true rfl⟩ ?_; conv => whnf))
                    refine drawnX_done (by kernel_rfl) ?_
                    conv => whnf
                    repeat (first | (refine forkB_true ?_; conv => whnf) | (refine forkB_false ?_; conv => whnf) | (refine reqD_dec (by exact Nat.le_of_ble_eq_true rfl) ?_; conv => whnf) | (refine reqD_dec (by exact Nat.eq_of_beq_eq_true rfl) ?_; conv => whnf) | (refine reqD_dec ⟨by decide, by exact Nat.le_of_ble_eq_true rfl⟩ ?_; conv => whnf))
                    refine exI_i64 (by omega) (by omega) ?_
                    conv => whnf
                    repeat (first | (refine forkB_true ?_; conv => whnf) | (refine forkB_false ?_; conv => whnf) | (refine reqD_dec (by exact Nat.le_of_ble_eq_true rfl) ?_; conv => whnf) | (refine reqD_dec (by exact Nat.eq_of_beq_eq_true rfl) ?_; conv => whnf) | (refine reqD_dec ⟨by decide, by exact Nat.le_of_ble_eq_true rfl⟩ ?_; conv => whnf))
                    refine ⟨(i + 1, cur.set c.table.toNat F, n - 1), ⟨by show i + 1 ≤ l.length; omega, hap, hmo2, hI2⟩, by show l.length - (i + 1) < l.length - i; omega, ?_⟩
                    refine Tr.trans (Tr.obj 3 (ob := ⟨41, 1, 24, (cur.flatMap tabC1).set c.table.toNat (fullT F)⟩) (by rfl) (cells := (cur.set c.table.toNat F).flatMap tabC1) (set_flat cur c.table.toNat F ▸ Pw.set AC.LeV.refl (AC.LeV.sl AC.Le.sameB))) ?_
                    exact (Tr.ofId rfl rfl (by decide) (by exact Nat.le_of_ble_eq_true rfl) ⟨⟨rfl, rfl⟩, ⟨rfl, rfl⟩, ⟨rfl, rfl⟩, ⟨rfl, rfl⟩, ⟨rfl, rfl⟩, ⟨rfl, rfl⟩, ⟨rfl, rfl⟩, ⟨rfl, rfl⟩, trivial⟩ ⟨⟨rfl, rfl, by decide⟩, ⟨rfl, rfl, by decide⟩, ⟨(congrArg some (ob_ren_deep _ (all_flat tabC1_deep _))).symm, ob_lt_deep _ (all_flat tabC1_deep _), by decide⟩, ⟨rfl, rfl, by decide⟩, trivial⟩)
                  · conv => whnf
                    repeat (first | (refine forkB_true ?_; conv => whnf) | (refine forkB_false ?_; conv => whnf) | (refine reqD_dec (by exact Nat.le_of_ble_eq_true rfl) ?_; conv => whnf) | (refine reqD_dec (by exact Nat.eq_of_beq_eq_true rfl) ?_; conv => whnf) | (refine reqD_dec ⟨by decide, by exact Nat.le_of_ble_eq_true rfl⟩ ?_; conv => whnf))
                    refine reqD_dec (flat_len rowC1_len F) ?_
                    refine reqD_dec (by simp [ty27]; omega) ?_
                    refine forceL_as ((F ++ T.drop (m + 1)).flatMap rowC1) (List.flatMap_append).symm ?_
                    conv => whnf
                    repeat (first | (refine forkB_true ?_; conv => whnf) | (refine forkB_false ?_; conv => whnf) | (refine reqD_dec (by exact Nat.le_of_ble_eq_true rfl) ?_; conv => whnf) | (refine reqD_dec (by exact Nat.eq_of_beq_eq_true rfl) ?_; conv => whnf) | (refine reqD_dec ⟨by decide, by exact Nat.le_of_ble_eq_true rfl⟩ ?_; conv => whnf))
                    refine reqD_dec (by show 0 ≤ c.table ∧ c.table.toNat * 1 < (cur.flatMap tabC1).length; rw [flat_len tabC1_len]; omega) ?_
                    conv => whnf
                    repeat (first | (refine forkB_true ?_; conv => whnf) | (refine forkB_false ?_; conv => whnf) | (refine reqD_dec (by exact Nat.le_of_ble_eq_true rfl) ?_; conv => whnf) | (refine reqD_dec (by exact Nat.eq_of_beq_eq_true rfl) ?_; conv => whnf) | (refine reqD_dec ⟨by decide, by exact Nat.le_of_ble_eq_true rfl⟩ ?_; conv => whnf))
                    refine drawnX_phase env08_ok (fun _ => false) [0, 1, 2, 3, 4, 5, 6, 7, 8, 9, 10, 11, 12, 13] (.one 13 (.stop)) 0 #[true, true, true, true, true, true, true, true, true, true, true, true, true, true] (by kernel_rfl) ?_
                    conv => whnf
                    repeat (first | (refine forkB_true ?_; conv => whnf) | (refine forkB_false ?_; conv => whnf) | (refine reqD_dec (by exact Nat.le_of_ble_eq_true rfl) ?_; conv => whnf) | (refine reqD_dec (by exact Nat.eq_of_beq_eq_true rfl) ?_; conv => whnf) | (refine reqD_dec ⟨by decide, by exact Nat.le_of_ble_eq_true rfl⟩ ?_; conv => whnf))
                    refine reqD_dec (by show c.table.toNat * 1 + 1 ≤ (cur.flatMap tabC1).length; rw [flat_len tabC1_len]; omega) ?_
                    conv => whnf
                    repeat (first | (refine forkB_true ?_; conv => whnf) | (refine forkB_false ?_; conv => whnf) | (refine reqD_dec (by exact Nat.le_of_ble_eq_true rfl) ?_; conv => whnf) | (refine reqD_dec (by exact Nat.eq_of_beq_eq_true rfl) ?_; conv => whnf) | (refine reqD_dec ⟨by decide, by exact Nat.le_of_ble_eq_true rfl⟩ ?_; conv => whnf))
                    refine forceL_as ((cur.flatMap tabC1).set c.table.toNat (.gref 6)) (setR1 _ c.table.toNat _ (by rw [flat_len tabC1_len]; omega)) ?_
                    conv => whnf
                    repeat (first | (refine forkB_true ?_; conv => whnf) | (refine forkB_false ?_; conv => whnf) | (refine reqD_dec (by exact Nat.le_of_ble_eq_true rfl) ?_; conv => whnf) | (refine reqD_dec (by exact Nat.eq_of_beq_eq_true rfl) ?_; conv => whnf) | (refine reqD_dec ⟨by decide, by exact Nat.le_of_ble_eq_true rfl⟩ ?_; conv => whnf))
                    refine drawnX_done (by kernel_rfl) ?_
                    conv => whnf
                    repeat (first | (refine forkB_true ?_; conv => whnf) | (refine forkB_false ?_; conv => whnf) | (refine reqD_dec (by exact Nat.le_of_ble_eq_true rfl) ?_; conv => whnf) | (refine reqD_dec (by exact Nat.eq_of_beq_eq_true rfl) ?_; conv => whnf) | (refine reqD_dec ⟨by decide, by exact Nat.le_of_ble_eq_true rfl⟩ ?_; conv => whnf))
                    refine exI_i64 (by omega) (by omega) ?_
                    conv => whnf
                    repeat (first | (refine forkB_true ?_; conv => whnf) | (refine forkB_false ?_; conv => whnf) | (refine reqD_dec (by exact Nat.le_of_ble_eq_true rfl) ?_; conv => whnf) | (refine reqD_dec (by exact Nat.eq_of_beq_eq_true rfl) ?_; conv => whnf) | (refine reqD_dec ⟨by decide, by exact Nat.le_of_ble_eq_true rfl⟩ ?_; conv => whnf))
                    refine ⟨(i + 1, cur.set c.table.toNat (F ++ T.drop (m + 1)), n - 1), ⟨by show i + 1 ≤ l.length; omega, hap, hmo2, hI2⟩, by show l.length - (i + 1) < l.length - i; omega, ?_⟩
                    refine Tr.trans (Tr.frz' (T := 27) (s := 1) (B := 24) (cells := (F ++ T.drop (m + 1)).flatMap rowC1) 6 (F ++ T.drop (m + 1)).length (by rfl) (by decide) (flat_len rowC1_len _) (all_flat rowC1_deep _)) ?_
                    have hX : (cur.set c.table.toNat (F ++ T.drop (m + 1))).flatMap tabC1 = ((cur.flatMap tabC1).set c.table.toNat (.gref 6)).map (·.sub 6 (.sl false 24 (F ++ T.drop (m + 1)).length ((F ++ T.drop (m + 1)).flatMap rowC1))) := by
                      rw [sub_set 6 _ (all_flat tabC1_deep cur), ← set_flat]
                      rfl
                    exact (Tr.ofId rfl rfl (by decide) (by exact Nat.le_of_ble_eq_true rfl) ⟨⟨rfl, rfl⟩, ⟨rfl, rfl⟩, ⟨rfl, rfl⟩, ⟨rfl, rfl⟩, ⟨rfl, rfl⟩, ⟨rfl, rfl⟩, ⟨rfl, rfl⟩, ⟨rfl, rfl⟩, trivial⟩ ⟨⟨rfl, rfl, by decide⟩, ⟨rfl, rfl, by decide⟩, ⟨(congrArg some ((ob_ren_deep _ (all_flat tabC1_deep _)).trans (congrArg (Ob.mk 41 1 24) hX))).symm, ob_lt_deep _ (all_flat tabC1_deep _), by decide⟩, ⟨rfl, rfl, by decide⟩, trivial⟩)
          · have h4 : decide (c.old.length > 0) = false := decide_eq_false (by omega)
            conv => whnf
            repeat (first | (refine forkB_true ?_; conv => whnf) | (refine forkB_false ?_; conv => whnf) | (refine reqD_dec (by exact Nat.le_of_ble_eq_true rfl) ?_; conv => whnf) | (refine reqD_dec (by exact Nat.eq_of_beq_eq_true rfl) ?_; conv => whnf) | (refine reqD_dec ⟨by decide, by exact Nat.le_of_ble_eq_true rfl⟩ ?_; conv => whnf))
            refine drawnX_done (by kernel_rfl) ?_
            conv => whnf
            repeat (first | (refine forkB_true ?_; conv => whnf) | (refine forkB_false ?_; conv => whnf) | (refine reqD_dec (by exact Nat.le_of_ble_eq_true rfl) ?_; conv => whnf) | (refine reqD_dec (by exact Nat.eq_of_beq_eq_true rfl) ?_; conv => whnf) | (refine reqD_dec ⟨by decide, by exact Nat.le_of_ble_eq_true rfl⟩ ?_; conv => whnf))
            refine retX_tr (Tr.obj 2 (ob := ⟨25, 0, 0, [nilC]⟩) rfl (cells := [tabsC []]) (Pw.one (AC.LeV.sl (AC.Le.nil (.inl rfl))))) ?_
            refine retX_val rfl ?_
            conv => whnf
            rw [bad 81 cur n (by rw [hst, stepT, h4]; rfl) (by decide)]
            rfl
        | false =>
          have hst := hst false hth
          have hthm : false = true → m < T.length := fun h => by cases h
          conv => whnf
          repeat (first | (refine forkB_true ?_; conv => whnf) | (refine forkB_false ?_; conv => whnf) | (refine reqD_dec (by exact Nat.le_of_ble_eq_true rfl) ?_; conv => whnf) | (refine reqD_dec (by exact Nat.eq_of_beq_eq_true rfl) ?_; conv => whnf) | (refine reqD_dec ⟨by decide, by exact Nat.le_of_ble_eq_true rfl⟩ ?_; conv => whnf))
          refine drawnX_done (by kernel_rfl) ?_
          conv => whnf
          repeat (first | (refine forkB_true ?_; conv => whnf) | (refine forkB_false ?_; conv => whnf) | (refine reqD_dec (by exact Nat.le_of_ble_eq_true rfl) ?_; conv => whnf) | (refine reqD_dec (by exact Nat.eq_of_beq_eq_true rfl) ?_; conv => whnf) | (refine reqD_dec ⟨by decide, by exact Nat.le_of_ble_eq_true rfl⟩ ?_; conv => whnf))
          refine drawnX_phase env08_ok (fun _ => true) [0, 1, 2, 3, 4, 5, 6, 7, 8, 9, 10, 11, 12, 13, 14, 15, 16, 17, 18] (.take 0 (.take 1 (.take 2 (.take 3 (.take 4 (.take 5 (.take 6 (.take 7 (.take 8 (.take 9 (.take 10 (.take 11 (.take 12 (.take 13 (.take 14 (.one 15 (.take 16 (.take 17 (.take 18 (.stop)))))))))))))))))))) 0 #[true, true, true, true, true, true, true, true, true, true, true, true, true, true, true, true, true, true, true] (by kernel_rfl) ?_
          conv => whnf
          repeat (first | (refine forkB_true ?_; conv => whnf) | (refine forkB_false ?_; conv => whnf) | (refine reqD_dec (by exact Nat.le_of_ble_eq_true rfl) ?_; conv => whnf) | (refine reqD_dec (by exact Nat.eq_of_beq_eq_true rfl) ?_; conv => whnf) | (refine reqD_dec ⟨by decide, by exact Nat.le_of_ble_eq_true rfl⟩ ?_; conv => whnf))
          refine exI_as _ rfl ?_
          conv => whnf
          repeat (first | (refine forkB_true ?_; conv => whnf) | (refine forkB_false ?_; conv => whnf) | (refine reqD_dec (by exact Nat.le_of_ble_eq_true rfl) ?_; conv => whnf) | (refine reqD_dec (by exact Nat.eq_of_beq_eq_true rfl) ?_; conv => whnf) | (refine reqD_dec ⟨by decide, by exact Nat.le_of_ble_eq_true rfl⟩ ?_; conv => whnf))
          refine forkB_dec (fun h4 => ?_) (fun h4 => ?_)
          · have h4 : decide (c.old.length > 0) = true := decide_eq_true (by omega)
            conv => whnf
            repeat (first | (refine forkB_true ?_; conv => whnf) | (refine forkB_false ?_; conv => whnf) | (refine reqD_dec (by exact Nat.le_of_ble_eq_true rfl) ?_; conv => whnf) | (refine reqD_dec (by exact Nat.eq_of_beq_eq_true rfl) ?_; conv => whnf) | (refine reqD_dec ⟨by decide, by exact Nat.le_of_ble_eq_true rfl⟩ ?_; conv => whnf))
            refine drawnX_done (by kernel_rfl) ?_
            conv => whnf
            repeat (first | (refine forkB_true ?_; conv => whnf) | (refine forkB_false ?_; conv => whnf) | (refine reqD_dec (by exact Nat.le_of_ble_eq_true rfl) ?_; conv => whnf) | (refine reqD_dec (by exact Nat.eq_of_beq_eq_true rfl) ?_; conv => whnf) | (refine reqD_dec ⟨by decide, by exact Nat.le_of_ble_eq_true rfl⟩ ?_; conv => whnf))
            refine retX_tr (Tr.obj 2 (ob := ⟨25, 0, 0, [nilC]⟩) rfl (cells := [tabsC []]) (Pw.one (AC.LeV.sl (AC.Le.nil (.inl rfl))))) ?_
            refine retX_val rfl ?_
            conv => whnf
            rw [bad 81 cur n (by rw [hst, stepT, h4]; rfl) (by decide)]
            rfl
          · have h4 : decide (c.old.length > 0) = false := decide_eq_false (by omega)
            have hst : stepC s mode cur n c = if cnt false n c.new > 512 then (2, cur, n) else (0, cur.set c.table.toNat (front m T c.new ++ behind false m T), cnt false n c.new) := hst.trans (by rw [stepT, h4]; rfl)
            conv => whnf
            repeat (first | (refine forkB_true ?_; conv => whnf) | (refine forkB_false ?_; conv => whnf) | (refine reqD_dec (by exact Nat.le_of_ble_eq_true rfl) ?_; conv => whnf) | (refine reqD_dec (by exact Nat.eq_of_beq_eq_true rfl) ?_; conv => whnf) | (refine reqD_dec ⟨by decide, by exact Nat.le_of_ble_eq_true rfl⟩ ?_; conv => whnf))
            refine drawnX_done (by kernel_rfl) ?_
            conv => whnf
            repeat (first | (refine forkB_true ?_; conv => whnf) | (refine forkB_false ?_; conv => whnf) | (refine reqD_dec (by exact Nat.le_of_ble_eq_true rfl) ?_; conv => whnf) | (refine reqD_dec (by exact Nat.eq_of_beq_eq_true rfl) ?_; conv => whnf) | (refine reqD_dec ⟨by decide, by exact Nat.le_of_ble_eq_true rfl⟩ ?_; conv => whnf))
            refine reqD_dec (flat_len rowC1_len T) ?_
            conv => whnf
            repeat (first | (refine forkB_true ?_; conv => whnf) | (refine forkB_false ?_; conv => whnf) | (refine reqD_dec (by exact Nat.le_of_ble_eq_true rfl) ?_; conv => whnf) | (refine reqD_dec (by exact Nat.eq_of_beq_eq_true rfl) ?_; conv => whnf) | (refine reqD_dec ⟨by decide, by exact Nat.le_of_ble_eq_true rfl⟩ ?_; conv => whnf))
            refine reqD_dec (by omega) ?_
            refine exV_as (.one (tabC (T.drop (m)))) (slice_from T _ (m) (by omega)) ?_
            conv => whnf
            repeat (first | (refine forkB_true ?_; conv => whnf) | (refine forkB_false ?_; conv => whnf) | (refine reqD_dec (by exact Nat.le_of_ble_eq_true rfl) ?_; conv => whnf) | (refine reqD_dec (by exact Nat.eq_of_beq_eq_true rfl) ?_; conv => whnf) | (refine reqD_dec ⟨by decide, by exact Nat.le_of_ble_eq_true rfl⟩ ?_; conv => whnf))
            refine reqD_dec (flat_len rowC1_len T) ?_
            conv => whnf
            repeat (first | (refine forkB_true ?_; conv => whnf) | (refine forkB_false ?_; conv => whnf) | (refine reqD_dec (by exact Nat.le_of_ble_eq_true rfl) ?_; conv => whnf) | (refine reqD_dec (by exact Nat.eq_of_beq_eq_true rfl) ?_; conv => whnf) | (refine reqD_dec ⟨by decide, by exact Nat.le_of_ble_eq_true rfl⟩ ?_; conv => whnf))
            refine reqD_dec (by omega) ?_
            refine exV_as (.one (fullT (T.take m))) (slice_full T m (by omega)) ?_
            conv => whnf
            repeat (first | (refine forkB_true ?_; conv => whnf) | (refine forkB_false ?_; conv => whnf) | (refine reqD_dec (by exact Nat.le_of_ble_eq_true rfl) ?_; conv => whnf) | (refine reqD_dec (by exact Nat.eq_of_beq_eq_true rfl) ?_; conv => whnf) | (refine reqD_dec ⟨by decide, by exact Nat.le_of_ble_eq_true rfl⟩ ?_; conv => whnf))
            refine exI_as _ rfl ?_
            conv => whnf
            repeat (first | (refine forkB_true ?_; conv => whnf) | (refine forkB_false ?_; conv => whnf) | (refine reqD_dec (by exact Nat.le_of_ble_eq_true rfl) ?_; conv => whnf) | (refine reqD_dec (by exact Nat.eq_of_beq_eq_true rfl) ?_; conv => whnf) | (refine reqD_dec ⟨by decide, by exact Nat.le_of_ble_eq_true rfl⟩ ?_; conv => whnf))
            refine forkB_dec (fun h6 => ?_) (fun h6 => ?_)
            · have h6 : c.new.length > 0 := by omega
              have ef : front m T c.new = T.take m ++ [c.new] := by rw [front, if_pos h6]
              have ec : cnt false n c.new = n + 1 := by rw [cnt, if_pos h6]; rfl
              conv => whnf
              repeat (first | (refine forkB_true ?_; conv => whnf) | (refine forkB_false ?_; conv => whnf) | (refine reqD_dec (by exact Nat.le_of_ble_eq_true rfl) ?_; conv => whnf) | (refine reqD_dec (by exact Nat.eq_of_beq_eq_true rfl) ?_; conv => whnf) | (refine reqD_dec ⟨by decide, by exact Nat.le_of_ble_eq_true rfl⟩ ?_; conv => whnf))
              refine callX_le (copied_spec c.new hc.2) callee44 rfl rfl (.cons (AV.Le.refl _) .nil) rfl ?_
              rintro x hx rfl
              conv => whnf
              repeat (first | (refine forkB_true ?_; conv => whnf) | (refine forkB_false ?_; conv => whnf) | (refine reqD_dec (by exact Nat.le_of_ble_eq_true rfl) ?_; conv => whnf) | (refine reqD_dec (by exact Nat.eq_of_beq_eq_true rfl) ?_; conv => whnf) | (refine reqD_dec ⟨by decide, by exact Nat.le_of_ble_eq_true rfl⟩ ?_; conv => whnf))
              refine reqD_dec (by first | omega | decide | (simp [ty27, ty58, ty41, ty23, ty55, ty30, ty60, ty56, ty3, ty39]; done) | (simp [ty27, ty58, ty41, ty23, ty55, ty30, ty60, ty56, ty3, ty39]; omega)) ?_
              conv => whnf
              repeat (first | (refine forkB_true ?_; conv => whnf) | (refine forkB_false ?_; conv => whnf) | (refine reqD_dec (by exact Nat.le_of_ble_eq_true rfl) ?_; conv => whnf) | (refine reqD_dec (by exact Nat.eq_of_beq_eq_true rfl) ?_; conv => whnf) | (refine reqD_dec ⟨by decide, by exact Nat.le_of_ble_eq_true rfl⟩ ?_; conv => whnf))
              refine forkB_intro (fun h => absurd h (by simp [ty27])) (fun _ => ?_)
              conv => whnf
              repeat (first | (refine forkB_true ?_; conv => whnf) | (refine forkB_false ?_; conv => whnf) | (refine reqD_dec (by exact Nat.le_of_ble_eq_true rfl) ?_; conv => whnf) | (refine reqD_dec (by exact Nat.eq_of_beq_eq_true rfl) ?_; conv => whnf) | (refine reqD_dec ⟨by decide, by exact Nat.le_of_ble_eq_true rfl⟩ ?_; conv => whnf))
              refine reqD_dec (flat_len rowC1_len _) ?_
              refine reqD_dec (by simp [ty27]; omega) ?_
              refine forceL_as ((front m T c.new).flatMap rowC1) (by rw [ef, List.flatMap_append]; rfl) ?_
              conv => whnf
              repeat (first | (refine forkB_true ?_; conv => whnf) | (refine forkB_false ?_; conv => whnf) | (refine reqD_dec (by exact Nat.le_of_ble_eq_true rfl) ?_; conv => whnf) | (refine reqD_dec (by exact Nat.eq_of_beq_eq_true rfl) ?_; conv => whnf) | (refine reqD_dec ⟨by decide, by exact Nat.le_of_ble_eq_true rfl⟩ ?_; conv => whnf))
              refine exI_i64 (by show -9223372036854775808 ≤ n + 1; omega) (by show n + 1 ≤ 9223372036854775807; omega) ?_
              conv => whnf
              repeat (first | (refine forkB_true ?_; conv => whnf) | (refine forkB_false ?_; conv => whnf) | (refine reqD_dec (by exact Nat.le_of_ble_eq_true rfl) ?_; conv => whnf) | (refine reqD_dec (by exact Nat.eq_of_beq_eq_true rfl) ?_; conv => whnf) | (refine reqD_dec ⟨by decide, by exact Nat.le_of_ble_eq_true rfl⟩ ?_; conv => whnf))
              refine forkB_intro (fun h7 => ?_) (fun h7 => ?_)
              · have h7 : n + 1 > 512 := by simpa using h7
                conv => whnf
                repeat (first | (refine forkB_true ?_; conv => whnf) | (refine forkB_false ?_; conv => whnf) | (refine reqD_dec (by exact Nat.le_of_ble_eq_true rfl) ?_; conv => whnf) | (refine reqD_dec (by exact Nat.eq_of_beq_eq_true rfl) ?_; conv => whnf) | (refine reqD_dec ⟨by decide, by exact Nat.le_of_ble_eq_true rfl⟩ ?_; conv => whnf))
                refine retX_tr (Tr.obj 2 (ob := ⟨25, 0, 0, [nilC]⟩) rfl (cells := [tabsC []]) (Pw.one (AC.LeV.sl (AC.Le.nil (.inl rfl))))) ?_
                refine retX_val rfl ?_
                conv => whnf
                rw [bad 2 cur n (by rw [hst, if_pos (by rw [ec]; exact h7)]) (by decide)]
                rfl
              · have h7 : ¬ n + 1 > 512 := by simpa using h7
                have hst : stepC s mode cur n c = _ := hst.trans (if_neg (by rw [ec]; exact h7))
                obtain ⟨F, hF⟩ : ∃ F, front m T c.new = F := ⟨_, rfl⟩
                have hFl : F.length ≤ 513 := by rw [← hF, ef]; simp; omega
                rw [hF] at hst ef ⊢
                conv => whnf
                repeat (first | (refine forkB_true ?_; conv => whnf) | (refine forkB_false ?_; conv => whnf) | (refine reqD_dec (by exact Nat.le_of_ble_eq_true rfl) ?_; conv => whnf) | (refine reqD_dec (by exact Nat.eq_of_beq_eq_true rfl) ?_; conv => whnf) | (refine reqD_dec ⟨by decide, by exact Nat.le_of_ble_eq_true rfl⟩ ?_; conv => whnf))
                refine drawnX_tr (A1 := apS mode n i cur l s c F (T.drop m) (n + 1)) ?_ (by rfl) ?_
                · refine Tr.trans (Tr.frz' (T := 27) (s := 1) (B := 24) (cells := F.flatMap rowC1) 7 F.length (by rfl) (by decide) (flat_len rowC1_len F) (all_flat rowC1_deep F)) ?_
                  exact (Tr.ofId rfl rfl (by decide) (by exact Nat.le_of_ble_eq_true rfl) ⟨⟨rfl, rfl⟩, ⟨rfl, rfl⟩, ⟨rfl, rfl⟩, ⟨rfl, rfl⟩, ⟨rfl, rfl⟩, ⟨rfl, rfl⟩, ⟨rfl, rfl⟩, ⟨rfl, rfl⟩, ⟨rfl, rfl⟩, ⟨rfl, rfl⟩, ⟨rfl, rfl⟩, trivial⟩ ⟨⟨rfl, rfl, by decide⟩, ⟨rfl, rfl, by decide⟩, ⟨(congrArg some ((ob_ren_deep _ (all_flat tabC1_deep cur)).trans (congrArg (Ob.mk 41 1 24) (map_deep (fun c hc => AC.sub_deep 7 _ hc) _ (all_flat tabC1_deep cur)).symm))).symm, ob_lt_deep _ (all_flat tabC1_deep cur), by decide⟩, ⟨rfl, rfl, by decide⟩, ⟨rfl, rfl, by decide⟩, trivial⟩)
                refine drawnX_phase env08_ok (fun id => id == 3 || id == 4 || id == 5) [0, 1, 2, 3, 4, 5, 6, 7, 8, 9, 10, 11, 12] (.take 0 (.take 1 (.take 2 (.take 3 (.take 4 (.take 5 (.take 6 (.take 7 (.take 8 (.take 9 (.take 10 (.one 11 (.take 12 (.stop)))))))))))))) 1 #[true, true, true, true, true, true, true, true, true, true, true, true, true, false] (by kernel_rfl) ?_
                conv => whnf
                repeat (first | (refine forkB_true ?_; conv => whnf) | (refine forkB_false ?_; conv => whnf) | (refine reqD_dec (by exact Nat.le_of_ble_eq_true rfl) ?_; conv => whnf) | (refine reqD_dec (by exact Nat.eq_of_beq_eq_true rfl) ?_; conv => whnf) | (refine reqD_dec ⟨by decide, by exact Nat.le_of_ble_eq_true rfl⟩ ?_; conv => whnf))
                refine exI_as _ rfl ?_
                conv => whnf
                repeat (first | (refine forkB_true ?_; conv => whnf) | (refine forkB_false ?_; conv => whnf) | (refine reqD_dec (by exact Nat.le_of_ble_eq_true rfl) ?_; conv => whnf) | (refine reqD_dec (by exact Nat.eq_of_beq_eq_true rfl) ?_; conv => whnf) | (refine reqD_dec ⟨by decide, by exact Nat.le_of_ble_eq_true rfl⟩ ?_; conv => whnf))
                refine exI_as _ rfl ?_
                conv => whnf
                repeat (first | (refine forkB_true ?_; conv => whnf) | (refine forkB_false ?_; conv => whnf) | (refine reqD_dec (by exact Nat.le_of_ble_eq_true rfl) ?_; conv => whnf) | (refine reqD_dec (by exact Nat.eq_of_beq_eq_true rfl) ?_; conv => whnf) | (refine reqD_dec ⟨by decide, by exact Nat.le_of_ble_eq_true rfl⟩ ?_; conv => whnf))
                refine reqD_dec (flat_len rowC1_len F) ?_
                conv => whnf
                repeat (first | (refine forkB_true ?_; conv => whnf) | (refine forkB_false ?_; conv => whnf) | (refine reqD_dec (by exact Nat.le_of_ble_eq_true rfl) ?_; conv => whnf) | (refine reqD_dec (by exact Nat.eq_of_beq_eq_true rfl) ?_; conv => whnf) | (refine reqD_dec ⟨by decide, by exact Nat.le_of_ble_eq_true rfl⟩ ?_; conv => whnf))
                refine reqD_dec (by omega) ?_
                refine exV_as (.one (fullT F)) ((slice_full F F.length (Nat.le_refl _)).trans (by rw [List.take_length])) ?_
                conv => whnf
                repeat (first | (refine forkB_true ?_; conv => whnf) | (refine forkB_false ?_; conv => whnf) | (refine reqD_dec (by exact Nat.le_of_ble_eq_true rfl) ?_; conv => whnf) | (refine reqD_dec (by exact Nat.eq_of_beq_eq_true rfl) ?_; conv => whnf) | (refine reqD_dec ⟨by decide, by exact Nat.le_of_ble_eq_true rfl⟩ ?_; conv => whnf))
                refine reqD_dec (flat_len rowC1_len _) ?_
                conv => whnf
                repeat (first | (refine forkB_true ?_; conv => whnf) | (refine forkB_false ?_; conv => whnf) | (refine reqD_dec (by exact Nat.le_of_ble_eq_true rfl) ?_; conv => whnf) | (refine reqD_dec (by exact Nat.eq_of_beq_eq_true rfl) ?_; conv => whnf) | (refine reqD_dec ⟨by decide, by exact Nat.le_of_ble_eq_true rfl⟩ ?_; conv => whnf))
                rw [hst] at hap hmo2
                have hap : applyL s mode l st (countS st) = applyL s mode (l.drop (i + 1)) (cur.set c.table.toNat (F ++ T.drop m)) (n + 1) := by rw [← ec]; exact hap
                have hmo2 : monoL s mode (l.drop (i + 1)) (cur.set c.table.toNat (F ++ T.drop m)) (n + 1) := by rw [← ec]; exact hmo2 rfl
                have hI2 : okI s (cur.set c.table.toNat (F ++ T.drop m)) (n + 1) := by
                  have h8 := stepT_ok (th := false) hI ht hT hml hthm hc (by rw [ec]; omega)
                  rw [hF, ec] at h8
                  exact h8
                refine forkB_intro (fun h8 => ?_) (fun h8 => ?_)
                · have h8 : T.drop m = [] := List.eq_nil_of_length_eq_zero (of_decide_eq_true h8)
                  rw [h8, List.append_nil] at hap hmo2 hI2
                  conv => whnf
                  repeat (first | (refine forkB_true ?_; conv => whnf) | (refine forkB_false ?_; conv => whnf) | (refine reqD_dec (by exact Nat.le_of_ble_eq_true rfl) ?_; conv => whnf) | (refine reqD_dec (by exact Nat.eq_of_beq_eq_true rfl) ?_; conv => whnf) | (refine reqD_dec ⟨by decide, by exact Nat.le_of_ble_eq_true rfl⟩ ?_; conv => whnf))
                  refine reqD_dec (by show 0 ≤ c.table ∧ c.table.toNat * 1 < (cur.flatMap tabC1).length; rw [flat_len tabC1_len]; omega) ?_
                  conv => whnf
                  repeat (first | (refine forkB_true ?_; conv => whnf) | (refine forkB_false ?_; conv => whnf) | (refine reqD_dec (by exact Nat.le_of_ble_eq_true rfl) ?_; conv => whnf) | (refine reqD_dec (by exact Nat.eq_of_beq_eq_true rfl) ?_; conv => whnf) | (refine reqD_dec ⟨by decide, by exact Nat.le_of_ble_eq_true rfl⟩ ?_; conv => whnf))
                  refine drawnX_phase env08_ok (fun _ => false) [0, 1, 2, 3, 4, 5, 6, 7, 8, 9, 10, 11, 12, 13] (.one 13 (.stop)) 0 #[true, true, true, true, true, true, true, true, true, true, true, true, true, true] (by kernel_rfl) ?_
                  conv => whnf
                  repeat (first | (refine forkB_true ?_; conv => whnf) | (refine forkB_false ?_; conv => whnf) | (refine reqD_dec (by exact Nat.le_of_ble_eq_true rfl) ?_; conv => whnf) | (refine reqD_dec (by exact Nat.eq_of_beq_eq_true rfl) ?_; conv => whnf) | (refine reqD_dec ⟨by decide, by exact Nat.le_of_ble_eq_true rfl⟩ ?_; conv => whnf))
                  refine reqD_dec (by show c.table.toNat * 1 + 1 ≤ (cur.flatMap tabC1).length; rw [flat_len tabC1_len]; omega) ?_
                  conv => whnf
                  repeat (first | (refine forkB_true ?_; conv => whnf) | (refine forkB_false ?_; conv => whnf) | (refine reqD_dec (by exact Nat.le_of_ble_eq_true rfl) ?_; conv => whnf) | (refine reqD_dec (by exact Nat.eq_of_beq_eq_true rfl) ?_; conv => whnf) | (refine reqD_dec ⟨by decide, by exact Nat.le_of_ble_eq_true rfl⟩ ?_; conv => whnf))
                  refine forceL_as ((cur.flatMap tabC1).set c.table.toNat (fullT F)) (setR1 _ c.table.toNat _ (by rw [flat_len tabC1_len]; omega)) ?_
                  conv => whnf
                  repeat (first | (refine forkB_true ?_; conv => whnf) | (refine forkB_false ?_; conv => whnf) | (refine reqD_dec (by exact Nat.le_of_ble_eq_true rfl) ?_; conv => whnf) | (refine reqD_dec (by exact Nat.eq_of_beq_eq_true rfl) ?_; conv => whnf) | (refine reqD_dec ⟨by decide, by exact Nat.le_of_ble_eq_true rfl⟩ ?_; conv => whnf))
                  refine drawnX_done (by kernel_rfl) ?_
                  conv => whnf
                  repeat (first | (refine forkB_true ?_; conv => whnf) | (refine forkB_false ?_; conv => whnf) | (refine reqD_dec (by exact Nat.le_of_ble_eq_true rfl) ?_; conv => whnf) | (refine reqD_dec (by exact Nat.eq_of_beq_eq_true rfl) ?_; conv => whnf) | (refine reqD_dec ⟨by decide, by exact Nat.le_of_ble_eq_true rfl⟩ ?_; conv => whnf))
                  refine exI_i64 (by omega) (by omega) ?_
                  conv => whnf
                  repeat (first | (refine forkB_true ?_; conv => whnf) | (refine forkB_false ?_; conv => whnf) | (refine reqD_dec (by exact Nat.le_of_ble_eq_true rfl) ?_; conv => whnf) | (refine reqD_dec (by exact Nat.eq_of_beq_eq_true rfl) ?_; conv => whnf) | (refine reqD_dec ⟨by decide, by exact Nat.le_of_ble_eq_true rfl⟩ ?_; conv => whnf))
                  refine ⟨(i + 1, cur.set c.table.toNat F, n + 1), ⟨by show i + 1 ≤ l.length; omega, hap, hmo2, hI2⟩, by show l.length - (i + 1) < l.length - i; omega, ?_⟩
                  refine Tr.trans (Tr.obj 3 (ob := ⟨41, 1, 24, (cur.flatMap tabC1).set c.table.toNat (fullT F)⟩) (by rfl) (cells := (cur.set c.table.toNat F).flatMap tabC1) (set_flat cur c.table.toNat F ▸ Pw.set AC.LeV.refl (AC.LeV.sl AC.Le.sameB))) ?_
                  exact (Tr.ofId rfl rfl (by decide) (by exact Nat.le_of_ble_eq_true rfl) ⟨⟨rfl, rfl⟩, ⟨rfl, rfl⟩, ⟨rfl, rfl⟩, ⟨rfl, rfl⟩, ⟨rfl, rfl⟩, ⟨rfl, rfl⟩, ⟨rfl, rfl⟩, ⟨rfl, rfl⟩, trivial⟩ ⟨⟨rfl, rfl, by decide⟩, ⟨rfl, rfl, by decide⟩, ⟨(congrArg some (ob_ren_deep _ (all_flat tabC1_deep _))).symm, ob_lt_deep _ (all_flat tabC1_deep _), by decide⟩, ⟨rfl, rfl, by decide⟩, trivial⟩)
                · conv => whnf
                  repeat (first | (refine forkB_true ?_; conv => whnf) | (refine forkB_false ?_; conv => whnf) | (refine reqD_dec (by exact Nat.le_of_ble_eq_true rfl) ?_; conv => whnf) | (refine reqD_dec (by exact Nat.eq_of_beq_eq_true rfl) ?_; conv => whnf) | (refine reqD_dec ⟨by decide, by exact Nat.le_of_ble_eq_true rfl⟩ ?_; conv => whnf))
                  refine reqD_dec (flat_len rowC1_len F) ?_
                  refine reqD_dec (by simp [ty27]; omega) ?_
                  refine forceL_as ((F ++ T.drop m).flatMap rowC1) (List.flatMap_append).symm ?_
                  conv => whnf
                  repeat (first | (refine forkB_true ?_; conv => whnf) | (refine forkB_false ?_; conv => whnf) | (refine reqD_dec (by exact Nat.le_of_ble_eq_true rfl) ?_; conv => whnf) | (refine reqD_dec (by exact Nat.eq_of_beq_eq_true rfl) ?_; conv => whnf) | (refine reqD_dec ⟨by decide, by exact Nat.le_of_ble_eq_true rfl⟩ ?_; conv => whnf))
                  refine reqD_dec (by show 0 ≤ c.table ∧ c.table.toNat * 1 < (cur.flatMap tabC1).length; rw [flat_len tabC1_len]; omega) ?_
                  conv => whnf
                  repeat (first | (refine forkB_true ?_; conv => whnf) | (refine forkB_false ?_; conv => whnf) | (refine reqD_dec (by exact Nat.le_of_ble_eq_true rfl) ?_; conv => whnf) | (refine reqD_dec (by exact Nat.eq_of_beq_eq_true rfl) ?_; conv => whnf) | (refine reqD_dec ⟨by decide, by exact Nat.le_of_ble_eq_true rfl⟩ ?_; conv => whnf))
                  refine drawnX_phase env08_ok (fun _ => false) [0, 1, 2, 3, 4, 5, 6, 7, 8, 9, 10, 11, 12, 13] (.one 13 (.stop)) 0 #[true, true, true, true, true, true, true, true, true, true, true, true, true, true] (by kernel_rfl) ?_
                  conv => whnf
                  repeat (first | (refine forkB_true ?_; conv => whnf) | (refine forkB_false ?_; conv => whnf) | (refine reqD_dec (by exact Nat.le_of_ble_eq_true rfl) ?_; conv => whnf) | (refine reqD_dec (by exact Nat.eq_of_beq_eq_true rfl) ?_; conv => whnf) | (refine reqD_dec ⟨by decide, by exact Nat.le_of_ble_eq_true rfl⟩ ?_; conv => whnf))
                  refine reqD_dec (by show c.table.toNat * 1 + 1 ≤ (cur.flatMap tabC1).length; rw [flat_len tabC1_len]; omega) ?_
                  conv => whnf
                  repeat (first | (refine forkB_true ?_; conv => whnf) | (refine forkB_false ?_; conv => whnf) | (refine reqD_dec (by exact Nat.le_of_ble_eq_true rfl) ?_; conv => whnf) | (refine reqD_dec (by exact Nat.eq_of_beq_eq_true rfl) ?_; conv => whnf) | (refine reqD_dec ⟨by decide, by exact Nat.le_of_ble_eq_true rfl⟩ ?_; conv => whnf))
                  refine forceL_as ((cur.flatMap tabC1).set c.table.toNat (.gref 6)) (setR1 _ c.table.toNat _ (by rw [flat_len tabC1_len]; omega)) ?_
                  conv => whnf
                  repeat (first | (refine forkB_true ?_; conv => whnf) | (refine forkB_false ?_; conv => whnf) | (refine reqD_dec (by exact Nat.le_of_ble_eq_true rfl) ?_; conv => whnf) | (refine reqD_dec (by exact Nat.eq_of_beq_eq_true rfl) ?_; conv => whnf) | (refine reqD_dec ⟨by decide, by exact Nat.le_of_ble_eq_true rfl⟩ ?_; conv => whnf))
                  refine drawnX_done (by kernel_rfl) ?_
                  conv => whnf
                  repeat (first | (refine forkB_true ?_; conv => whnf) | (refine forkB_false ?_; conv => whnf) | (refine reqD_dec (by exact Nat.le_of_ble_eq_true rfl) ?_; conv => whnf) | (refine reqD_dec (by exact Nat.eq_of_beq_eq_true rfl) ?_; conv => whnf) | (refine reqD_dec ⟨by decide, by exact Nat.le_of_ble_eq_true rfl⟩ ?_; conv => whnf))
                  refine exI_i64 (by omega) (by omega) ?_
                  conv => whnf
                  repeat (first | (refine forkB_true ?_; conv => whnf) | (refine forkB_false ?_; conv => whnf) | (refine reqD_dec (by exact Nat.le_of_ble_eq_true rfl) ?_; conv => whnf) | (refine reqD_dec (by exact Nat.eq_of_beq_eq_true rfl) ?_; conv => whnf) | (refine reqD_dec ⟨by decide, by exact Nat.le_of_ble_eq_true rfl⟩ ?_; conv => whnf))
                  refine ⟨(i + 1, cur.set c.table.toNat (F ++ T.drop m), n + 1), ⟨by show i + 1 ≤ l.length; omega, hap, hmo2, hI2⟩, by show l.length - (i + 1) < l.length - i; omega, ?_⟩
                  refine Tr.trans (Tr.frz' (T := 27) (s := 1) (B := 24) (cells := (F ++ T.drop m).flatMap rowC1) 6 (F ++ T.drop m).length (by rfl) (by decide) (flat_len rowC1_len _) (all_flat rowC1_deep _)) ?_
                  have hX : (cur.set c.table.toNat (F ++ T.drop m)).flatMap tabC1 = ((cur.flatMap tabC1).set c.table.toNat (.gref 6)).map (·.sub 6 (.sl false 24 (F ++ T.drop m).length ((F ++ T.drop m).flatMap rowC1))) := by
                    rw [sub_set 6 _ (all_flat tabC1_deep cur), ← set_flat]
                    rfl
                  exact (Tr.ofId rfl rfl (by decide) (by exact Nat.le_of_ble_eq_true rfl) ⟨⟨rfl, rfl⟩, ⟨rfl, rfl⟩, ⟨rfl, rfl⟩, ⟨rfl, rfl⟩, ⟨rfl, rfl⟩, ⟨rfl, rfl⟩, ⟨rfl, rfl⟩, ⟨rfl, rfl⟩, trivial⟩ ⟨⟨rfl, rfl, by decide⟩, ⟨rfl, rfl, by decide⟩, ⟨(congrArg some ((ob_ren_deep _ (all_flat tabC1_deep _)).trans (congrArg (Ob.mk 41 1 24) hX))).symm, ob_lt_deep _ (all_flat tabC1_deep _), by decide⟩, ⟨rfl, rfl, by decide⟩, trivial⟩)
            · have h6 : ¬ c.new.length > 0 := by omega
              have ef : front m T c.new = T.take m := by rw [front, if_neg h6]
              have ec : cnt false n c.new = n := by rw [cnt, if_neg h6]; rfl
              conv => whnf
              repeat (first | (refine forkB_true ?_; conv => whnf) | (refine forkB_false ?_; conv => whnf) | (refine reqD_dec (by exact Nat.le_of_ble_eq_true rfl) ?_; conv => whnf) | (refine reqD_dec (by exact Nat.eq_of_beq_eq_true rfl) ?_; conv => whnf) | (refine reqD_dec ⟨by decide, by exact Nat.le_of_ble_eq_true rfl⟩ ?_; conv => whnf))
              refine forkB_intro (fun h7 => ?_) (fun h7 => ?_)
              · have h7 : n > 512 := by simpa using h7
                conv => whnf
                repeat (first | (refine forkB_true ?_; conv => whnf) | (refine forkB_false ?_; conv => whnf) | (refine reqD_dec (by exact Nat.le_of_ble_eq_true rfl) ?_; conv => whnf) | (refine reqD_dec (by exact Nat.eq_of_beq_eq_true rfl) ?_; conv => whnf) | (refine reqD_dec ⟨by decide, by exact Nat.le_of_ble_eq_true rfl⟩ ?_; conv => whnf))
                refine retX_tr (Tr.obj 2 (ob := ⟨25, 0, 0, [nilC]⟩) rfl (cells := [tabsC []]) (Pw.one (AC.LeV.sl (AC.Le.nil (.inl rfl))))) ?_
                refine retX_val rfl ?_
                conv => whnf
                rw [bad 2 cur n (by rw [hst, if_pos (by rw [ec]; exact h7)]) (by decide)]
                rfl
              · have h7 : ¬ n > 512 := by simpa using h7
                have hst : stepC s mode cur n c = _ := hst.trans (if_neg (by rw [ec]; exact h7))
                obtain ⟨F, hF⟩ : ∃ F, front m T c.new = F := ⟨_, rfl⟩
                have hFl : F.length ≤ 513 := by rw [← hF, ef]; simp; omega
                rw [hF] at hst ef
                rw [← ef]
                conv => whnf
                repeat (first | (refine forkB_true ?_; conv => whnf) | (refine forkB_false ?_; conv => whnf) | (refine reqD_dec (by exact Nat.le_of_ble_eq_true rfl) ?_; conv => whnf) | (refine reqD_dec (by exact Nat.eq_of_beq_eq_true rfl) ?_; conv => whnf) | (refine reqD_dec ⟨by decide, by exact Nat.le_of_ble_eq_true rfl⟩ ?_; conv => whnf))
                refine drawnX_tr (A1 := apS mode n i cur l s c F (T.drop m) (n)) ?_ (by rfl) ?_
                · refine Tr.trans (Tr.slot 15 (v := .one (tabC F)) (AV.Le.one (AC.LeV.sl AC.Le.sameB))) ?_
                  exact (Tr.ofId rfl rfl (by decide) (by exact Nat.le_of_ble_eq_true rfl) ⟨⟨rfl, rfl⟩, ⟨rfl, rfl⟩, ⟨rfl, rfl⟩, ⟨rfl, rfl⟩, ⟨rfl, rfl⟩, ⟨rfl, rfl⟩, ⟨rfl, rfl⟩, ⟨rfl, rfl⟩, ⟨rfl, rfl⟩, ⟨rfl, rfl⟩, ⟨rfl, rfl⟩, trivial⟩ ⟨⟨rfl, rfl, by decide⟩, ⟨rfl, rfl, by decide⟩, ⟨(congrArg some (ob_ren_deep _ (all_flat tabC1_deep cur))).symm, ob_lt_deep _ (all_flat tabC1_deep cur), by decide⟩, ⟨rfl, rfl, by decide⟩, ⟨rfl, rfl, by decide⟩, trivial⟩)
                refine drawnX_phase env08_ok (fun id => id == 3 || id == 4 || id == 5) [0, 1, 2, 3, 4, 5, 6, 7, 8, 9, 10, 11, 12] (.take 0 (.take 1 (.take 2 (.take 3 (.take 4 (.take 5 (.take 6 (.take 7 (.take 8 (.take 9 (.take 10 (.one 11 (.take 12 (.stop)))))))))))))) 1 #[true, true, true, true, true, true, true, true, true, true, true, true, true, false] (by kernel_rfl) ?_
                conv => whnf
                repeat (first | (refine forkB_true ?_; conv => whnf) | (refine forkB_false ?_; conv => whnf) | (refine reqD_dec (by exact Nat.le_of_ble_eq_true rfl) ?_; conv => whnf) | (refine reqD_dec (by exact Nat.eq_of_beq_eq_true rfl) ?_; conv => whnf) | (refine reqD_dec ⟨by decide, by exact Nat.le_of_ble_eq_true rfl⟩ ?_; conv => whnf))
                refine exI_as _ rfl ?_
                conv => whnf
                repeat (first | (refine forkB_true ?_; conv => whnf) | (refine forkB_false ?_; conv => whnf) | (refine reqD_dec (by exact Nat.le_of_ble_eq_true rfl) ?_; conv => whnf) | (refine reqD_dec (by exact Nat.eq_of_beq_eq_true rfl) ?_; conv => whnf) | (refine reqD_dec ⟨by decide, by exact Nat.le_of_ble_eq_true rfl⟩ ?_; conv => whnf))
                refine exI_as _ rfl ?_
                conv => whnf
                repeat (first | (refine forkB_true ?_; conv => whnf) | (refine forkB_false ?_; conv => whnf) | (refine reqD_dec (by exact Nat.le_of_ble_eq_true rfl) ?_; conv => whnf) | (refine reqD_dec (by exact Nat.eq_of_beq_eq_true rfl) ?_; conv => whnf) | (refine reqD_dec ⟨by decide, by exact Nat.le_of_ble_eq_true rfl⟩ ?_; conv => whnf))
                refine reqD_dec (flat_len rowC1_len F) ?_
                conv => whnf
                repeat (first | (refine forkB_true ?_; conv => whnf) | (refine forkB_false ?_; conv => whnf) | (refine reqD_dec (by exact Nat.le_of_ble_eq_true rfl) ?_; conv => whnf) | (refine reqD_dec (by exact Nat.eq_of_beq_eq_true rfl) ?_; conv => whnf) | (refine reqD_dec ⟨by decide, by exact Nat.le_of_ble_eq_true rfl⟩ ?_; conv => whnf))
                refine reqD_dec (by omega) ?_
                refine exV_as (.one (fullT F)) ((slice_full F F.length (Nat.le_refl _)).trans (by rw [List.take_length])) ?_
                conv => whnf
                repeat (first | (refine forkB_true ?_; conv => whnf) | (refine forkB_false ?_; conv => whnf) | (refine reqD_dec (by exact Nat.le_of_ble_eq_true rfl) ?_; conv => whnf) | (refine reqD_dec (by exact Nat.eq_of_beq_eq_true rfl) ?_; conv => whnf) | (refine reqD_dec ⟨by decide, by exact Nat.le_of_ble_eq_true rfl⟩ ?_; conv => whnf))
                refine reqD_dec (flat_len rowC1_len _) ?_
                conv => whnf
                repeat (first | (refine forkB_true ?_; conv => whnf) | (refine forkB_false ?_; conv => whnf) | (refine reqD_dec (by exact Nat.le_of_ble_eq_true rfl) ?_; conv => whnf) | (refine reqD_dec (by exact Nat.eq_of_beq_eq_true rfl) ?_; conv => whnf) | (refine reqD_dec ⟨by decide, by exact Nat.le_of_ble_eq_true rfl⟩ ?_; conv => whnf))
                rw [hst] at hap hmo2
                have hap : applyL s mode l st (countS st) = applyL s mode (l.drop (i + 1)) (cur.set c.table.toNat (F ++ T.drop m)) (n) := by rw [← ec]; exact hap
                have hmo2 : monoL s mode (l.drop (i + 1)) (cur.set c.table.toNat (F ++ T.drop m)) (n) := by rw [← ec]; exact hmo2 rfl
                have hI2 : okI s (cur.set c.table.toNat (F ++ T.drop m)) (n) := by
                  have h8 := stepT_ok (th := false) hI ht hT hml hthm hc (by rw [ec]; omega)
                  rw [hF, ec] at h8
                  exact h8
                refine forkB_intro (fun h8 => ?_) (fun h8 => ?_)
                · have h8 : T.drop m = [] := List.eq_nil_of_length_eq_zero (of_decide_eq_true h8)
                  rw [h8, List.append_nil] at hap hmo2 hI2
                  conv => whnf
                  repeat (first | (refine forkB_true ?_; conv => whnf) | (refine forkB_false ?_; conv => whnf) | (refine reqD_dec (by exact Nat.le_of_ble_eq_true rfl) ?_; conv => whnf) | (refine reqD_dec (by exact Nat.eq_of_beq_eq_true rfl) ?_; conv => whnf) | (refine reqD_dec ⟨by decide, by exact Nat.le_of_ble_eq_true rfl⟩ ?_; conv => whnf))
                  refine reqD_dec (by show 0 ≤ c.table ∧ c.table.toNat * 1 < (cur.flatMap tabC1).length; rw [flat_len tabC1_len]; omega) ?_
                  conv => whnf
                  repeat (first | (refine forkB_true ?_; conv => whnf) | (refine forkB_false ?_; conv => whnf) | (refine reqD_dec (by exact Nat.le_of_ble_eq_true rfl) ?_; conv => whnf) | (refine reqD_dec (by exact Nat.eq_of_beq_eq_true rfl) ?_; conv => whnf) | (refine reqD_dec ⟨by decide, by exact Nat.le_of_ble_eq_true rfl⟩ ?_; conv => whnf))
                  refine drawnX_phase env08_ok (fun _ => false) [0, 1, 2, 3, 4, 5, 6, 7, 8, 9, 10, 11, 12, 13] (.one 13 (.stop)) 0 #[true, true, true, true, true, true, true, true, true, true, true, true, true, true] (by kernel_rfl) ?_
                  conv => whnf
                  repeat (first | (refine forkB_true ?_; conv => whnf) | (refine forkB_false ?_; conv => whnf) | (refine reqD_dec (by exact Nat.le_of_ble_eq_true rfl) ?_; conv => whnf) | (refine reqD_dec (by exact Nat.eq_of_beq_eq_true rfl) ?_; conv => whnf) | (refine reqD_dec ⟨by decide, by exact Nat.le_of_ble_eq_true rfl⟩ ?_; conv => whnf))
                  refine reqD_dec (by show c.table.toNat * 1 + 1 ≤ (cur.flatMap tabC1).length; rw [flat_len tabC1_len]; omega) ?_
                  conv => whnf
                  repeat (first | (refine forkB_true ?_; conv => whnf) | (refine forkB_false ?_; conv => whnf) | (refine reqD_dec (by exact Nat.le_of_ble_eq_true rfl) ?_; conv => whnf) | (refine reqD_dec (by exact Nat.eq_of_beq_eq_true rfl) ?_; conv => whnf) | (refine reqD_dec ⟨by decide, by exact Nat.le_of_ble_eq_true rfl⟩ ?_; conv => whnf))
                  refine forceL_as ((cur.flatMap tabC1).set c.table.toNat (fullT F)) (setR1 _ c.table.toNat _ (by rw [flat_len tabC1_len]; omega)) ?_
                  conv => whnf
                  repeat (first | (refine forkB_true ?_; conv => whnf) | (refine forkB_false ?_; conv => whnf) | (refine reqD_dec (by exact Nat.le_of_ble_eq_true rfl) ?_; conv => whnf) | (refine reqD_dec (by exact Nat.eq_of_beq_eq_true rfl) ?_; conv => whnf) | (refine reqD_dec ⟨by decide, by exact Nat.le_of_ble_eq_true rfl⟩ ?_; conv => whnf))
                  refine drawnX_done (by kernel_rfl) ?_
                  conv => whnf
                  repeat (first | (refine forkB_true ?_; conv => whnf) | (refine forkB_false ?_; conv => whnf) | (refine reqD_dec (by exact Nat.le_of_ble_eq_true rfl) ?_; conv => whnf) | (refine reqD_dec (by exact Nat.eq_of_beq_eq_true rfl) ?_; conv => whnf) | (refine reqD_dec ⟨by decide, by exact Nat.le_of_ble_eq_true rfl⟩ ?_; conv => whnf))
                  refine exI_i64 (by omega) (by omega) ?_
                  conv => whnf
                  repeat (first | (refine forkB_true ?_; conv => whnf) | (refine forkB_false ?_; conv => whnf) | (refine reqD_dec (by exact Nat.le_of_ble_eq_true rfl) ?_; conv => whnf) | (refine reqD_dec (by exact Nat.eq_of_beq_eq_true rfl) ?_; conv => whnf) | (refine reqD_dec ⟨by decide, by exact Nat.le_of_ble_eq_true rfl⟩ ?_; conv => whnf))
                  refine ⟨(i + 1, cur.set c.table.toNat F, n), ⟨by show i + 1 ≤ l.length; omega, hap, hmo2, hI2⟩, by show l.length - (i + 1) < l.length - i; omega, ?_⟩
                  refine Tr.trans (Tr.obj 3 (ob := ⟨41, 1, 24, (cur.flatMap tabC1).set c.table.toNat (fullT F)⟩) (by rfl) (cells := (cur.set c.table.toNat F).flatMap tabC1) (set_flat cur c.table.toNat F ▸ Pw.set AC.LeV.refl (AC.LeV.sl AC.Le.sameB))) ?_
                  exact (Tr.ofId rfl rfl (by decide) (by exact Nat.le_of_ble_eq_true rfl) ⟨⟨rfl, rfl⟩, ⟨rfl, rfl⟩, ⟨rfl, rfl⟩, ⟨rfl, rfl⟩, ⟨rfl, rfl⟩, ⟨rfl, rfl⟩, ⟨rfl, rfl⟩, ⟨rfl, rfl⟩, trivial⟩ ⟨⟨rfl, rfl, by decide⟩, ⟨rfl, rfl, by decide⟩, ⟨(congrArg some (ob_ren_deep _ (all_flat tabC1_deep _))).symm, ob_lt_deep _ (all_flat tabC1_deep _), by decide⟩, ⟨rfl, rfl, by decide⟩, trivial⟩)
                · conv => whnf
                  repeat (first | (refine forkB_true ?_; conv => whnf) | (refine forkB_false ?_; conv => whnf) | (refine reqD_dec (by exact Nat.le_of_ble_eq_true rfl) ?_; conv => whnf) | (refine reqD_dec (by exact Nat.eq_of_beq_eq_true rfl) ?_; conv => whnf) | (refine reqD_dec ⟨by decide, by exact Nat.le_of_ble_eq_true rfl⟩ ?_; conv => whnf))
                  refine reqD_dec (flat_len rowC1_len F) ?_
                  refine reqD_dec (by simp [ty27]; omega) ?_
                  refine forceL_as ((F ++ T.drop m).flatMap rowC1) (List.flatMap_append).symm ?_
                  conv => whnf
                  repeat (first | (refine forkB_true ?_; conv => whnf) | (refine forkB_false ?_; conv => whnf) | (refine reqD_dec (by exact Nat.le_of_ble_eq_true rfl) ?_; conv => whnf) | (refine reqD_dec (by exact Nat.eq_of_beq_eq_true rfl) ?_; conv => whnf) | (refine reqD_dec ⟨by decide, by exact Nat.le_of_ble_eq_true rfl⟩ ?_; conv => whnf))
                  refine reqD_dec (by show 0 ≤ c.table ∧ c.table.toNat * 1 < (cur.flatMap tabC1).length; rw [flat_len tabC1_len]; omega) ?_
                  conv => whnf
                  repeat (first | (refine forkB_true ?_; conv => whnf) | (refine forkB_false ?_; conv => whnf) | (refine reqD_dec (by exact Nat.le_of_ble_eq_true rfl) ?_; conv => whnf) | (refine reqD_dec (by exact Nat.eq_of_beq_eq_true rfl) ?_; conv => whnf) | (refine reqD_dec ⟨by decide, by exact Nat.le_of_ble_eq_true rfl⟩ ?_; conv => whnf))
                  refine drawnX_phase env08_ok (fun _ => false) [0, 1, 2, 3, 4, 5, 6, 7, 8, 9, 10, 11, 12, 13] (.one 13 (.stop)) 0 #[true, true, true, true, true, true, true, true, true, true, true, true, true, true] (by kernel_rfl) ?_
                  conv => whnf
                  repeat (first | (refine forkB_true ?_; conv => whnf) | (refine forkB_false ?_; conv => whnf) | (refine reqD_dec (by exact Nat.le_of_ble_eq_true rfl) ?_; conv => whnf) | (refine reqD_dec (by exact Nat.eq_of_beq_eq_true rfl) ?_; conv => whnf) | (refine reqD_dec ⟨by decide, by exact Nat.le_of_ble_eq_true rfl⟩ ?_; conv => whnf))
                  refine reqD_dec (by show c.table.toNat * 1 + 1 ≤ (cur.flatMap tabC1).length; rw [flat_len tabC1_len]; omega) ?_
                  conv => whnf
                  repeat (first | (refine forkB_true ?_; conv => whnf) | (refine forkB_false ?_; conv => whnf) | (refine reqD_dec (by exact Nat.le_of_ble_eq_true rfl) ?_; conv => whnf) | (refine reqD_dec (by exact Nat.eq_of_beq_eq_true rfl) ?_; conv => whnf) | (refine reqD_dec ⟨by decide, by exact Nat.le_of_ble_eq_true rfl⟩ ?_; conv => whnf))
                  refine forceL_as ((cur.flatMap tabC1).set c.table.toNat (.gref 6)) (setR1 _ c.table.toNat _ (by rw [flat_len tabC1_len]; omega)) ?_
                  conv => whnf
                  repeat (first | (refine forkB_true ?_; conv => whnf) | (refine forkB_false ?_; conv => whnf) | (refine reqD_dec (by exact Nat.le_of_ble_eq_true rfl) ?_; conv => whnf) | (refine reqD_dec (by exact Nat.eq_of_beq_eq_true rfl) ?_; conv => whnf) | (refine reqD_dec ⟨by decide, by exact Nat.le_of_ble_eq_true rfl⟩ ?_; conv => whnf))
                  refine drawnX_done (by kernel_rfl) ?_
                  conv => whnf
                  repeat (first | (refine forkB_true ?_; conv => whnf) | (refine forkB_false ?_; conv => whnf) | (refine reqD_dec (by exact Nat.le_of_ble_eq_true rfl) ?_; conv => whnf) | (refine reqD_dec (by exact Nat.eq_of_beq_eq_true rfl) ?_; conv => whnf) | (refine reqD_dec ⟨by decide, by exact Nat.le_of_ble_eq_true rfl⟩ ?_; conv => whnf))
                  refine exI_i64 (by omega) (by omega) ?_
                  conv => whnf
                  repeat (first | (refine forkB_true ?_; conv => whnf) | (refine forkB_false ?_; conv => whnf) | (refine reqD_dec (by exact Nat.le_of_ble_eq_true rfl) ?_; conv => whnf) | (refine reqD_dec (by exact Nat.eq_of_beq_eq_true rfl) ?_; conv => whnf) | (refine reqD_dec ⟨by decide, by exact Nat.le_of_ble_eq_true rfl⟩ ?_; conv => whnf))
                  refine ⟨(i + 1, cur.set c.table.toNat (F ++ T.drop m), n), ⟨by show i + 1 ≤ l.length; omega, hap, hmo2, hI2⟩, by show l.length - (i + 1) < l.length - i; omega, ?_⟩
                  refine Tr.trans (Tr.frz' (T := 27) (s := 1) (B := 24) (cells := (F ++ T.drop m).flatMap rowC1) 6 (F ++ T.drop m).length (by rfl) (by decide) (flat_len rowC1_len _) (all_flat rowC1_deep _)) ?_
                  have hX : (cur.set c.table.toNat (F ++ T.drop m)).flatMap tabC1 = ((cur.flatMap tabC1).set c.table.toNat (.gref 6)).map (·.sub 6 (.sl false 24 (F ++ T.drop m).length ((F ++ T.drop m).flatMap rowC1))) := by
                    rw [sub_set 6 _ (all_flat tabC1_deep cur), ← set_flat]
                    rfl
                  exact (Tr.ofId rfl rfl (by decide) (by exact Nat.le_of_ble_eq_true rfl) ⟨⟨rfl, rfl⟩, ⟨rfl, rfl⟩, ⟨rfl, rfl⟩, ⟨rfl, rfl⟩, ⟨rfl, rfl⟩, ⟨rfl, rfl⟩, ⟨rfl, rfl⟩, ⟨rfl, rfl⟩, trivial⟩ ⟨⟨rfl, rfl, by decide⟩, ⟨rfl, rfl, by decide⟩, ⟨(congrArg some ((ob_ren_deep _ (all_flat tabC1_deep _)).trans (congrArg (Ob.mk 41 1 24) hX))).symm, ob_lt_deep _ (all_flat tabC1_deep _), by decide⟩, ⟨rfl, rfl, by decide⟩, trivial⟩)
    · have ei : i = l.length := by have h3 : ¬ (i : Int) < l.length := h3; omega
      rw [List.drop_eq_nil_of_le (by omega), applyL] at hap
      conv => whnf
      repeat (first | (refine forkB_true ?_; conv => whnf) | (refine forkB_false ?_; conv => whnf) | (refine reqD_dec (by exact Nat.le_of_ble_eq_true rfl) ?_; conv => whnf) | (refine reqD_dec (by exact Nat.eq_of_beq_eq_true rfl) ?_; conv => whnf) | (refine reqD_dec ⟨by decide, by exact Nat.le_of_ble_eq_true rfl⟩ ?_; conv => whnf))
      refine retX_tr (Tr.frz' (T := 41) (s := 1) (B := 24) (cells := cur.flatMap tabC1) 3 cur.length (by rfl) (by decide) (flat_len tabC1_len cur) (all_flat tabC1_deep cur)) ?_
      refine retX_val rfl ?_
      conv => whnf
      rw [ea, hap]
      rfl
end Go.Proofs.Ve


/-
  VeV8: sorting one element.
-/
set_option linter.unusedVariables false
set_option linter.unusedSimpArgs false
set_option pp.maxSteps 1000
namespace Go.Proofs.Ve
open Go

theorem AV.Le.any {c : AC} : AV.Le (.one c) (.one .any) := fun G nx w v h => by
  cases h with
  | one h => exact .one (.deep (.any v h.one h.cells))

theorem len64_spec : PSpec Try.prog 93 [.one (.int .u64 1)] (fun r => r = .one (.int .i64 1)) := by
  refine pspec_x env08_ok mixed08 Try.func93 rfl 25 rfl _ rfl rfl ?_
  conv => whnf
  repeat' (first | (refine forkB_true ?_; conv => whnf) | (refine forkB_false ?_; conv => whnf) | (refine reqD_dec (by exact Nat.le_of_ble_eq_true rfl) ?_; conv => whnf) | (refine reqD_dec (by exact Nat.eq_of_beq_eq_true rfl) ?_; conv => whnf) | (refine exI_i64 (by omega) (by omega) ?_; conv => whnf) | (refine exI_as _ rfl ?_; conv => whnf) | (refine forkB_dec (fun _ => ?_) (fun _ => ?_) <;> conv => whnf) | (refine forkB_intro (fun _ => ?_) (fun _ => ?_) <;> conv => whnf))
  refine reqD_dec (by decide) ?_
  refine optD_as 1 (by decide) ?_
  conv => whnf
  repeat' (first | (refine forkB_true ?_; conv => whnf) | (refine forkB_false ?_; conv => whnf) | (refine reqD_dec (by exact Nat.le_of_ble_eq_true rfl) ?_; conv => whnf) | (refine reqD_dec (by exact Nat.eq_of_beq_eq_true rfl) ?_; conv => whnf) | (refine exI_i64 (by omega) (by omega) ?_; conv => whnf) | (refine exI_as _ rfl ?_; conv => whnf) | (refine forkB_dec (fun _ => ?_) (fun _ => ?_) <;> conv => whnf) | (refine forkB_intro (fun _ => ?_) (fun _ => ?_) <;> conv => whnf))
  refine retX_val rfl ?_
  conv => whnf
  rfl
theorem len_spec : PSpec Try.prog 74 [.one (.int .u64 1)] (fun r => r = .one (.int .i64 1)) := by
  refine pspec_x env08_ok mixed08 Try.func74 rfl 8 rfl _ rfl rfl ?_
  conv => whnf
  repeat (first | (refine forkB_true ?_; conv => whnf) | (refine forkB_false ?_; conv => whnf) | (refine reqD_dec (by exact Nat.le_of_ble_eq_true rfl) ?_; conv => whnf) | (refine reqD_dec (by exact Nat.eq_of_beq_eq_true rfl) ?_; conv => whnf) | (refine reqD_dec ⟨by decide, by exact Nat.le_of_ble_eq_true rfl⟩ ?_; conv => whnf))
  refine callX_le len64_spec (callee_of Try.func93 rfl rfl) rfl rfl (.cons (AV.Le.refl _) .nil) rfl ?_
  rintro x hx rfl
  conv => whnf
  repeat (first | (refine forkB_true ?_; conv => whnf) | (refine forkB_false ?_; conv => whnf) | (refine reqD_dec (by exact Nat.le_of_ble_eq_true rfl) ?_; conv => whnf) | (refine reqD_dec (by exact Nat.eq_of_beq_eq_true rfl) ?_; conv => whnf) | (refine reqD_dec ⟨by decide, by exact Nat.le_of_ble_eq_true rfl⟩ ?_; conv => whnf))
  refine retX_val rfl ?_
  conv => whnf
  rfl
def ord1 : Ob := ⟨3, 1, 8, [.int .i64 0]⟩
theorem ins_spec : OSpec Try.prog 84 [.one (.gref 0), .one (.int .i64 0), .one (.int .i64 1), .one .any] [ord1] (fun r => r = .tup []) := by
  refine ospec_x env08_ok mixed08 Try.func84 rfl 53 rfl _ rfl rfl ?_
  conv => whnf
  repeat (first | (refine forkB_true ?_; conv => whnf) | (refine forkB_false ?_; conv => whnf) | (refine reqD_dec (by exact Nat.le_of_ble_eq_true rfl) ?_; conv => whnf) | (refine reqD_dec (by exact Nat.eq_of_beq_eq_true rfl) ?_; conv => whnf) | (refine reqD_dec ⟨by decide, by exact Nat.le_of_ble_eq_true rfl⟩ ?_; conv => whnf))
  refine exI_i64 (by omega) (by omega) ?_
  conv => whnf
  repeat (first | (refine forkB_true ?_; conv => whnf) | (refine forkB_false ?_; conv => whnf) | (refine reqD_dec (by exact Nat.le_of_ble_eq_true rfl) ?_; conv => whnf) | (refine reqD_dec (by exact Nat.eq_of_beq_eq_true rfl) ?_; conv => whnf) | (refine reqD_dec ⟨by decide, by exact Nat.le_of_ble_eq_true rfl⟩ ?_; conv => whnf))
  refine loopX_n env08_ok mixed08 1 ?_
  conv => whnf
  repeat' (first | (refine forkB_true ?_; conv => whnf) | (refine forkB_false ?_; conv => whnf) | (refine reqD_dec (by exact Nat.le_of_ble_eq_true rfl) ?_; conv => whnf) | (refine reqD_dec (by exact Nat.eq_of_beq_eq_true rfl) ?_; conv => whnf) | (refine exI_i64 (by omega) (by omega) ?_; conv => whnf) | (refine exI_as _ rfl ?_; conv => whnf) | (refine forkB_dec (fun _ => ?_) (fun _ => ?_) <;> conv => whnf) | (refine forkB_intro (fun _ => ?_) (fun _ => ?_) <;> conv => whnf))
  refine retX_obs rfl rfl (by exact Nat.le_of_ble_eq_true rfl) ⟨⟨rfl, rfl⟩, trivial⟩ ?_
  conv => whnf
theorem pdq_spec : OSpec Try.prog 73 [.one (.gref 0), .one (.int .i64 0), .one (.int .i64 1), .one .any, .one .any] [ord1] (fun r => r = .tup []) := by
  refine ospec_x env08_ok mixed08 Try.func73 rfl 148 rfl _ rfl rfl ?_
  conv => whnf
  repeat (first | (refine forkB_true ?_; conv => whnf) | (refine forkB_false ?_; conv => whnf) | (refine reqD_dec (by exact Nat.le_of_ble_eq_true rfl) ?_; conv => whnf) | (refine reqD_dec (by exact Nat.eq_of_beq_eq_true rfl) ?_; conv => whnf) | (refine reqD_dec ⟨by decide, by exact Nat.le_of_ble_eq_true rfl⟩ ?_; conv => whnf))
  refine loopX_n env08_ok mixed08 1 ?_
  conv => whnf
  repeat' (first | (refine forkB_true ?_; conv => whnf) | (refine forkB_false ?_; conv => whnf) | (refine reqD_dec (by exact Nat.le_of_ble_eq_true rfl) ?_; conv => whnf) | (refine reqD_dec (by exact Nat.eq_of_beq_eq_true rfl) ?_; conv => whnf) | (refine exI_i64 (by omega) (by omega) ?_; conv => whnf) | (refine exI_as _ rfl ?_; conv => whnf) | (refine forkB_dec (fun _ => ?_) (fun _ => ?_) <;> conv => whnf) | (refine forkB_intro (fun _ => ?_) (fun _ => ?_) <;> conv => whnf))
  refine callX_obs ins_spec (callee_of Try.func84 rfl rfl) id (posN 1) rfl rfl (.cons (AV.Le.refl _) (.cons (AV.Le.refl _) (.cons (AV.Le.refl _) (.cons (AV.Le.refl _) .nil)))) (passedN (obs := [ord1]) rfl (by exact Nat.le_of_ble_eq_true rfl) ⟨⟨rfl, rfl⟩, trivial⟩) ?_
  rintro x hx rfl
  conv => whnf
  repeat' (first | (refine forkB_true ?_; conv => whnf) | (refine forkB_false ?_; conv => whnf) | (refine reqD_dec (by exact Nat.le_of_ble_eq_true rfl) ?_; conv => whnf) | (refine reqD_dec (by exact Nat.eq_of_beq_eq_true rfl) ?_; conv => whnf) | (refine exI_i64 (by omega) (by omega) ?_; conv => whnf) | (refine exI_as _ rfl ?_; conv => whnf) | (refine forkB_dec (fun _ => ?_) (fun _ => ?_) <;> conv => whnf) | (refine forkB_intro (fun _ => ?_) (fun _ => ?_) <;> conv => whnf))
  refine retX_obs rfl rfl (by exact Nat.le_of_ble_eq_true rfl) ⟨⟨rfl, rfl⟩, trivial⟩ ?_
  conv => whnf
theorem sort_spec : OSpec Try.prog 56 [.one (.gref 0), .one .any] [ord1] (fun r => r = .tup []) := by
  refine ospec_x env08_ok mixed08 Try.func56 rfl 14 rfl _ rfl rfl ?_
  conv => whnf
  repeat (first | (refine forkB_true ?_; conv => whnf) | (refine forkB_false ?_; conv => whnf) | (refine reqD_dec (by exact Nat.le_of_ble_eq_true rfl) ?_; conv => whnf) | (refine reqD_dec (by exact Nat.eq_of_beq_eq_true rfl) ?_; conv => whnf) | (refine reqD_dec ⟨by decide, by exact Nat.le_of_ble_eq_true rfl⟩ ?_; conv => whnf))
  refine ⟨1, rfl, ?_⟩
  conv => whnf
  repeat (first | (refine forkB_true ?_; conv => whnf) | (refine forkB_false ?_; conv => whnf) | (refine reqD_dec (by exact Nat.le_of_ble_eq_true rfl) ?_; conv => whnf) | (refine reqD_dec (by exact Nat.eq_of_beq_eq_true rfl) ?_; conv => whnf) | (refine reqD_dec ⟨by decide, by exact Nat.le_of_ble_eq_true rfl⟩ ?_; conv => whnf))
  refine exI_as 1 (by decide) ?_
  conv => whnf
  repeat (first | (refine forkB_true ?_; conv => whnf) | (refine forkB_false ?_; conv => whnf) | (refine reqD_dec (by exact Nat.le_of_ble_eq_true rfl) ?_; conv => whnf) | (refine reqD_dec (by exact Nat.eq_of_beq_eq_true rfl) ?_; conv => whnf) | (refine reqD_dec ⟨by decide, by exact Nat.le_of_ble_eq_true rfl⟩ ?_; conv => whnf))
  refine callX_le len_spec (callee_of Try.func74 rfl rfl) rfl rfl (.cons (AV.Le.refl _) .nil) rfl ?_
  rintro x hx rfl
  conv => whnf
  repeat (first | (refine forkB_true ?_; conv => whnf) | (refine forkB_false ?_; conv => whnf) | (refine reqD_dec (by exact Nat.le_of_ble_eq_true rfl) ?_; conv => whnf) | (refine reqD_dec (by exact Nat.eq_of_beq_eq_true rfl) ?_; conv => whnf) | (refine reqD_dec ⟨by decide, by exact Nat.le_of_ble_eq_true rfl⟩ ?_; conv => whnf))
  refine callX_obs pdq_spec (callee_of Try.func73 rfl rfl) id (posN 1) rfl rfl (.cons (AV.Le.refl _) (.cons (AV.Le.refl _) (.cons (AV.Le.refl _) (.cons AV.Le.any (.cons (AV.Le.refl _) .nil))))) (passedN (obs := [ord1]) rfl (by exact Nat.le_of_ble_eq_true rfl) ⟨⟨rfl, rfl⟩, trivial⟩) ?_
  rintro x hx rfl
  conv => whnf
  repeat' (first | (refine forkB_true ?_; conv => whnf) | (refine forkB_false ?_; conv => whnf) | (refine reqD_dec (by exact Nat.le_of_ble_eq_true rfl) ?_; conv => whnf) | (refine reqD_dec (by exact Nat.eq_of_beq_eq_true rfl) ?_; conv => whnf) | (refine exI_i64 (by omega) (by omega) ?_; conv => whnf) | (refine exI_as _ rfl ?_; conv => whnf) | (refine forkB_dec (fun _ => ?_) (fun _ => ?_) <;> conv => whnf) | (refine forkB_intro (fun _ => ?_) (fun _ => ?_) <;> conv => whnf))
  refine retX_obs rfl rfl (by exact Nat.le_of_ble_eq_true rfl) ⟨⟨rfl, rfl⟩, trivial⟩ ?_
  conv => whnf
end Go.Proofs.Ve


/-
  VeV9: Net of a row that comes and goes.
-/
set_option linter.unusedVariables false
set_option linter.unusedSimpArgs false
set_option pp.maxSteps 1000
set_option maxHeartbeats 2000000
namespace Go.Proofs.Ve
open Go

def npS (s : Sch) (mode t : Int) (r key : Row) : Nat → AS
  | 0 => AS.of 148 0 3 [(1, .one (.int .i64 mode)), (3, .one (.ptr 0 0)), (9, .one (.ptr 1 0)), (10, .one (.ptr 2 0)), (33, .one (chgsC [⟨t, [], r⟩, ⟨t, r, []⟩])), (34, .one (.int .i64 2)), (35, .one (.int .i64 0))]
      [(0, ⟨32, 0, 0, schC s⟩), (1, ⟨56, 0, 0, [nilC]⟩), (2, ⟨41, 0, 0, [nilC]⟩)]
  | 1 => AS.of 148 0 5 [(1, .one (.int .i64 mode)), (3, .one (.ptr 0 0)), (9, .one (.ptr 1 0)), (10, .one (.ptr 2 0)), (33, .one (chgsC [⟨t, [], r⟩, ⟨t, r, []⟩])), (34, .one (.int .i64 2)), (35, .one (.int .i64 1))]
      [(0, ⟨32, 0, 0, schC s⟩), (1, ⟨56, 0, 0, [.gref 3]⟩), (2, ⟨41, 0, 0, [.gref 4]⟩), (3, ⟨60, 3, 56, [.int .i64 t, rowC [], rowC r]⟩), (4, ⟨27, 1, 24, [rowC key]⟩)]
  | _ => AS.of 148 0 5 [(1, .one (.int .i64 mode)), (3, .one (.ptr 0 0)), (9, .one (.ptr 1 0)), (10, .one (.ptr 2 0)), (33, .one (chgsC [⟨t, [], r⟩, ⟨t, r, []⟩])), (34, .one (.int .i64 2)), (35, .one (.int .i64 2))]
      [(0, ⟨32, 0, 0, schC s⟩), (1, ⟨56, 0, 0, [.gref 3]⟩), (2, ⟨41, 0, 0, [.gref 4]⟩), (3, ⟨60, 3, 56, [.int .i64 t, rowC [], rowC []]⟩), (4, ⟨27, 1, 24, [rowC key]⟩)]

theorem net_pair (s : Sch) (mode t : Int) (r key : Row) (hm : 1 ≤ mode ∧ mode ≤ 3) (h53 : PSpec Try.prog 53 [.agg (schC s)] (fun x => x = .one (.int .i64 0))) (hr : okR r) (hkr : okR key)
    (hv1 : validC s mode ⟨t, [], r⟩ = true) (hv2 : validC s mode ⟨t, r, []⟩ = true) (hk1 : keyC s ⟨t, [], r⟩ = key) (hk2 : keyC s ⟨t, r, []⟩ = key) (hkk : cmpR key key = 0) (hrr : cmpR r r = 0) :
    PSpec Try.prog 32 [.agg (schC s), .one (.int .i64 mode), .one (chgsC [⟨t, [], r⟩, ⟨t, r, []⟩])] (fun x => x = .tup [.one (chgsC []), .one (.int .i64 0)]) := by
  refine pspec_x env08_ok mixed08 Try.func32 rfl 148 rfl _ rfl rfl ?_
  have h0 : okR [] := Nat.zero_le _
  conv => whnf
  repeat (first | (refine forkB_true ?_; conv => whnf) | (refine forkB_false ?_; conv => whnf) | (refine reqD_dec (by exact Nat.le_of_ble_eq_true rfl) ?_; conv => whnf) | (refine reqD_dec (by exact Nat.eq_of_beq_eq_true rfl) ?_; conv => whnf) | (refine reqD_dec ⟨by decide, by exact Nat.le_of_ble_eq_true rfl⟩ ?_; conv => whnf))
  refine callX_le h53 (callee_of Try.func53 rfl rfl) rfl rfl (.cons (AV.Le.refl _) .nil) rfl ?_
  rintro x hx rfl
  conv => whnf
  repeat (first | (refine forkB_true ?_; conv => whnf) | (refine forkB_false ?_; conv => whnf) | (refine reqD_dec (by exact Nat.le_of_ble_eq_true rfl) ?_; conv => whnf) | (refine reqD_dec (by exact Nat.eq_of_beq_eq_true rfl) ?_; conv => whnf) | (refine reqD_dec ⟨by decide, by exact Nat.le_of_ble_eq_true rfl⟩ ?_; conv => whnf))
  refine forkB_dec (fun h => absurd h (by omega)) (fun _ => ?_)
  conv => whnf
  repeat (first | (refine forkB_true ?_; conv => whnf) | (refine forkB_false ?_; conv => whnf) | (refine reqD_dec (by exact Nat.le_of_ble_eq_true rfl) ?_; conv => whnf) | (refine reqD_dec (by exact Nat.eq_of_beq_eq_true rfl) ?_; conv => whnf) | (refine reqD_dec ⟨by decide, by exact Nat.le_of_ble_eq_true rfl⟩ ?_; conv => whnf))
  refine forkB_dec (fun h => absurd h (by omega)) (fun _ => ?_)
  conv => whnf
  repeat' (first | (refine forkB_true ?_; conv => whnf) | (refine forkB_false ?_; conv => whnf) | (refine reqD_dec (by exact Nat.le_of_ble_eq_true rfl) ?_; conv => whnf) | (refine reqD_dec (by exact Nat.eq_of_beq_eq_true rfl) ?_; conv => whnf) | (refine exI_i64 (by omega) (by omega) ?_; conv => whnf) | (refine exI_as _ rfl ?_; conv => whnf) | (refine forkB_dec (fun _ => ?_) (fun _ => ?_) <;> conv => whnf) | (refine forkB_intro (fun _ => ?_) (fun _ => ?_) <;> conv => whnf))
  refine loopX_of env08_ok mixed08 (σ := Nat) (npS s mode t r key) (fun i => i ≤ 2) (fun i => 2 - i) 0 (fun i => by match i with | 0 => rfl | 1 => rfl | i + 2 => rfl) (Tr.ofId rfl rfl (by decide) (by exact Nat.le_of_ble_eq_true rfl) ⟨⟨rfl, rfl⟩, ⟨rfl, rfl⟩, ⟨rfl, rfl⟩, ⟨rfl, rfl⟩, ⟨rfl, rfl⟩, ⟨rfl, rfl⟩, ⟨rfl, rfl⟩, trivial⟩ ⟨⟨rfl, rfl, by decide⟩, ⟨rfl, rfl, by decide⟩, ⟨rfl, rfl, by decide⟩, trivial⟩) (by decide) ?_
  intro i hi
  match i, hi with
  | 0, _ =>
    conv => whnf
    repeat' (first | (refine forkB_true ?_; conv => whnf) | (refine forkB_false ?_; conv => whnf) | (refine reqD_dec (by exact Nat.le_of_ble_eq_true rfl) ?_; conv => whnf) | (refine reqD_dec (by exact Nat.eq_of_beq_eq_true rfl) ?_; conv => whnf) | (refine exI_i64 (by omega) (by omega) ?_; conv => whnf) | (refine exI_as _ rfl ?_; conv => whnf) | (refine forkB_dec (fun _ => ?_) (fun _ => ?_) <;> conv => whnf) | (refine forkB_intro (fun _ => ?_) (fun _ => ?_) <;> conv => whnf))
    refine reqD_dec (by first | omega | decide | (simp [ty27, ty58, ty41, ty23, ty55, ty30, ty60, ty56, ty3, ty39]; done) | (simp [ty27, ty58, ty41, ty23, ty55, ty30, ty60, ty56, ty3, ty39]; omega)) ?_
    conv => whnf
    repeat (first | (refine forkB_true ?_; conv => whnf) | (refine forkB_false ?_; conv => whnf) | (refine reqD_dec (by exact Nat.le_of_ble_eq_true rfl) ?_; conv => whnf) | (refine reqD_dec (by exact Nat.eq_of_beq_eq_true rfl) ?_; conv => whnf) | (refine reqD_dec ⟨by decide, by exact Nat.le_of_ble_eq_true rfl⟩ ?_; conv => whnf))
    refine callX_le (validC_spec s mode ⟨t, [], r⟩ ⟨h0, hr⟩) (callee_of Try.func50 rfl rfl) rfl rfl (.cons (AV.Le.refl _) (.cons (AV.Le.refl _) (.cons (AV.Le.refl _) .nil))) rfl ?_
    rw [hv1]
    rintro x hx rfl
    conv => whnf
    repeat' (first | (refine forkB_true ?_; conv => whnf) | (refine forkB_false ?_; conv => whnf) | (refine reqD_dec (by exact Nat.le_of_ble_eq_true rfl) ?_; conv => whnf) | (refine reqD_dec (by exact Nat.eq_of_beq_eq_true rfl) ?_; conv => whnf) | (refine exI_i64 (by omega) (by omega) ?_; conv => whnf) | (refine exI_as _ rfl ?_; conv => whnf) | (refine forkB_dec (fun _ => ?_) (fun _ => ?_) <;> conv => whnf) | (refine forkB_intro (fun _ => ?_) (fun _ => ?_) <;> conv => whnf))
    refine callX_le (keyOf_spec s ⟨t, [], r⟩ h0 hr) (callee_of Try.func52 rfl rfl) rfl rfl (.cons (AV.Le.refl _) (.cons (AV.Le.refl _) .nil)) rfl ?_
    rw [hk1]
    rintro x hx rfl
    conv => whnf
    repeat' (first | (refine forkB_true ?_; conv => whnf) | (refine forkB_false ?_; conv => whnf) | (refine reqD_dec (by exact Nat.le_of_ble_eq_true rfl) ?_; conv => whnf) | (refine reqD_dec (by exact Nat.eq_of_beq_eq_true rfl) ?_; conv => whnf) | (refine exI_i64 (by omega) (by omega) ?_; conv => whnf) | (refine exI_as _ rfl ?_; conv => whnf) | (refine forkB_dec (fun _ => ?_) (fun _ => ?_) <;> conv => whnf) | (refine forkB_intro (fun _ => ?_) (fun _ => ?_) <;> conv => whnf))
    refine loopX_n env08_ok mixed08 1 ?_
    conv => whnf
    repeat' (first | (refine forkB_true ?_; conv => whnf) | (refine forkB_false ?_; conv => whnf) | (refine reqD_dec (by exact Nat.le_of_ble_eq_true rfl) ?_; conv => whnf) | (refine reqD_dec (by exact Nat.eq_of_beq_eq_true rfl) ?_; conv => whnf) | (refine exI_i64 (by omega) (by omega) ?_; conv => whnf) | (refine exI_as _ rfl ?_; conv => whnf) | (refine forkB_dec (fun _ => ?_) (fun _ => ?_) <;> conv => whnf) | (refine forkB_intro (fun _ => ?_) (fun _ => ?_) <;> conv => whnf))
    refine drawnX_phase env08_ok (fun id => id < 4) [0, 1, 2, 3, 4, 5, 6, 7, 8, 9, 10, 11, 12, 13, 14, 15] (.take 0 (.take 1 (.take 2 (.take 3 (.take 4 (.take 6 (.take 7 (.take 12 (.take 13 (.two 5 14 (.two 8 14 (.take 9 (.two 10 14 (.two 11 14 (.one 14 (.one 15 (.stop))) (.one 11 (.one 15 (.stop)))) (.one 10 (.one 11 (.one 15 (.stop)))))) (.one 8 (.take 9 (.one 10 (.one 11 (.one 15 (.stop))))))) (.one 5 (.one 8 (.take 9 (.one 10 (.one 11 (.one 15 (.stop))))))))))))))))) 2 #[true, true, true, true, true, true, true, true, true, true, true, true, true, true, true, true, false, false] (by kernel_rfl) ?_
    conv => whnf
    repeat (first | (refine forkB_true ?_; conv => whnf) | (refine forkB_false ?_; conv => whnf) | (refine reqD_dec (by exact Nat.le_of_ble_eq_true rfl) ?_; conv => whnf) | (refine reqD_dec (by exact Nat.eq_of_beq_eq_true rfl) ?_; conv => whnf) | (refine reqD_dec ⟨by decide, by exact Nat.le_of_ble_eq_true rfl⟩ ?_; conv => whnf))
    refine ⟨?_, ?_⟩
    · conv => whnf
      repeat (first | (refine forkB_true ?_; conv => whnf) | (refine forkB_false ?_; conv => whnf) | (refine reqD_dec (by exact Nat.le_of_ble_eq_true rfl) ?_; conv => whnf) | (refine reqD_dec (by exact Nat.eq_of_beq_eq_true rfl) ?_; conv => whnf) | (refine reqD_dec ⟨by decide, by exact Nat.le_of_ble_eq_true rfl⟩ ?_; conv => whnf))
      refine callX_le (copied_spec ([]) (h0)) callee44 rfl rfl (.cons (AV.Le.refl _) .nil) rfl ?_
      rintro x hx rfl
      conv => whnf
      repeat (first | (refine forkB_true ?_; conv => whnf) | (refine forkB_false ?_; conv => whnf) | (refine reqD_dec (by exact Nat.le_of_ble_eq_true rfl) ?_; conv => whnf) | (refine reqD_dec (by exact Nat.eq_of_beq_eq_true rfl) ?_; conv => whnf) | (refine reqD_dec ⟨by decide, by exact Nat.le_of_ble_eq_true rfl⟩ ?_; conv => whnf))
      refine ⟨?_, ?_⟩
      · conv => whnf
        repeat (first | (refine forkB_true ?_; conv => whnf) | (refine forkB_false ?_; conv => whnf) | (refine reqD_dec (by exact Nat.le_of_ble_eq_true rfl) ?_; conv => whnf) | (refine reqD_dec (by exact Nat.eq_of_beq_eq_true rfl) ?_; conv => whnf) | (refine reqD_dec ⟨by decide, by exact Nat.le_of_ble_eq_true rfl⟩ ?_; conv => whnf))
        refine callX_le (copied_spec (r) (hr)) callee44 rfl rfl (.cons (AV.Le.refl _) .nil) rfl ?_
        rintro x hx rfl
        conv => whnf
        repeat (first | (refine forkB_true ?_; conv => whnf) | (refine forkB_false ?_; conv => whnf) | (refine reqD_dec (by exact Nat.le_of_ble_eq_true rfl) ?_; conv => whnf) | (refine reqD_dec (by exact Nat.eq_of_beq_eq_true rfl) ?_; conv => whnf) | (refine reqD_dec ⟨by decide, by exact Nat.le_of_ble_eq_true rfl⟩ ?_; conv => whnf))
        refine ⟨?_, ?_⟩
        · conv => whnf
          repeat (first | (refine forkB_true ?_; conv => whnf) | (refine forkB_false ?_; conv => whnf) | (refine reqD_dec (by exact Nat.le_of_ble_eq_true rfl) ?_; conv => whnf) | (refine reqD_dec (by exact Nat.eq_of_beq_eq_true rfl) ?_; conv => whnf) | (refine reqD_dec ⟨by decide, by exact Nat.le_of_ble_eq_true rfl⟩ ?_; conv => whnf))
          refine ⟨?_, ?_⟩
          · conv => whnf
            repeat (first | (refine forkB_true ?_; conv => whnf) | (refine forkB_false ?_; conv => whnf) | (refine reqD_dec (by exact Nat.le_of_ble_eq_true rfl) ?_; conv => whnf) | (refine reqD_dec (by exact Nat.eq_of_beq_eq_true rfl) ?_; conv => whnf) | (refine reqD_dec ⟨by decide, by exact Nat.le_of_ble_eq_true rfl⟩ ?_; conv => whnf))
            refine reqD_dec (by first | omega | decide | (simp [ty27, ty58, ty41, ty23, ty55, ty30, ty60, ty56, ty3, ty39]; done) | (simp [ty27, ty58, ty41, ty23, ty55, ty30, ty60, ty56, ty3, ty39]; omega)) ?_
            conv => whnf
            repeat (first | (refine forkB_true ?_; conv => whnf) | (refine forkB_false ?_; conv => whnf) | (refine reqD_dec (by exact Nat.le_of_ble_eq_true rfl) ?_; conv => whnf) | (refine reqD_dec (by exact Nat.eq_of_beq_eq_true rfl) ?_; conv => whnf) | (refine reqD_dec ⟨by decide, by exact Nat.le_of_ble_eq_true rfl⟩ ?_; conv => whnf))
            refine forkB_intro (fun h => absurd h (by simp [ty60, ty27])) (fun _ => ?_)
            conv => whnf
            repeat (first | (refine forkB_true ?_; conv => whnf) | (refine forkB_false ?_; conv => whnf) | (refine reqD_dec (by exact Nat.le_of_ble_eq_true rfl) ?_; conv => whnf) | (refine reqD_dec (by exact Nat.eq_of_beq_eq_true rfl) ?_; conv => whnf) | (refine reqD_dec ⟨by decide, by exact Nat.le_of_ble_eq_true rfl⟩ ?_; conv => whnf))
            refine reqD_dec (by first | omega | decide | (simp [ty27, ty58, ty41, ty23, ty55, ty30, ty60, ty56, ty3, ty39]; done) | (simp [ty27, ty58, ty41, ty23, ty55, ty30, ty60, ty56, ty3, ty39]; omega)) ?_
            conv => whnf
            repeat (first | (refine forkB_true ?_; conv => whnf) | (refine forkB_false ?_; conv => whnf) | (refine reqD_dec (by exact Nat.le_of_ble_eq_true rfl) ?_; conv => whnf) | (refine reqD_dec (by exact Nat.eq_of_beq_eq_true rfl) ?_; conv => whnf) | (refine reqD_dec ⟨by decide, by exact Nat.le_of_ble_eq_true rfl⟩ ?_; conv => whnf))
            refine reqD_dec (by first | omega | decide | (simp [ty27, ty58, ty41, ty23, ty55, ty30, ty60, ty56, ty3, ty39]; done) | (simp [ty27, ty58, ty41, ty23, ty55, ty30, ty60, ty56, ty3, ty39]; omega)) ?_
            conv => whnf
            repeat (first | (refine forkB_true ?_; conv => whnf) | (refine forkB_false ?_; conv => whnf) | (refine reqD_dec (by exact Nat.le_of_ble_eq_true rfl) ?_; conv => whnf) | (refine reqD_dec (by exact Nat.eq_of_beq_eq_true rfl) ?_; conv => whnf) | (refine reqD_dec ⟨by decide, by exact Nat.le_of_ble_eq_true rfl⟩ ?_; conv => whnf))
            refine forkB_intro (fun h => absurd h (by simp [ty60, ty27])) (fun _ => ?_)
            conv => whnf
            repeat (first | (refine forkB_true ?_; conv => whnf) | (refine forkB_false ?_; conv => whnf) | (refine reqD_dec (by exact Nat.le_of_ble_eq_true rfl) ?_; conv => whnf) | (refine reqD_dec (by exact Nat.eq_of_beq_eq_true rfl) ?_; conv => whnf) | (refine reqD_dec ⟨by decide, by exact Nat.le_of_ble_eq_true rfl⟩ ?_; conv => whnf))
            refine reqD_dec (by first | omega | decide | (simp [ty27, ty58, ty41, ty23, ty55, ty30, ty60, ty56, ty3, ty39]; done) | (simp [ty27, ty58, ty41, ty23, ty55, ty30, ty60, ty56, ty3, ty39]; omega)) ?_
            conv => whnf
            repeat (first | (refine forkB_true ?_; conv => whnf) | (refine forkB_false ?_; conv => whnf) | (refine reqD_dec (by exact Nat.le_of_ble_eq_true rfl) ?_; conv => whnf) | (refine reqD_dec (by exact Nat.eq_of_beq_eq_true rfl) ?_; conv => whnf) | (refine reqD_dec ⟨by decide, by exact Nat.le_of_ble_eq_true rfl⟩ ?_; conv => whnf))
            refine drawnX_phase env08_ok (fun _ => false) [0, 1, 2, 3, 4, 5, 6, 7, 8, 9, 10, 11, 12, 13, 14, 15, 16, 17] (.one 16 (.one 17 (.stop))) 0 #[true, true, true, true, true, true, true, true, true, true, true, true, true, true, true, true, true, true] (by kernel_rfl) ?_
            conv => whnf
            repeat (first | (refine forkB_true ?_; conv => whnf) | (refine forkB_false ?_; conv => whnf) | (refine reqD_dec (by exact Nat.le_of_ble_eq_true rfl) ?_; conv => whnf) | (refine reqD_dec (by exact Nat.eq_of_beq_eq_true rfl) ?_; conv => whnf) | (refine reqD_dec ⟨by decide, by exact Nat.le_of_ble_eq_true rfl⟩ ?_; conv => whnf))
            conv => whnf
            repeat (first | (refine forkB_true ?_; conv => whnf) | (refine forkB_false ?_; conv => whnf) | (refine reqD_dec (by exact Nat.le_of_ble_eq_true rfl) ?_; conv => whnf) | (refine reqD_dec (by exact Nat.eq_of_beq_eq_true rfl) ?_; conv => whnf) | (refine reqD_dec ⟨by decide, by exact Nat.le_of_ble_eq_true rfl⟩ ?_; conv => whnf))
            refine drawnX_done (by kernel_rfl) ?_
            conv => whnf
            repeat (first | (refine forkB_true ?_; conv => whnf) | (refine forkB_false ?_; conv => whnf) | (refine reqD_dec (by exact Nat.le_of_ble_eq_true rfl) ?_; conv => whnf) | (refine reqD_dec (by exact Nat.eq_of_beq_eq_true rfl) ?_; conv => whnf) | (refine reqD_dec ⟨by decide, by exact Nat.le_of_ble_eq_true rfl⟩ ?_; conv => whnf))
            refine exI_as 1 (by decide) ?_
            conv => whnf
            repeat (first | (refine forkB_true ?_; conv => whnf) | (refine forkB_false ?_; conv => whnf) | (refine reqD_dec (by exact Nat.le_of_ble_eq_true rfl) ?_; conv => whnf) | (refine reqD_dec (by exact Nat.eq_of_beq_eq_true rfl) ?_; conv => whnf) | (refine reqD_dec ⟨by decide, by exact Nat.le_of_ble_eq_true rfl⟩ ?_; conv => whnf))
            refine ⟨1, by decide, by decide, ?_⟩
            exact Tr.ofMv2 3 (5) 4 7 rfl rfl (by decide) rfl (by decide) (by exact Nat.le_of_ble_eq_true rfl) (by exact Nat.le_of_ble_eq_true rfl) ⟨⟨rfl, rfl⟩, ⟨rfl, rfl⟩, ⟨rfl, rfl⟩, ⟨rfl, rfl⟩, ⟨rfl, rfl⟩, ⟨rfl, rfl⟩, ⟨rfl, rfl⟩, trivial⟩ ⟨⟨rfl, rfl, by decide⟩, ⟨rfl, rfl, by decide⟩, ⟨rfl, rfl, by decide⟩, ⟨rfl, rfl, by decide⟩, ⟨rfl, rfl, by decide⟩, trivial⟩
          · conv => whnf
            repeat (first | (refine forkB_true ?_; conv => whnf) | (refine forkB_false ?_; conv => whnf) | (refine reqD_dec (by exact Nat.le_of_ble_eq_true rfl) ?_; conv => whnf) | (refine reqD_dec (by exact Nat.eq_of_beq_eq_true rfl) ?_; conv => whnf) | (refine reqD_dec ⟨by decide, by exact Nat.le_of_ble_eq_true rfl⟩ ?_; conv => whnf))
            refine reqD_dec (by first | omega | decide | (simp [ty27, ty58, ty41, ty23, ty55, ty30, ty60, ty56, ty3, ty39]; done) | (simp [ty27, ty58, ty41, ty23, ty55, ty30, ty60, ty56, ty3, ty39]; omega)) ?_
            conv => whnf
            repeat (first | (refine forkB_true ?_; conv => whnf) | (refine forkB_false ?_; conv => whnf) | (refine reqD_dec (by exact Nat.le_of_ble_eq_true rfl) ?_; conv => whnf) | (refine reqD_dec (by exact Nat.eq_of_beq_eq_true rfl) ?_; conv => whnf) | (refine reqD_dec ⟨by decide, by exact Nat.le_of_ble_eq_true rfl⟩ ?_; conv => whnf))
            refine forkB_intro (fun h => absurd h (by simp [ty60, ty27])) (fun _ => ?_)
            conv => whnf
            repeat (first | (refine forkB_true ?_; conv => whnf) | (refine forkB_false ?_; conv => whnf) | (refine reqD_dec (by exact Nat.le_of_ble_eq_true rfl) ?_; conv => whnf) | (refine reqD_dec (by exact Nat.eq_of_beq_eq_true rfl) ?_; conv => whnf) | (refine reqD_dec ⟨by decide, by exact Nat.le_of_ble_eq_true rfl⟩ ?_; conv => whnf))
            refine reqD_dec (by first | omega | decide | (simp [ty27, ty58, ty41, ty23, ty55, ty30, ty60, ty56, ty3, ty39]; done) | (simp [ty27, ty58, ty41, ty23, ty55, ty30, ty60, ty56, ty3, ty39]; omega)) ?_
            conv => whnf
            repeat (first | (refine forkB_true ?_; conv => whnf) | (refine forkB_false ?_; conv => whnf) | (refine reqD_dec (by exact Nat.le_of_ble_eq_true rfl) ?_; conv => whnf) | (refine reqD_dec (by exact Nat.eq_of_beq_eq_true rfl) ?_; conv => whnf) | (refine reqD_dec ⟨by decide, by exact Nat.le_of_ble_eq_true rfl⟩ ?_; conv => whnf))
            refine reqD_dec (by first | omega | decide | (simp [ty27, ty58, ty41, ty23, ty55, ty30, ty60, ty56, ty3, ty39]; done) | (simp [ty27, ty58, ty41, ty23, ty55, ty30, ty60, ty56, ty3, ty39]; omega)) ?_
            conv => whnf
            repeat (first | (refine forkB_true ?_; conv => whnf) | (refine forkB_false ?_; conv => whnf) | (refine reqD_dec (by exact Nat.le_of_ble_eq_true rfl) ?_; conv => whnf) | (refine reqD_dec (by exact Nat.eq_of_beq_eq_true rfl) ?_; conv => whnf) | (refine reqD_dec ⟨by decide, by exact Nat.le_of_ble_eq_true rfl⟩ ?_; conv => whnf))
            refine forkB_intro (fun h => absurd h (by simp [ty60, ty27])) (fun _ => ?_)
            conv => whnf
            repeat (first | (refine forkB_true ?_; conv => whnf) | (refine forkB_false ?_; conv => whnf) | (refine reqD_dec (by exact Nat.le_of_ble_eq_true rfl) ?_; conv => whnf) | (refine reqD_dec (by exact Nat.eq_of_beq_eq_true rfl) ?_; conv => whnf) | (refine reqD_dec ⟨by decide, by exact Nat.le_of_ble_eq_true rfl⟩ ?_; conv => whnf))
            refine reqD_dec (by first | omega | decide | (simp [ty27, ty58, ty41, ty23, ty55, ty30, ty60, ty56, ty3, ty39]; done) | (simp [ty27, ty58, ty41, ty23, ty55, ty30, ty60, ty56, ty3, ty39]; omega)) ?_
            conv => whnf
            repeat (first | (refine forkB_true ?_; conv => whnf) | (refine forkB_false ?_; conv => whnf) | (refine reqD_dec (by exact Nat.le_of_ble_eq_true rfl) ?_; conv => whnf) | (refine reqD_dec (by exact Nat.eq_of_beq_eq_true rfl) ?_; conv => whnf) | (refine reqD_dec ⟨by decide, by exact Nat.le_of_ble_eq_true rfl⟩ ?_; conv => whnf))
            refine drawnX_phase env08_ok (fun _ => false) [0, 1, 2, 3, 4, 5, 6, 7, 8, 9, 10, 11, 12, 13, 14, 15, 16, 17] (.one 16 (.one 17 (.stop))) 0 #[true, true, true, true, true, true, true, true, true, true, true, true, true, true, true, true, true, true] (by kernel_rfl) ?_
            conv => whnf
            repeat (first | (refine forkB_true ?_; conv => whnf) | (refine forkB_false ?_; conv => whnf) | (refine reqD_dec (by exact Nat.le_of_ble_eq_true rfl) ?_; conv => whnf) | (refine reqD_dec (by exact Nat.eq_of_beq_eq_true rfl) ?_; conv => whnf) | (refine reqD_dec ⟨by decide, by exact Nat.le_of_ble_eq_true rfl⟩ ?_; conv => whnf))
            conv => whnf
            repeat (first | (refine forkB_true ?_; conv => whnf) | (refine forkB_false ?_; conv => whnf) | (refine reqD_dec (by exact Nat.le_of_ble_eq_true rfl) ?_; conv => whnf) | (refine reqD_dec (by exact Nat.eq_of_beq_eq_true rfl) ?_; conv => whnf) | (refine reqD_dec ⟨by decide, by exact Nat.le_of_ble_eq_true rfl⟩ ?_; conv => whnf))
            refine drawnX_done (by kernel_rfl) ?_
            conv => whnf
            repeat (first | (refine forkB_true ?_; conv => whnf) | (refine forkB_false ?_; conv => whnf) | (refine reqD_dec (by exact Nat.le_of_ble_eq_true rfl) ?_; conv => whnf) | (refine reqD_dec (by exact Nat.eq_of_beq_eq_true rfl) ?_; conv => whnf) | (refine reqD_dec ⟨by decide, by exact Nat.le_of_ble_eq_true rfl⟩ ?_; conv => whnf))
            refine exI_as 1 (by decide) ?_
            conv => whnf
            repeat (first | (refine forkB_true ?_; conv => whnf) | (refine forkB_false ?_; conv => whnf) | (refine reqD_dec (by exact Nat.le_of_ble_eq_true rfl) ?_; conv => whnf) | (refine reqD_dec (by exact Nat.eq_of_beq_eq_true rfl) ?_; conv => whnf) | (refine reqD_dec ⟨by decide, by exact Nat.le_of_ble_eq_true rfl⟩ ?_; conv => whnf))
            refine ⟨1, by decide, by decide, ?_⟩
            exact Tr.ofMv2 3 (6) 4 7 rfl rfl (by decide) rfl (by decide) (by exact Nat.le_of_ble_eq_true rfl) (by exact Nat.le_of_ble_eq_true rfl) ⟨⟨rfl, rfl⟩, ⟨rfl, rfl⟩, ⟨rfl, rfl⟩, ⟨rfl, rfl⟩, ⟨rfl, rfl⟩, ⟨rfl, rfl⟩, ⟨rfl, rfl⟩, trivial⟩ ⟨⟨rfl, rfl, by decide⟩, ⟨rfl, rfl, by decide⟩, ⟨rfl, rfl, by decide⟩, ⟨rfl, rfl, by decide⟩, ⟨rfl, rfl, by decide⟩, trivial⟩
        · conv => whnf
          repeat (first | (refine forkB_true ?_; conv => whnf) | (refine forkB_false ?_; conv => whnf) | (refine reqD_dec (by exact Nat.le_of_ble_eq_true rfl) ?_; conv => whnf) | (refine reqD_dec (by exact Nat.eq_of_beq_eq_true rfl) ?_; conv => whnf) | (refine reqD_dec ⟨by decide, by exact Nat.le_of_ble_eq_true rfl⟩ ?_; conv => whnf))
          refine reqD_dec (by first | omega | decide | (simp [ty27, ty58, ty41, ty23, ty55, ty30, ty60, ty56, ty3, ty39]; done) | (simp [ty27, ty58, ty41, ty23, ty55, ty30, ty60, ty56, ty3, ty39]; omega)) ?_
          conv => whnf
          repeat (first | (refine forkB_true ?_; conv => whnf) | (refine forkB_false ?_; conv => whnf) | (refine reqD_dec (by exact Nat.le_of_ble_eq_true rfl) ?_; conv => whnf) | (refine reqD_dec (by exact Nat.eq_of_beq_eq_true rfl) ?_; conv => whnf) | (refine reqD_dec ⟨by decide, by exact Nat.le_of_ble_eq_true rfl⟩ ?_; conv => whnf))
          refine forkB_intro (fun h => absurd h (by simp [ty60, ty27])) (fun _ => ?_)
          conv => whnf
          repeat (first | (refine forkB_true ?_; conv => whnf) | (refine forkB_false ?_; conv => whnf) | (refine reqD_dec (by exact Nat.le_of_ble_eq_true rfl) ?_; conv => whnf) | (refine reqD_dec (by exact Nat.eq_of_beq_eq_true rfl) ?_; conv => whnf) | (refine reqD_dec ⟨by decide, by exact Nat.le_of_ble_eq_true rfl⟩ ?_; conv => whnf))
          refine reqD_dec (by first | omega | decide | (simp [ty27, ty58, ty41, ty23, ty55, ty30, ty60, ty56, ty3, ty39]; done) | (simp [ty27, ty58, ty41, ty23, ty55, ty30, ty60, ty56, ty3, ty39]; omega)) ?_
          conv => whnf
          repeat (first | (refine forkB_true ?_; conv => whnf) | (refine forkB_false ?_; conv => whnf) | (refine reqD_dec (by exact Nat.le_of_ble_eq_true rfl) ?_; conv => whnf) | (refine reqD_dec (by exact Nat.eq_of_beq_eq_true rfl) ?_; conv => whnf) | (refine reqD_dec ⟨by decide, by exact Nat.le_of_ble_eq_true rfl⟩ ?_; conv => whnf))
          refine reqD_dec (by first | omega | decide | (simp [ty27, ty58, ty41, ty23, ty55, ty30, ty60, ty56, ty3, ty39]; done) | (simp [ty27, ty58, ty41, ty23, ty55, ty30, ty60, ty56, ty3, ty39]; omega)) ?_
          conv => whnf
          repeat (first | (refine forkB_true ?_; conv => whnf) | (refine forkB_false ?_; conv => whnf) | (refine reqD_dec (by exact Nat.le_of_ble_eq_true rfl) ?_; conv => whnf) | (refine reqD_dec (by exact Nat.eq_of_beq_eq_true rfl) ?_; conv => whnf) | (refine reqD_dec ⟨by decide, by exact Nat.le_of_ble_eq_true rfl⟩ ?_; conv => whnf))
          refine forkB_intro (fun h => absurd h (by simp [ty60, ty27])) (fun _ => ?_)
          conv => whnf
          repeat (first | (refine forkB_true ?_; conv => whnf) | (refine forkB_false ?_; conv => whnf) | (refine reqD_dec (by exact Nat.le_of_ble_eq_true rfl) ?_; conv => whnf) | (refine reqD_dec (by exact Nat.eq_of_beq_eq_true rfl) ?_; conv => whnf) | (refine reqD_dec ⟨by decide, by exact Nat.le_of_ble_eq_true rfl⟩ ?_; conv => whnf))
          refine reqD_dec (by first | omega | decide | (simp [ty27, ty58, ty41, ty23, ty55, ty30, ty60, ty56, ty3, ty39]; done) | (simp [ty27, ty58, ty41, ty23, ty55, ty30, ty60, ty56, ty3, ty39]; omega)) ?_
          conv => whnf
          repeat (first | (refine forkB_true ?_; conv => whnf) | (refine forkB_false ?_; conv => whnf) | (refine reqD_dec (by exact Nat.le_of_ble_eq_true rfl) ?_; conv => whnf) | (refine reqD_dec (by exact Nat.eq_of_beq_eq_true rfl) ?_; conv => whnf) | (refine reqD_dec ⟨by decide, by exact Nat.le_of_ble_eq_true rfl⟩ ?_; conv => whnf))
          refine drawnX_phase env08_ok (fun _ => false) [0, 1, 2, 3, 4, 5, 6, 7, 8, 9, 10, 11, 12, 13, 14, 15, 16, 17] (.one 16 (.one 17 (.stop))) 0 #[true, true, true, true, true, true, true, true, true, true, true, true, true, true, true, true, true, true] (by kernel_rfl) ?_
          conv => whnf
          repeat (first | (refine forkB_true ?_; conv => whnf) | (refine forkB_false ?_; conv => whnf) | (refine reqD_dec (by exact Nat.le_of_ble_eq_true rfl) ?_; conv => whnf) | (refine reqD_dec (by exact Nat.eq_of_beq_eq_true rfl) ?_; conv => whnf) | (refine reqD_dec ⟨by decide, by exact Nat.le_of_ble_eq_true rfl⟩ ?_; conv => whnf))
          conv => whnf
          repeat (first | (refine forkB_true ?_; conv => whnf) | (refine forkB_false ?_; conv => whnf) | (refine reqD_dec (by exact Nat.le_of_ble_eq_true rfl) ?_; conv => whnf) | (refine reqD_dec (by exact Nat.eq_of_beq_eq_true rfl) ?_; conv => whnf) | (refine reqD_dec ⟨by decide, by exact Nat.le_of_ble_eq_true rfl⟩ ?_; conv => whnf))
          refine drawnX_done (by kernel_rfl) ?_
          conv => whnf
          repeat (first | (refine forkB_true ?_; conv => whnf) | (refine forkB_false ?_; conv => whnf) | (refine reqD_dec (by exact Nat.le_of_ble_eq_true rfl) ?_; conv => whnf) | (refine reqD_dec (by exact Nat.eq_of_beq_eq_true rfl) ?_; conv => whnf) | (refine reqD_dec ⟨by decide, by exact Nat.le_of_ble_eq_true rfl⟩ ?_; conv => whnf))
          refine exI_as 1 (by decide) ?_
          conv => whnf
          repeat (first | (refine forkB_true ?_; conv => whnf) | (refine forkB_false ?_; conv => whnf) | (refine reqD_dec (by exact Nat.le_of_ble_eq_true rfl) ?_; conv => whnf) | (refine reqD_dec (by exact Nat.eq_of_beq_eq_true rfl) ?_; conv => whnf) | (refine reqD_dec ⟨by decide, by exact Nat.le_of_ble_eq_true rfl⟩ ?_; conv => whnf))
          refine ⟨1, by decide, by decide, ?_⟩
          exact Tr.ofMv2 3 (6) 4 7 rfl rfl (by decide) rfl (by decide) (by exact Nat.le_of_ble_eq_true rfl) (by exact Nat.le_of_ble_eq_true rfl) ⟨⟨rfl, rfl⟩, ⟨rfl, rfl⟩, ⟨rfl, rfl⟩, ⟨rfl, rfl⟩, ⟨rfl, rfl⟩, ⟨rfl, rfl⟩, ⟨rfl, rfl⟩, trivial⟩ ⟨⟨rfl, rfl, by decide⟩, ⟨rfl, rfl, by decide⟩, ⟨rfl, rfl, by decide⟩, ⟨rfl, rfl, by decide⟩, ⟨rfl, rfl, by decide⟩, trivial⟩
      · conv => whnf
        repeat (first | (refine forkB_true ?_; conv => whnf) | (refine forkB_false ?_; conv => whnf) | (refine reqD_dec (by exact Nat.le_of_ble_eq_true rfl) ?_; conv => whnf) | (refine reqD_dec (by exact Nat.eq_of_beq_eq_true rfl) ?_; conv => whnf) | (refine reqD_dec ⟨by decide, by exact Nat.le_of_ble_eq_true rfl⟩ ?_; conv => whnf))
        refine callX_le (copied_spec (r) (hr)) callee44 rfl rfl (.cons (AV.Le.refl _) .nil) rfl ?_
        rintro x hx rfl
        conv => whnf
        repeat (first | (refine forkB_true ?_; conv => whnf) | (refine forkB_false ?_; conv => whnf) | (refine reqD_dec (by exact Nat.le_of_ble_eq_true rfl) ?_; conv => whnf) | (refine reqD_dec (by exact Nat.eq_of_beq_eq_true rfl) ?_; conv => whnf) | (refine reqD_dec ⟨by decide, by exact Nat.le_of_ble_eq_true rfl⟩ ?_; conv => whnf))
        refine reqD_dec (by first | omega | decide | (simp [ty27, ty58, ty41, ty23, ty55, ty30, ty60, ty56, ty3, ty39]; done) | (simp [ty27, ty58, ty41, ty23, ty55, ty30, ty60, ty56, ty3, ty39]; omega)) ?_
        conv => whnf
        repeat (first | (refine forkB_true ?_; conv => whnf) | (refine forkB_false ?_; conv => whnf) | (refine reqD_dec (by exact Nat.le_of_ble_eq_true rfl) ?_; conv => whnf) | (refine reqD_dec (by exact Nat.eq_of_beq_eq_true rfl) ?_; conv => whnf) | (refine reqD_dec ⟨by decide, by exact Nat.le_of_ble_eq_true rfl⟩ ?_; conv => whnf))
        refine forkB_intro (fun h => absurd h (by simp [ty60, ty27])) (fun _ => ?_)
        conv => whnf
        repeat (first | (refine forkB_true ?_; conv => whnf) | (refine forkB_false ?_; conv => whnf) | (refine reqD_dec (by exact Nat.le_of_ble_eq_true rfl) ?_; conv => whnf) | (refine reqD_dec (by exact Nat.eq_of_beq_eq_true rfl) ?_; conv => whnf) | (refine reqD_dec ⟨by decide, by exact Nat.le_of_ble_eq_true rfl⟩ ?_; conv => whnf))
        refine reqD_dec (by first | omega | decide | (simp [ty27, ty58, ty41, ty23, ty55, ty30, ty60, ty56, ty3, ty39]; done) | (simp [ty27, ty58, ty41, ty23, ty55, ty30, ty60, ty56, ty3, ty39]; omega)) ?_
        conv => whnf
        repeat (first | (refine forkB_true ?_; conv => whnf) | (refine forkB_false ?_; conv => whnf) | (refine reqD_dec (by exact Nat.le_of_ble_eq_true rfl) ?_; conv => whnf) | (refine reqD_dec (by exact Nat.eq_of_beq_eq_true rfl) ?_; conv => whnf) | (refine reqD_dec ⟨by decide, by exact Nat.le_of_ble_eq_true rfl⟩ ?_; conv => whnf))
        refine reqD_dec (by first | omega | decide | (simp [ty27, ty58, ty41, ty23, ty55, ty30, ty60, ty56, ty3, ty39]; done) | (simp [ty27, ty58, ty41, ty23, ty55, ty30, ty60, ty56, ty3, ty39]; omega)) ?_
        conv => whnf
        repeat (first | (refine forkB_true ?_; conv => whnf) | (refine forkB_false ?_; conv => whnf) | (refine reqD_dec (by exact Nat.le_of_ble_eq_true rfl) ?_; conv => whnf) | (refine reqD_dec (by exact Nat.eq_of_beq_eq_true rfl) ?_; conv => whnf) | (refine reqD_dec ⟨by decide, by exact Nat.le_of_ble_eq_true rfl⟩ ?_; conv => whnf))
        refine forkB_intro (fun h => absurd h (by simp [ty60, ty27])) (fun _ => ?_)
        conv => whnf
        repeat (first | (refine forkB_true ?_; conv => whnf) | (refine forkB_false ?_; conv => whnf) | (refine reqD_dec (by exact Nat.le_of_ble_eq_true rfl) ?_; conv => whnf) | (refine reqD_dec (by exact Nat.eq_of_beq_eq_true rfl) ?_; conv => whnf) | (refine reqD_dec ⟨by decide, by exact Nat.le_of_ble_eq_true rfl⟩ ?_; conv => whnf))
        refine reqD_dec (by first | omega | decide | (simp [ty27, ty58, ty41, ty23, ty55, ty30, ty60, ty56, ty3, ty39]; done) | (simp [ty27, ty58, ty41, ty23, ty55, ty30, ty60, ty56, ty3, ty39]; omega)) ?_
        conv => whnf
        repeat (first | (refine forkB_true ?_; conv => whnf) | (refine forkB_false ?_; conv => whnf) | (refine reqD_dec (by exact Nat.le_of_ble_eq_true rfl) ?_; conv => whnf) | (refine reqD_dec (by exact Nat.eq_of_beq_eq_true rfl) ?_; conv => whnf) | (refine reqD_dec ⟨by decide, by exact Nat.le_of_ble_eq_true rfl⟩ ?_; conv => whnf))
        refine drawnX_phase env08_ok (fun _ => false) [0, 1, 2, 3, 4, 5, 6, 7, 8, 9, 10, 11, 12, 13, 14, 15, 16, 17] (.one 16 (.one 17 (.stop))) 0 #[true, true, true, true, true, true, true, true, true, true, true, true, true, true, true, true, true, true] (by kernel_rfl) ?_
        conv => whnf
        repeat (first | (refine forkB_true ?_; conv => whnf) | (refine forkB_false ?_; conv => whnf) | (refine reqD_dec (by exact Nat.le_of_ble_eq_true rfl) ?_; conv => whnf) | (refine reqD_dec (by exact Nat.eq_of_beq_eq_true rfl) ?_; conv => whnf) | (refine reqD_dec ⟨by decide, by exact Nat.le_of_ble_eq_true rfl⟩ ?_; conv => whnf))
        conv => whnf
        repeat (first | (refine forkB_true ?_; conv => whnf) | (refine forkB_false ?_; conv => whnf) | (refine reqD_dec (by exact Nat.le_of_ble_eq_true rfl) ?_; conv => whnf) | (refine reqD_dec (by exact Nat.eq_of_beq_eq_true rfl) ?_; conv => whnf) | (refine reqD_dec ⟨by decide, by exact Nat.le_of_ble_eq_true rfl⟩ ?_; conv => whnf))
        refine drawnX_done (by kernel_rfl) ?_
        conv => whnf
        repeat (first | (refine forkB_true ?_; conv => whnf) | (refine forkB_false ?_; conv => whnf) | (refine reqD_dec (by exact Nat.le_of_ble_eq_true rfl) ?_; conv => whnf) | (refine reqD_dec (by exact Nat.eq_of_beq_eq_true rfl) ?_; conv => whnf) | (refine reqD_dec ⟨by decide, by exact Nat.le_of_ble_eq_true rfl⟩ ?_; conv => whnf))
        refine exI_as 1 (by decide) ?_
        conv => whnf
        repeat (first | (refine forkB_true ?_; conv => whnf) | (refine forkB_false ?_; conv => whnf) | (refine reqD_dec (by exact Nat.le_of_ble_eq_true rfl) ?_; conv => whnf) | (refine reqD_dec (by exact Nat.eq_of_beq_eq_true rfl) ?_; conv => whnf) | (refine reqD_dec ⟨by decide, by exact Nat.le_of_ble_eq_true rfl⟩ ?_; conv => whnf))
        refine ⟨1, by decide, by decide, ?_⟩
        exact Tr.ofMv2 3 (6) 4 7 rfl rfl (by decide) rfl (by decide) (by exact Nat.le_of_ble_eq_true rfl) (by exact Nat.le_of_ble_eq_true rfl) ⟨⟨rfl, rfl⟩, ⟨rfl, rfl⟩, ⟨rfl, rfl⟩, ⟨rfl, rfl⟩, ⟨rfl, rfl⟩, ⟨rfl, rfl⟩, ⟨rfl, rfl⟩, trivial⟩ ⟨⟨rfl, rfl, by decide⟩, ⟨rfl, rfl, by decide⟩, ⟨rfl, rfl, by decide⟩, ⟨rfl, rfl, by decide⟩, ⟨rfl, rfl, by decide⟩, trivial⟩
    · conv => whnf
      repeat (first | (refine forkB_true ?_; conv => whnf) | (refine forkB_false ?_; conv => whnf) | (refine reqD_dec (by exact Nat.le_of_ble_eq_true rfl) ?_; conv => whnf) | (refine reqD_dec (by exact Nat.eq_of_beq_eq_true rfl) ?_; conv => whnf) | (refine reqD_dec ⟨by decide, by exact Nat.le_of_ble_eq_true rfl⟩ ?_; conv => whnf))
      refine callX_le (copied_spec ([]) (h0)) callee44 rfl rfl (.cons (AV.Le.refl _) .nil) rfl ?_
      rintro x hx rfl
      conv => whnf
      repeat (first | (refine forkB_true ?_; conv => whnf) | (refine forkB_false ?_; conv => whnf) | (refine reqD_dec (by exact Nat.le_of_ble_eq_true rfl) ?_; conv => whnf) | (refine reqD_dec (by exact Nat.eq_of_beq_eq_true rfl) ?_; conv => whnf) | (refine reqD_dec ⟨by decide, by exact Nat.le_of_ble_eq_true rfl⟩ ?_; conv => whnf))
      refine callX_le (copied_spec (r) (hr)) callee44 rfl rfl (.cons (AV.Le.refl _) .nil) rfl ?_
      rintro x hx rfl
      conv => whnf
      repeat (first | (refine forkB_true ?_; conv => whnf) | (refine forkB_false ?_; conv => whnf) | (refine reqD_dec (by exact Nat.le_of_ble_eq_true rfl) ?_; conv => whnf) | (refine reqD_dec (by exact Nat.eq_of_beq_eq_true rfl) ?_; conv => whnf) | (refine reqD_dec ⟨by decide, by exact Nat.le_of_ble_eq_true rfl⟩ ?_; conv => whnf))
      refine reqD_dec (by first | omega | decide | (simp [ty27, ty58, ty41, ty23, ty55, ty30, ty60, ty56, ty3, ty39]; done) | (simp [ty27, ty58, ty41, ty23, ty55, ty30, ty60, ty56, ty3, ty39]; omega)) ?_
      conv => whnf
      repeat (first | (refine forkB_true ?_; conv => whnf) | (refine forkB_false ?_; conv => whnf) | (refine reqD_dec (by exact Nat.le_of_ble_eq_true rfl) ?_; conv => whnf) | (refine reqD_dec (by exact Nat.eq_of_beq_eq_true rfl) ?_; conv => whnf) | (refine reqD_dec ⟨by decide, by exact Nat.le_of_ble_eq_true rfl⟩ ?_; conv => whnf))
      refine forkB_intro (fun h => absurd h (by simp [ty60, ty27])) (fun _ => ?_)
      conv => whnf
      repeat (first | (refine forkB_true ?_; conv => whnf) | (refine forkB_false ?_; conv => whnf) | (refine reqD_dec (by exact Nat.le_of_ble_eq_true rfl) ?_; conv => whnf) | (refine reqD_dec (by exact Nat.eq_of_beq_eq_true rfl) ?_; conv => whnf) | (refine reqD_dec ⟨by decide, by exact Nat.le_of_ble_eq_true rfl⟩ ?_; conv => whnf))
      refine reqD_dec (by first | omega | decide | (simp [ty27, ty58, ty41, ty23, ty55, ty30, ty60, ty56, ty3, ty39]; done) | (simp [ty27, ty58, ty41, ty23, ty55, ty30, ty60, ty56, ty3, ty39]; omega)) ?_
      conv => whnf
      repeat (first | (refine forkB_true ?_; conv => whnf) | (refine forkB_false ?_; conv => whnf) | (refine reqD_dec (by exact Nat.le_of_ble_eq_true rfl) ?_; conv => whnf) | (refine reqD_dec (by exact Nat.eq_of_beq_eq_true rfl) ?_; conv => whnf) | (refine reqD_dec ⟨by decide, by exact Nat.le_of_ble_eq_true rfl⟩ ?_; conv => whnf))
      refine reqD_dec (by first | omega | decide | (simp [ty27, ty58, ty41, ty23, ty55, ty30, ty60, ty56, ty3, ty39]; done) | (simp [ty27, ty58, ty41, ty23, ty55, ty30, ty60, ty56, ty3, ty39]; omega)) ?_
      conv => whnf
      repeat (first | (refine forkB_true ?_; conv => whnf) | (refine forkB_false ?_; conv => whnf) | (refine reqD_dec (by exact Nat.le_of_ble_eq_true rfl) ?_; conv => whnf) | (refine reqD_dec (by exact Nat.eq_of_beq_eq_true rfl) ?_; conv => whnf) | (refine reqD_dec ⟨by decide, by exact Nat.le_of_ble_eq_true rfl⟩ ?_; conv => whnf))
      refine forkB_intro (fun h => absurd h (by simp [ty60, ty27])) (fun _ => ?_)
      conv => whnf
      repeat (first | (refine forkB_true ?_; conv => whnf) | (refine forkB_false ?_; conv => whnf) | (refine reqD_dec (by exact Nat.le_of_ble_eq_true rfl) ?_; conv => whnf) | (refine reqD_dec (by exact Nat.eq_of_beq_eq_true rfl) ?_; conv => whnf) | (refine reqD_dec ⟨by decide, by exact Nat.le_of_ble_eq_true rfl⟩ ?_; conv => whnf))
      refine reqD_dec (by first | omega | decide | (simp [ty27, ty58, ty41, ty23, ty55, ty30, ty60, ty56, ty3, ty39]; done) | (simp [ty27, ty58, ty41, ty23, ty55, ty30, ty60, ty56, ty3, ty39]; omega)) ?_
      conv => whnf
      repeat (first | (refine forkB_true ?_; conv => whnf) | (refine forkB_false ?_; conv => whnf) | (refine reqD_dec (by exact Nat.le_of_ble_eq_true rfl) ?_; conv => whnf) | (refine reqD_dec (by exact Nat.eq_of_beq_eq_true rfl) ?_; conv => whnf) | (refine reqD_dec ⟨by decide, by exact Nat.le_of_ble_eq_true rfl⟩ ?_; conv => whnf))
      refine drawnX_phase env08_ok (fun _ => false) [0, 1, 2, 3, 4, 5, 6, 7, 8, 9, 10, 11, 12, 13, 14, 15, 16, 17] (.one 16 (.one 17 (.stop))) 0 #[true, true, true, true, true, true, true, true, true, true, true, true, true, true, true, true, true, true] (by kernel_rfl) ?_
      conv => whnf
      repeat (first | (refine forkB_true ?_; conv => whnf) | (refine forkB_false ?_; conv => whnf) | (refine reqD_dec (by exact Nat.le_of_ble_eq_true rfl) ?_; conv => whnf) | (refine reqD_dec (by exact Nat.eq_of_beq_eq_true rfl) ?_; conv => whnf) | (refine reqD_dec ⟨by decide, by exact Nat.le_of_ble_eq_true rfl⟩ ?_; conv => whnf))
      conv => whnf
      repeat (first | (refine forkB_true ?_; conv => whnf) | (refine forkB_false ?_; conv => whnf) | (refine reqD_dec (by exact Nat.le_of_ble_eq_true rfl) ?_; conv => whnf) | (refine reqD_dec (by exact Nat.eq_of_beq_eq_true rfl) ?_; conv => whnf) | (refine reqD_dec ⟨by decide, by exact Nat.le_of_ble_eq_true rfl⟩ ?_; conv => whnf))
      refine drawnX_done (by kernel_rfl) ?_
      conv => whnf
      repeat (first | (refine forkB_true ?_; conv => whnf) | (refine forkB_false ?_; conv => whnf) | (refine reqD_dec (by exact Nat.le_of_ble_eq_true rfl) ?_; conv => whnf) | (refine reqD_dec (by exact Nat.eq_of_beq_eq_true rfl) ?_; conv => whnf) | (refine reqD_dec ⟨by decide, by exact Nat.le_of_ble_eq_true rfl⟩ ?_; conv => whnf))
      refine exI_as 1 (by decide) ?_
      conv => whnf
      repeat (first | (refine forkB_true ?_; conv => whnf) | (refine forkB_false ?_; conv => whnf) | (refine reqD_dec (by exact Nat.le_of_ble_eq_true rfl) ?_; conv => whnf) | (refine reqD_dec (by exact Nat.eq_of_beq_eq_true rfl) ?_; conv => whnf) | (refine reqD_dec ⟨by decide, by exact Nat.le_of_ble_eq_true rfl⟩ ?_; conv => whnf))
      refine ⟨1, by decide, by decide, ?_⟩
      exact Tr.ofMv2 3 (6) 4 7 rfl rfl (by decide) rfl (by decide) (by exact Nat.le_of_ble_eq_true rfl) (by exact Nat.le_of_ble_eq_true rfl) ⟨⟨rfl, rfl⟩, ⟨rfl, rfl⟩, ⟨rfl, rfl⟩, ⟨rfl, rfl⟩, ⟨rfl, rfl⟩, ⟨rfl, rfl⟩, ⟨rfl, rfl⟩, trivial⟩ ⟨⟨rfl, rfl, by decide⟩, ⟨rfl, rfl, by decide⟩, ⟨rfl, rfl, by decide⟩, ⟨rfl, rfl, by decide⟩, ⟨rfl, rfl, by decide⟩, trivial⟩
  | 1, _ =>
    conv => whnf
    repeat' (first | (refine forkB_true ?_; conv => whnf) | (refine forkB_false ?_; conv => whnf) | (refine reqD_dec (by exact Nat.le_of_ble_eq_true rfl) ?_; conv => whnf) | (refine reqD_dec (by exact Nat.eq_of_beq_eq_true rfl) ?_; conv => whnf) | (refine exI_i64 (by omega) (by omega) ?_; conv => whnf) | (refine exI_as _ rfl ?_; conv => whnf) | (refine forkB_dec (fun _ => ?_) (fun _ => ?_) <;> conv => whnf) | (refine forkB_intro (fun _ => ?_) (fun _ => ?_) <;> conv => whnf))
    try (refine reqD_dec (by first | omega | decide | (simp [ty27, ty58, ty41, ty23, ty55, ty30, ty60, ty56, ty3, ty39]; done) | (simp [ty27, ty58, ty41, ty23, ty55, ty30, ty60, ty56, ty3, ty39]; omega)) ?_)
    conv => whnf
    repeat (first | (refine forkB_true ?_; conv => whnf) | (refine forkB_false ?_; conv => whnf) | (refine reqD_dec (by exact Nat.le_of_ble_eq_true rfl) ?_; conv => whnf) | (refine reqD_dec (by exact Nat.eq_of_beq_eq_true rfl) ?_; conv => whnf) | (refine reqD_dec ⟨by decide, by exact Nat.le_of_ble_eq_true rfl⟩ ?_; conv => whnf))
    refine callX_le (validC_spec s mode ⟨t, r, []⟩ ⟨hr, h0⟩) (callee_of Try.func50 rfl rfl) rfl rfl (.cons (AV.Le.refl _) (.cons (AV.Le.refl _) (.cons (AV.Le.refl _) .nil))) rfl ?_
    rw [hv2]
    rintro x hx rfl
    conv => whnf
    repeat' (first | (refine forkB_true ?_; conv => whnf) | (refine forkB_false ?_; conv => whnf) | (refine reqD_dec (by exact Nat.le_of_ble_eq_true rfl) ?_; conv => whnf) | (refine reqD_dec (by exact Nat.eq_of_beq_eq_true rfl) ?_; conv => whnf) | (refine exI_i64 (by omega) (by omega) ?_; conv => whnf) | (refine exI_as _ rfl ?_; conv => whnf) | (refine forkB_dec (fun _ => ?_) (fun _ => ?_) <;> conv => whnf) | (refine forkB_intro (fun _ => ?_) (fun _ => ?_) <;> conv => whnf))
    refine callX_le (keyOf_spec s ⟨t, r, []⟩ hr h0) (callee_of Try.func52 rfl rfl) rfl rfl (.cons (AV.Le.refl _) (.cons (AV.Le.refl _) .nil)) rfl ?_
    rw [hk2]
    rintro x hx rfl
    conv => whnf
    repeat' (first | (refine forkB_true ?_; conv => whnf) | (refine forkB_false ?_; conv => whnf) | (refine reqD_dec (by exact Nat.le_of_ble_eq_true rfl) ?_; conv => whnf) | (refine reqD_dec (by exact Nat.eq_of_beq_eq_true rfl) ?_; conv => whnf) | (refine exI_i64 (by omega) (by omega) ?_; conv => whnf) | (refine exI_as _ rfl ?_; conv => whnf) | (refine forkB_dec (fun _ => ?_) (fun _ => ?_) <;> conv => whnf) | (refine forkB_intro (fun _ => ?_) (fun _ => ?_) <;> conv => whnf))
    refine ⟨1, rfl, ?_⟩
    conv => whnf
    repeat' (first | (refine forkB_true ?_; conv => whnf) | (refine forkB_false ?_; conv => whnf) | (refine reqD_dec (by exact Nat.le_of_ble_eq_true rfl) ?_; conv => whnf) | (refine reqD_dec (by exact Nat.eq_of_beq_eq_true rfl) ?_; conv => whnf) | (refine exI_i64 (by omega) (by omega) ?_; conv => whnf) | (refine exI_as _ rfl ?_; conv => whnf) | (refine forkB_dec (fun _ => ?_) (fun _ => ?_) <;> conv => whnf) | (refine forkB_intro (fun _ => ?_) (fun _ => ?_) <;> conv => whnf))
    refine loopX_n env08_ok mixed08 2 ?_
    conv => whnf
    repeat' (first | (refine forkB_true ?_; conv => whnf) | (refine forkB_false ?_; conv => whnf) | (refine reqD_dec (by exact Nat.le_of_ble_eq_true rfl) ?_; conv => whnf) | (refine reqD_dec (by exact Nat.eq_of_beq_eq_true rfl) ?_; conv => whnf) | (refine exI_i64 (by omega) (by omega) ?_; conv => whnf) | (refine exI_as _ rfl ?_; conv => whnf) | (refine forkB_dec (fun _ => ?_) (fun _ => ?_) <;> conv => whnf) | (refine forkB_intro (fun _ => ?_) (fun _ => ?_) <;> conv => whnf))
    try (refine reqD_dec (by first | omega | decide | (simp [ty27, ty58, ty41, ty23, ty55, ty30, ty60, ty56, ty3, ty39]; done) | (simp [ty27, ty58, ty41, ty23, ty55, ty30, ty60, ty56, ty3, ty39]; omega)) ?_)
    conv => whnf
    repeat (first | (refine forkB_true ?_; conv => whnf) | (refine forkB_false ?_; conv => whnf) | (refine reqD_dec (by exact Nat.le_of_ble_eq_true rfl) ?_; conv => whnf) | (refine reqD_dec (by exact Nat.eq_of_beq_eq_true rfl) ?_; conv => whnf) | (refine reqD_dec ⟨by decide, by exact Nat.le_of_ble_eq_true rfl⟩ ?_; conv => whnf))
    refine forkB_intro (fun _ => ?_) (fun h => absurd h (by simp))
    conv => whnf
    repeat (first | (refine forkB_true ?_; conv => whnf) | (refine forkB_false ?_; conv => whnf) | (refine reqD_dec (by exact Nat.le_of_ble_eq_true rfl) ?_; conv => whnf) | (refine reqD_dec (by exact Nat.eq_of_beq_eq_true rfl) ?_; conv => whnf) | (refine reqD_dec ⟨by decide, by exact Nat.le_of_ble_eq_true rfl⟩ ?_; conv => whnf))
    refine callX_le (compareRows_spec key key (by unfold okR at hkr; omega) (by unfold okR at hkr; omega)) callee42 rfl rfl (.cons (AV.Le.refl _) (.cons (AV.Le.refl _) .nil)) rfl ?_
    rw [hkk]
    rintro x hx rfl
    conv => whnf
    repeat' (first | (refine forkB_true ?_; conv => whnf) | (refine forkB_false ?_; conv => whnf) | (refine reqD_dec (by exact Nat.le_of_ble_eq_true rfl) ?_; conv => whnf) | (refine reqD_dec (by exact Nat.eq_of_beq_eq_true rfl) ?_; conv => whnf) | (refine exI_i64 (by omega) (by omega) ?_; conv => whnf) | (refine exI_as _ rfl ?_; conv => whnf) | (refine forkB_dec (fun _ => ?_) (fun _ => ?_) <;> conv => whnf) | (refine forkB_intro (fun _ => ?_) (fun _ => ?_) <;> conv => whnf))
    refine drawnX_phase env08_ok (fun _ => true) [0, 1, 2, 3, 4, 5, 6, 7, 8] (.take 0 (.take 1 (.take 2 (.take 3 (.take 4 (.take 5 (.take 6 (.one 7 (.take 8 (.stop)))))))))) 0 #[true, true, true, true, true, true, true, true, true] (by kernel_rfl) ?_
    conv => whnf
    repeat (first | (refine forkB_true ?_; conv => whnf) | (refine forkB_false ?_; conv => whnf) | (refine reqD_dec (by exact Nat.le_of_ble_eq_true rfl) ?_; conv => whnf) | (refine reqD_dec (by exact Nat.eq_of_beq_eq_true rfl) ?_; conv => whnf) | (refine reqD_dec ⟨by decide, by exact Nat.le_of_ble_eq_true rfl⟩ ?_; conv => whnf))
    try (refine reqD_dec (by first | omega | decide | (simp [ty27, ty58, ty41, ty23, ty55, ty30, ty60, ty56, ty3, ty39]; done) | (simp [ty27, ty58, ty41, ty23, ty55, ty30, ty60, ty56, ty3, ty39]; omega)) ?_)
    conv => whnf
    repeat (first | (refine forkB_true ?_; conv => whnf) | (refine forkB_false ?_; conv => whnf) | (refine reqD_dec (by exact Nat.le_of_ble_eq_true rfl) ?_; conv => whnf) | (refine reqD_dec (by exact Nat.eq_of_beq_eq_true rfl) ?_; conv => whnf) | (refine reqD_dec ⟨by decide, by exact Nat.le_of_ble_eq_true rfl⟩ ?_; conv => whnf))
    refine callX_le (compareRows_spec r r (by unfold okR at hr; omega) (by unfold okR at hr; omega)) callee42 rfl rfl (.cons (AV.Le.refl _) (.cons (AV.Le.refl _) .nil)) rfl ?_
    rw [hrr]
    rintro x hx rfl
    conv => whnf
    repeat' (first | (refine forkB_true ?_; conv => whnf) | (refine forkB_false ?_; conv => whnf) | (refine reqD_dec (by exact Nat.le_of_ble_eq_true rfl) ?_; conv => whnf) | (refine reqD_dec (by exact Nat.eq_of_beq_eq_true rfl) ?_; conv => whnf) | (refine exI_i64 (by omega) (by omega) ?_; conv => whnf) | (refine exI_as _ rfl ?_; conv => whnf) | (refine forkB_dec (fun _ => ?_) (fun _ => ?_) <;> conv => whnf) | (refine forkB_intro (fun _ => ?_) (fun _ => ?_) <;> conv => whnf))
    refine drawnX_done (by kernel_rfl) ?_
    conv => whnf
    repeat (first | (refine forkB_true ?_; conv => whnf) | (refine forkB_false ?_; conv => whnf) | (refine reqD_dec (by exact Nat.le_of_ble_eq_true rfl) ?_; conv => whnf) | (refine reqD_dec (by exact Nat.eq_of_beq_eq_true rfl) ?_; conv => whnf) | (refine reqD_dec ⟨by decide, by exact Nat.le_of_ble_eq_true rfl⟩ ?_; conv => whnf))
    refine drawnX_phase env08_ok (fun _ => true) [0, 1, 2, 3, 4, 5, 6] (.take 0 (.take 1 (.take 2 (.take 3 (.one 4 (.take 5 (.take 6 (.stop)))))))) 1 #[true, true, true, true, true, true, true, false] (by kernel_rfl) ?_
    conv => whnf
    repeat (first | (refine forkB_true ?_; conv => whnf) | (refine forkB_false ?_; conv => whnf) | (refine reqD_dec (by exact Nat.le_of_ble_eq_true rfl) ?_; conv => whnf) | (refine reqD_dec (by exact Nat.eq_of_beq_eq_true rfl) ?_; conv => whnf) | (refine reqD_dec ⟨by decide, by exact Nat.le_of_ble_eq_true rfl⟩ ?_; conv => whnf))
    refine callX_le (copied_spec [] h0) callee44 rfl rfl (.cons (AV.Le.refl _) .nil) rfl ?_
    rintro x hx rfl
    conv => whnf
    repeat (first | (refine forkB_true ?_; conv => whnf) | (refine forkB_false ?_; conv => whnf) | (refine reqD_dec (by exact Nat.le_of_ble_eq_true rfl) ?_; conv => whnf) | (refine reqD_dec (by exact Nat.eq_of_beq_eq_true rfl) ?_; conv => whnf) | (refine reqD_dec ⟨by decide, by exact Nat.le_of_ble_eq_true rfl⟩ ?_; conv => whnf))
    try (refine reqD_dec (by first | omega | decide | (simp [ty27, ty58, ty41, ty23, ty55, ty30, ty60, ty56, ty3, ty39]; done) | (simp [ty27, ty58, ty41, ty23, ty55, ty30, ty60, ty56, ty3, ty39]; omega)) ?_)
    conv => whnf
    repeat (first | (refine forkB_true ?_; conv => whnf) | (refine forkB_false ?_; conv => whnf) | (refine reqD_dec (by exact Nat.le_of_ble_eq_true rfl) ?_; conv => whnf) | (refine reqD_dec (by exact Nat.eq_of_beq_eq_true rfl) ?_; conv => whnf) | (refine reqD_dec ⟨by decide, by exact Nat.le_of_ble_eq_true rfl⟩ ?_; conv => whnf))
    refine drawnX_phase env08_ok (fun _ => false) [0, 1, 2, 3, 4, 5, 6, 7] (.one 7 (.stop)) 0 #[true, true, true, true, true, true, true, true] (by kernel_rfl) ?_
    conv => whnf
    repeat (first | (refine forkB_true ?_; conv => whnf) | (refine forkB_false ?_; conv => whnf) | (refine reqD_dec (by exact Nat.le_of_ble_eq_true rfl) ?_; conv => whnf) | (refine reqD_dec (by exact Nat.eq_of_beq_eq_true rfl) ?_; conv => whnf) | (refine reqD_dec ⟨by decide, by exact Nat.le_of_ble_eq_true rfl⟩ ?_; conv => whnf))
    refine drawnX_done (by kernel_rfl) ?_
    conv => whnf
    repeat (first | (refine forkB_true ?_; conv => whnf) | (refine forkB_false ?_; conv => whnf) | (refine reqD_dec (by exact Nat.le_of_ble_eq_true rfl) ?_; conv => whnf) | (refine reqD_dec (by exact Nat.eq_of_beq_eq_true rfl) ?_; conv => whnf) | (refine reqD_dec ⟨by decide, by exact Nat.le_of_ble_eq_true rfl⟩ ?_; conv => whnf))
    refine exI_as 2 (by decide) ?_
    conv => whnf
    repeat (first | (refine forkB_true ?_; conv => whnf) | (refine forkB_false ?_; conv => whnf) | (refine reqD_dec (by exact Nat.le_of_ble_eq_true rfl) ?_; conv => whnf) | (refine reqD_dec (by exact Nat.eq_of_beq_eq_true rfl) ?_; conv => whnf) | (refine reqD_dec ⟨by decide, by exact Nat.le_of_ble_eq_true rfl⟩ ?_; conv => whnf))
    exact ⟨2, by decide, by decide, (Tr.ofId rfl rfl (by decide) (by exact Nat.le_of_ble_eq_true rfl) ⟨⟨rfl, rfl⟩, ⟨rfl, rfl⟩, ⟨rfl, rfl⟩, ⟨rfl, rfl⟩, ⟨rfl, rfl⟩, ⟨rfl, rfl⟩, ⟨rfl, rfl⟩, trivial⟩ ⟨⟨rfl, rfl, by decide⟩, ⟨rfl, rfl, by decide⟩, ⟨rfl, rfl, by decide⟩, ⟨rfl, rfl, by decide⟩, ⟨rfl, rfl, by decide⟩, trivial⟩)⟩
  | 2, _ =>
    conv => whnf
    repeat' (first | (refine forkB_true ?_; conv => whnf) | (refine forkB_false ?_; conv => whnf) | (refine reqD_dec (by exact Nat.le_of_ble_eq_true rfl) ?_; conv => whnf) | (refine reqD_dec (by exact Nat.eq_of_beq_eq_true rfl) ?_; conv => whnf) | (refine exI_i64 (by omega) (by omega) ?_; conv => whnf) | (refine exI_as _ rfl ?_; conv => whnf) | (refine forkB_dec (fun _ => ?_) (fun _ => ?_) <;> conv => whnf) | (refine forkB_intro (fun _ => ?_) (fun _ => ?_) <;> conv => whnf))
    refine ⟨1, rfl, ?_⟩
    conv => whnf
    repeat' (first | (refine forkB_true ?_; conv => whnf) | (refine forkB_false ?_; conv => whnf) | (refine reqD_dec (by exact Nat.le_of_ble_eq_true rfl) ?_; conv => whnf) | (refine reqD_dec (by exact Nat.eq_of_beq_eq_true rfl) ?_; conv => whnf) | (refine exI_i64 (by omega) (by omega) ?_; conv => whnf) | (refine exI_as _ rfl ?_; conv => whnf) | (refine forkB_dec (fun _ => ?_) (fun _ => ?_) <;> conv => whnf) | (refine forkB_intro (fun _ => ?_) (fun _ => ?_) <;> conv => whnf))
    try (refine reqD_dec (by first | omega | decide | (simp [ty27, ty58, ty41, ty23, ty55, ty30, ty60, ty56, ty3, ty39]; done) | (simp [ty27, ty58, ty41, ty23, ty55, ty30, ty60, ty56, ty3, ty39]; omega)) ?_)
    conv => whnf
    repeat (first | (refine forkB_true ?_; conv => whnf) | (refine forkB_false ?_; conv => whnf) | (refine reqD_dec (by exact Nat.le_of_ble_eq_true rfl) ?_; conv => whnf) | (refine reqD_dec (by exact Nat.eq_of_beq_eq_true rfl) ?_; conv => whnf) | (refine reqD_dec ⟨by decide, by exact Nat.le_of_ble_eq_true rfl⟩ ?_; conv => whnf))
    try (refine reqD_dec (by first | omega | decide | (simp [ty27, ty58, ty41, ty23, ty55, ty30, ty60, ty56, ty3, ty39]; done) | (simp [ty27, ty58, ty41, ty23, ty55, ty30, ty60, ty56, ty3, ty39]; omega)) ?_)
    conv => whnf
    repeat (first | (refine forkB_true ?_; conv => whnf) | (refine forkB_false ?_; conv => whnf) | (refine reqD_dec (by exact Nat.le_of_ble_eq_true rfl) ?_; conv => whnf) | (refine reqD_dec (by exact Nat.eq_of_beq_eq_true rfl) ?_; conv => whnf) | (refine reqD_dec ⟨by decide, by exact Nat.le_of_ble_eq_true rfl⟩ ?_; conv => whnf))
    refine ⟨1, rfl, ?_⟩
    conv => whnf
    repeat' (first | (refine forkB_true ?_; conv => whnf) | (refine forkB_false ?_; conv => whnf) | (refine reqD_dec (by exact Nat.le_of_ble_eq_true rfl) ?_; conv => whnf) | (refine reqD_dec (by exact Nat.eq_of_beq_eq_true rfl) ?_; conv => whnf) | (refine exI_i64 (by omega) (by omega) ?_; conv => whnf) | (refine exI_as _ rfl ?_; conv => whnf) | (refine forkB_dec (fun _ => ?_) (fun _ => ?_) <;> conv => whnf) | (refine forkB_intro (fun _ => ?_) (fun _ => ?_) <;> conv => whnf))
    refine loopX_n env08_ok mixed08 2 ?_
    conv => whnf
    repeat' (first | (refine forkB_true ?_; conv => whnf) | (refine forkB_false ?_; conv => whnf) | (refine reqD_dec (by exact Nat.le_of_ble_eq_true rfl) ?_; conv => whnf) | (refine reqD_dec (by exact Nat.eq_of_beq_eq_true rfl) ?_; conv => whnf) | (refine exI_i64 (by omega) (by omega) ?_; conv => whnf) | (refine exI_as _ rfl ?_; conv => whnf) | (refine forkB_dec (fun _ => ?_) (fun _ => ?_) <;> conv => whnf) | (refine forkB_intro (fun _ => ?_) (fun _ => ?_) <;> conv => whnf))
    try (refine reqD_dec (by first | omega | decide | (simp [ty27, ty58, ty41, ty23, ty55, ty30, ty60, ty56, ty3, ty39]; done) | (simp [ty27, ty58, ty41, ty23, ty55, ty30, ty60, ty56, ty3, ty39]; omega)) ?_)
    conv => whnf
    repeat (first | (refine forkB_true ?_; conv => whnf) | (refine forkB_false ?_; conv => whnf) | (refine reqD_dec (by exact Nat.le_of_ble_eq_true rfl) ?_; conv => whnf) | (refine reqD_dec (by exact Nat.eq_of_beq_eq_true rfl) ?_; conv => whnf) | (refine reqD_dec ⟨by decide, by exact Nat.le_of_ble_eq_true rfl⟩ ?_; conv => whnf))
    try (refine reqD_dec (by first | omega | decide | (simp [ty27, ty58, ty41, ty23, ty55, ty30, ty60, ty56, ty3, ty39]; done) | (simp [ty27, ty58, ty41, ty23, ty55, ty30, ty60, ty56, ty3, ty39]; omega)) ?_)
    conv => whnf
    repeat (first | (refine forkB_true ?_; conv => whnf) | (refine forkB_false ?_; conv => whnf) | (refine reqD_dec (by exact Nat.le_of_ble_eq_true rfl) ?_; conv => whnf) | (refine reqD_dec (by exact Nat.eq_of_beq_eq_true rfl) ?_; conv => whnf) | (refine reqD_dec ⟨by decide, by exact Nat.le_of_ble_eq_true rfl⟩ ?_; conv => whnf))
    conv => whnf
    repeat' (first | (refine forkB_true ?_; conv => whnf) | (refine forkB_false ?_; conv => whnf) | (refine reqD_dec (by exact Nat.le_of_ble_eq_true rfl) ?_; conv => whnf) | (refine reqD_dec (by exact Nat.eq_of_beq_eq_true rfl) ?_; conv => whnf) | (refine exI_i64 (by omega) (by omega) ?_; conv => whnf) | (refine exI_as _ rfl ?_; conv => whnf) | (refine forkB_dec (fun _ => ?_) (fun _ => ?_) <;> conv => whnf) | (refine forkB_intro (fun _ => ?_) (fun _ => ?_) <;> conv => whnf))
    refine callX_obs sort_spec (callee_of Try.func56 rfl rfl) (fun _ => 5) (fun j => if j = 5 then some 0 else none) (avs := [.one (.gref 5), .one .any]) rfl rfl (.cons (AV.Le.refl _) (.cons AV.Le.any .nil)) (passed1 (args := [.one (.gref 0), .one .any]) 5 rfl (by exact Nat.le_of_ble_eq_true rfl) rfl rfl) ?_
    rintro x hx rfl
    conv => whnf
    repeat' (first | (refine forkB_true ?_; conv => whnf) | (refine forkB_false ?_; conv => whnf) | (refine reqD_dec (by exact Nat.le_of_ble_eq_true rfl) ?_; conv => whnf) | (refine reqD_dec (by exact Nat.eq_of_beq_eq_true rfl) ?_; conv => whnf) | (refine exI_i64 (by omega) (by omega) ?_; conv => whnf) | (refine exI_as _ rfl ?_; conv => whnf) | (refine forkB_dec (fun _ => ?_) (fun _ => ?_) <;> conv => whnf) | (refine forkB_intro (fun _ => ?_) (fun _ => ?_) <;> conv => whnf))
    refine ⟨1, rfl, ?_⟩
    conv => whnf
    repeat' (first | (refine forkB_true ?_; conv => whnf) | (refine forkB_false ?_; conv => whnf) | (refine reqD_dec (by exact Nat.le_of_ble_eq_true rfl) ?_; conv => whnf) | (refine reqD_dec (by exact Nat.eq_of_beq_eq_true rfl) ?_; conv => whnf) | (refine exI_i64 (by omega) (by omega) ?_; conv => whnf) | (refine exI_as _ rfl ?_; conv => whnf) | (refine forkB_dec (fun _ => ?_) (fun _ => ?_) <;> conv => whnf) | (refine forkB_intro (fun _ => ?_) (fun _ => ?_) <;> conv => whnf))
    refine loopX_n env08_ok mixed08 2 ?_
    conv => whnf
    repeat' (first | (refine forkB_true ?_; conv => whnf) | (refine forkB_false ?_; conv => whnf) | (refine reqD_dec (by exact Nat.le_of_ble_eq_true rfl) ?_; conv => whnf) | (refine reqD_dec (by exact Nat.eq_of_beq_eq_true rfl) ?_; conv => whnf) | (refine exI_i64 (by omega) (by omega) ?_; conv => whnf) | (refine exI_as _ rfl ?_; conv => whnf) | (refine forkB_dec (fun _ => ?_) (fun _ => ?_) <;> conv => whnf) | (refine forkB_intro (fun _ => ?_) (fun _ => ?_) <;> conv => whnf))
    try (refine reqD_dec (by first | omega | decide | (simp [ty27, ty58, ty41, ty23, ty55, ty30, ty60, ty56, ty3, ty39]; done) | (simp [ty27, ty58, ty41, ty23, ty55, ty30, ty60, ty56, ty3, ty39]; omega)) ?_)
    conv => whnf
    repeat (first | (refine forkB_true ?_; conv => whnf) | (refine forkB_false ?_; conv => whnf) | (refine reqD_dec (by exact Nat.le_of_ble_eq_true rfl) ?_; conv => whnf) | (refine reqD_dec (by exact Nat.eq_of_beq_eq_true rfl) ?_; conv => whnf) | (refine reqD_dec ⟨by decide, by exact Nat.le_of_ble_eq_true rfl⟩ ?_; conv => whnf))
    try (refine reqD_dec (by first | omega | decide | (simp [ty27, ty58, ty41, ty23, ty55, ty30, ty60, ty56, ty3, ty39]; done) | (simp [ty27, ty58, ty41, ty23, ty55, ty30, ty60, ty56, ty3, ty39]; omega)) ?_)
    conv => whnf
    repeat (first | (refine forkB_true ?_; conv => whnf) | (refine forkB_false ?_; conv => whnf) | (refine reqD_dec (by exact Nat.le_of_ble_eq_true rfl) ?_; conv => whnf) | (refine reqD_dec (by exact Nat.eq_of_beq_eq_true rfl) ?_; conv => whnf) | (refine reqD_dec ⟨by decide, by exact Nat.le_of_ble_eq_true rfl⟩ ?_; conv => whnf))
    refine drawnX_phase env08_ok (fun _ => true) [0, 1, 2, 3, 4, 5, 6, 7, 8, 9, 10, 11] (.take 0 (.take 1 (.take 2 (.take 3 (.take 4 (.take 5 (.take 6 (.take 7 (.take 8 (.take 9 (.one 10 (.take 11 (.stop))))))))))))) 0 #[true, true, true, true, true, true, true, true, true, true, true, true] (by kernel_rfl) ?_
    conv => whnf
    repeat (first | (refine forkB_true ?_; conv => whnf) | (refine forkB_false ?_; conv => whnf) | (refine reqD_dec (by exact Nat.le_of_ble_eq_true rfl) ?_; conv => whnf) | (refine reqD_dec (by exact Nat.eq_of_beq_eq_true rfl) ?_; conv => whnf) | (refine reqD_dec ⟨by decide, by exact Nat.le_of_ble_eq_true rfl⟩ ?_; conv => whnf))
    try (refine reqD_dec (by first | omega | decide | (simp [ty27, ty58, ty41, ty23, ty55, ty30, ty60, ty56, ty3, ty39]; done) | (simp [ty27, ty58, ty41, ty23, ty55, ty30, ty60, ty56, ty3, ty39]; omega)) ?_)
    conv => whnf
    repeat (first | (refine forkB_true ?_; conv => whnf) | (refine forkB_false ?_; conv => whnf) | (refine reqD_dec (by exact Nat.le_of_ble_eq_true rfl) ?_; conv => whnf) | (refine reqD_dec (by exact Nat.eq_of_beq_eq_true rfl) ?_; conv => whnf) | (refine reqD_dec ⟨by decide, by exact Nat.le_of_ble_eq_true rfl⟩ ?_; conv => whnf))
    try (refine reqD_dec (by first | omega | decide | (simp [ty27, ty58, ty41, ty23, ty55, ty30, ty60, ty56, ty3, ty39]; done) | (simp [ty27, ty58, ty41, ty23, ty55, ty30, ty60, ty56, ty3, ty39]; omega)) ?_)
    conv => whnf
    repeat (first | (refine forkB_true ?_; conv => whnf) | (refine forkB_false ?_; conv => whnf) | (refine reqD_dec (by exact Nat.le_of_ble_eq_true rfl) ?_; conv => whnf) | (refine reqD_dec (by exact Nat.eq_of_beq_eq_true rfl) ?_; conv => whnf) | (refine reqD_dec ⟨by decide, by exact Nat.le_of_ble_eq_true rfl⟩ ?_; conv => whnf))
    refine callX_le (compareRows_spec [] [] (by decide) (by decide)) callee42 rfl rfl (.cons (AV.Le.refl _) (.cons (AV.Le.refl _) .nil)) rfl ?_
    rintro x hx rfl
    conv => whnf
    repeat' (first | (refine forkB_true ?_; conv => whnf) | (refine forkB_false ?_; conv => whnf) | (refine reqD_dec (by exact Nat.le_of_ble_eq_true rfl) ?_; conv => whnf) | (refine reqD_dec (by exact Nat.eq_of_beq_eq_true rfl) ?_; conv => whnf) | (refine exI_i64 (by omega) (by omega) ?_; conv => whnf) | (refine exI_as _ rfl ?_; conv => whnf) | (refine forkB_dec (fun _ => ?_) (fun _ => ?_) <;> conv => whnf) | (refine forkB_intro (fun _ => ?_) (fun _ => ?_) <;> conv => whnf))
    refine drawnX_done (by kernel_rfl) ?_
    conv => whnf
    repeat (first | (refine forkB_true ?_; conv => whnf) | (refine forkB_false ?_; conv => whnf) | (refine reqD_dec (by exact Nat.le_of_ble_eq_true rfl) ?_; conv => whnf) | (refine reqD_dec (by exact Nat.eq_of_beq_eq_true rfl) ?_; conv => whnf) | (refine reqD_dec ⟨by decide, by exact Nat.le_of_ble_eq_true rfl⟩ ?_; conv => whnf))
    conv => whnf
    repeat' (first | (refine forkB_true ?_; conv => whnf) | (refine forkB_false ?_; conv => whnf) | (refine reqD_dec (by exact Nat.le_of_ble_eq_true rfl) ?_; conv => whnf) | (refine reqD_dec (by exact Nat.eq_of_beq_eq_true rfl) ?_; conv => whnf) | (refine exI_i64 (by omega) (by omega) ?_; conv => whnf) | (refine exI_as _ rfl ?_; conv => whnf) | (refine forkB_dec (fun _ => ?_) (fun _ => ?_) <;> conv => whnf) | (refine forkB_intro (fun _ => ?_) (fun _ => ?_) <;> conv => whnf))
    refine retX_tr (Tr.slot 6 (AV.Le.nilOf (f := chgC) (B := 56) (l := []) rfl)) ?_
    refine retX_val rfl ?_
    conv => whnf
    rfl
end Go.Proofs.Ve


/-
  VeVa: the sanity check: what its calls compute.
-/
set_option linter.unusedVariables false
set_option linter.unusedSimpArgs false
namespace Go.Proofs.Ve
open Go

theorem tw_get {α : Type} (p : α → Bool) : ∀ (l : List α) (i : Nat) (h : i < l.length), i < (l.takeWhile p).length → p l[i] = true
  | a :: l, i, h, hi => by
    rw [List.takeWhile_cons] at hi
    cases ha : p a with
    | false => rw [ha] at hi; simp at hi
    | true =>
      rw [ha] at hi
      cases i with
      | zero => exact ha
      | succ i => exact tw_get p l i (by simpa using h) (by simpa using hi)
/-- Mono, as a check. -/
def monoB (s : Sch) (t : Int) (l : Tab) (key : Row) : Bool := (l.drop (low s t l key)).all fun r => decide (cmpR (keyR s t r) key ≥ 0)
theorem monoB_spec {s : Sch} {t : Int} {l : Tab} {key : Row} (h : monoB s t l key = true) : Mono s t l key := fun i hi => by
  unfold monoB at h
  constructor
  · intro hc
    rcases Nat.lt_or_ge i (low s t l key) with h1 | h1
    · have := tw_get _ l i hi h1
      have := of_decide_eq_true this
      omega
    · exact h1
  · intro hc
    have hm : l[i] ∈ l.drop (low s t l key) := by
      rw [List.mem_drop_iff_getElem]
      exact ⟨i - low s t l key, by omega, by congr 1; omega⟩
    exact of_decide_eq_true (List.all_eq_true.1 h _ hm)
def monoLB (s : Sch) (mode : Int) : List Chg → St → Int → Bool
  | [], _, _ => true
  | c :: r, cur, n => (!validC s mode c || monoB s c.table (tabAt cur c.table) (keyC s c)) && (!decide ((stepC s mode cur n c).1 = 0) || monoLB s mode r (stepC s mode cur n c).2.1 (stepC s mode cur n c).2.2)
theorem monoLB_spec {s : Sch} {mode : Int} : ∀ {l : List Chg} {cur : St} {n : Int}, monoLB s mode l cur n = true → monoL s mode l cur n
  | [], _, _, _ => trivial
  | c :: r, cur, n, h => by
    unfold monoLB at h
    simp only [Bool.and_eq_true, Bool.or_eq_true, Bool.not_eq_true', decide_eq_false_iff_not] at h
    refine ⟨fun hv => ?_, fun h0 => ?_⟩
    · rcases h.1 with h1 | h1
      · rw [hv] at h1; cases h1
      · exact monoB_spec h1
    · rcases h.2 with h1 | h1
      · exact absurd h0 h1
      · exact monoLB_spec h1

def bs (l : List UInt8) : ByteArray := ⟨l.toArray⟩
def bgS : Sch := ⟨0, [⟨⟨#[116]⟩, [⟨⟨#[105, 100]⟩, 4⟩, ⟨⟨#[110, 97, 109, 101]⟩, 5⟩], 1, [], []⟩]⟩
def bgT : St := [[namedR 1 ⟨#[97]⟩]]
def bgR : Row := namedR 2 ⟨#[98]⟩
def bgL : List Chg := [⟨0, [], bgR⟩, ⟨0, bgR, []⟩]
def bgC : List Chg := [⟨0, [], namedR 1 ⟨#[99]⟩⟩]
theorem bg_e : schE bgS = 0 := by kernel_rfl
theorem bg_check : checkS bgS 0 1 bgT = 0 := by kernel_rfl
theorem bg_apply : applyS bgS 0 1 bgT bgL = (bgT, 0) := by kernel_rfl
theorem bg_apply2 : applyS bgS 0 1 bgT bgC = ([], 81) := by kernel_rfl
theorem bg_mono : monoLB bgS 1 bgL bgT (countS bgT) = true := by kernel_rfl
theorem bg_mono2 : monoLB bgS 1 bgC bgT (countS bgT) = true := by kernel_rfl
theorem bg_v1 : validC bgS 1 ⟨0, [], bgR⟩ = true := by kernel_rfl
theorem bg_v2 : validC bgS 1 ⟨0, bgR, []⟩ = true := by kernel_rfl
def bgK : Row := [⟨4, 2, ⟨#[]⟩⟩]
theorem bg_k1 : keyC bgS ⟨0, [], bgR⟩ = bgK := by kernel_rfl
theorem bg_k2 : keyC bgS ⟨0, bgR, []⟩ = bgK := by kernel_rfl
theorem bg_kk : cmpR bgK bgK = 0 := by kernel_rfl
theorem bg_rr : cmpR bgR bgR = 0 := by kernel_rfl
theorem bg_within : withinFrom bgS bgT 0 bgT = true := by kernel_rfl
theorem bg_count : countS bgT = 1 := by kernel_rfl
theorem bg_okS : okS bgS := ⟨by decide, by
  intro T hT
  simp only [bgS, List.mem_singleton] at hT
  subst hT
  refine ⟨by unfold okN; decide, by decide, ?_, rfl, rfl⟩
  intro c hc
  simp only [List.mem_cons, List.not_mem_nil, or_false] at hc
  rcases hc with rfl | rfl <;> unfold okN <;> decide⟩
theorem bg_schema : PSpec Try.prog 53 [.agg (schC bgS)] (fun x => x = .one (.int .i64 0)) := by
  have := schema_spec bgS bg_okS
  rw [bg_e] at this
  exact this
theorem named_ok (i : Int) (t : ByteArray) : okR (namedR i t) := by show 2 ≤ 4398046511104; decide
theorem bg_okT : ∀ l ∈ bgT, okT l := by
  intro l hl
  simp only [bgT, List.mem_singleton] at hl
  subst hl
  refine ⟨by decide, fun r hr => ?_⟩
  simp only [List.mem_singleton] at hr
  subst hr
  exact named_ok _ _
theorem bg_spec1 : PSpec Try.prog 23 [.agg (schC bgS), .one (.int .i64 1), .agg (stC bgT), .one (chgsC bgL)] (fun r => r = applyV (bgT, 0)) := by
  have := apply_spec bgS 0 1 bgT bgL bg_schema (by decide) bg_okT (by rw [bg_count]; decide) (by decide) (by
    intro c hc
    simp only [bgL, List.mem_cons, List.not_mem_nil, or_false] at hc
    rcases hc with rfl | rfl
    · exact ⟨Nat.zero_le _, named_ok _ _⟩
    · exact ⟨named_ok _ _, Nat.zero_le _⟩) (fun _ => monoLB_spec bg_mono)
  rw [bg_apply] at this
  exact this
theorem bg_spec2 : PSpec Try.prog 23 [.agg (schC bgS), .one (.int .i64 1), .agg (stC bgT), .one (chgsC bgC)] (fun r => r = applyV ([], 81)) := by
  have := apply_spec bgS 0 1 bgT bgC bg_schema (by decide) bg_okT (by rw [bg_count]; decide) (by decide) (by
    intro c hc
    simp only [bgC, List.mem_cons, List.not_mem_nil, or_false] at hc
    subst hc
    exact ⟨Nat.zero_le _, named_ok _ _⟩) (fun _ => monoLB_spec bg_mono2)
  rw [bg_apply2] at this
  exact this
theorem bg_net : PSpec Try.prog 32 [.agg (schC bgS), .one (.int .i64 1), .one (chgsC bgL)] (fun x => x = .tup [.one (chgsC []), .one (.int .i64 0)]) :=
  net_pair bgS 1 0 bgR bgK (by decide) bg_schema (named_ok _ _) (by unfold okR; decide) bg_v1 bg_v2 bg_k1 bg_k2 bg_kk bg_rr
theorem bg_withinS : PSpec Try.prog 48 [.agg (schC bgS), .agg (stC bgT), .agg (stC bgT)] (fun x => x = .one (.bool true)) := by
  have := within_spec bgS bgT bgT (by decide) bg_okT bg_okT
  rw [bg_within] at this
  exact this
theorem bg_countS : PSpec Try.prog 13 [.agg (stC bgT)] (fun r => r = .one (.int .i64 1)) := by
  have := count_spec bgT (by decide) (by rw [bg_count]; decide)
  rw [bg_count] at this
  exact this
end Go.Proofs.Ve


/-
  VeVb: the sanity check 'begun' is true.
-/
set_option linter.unusedVariables false
set_option linter.unusedSimpArgs false
set_option pp.maxSteps 1000
set_option maxHeartbeats 2000000
namespace Go.Proofs.Ve
open Go

theorem nilLe {α : Type} {f : α → List AC} {B : Nat} : AC.LeV (.sl true 0 0 []) (slC f B []) := AC.LeV.sl (AC.Le.nil (.inl rfl))
theorem bg_okL : ∀ c ∈ bgL, okC c := by
  intro c hc
  simp only [bgL, List.mem_cons, List.not_mem_nil, or_false] at hc
  rcases hc with rfl | rfl
  · exact ⟨Nat.zero_le _, named_ok _ _⟩
  · exact ⟨named_ok _ _, Nat.zero_le _⟩
theorem begun_spec : PSpec Try.prog 22 [] (fun r => r = .one (.bool true)) := by
  refine pspec_x env08_ok mixed08 Try.func22 rfl 79 rfl _ rfl rfl ?_
  conv => whnf
  repeat (first | (refine forkB_true ?_; conv => whnf) | (refine forkB_false ?_; conv => whnf) | (refine reqD_dec (by exact Nat.le_of_ble_eq_true rfl) ?_; conv => whnf) | (refine reqD_dec (by exact Nat.eq_of_beq_eq_true rfl) ?_; conv => whnf) | (refine reqD_dec ⟨by decide, by exact Nat.le_of_ble_eq_true rfl⟩ ?_; conv => whnf))
  refine callX_tr (A1 := AS.of 79 0 3 [(1, .one (.ptr 2 0))] [(2, ⟨32, 0, 0, schC bgS⟩)]) ?_ (by rfl) ?_
  · refine Tr.trans (Tr.frz' (T := 50) (s := 2) (B := 24) (cells := [.str ⟨#[105, 100]⟩, .int .i64 4, .str ⟨#[110, 97, 109, 101]⟩, .int .i64 5]) 0 2 (by rfl) (by decide) rfl rfl) ?_
    refine Tr.trans (Tr.obj 1 (ob := ⟨55, 5, 96, [.str ⟨#[116]⟩, .sl false 24 2 [.str ⟨#[105, 100]⟩, .int .i64 4, .str ⟨#[110, 97, 109, 101]⟩, .int .i64 5], .int .i64 1, .sl true 0 0 [], .sl true 0 0 []]⟩) (by rfl) (cells := tblC ⟨⟨#[116]⟩, [⟨⟨#[105, 100]⟩, 4⟩, ⟨⟨#[110, 97, 109, 101]⟩, 5⟩], 1, [], []⟩)
      (.cons (AC.LeV.refl _) (.cons (AC.LeV.refl _) (.cons (AC.LeV.refl _) (.cons nilLe (.cons nilLe .nil)))))) ?_
    refine Tr.trans (Tr.frz' (T := 55) (s := 5) (B := 96) (cells := tblC ⟨⟨#[116]⟩, [⟨⟨#[105, 100]⟩, 4⟩, ⟨⟨#[110, 97, 109, 101]⟩, 5⟩], 1, [], []⟩) 1 1 (by rfl) (by decide) rfl rfl) ?_
    exact (Tr.ofId rfl rfl (by decide) (by exact Nat.le_of_ble_eq_true rfl) ⟨⟨rfl, rfl⟩, trivial⟩ ⟨⟨rfl, rfl, by decide⟩, trivial⟩)
  refine callX_le (named_spec 1 ⟨#[97]⟩) (callee_of Try.func47 rfl rfl) rfl rfl (.cons (AV.Le.refl _) (.cons (AV.Le.refl _) .nil)) rfl ?_
  rintro x hx rfl
  conv => whnf
  repeat (first | (refine forkB_true ?_; conv => whnf) | (refine forkB_false ?_; conv => whnf) | (refine reqD_dec (by exact Nat.le_of_ble_eq_true rfl) ?_; conv => whnf) | (refine reqD_dec (by exact Nat.eq_of_beq_eq_true rfl) ?_; conv => whnf) | (refine reqD_dec ⟨by decide, by exact Nat.le_of_ble_eq_true rfl⟩ ?_; conv => whnf))
  refine callX_tr (A1 := AS.of 79 0 6 [(1, .one (.ptr 2 0)), (2, .one (.ptr 5 0))] [(2, ⟨32, 0, 0, schC bgS⟩), (5, ⟨25, 0, 0, stC bgT⟩)]) ?_ (by rfl) ?_
  · refine Tr.trans (Tr.frz' (T := 27) (s := 1) (B := 24) (cells := [rowC (namedR 1 ⟨#[97]⟩)]) 3 1 (by rfl) (by decide) rfl rfl) ?_
    refine Tr.trans (Tr.frz' (T := 41) (s := 1) (B := 24) (cells := [tabC [namedR 1 ⟨#[97]⟩]]) 4 1 (by rfl) (by decide) rfl rfl) ?_
    exact (Tr.ofId rfl rfl (by decide) (by exact Nat.le_of_ble_eq_true rfl) ⟨⟨rfl, rfl⟩, ⟨rfl, rfl⟩, trivial⟩ ⟨⟨rfl, rfl, by decide⟩, ⟨rfl, rfl, by decide⟩, trivial⟩)
  refine callX_le (named_spec 2 ⟨#[98]⟩) (callee_of Try.func47 rfl rfl) rfl rfl (.cons (AV.Le.refl _) (.cons (AV.Le.refl _) .nil)) rfl ?_
  rintro x hx rfl
  conv => whnf
  repeat (first | (refine forkB_true ?_; conv => whnf) | (refine forkB_false ?_; conv => whnf) | (refine reqD_dec (by exact Nat.le_of_ble_eq_true rfl) ?_; conv => whnf) | (refine reqD_dec (by exact Nat.eq_of_beq_eq_true rfl) ?_; conv => whnf) | (refine reqD_dec ⟨by decide, by exact Nat.le_of_ble_eq_true rfl⟩ ?_; conv => whnf))
  refine callX_le (named_spec 2 ⟨#[98]⟩) (callee_of Try.func47 rfl rfl) rfl rfl (.cons (AV.Le.refl _) (.cons (AV.Le.refl _) .nil)) rfl ?_
  rintro x hx rfl
  conv => whnf
  repeat (first | (refine forkB_true ?_; conv => whnf) | (refine forkB_false ?_; conv => whnf) | (refine reqD_dec (by exact Nat.le_of_ble_eq_true rfl) ?_; conv => whnf) | (refine reqD_dec (by exact Nat.eq_of_beq_eq_true rfl) ?_; conv => whnf) | (refine reqD_dec ⟨by decide, by exact Nat.le_of_ble_eq_true rfl⟩ ?_; conv => whnf))
  refine callX_tr (A1 := AS.of 79 0 7 [(1, .one (.ptr 2 0)), (2, .one (.ptr 5 0)), (3, .one (chgsC bgL)), (26, .agg (schC bgS)), (27, .agg (stC bgT)), (28, .one (chgsC bgL))] [(2, ⟨32, 0, 0, schC bgS⟩), (5, ⟨25, 0, 0, stC bgT⟩)]) ?_ (by rfl) ?_
  · refine Tr.trans (Tr.obj 6 (ob := ⟨60, 3, 56, [.int .i64 0, .sl true 0 0 [], rowC bgR, .int .i64 0, rowC bgR, .sl true 0 0 []]⟩) (by rfl) (cells := bgL.flatMap chgC)
      (.cons (AC.LeV.refl _) (.cons nilLe (.cons (AC.LeV.refl _) (.cons (AC.LeV.refl _) (.cons (AC.LeV.refl _) (.cons nilLe .nil))))))) ?_
    refine Tr.trans (Tr.frz' (T := 60) (s := 3) (B := 56) (cells := bgL.flatMap chgC) 6 2 (by rfl) (by decide) rfl rfl) ?_
    exact (Tr.ofId rfl rfl (by decide) (by exact Nat.le_of_ble_eq_true rfl) ⟨⟨rfl, rfl⟩, ⟨rfl, rfl⟩, ⟨rfl, rfl⟩, ⟨rfl, rfl⟩, ⟨rfl, rfl⟩, ⟨rfl, rfl⟩, trivial⟩ ⟨⟨rfl, rfl, by decide⟩, ⟨rfl, rfl, by decide⟩, trivial⟩)
  refine callX_le bg_spec1 (callee_of Try.func23 rfl rfl) rfl rfl (.cons (AV.Le.refl _) (.cons (AV.Le.refl _) (.cons (AV.Le.refl _) (.cons (AV.Le.refl _) .nil)))) rfl ?_
  rintro x hx rfl
  conv => whnf
  repeat (first | (refine forkB_true ?_; conv => whnf) | (refine forkB_false ?_; conv => whnf) | (refine reqD_dec (by exact Nat.le_of_ble_eq_true rfl) ?_; conv => whnf) | (refine reqD_dec (by exact Nat.eq_of_beq_eq_true rfl) ?_; conv => whnf) | (refine reqD_dec ⟨by decide, by exact Nat.le_of_ble_eq_true rfl⟩ ?_; conv => whnf))
  refine callX_le bg_net (callee_of Try.func32 rfl rfl) rfl rfl (.cons (AV.Le.refl _) (.cons (AV.Le.refl _) (.cons (AV.Le.refl _) .nil))) rfl ?_
  rintro x hx rfl
  conv => whnf
  repeat' (first | (refine forkB_true ?_; conv => whnf) | (refine forkB_false ?_; conv => whnf) | (refine reqD_dec (by exact Nat.le_of_ble_eq_true rfl) ?_; conv => whnf) | (refine reqD_dec (by exact Nat.eq_of_beq_eq_true rfl) ?_; conv => whnf) | (refine exI_i64 (by omega) (by omega) ?_; conv => whnf) | (refine exI_as _ rfl ?_; conv => whnf) | (refine forkB_dec (fun _ => ?_) (fun _ => ?_) <;> conv => whnf) | (refine forkB_intro (fun _ => ?_) (fun _ => ?_) <;> conv => whnf))
  refine drawnX_tr (A1 := AS.of 79 0 8 [(1, .one (.ptr 2 0)), (2, .one (.ptr 5 0)), (3, .one (chgsC bgL)), (4, .one (.ptr 7 0)), (5, .one (.int .i64 0)), (6, .one (chgsC [])), (7, .one (.int .i64 0))] [(2, ⟨32, 0, 0, schC bgS⟩), (5, ⟨25, 0, 0, stC bgT⟩), (7, ⟨25, 0, 0, stC bgT⟩)]) (Tr.ofId rfl rfl (by decide) (by exact Nat.le_of_ble_eq_true rfl) ⟨⟨rfl, rfl⟩, ⟨rfl, rfl⟩, ⟨rfl, rfl⟩, ⟨rfl, rfl⟩, ⟨rfl, rfl⟩, ⟨rfl, rfl⟩, ⟨rfl, rfl⟩, trivial⟩ ⟨⟨rfl, rfl, by decide⟩, ⟨rfl, rfl, by decide⟩, ⟨rfl, rfl, by decide⟩, trivial⟩) (by rfl) ?_
  refine drawnX_phase env08_ok (fun id => id < 8) [0, 1, 2, 3, 4, 5, 6, 7, 8, 9, 10, 11] (.take 0 (.take 1 (.two 2 9 (.take 3 (.two 4 9 (.two 5 9 (.take 6 (.take 7 (.take 8 (.one 9 (.one 10 (.take 11 (.stop))))))) (.one 5 (.take 6 (.take 7 (.take 8 (.one 10 (.take 11 (.stop)))))))) (.one 4 (.one 5 (.take 6 (.take 7 (.take 8 (.one 10 (.take 11 (.stop)))))))))) (.one 2 (.take 3 (.one 4 (.one 5 (.take 6 (.take 7 (.take 8 (.one 10 (.take 11 (.stop))))))))))))) 0 #[true, true, true, true, true, true, true, true, true, true, true, true] (by kernel_rfl) ?_
  conv => whnf
  repeat (first | (refine forkB_true ?_; conv => whnf) | (refine forkB_false ?_; conv => whnf) | (refine reqD_dec (by exact Nat.le_of_ble_eq_true rfl) ?_; conv => whnf) | (refine reqD_dec (by exact Nat.eq_of_beq_eq_true rfl) ?_; conv => whnf) | (refine reqD_dec ⟨by decide, by exact Nat.le_of_ble_eq_true rfl⟩ ?_; conv => whnf))
  refine ⟨?_, ?_⟩
  · conv => whnf
    repeat (first | (refine forkB_true ?_; conv => whnf) | (refine forkB_false ?_; conv => whnf) | (refine reqD_dec (by exact Nat.le_of_ble_eq_true rfl) ?_; conv => whnf) | (refine reqD_dec (by exact Nat.eq_of_beq_eq_true rfl) ?_; conv => whnf) | (refine reqD_dec ⟨by decide, by exact Nat.le_of_ble_eq_true rfl⟩ ?_; conv => whnf))
    refine callX_le (named_spec 1 ⟨#[99]⟩) (callee_of Try.func47 rfl rfl) rfl rfl (.cons (AV.Le.refl _) (.cons (AV.Le.refl _) .nil)) rfl ?_
    rintro x hx rfl
    conv => whnf
    repeat (first | (refine forkB_true ?_; conv => whnf) | (refine forkB_false ?_; conv => whnf) | (refine reqD_dec (by exact Nat.le_of_ble_eq_true rfl) ?_; conv => whnf) | (refine reqD_dec (by exact Nat.eq_of_beq_eq_true rfl) ?_; conv => whnf) | (refine reqD_dec ⟨by decide, by exact Nat.le_of_ble_eq_true rfl⟩ ?_; conv => whnf))
    refine ⟨?_, ?_⟩
    · conv => whnf
      repeat (first | (refine forkB_true ?_; conv => whnf) | (refine forkB_false ?_; conv => whnf) | (refine reqD_dec (by exact Nat.le_of_ble_eq_true rfl) ?_; conv => whnf) | (refine reqD_dec (by exact Nat.eq_of_beq_eq_true rfl) ?_; conv => whnf) | (refine reqD_dec ⟨by decide, by exact Nat.le_of_ble_eq_true rfl⟩ ?_; conv => whnf))
      refine ⟨?_, ?_⟩
      · conv => whnf
        repeat (first | (refine forkB_true ?_; conv => whnf) | (refine forkB_false ?_; conv => whnf) | (refine reqD_dec (by exact Nat.le_of_ble_eq_true rfl) ?_; conv => whnf) | (refine reqD_dec (by exact Nat.eq_of_beq_eq_true rfl) ?_; conv => whnf) | (refine reqD_dec ⟨by decide, by exact Nat.le_of_ble_eq_true rfl⟩ ?_; conv => whnf))
        refine callX_tr (Tr.trans (Tr.obj 8 (ob := ⟨60, 3, 56, [.int .i64 0, .sl true 0 0 [], rowC (namedR 1 ⟨#[99]⟩)]⟩) (by rfl) (cells := bgC.flatMap chgC) (.cons (AC.LeV.refl _) (.cons nilLe (.cons (AC.LeV.refl _) .nil))))
          (Tr.frz' (T := 60) (s := 3) (B := 56) (cells := bgC.flatMap chgC) 8 1 (by rfl) (by decide) rfl rfl)) (by rfl) ?_
        refine callX_le bg_spec2 (callee_of Try.func23 rfl rfl) rfl rfl (.cons (AV.Le.refl _) (.cons (AV.Le.refl _) (.cons (AV.Le.refl _) (.cons (AV.Le.refl _) .nil)))) rfl ?_
        rintro x hx rfl
        conv => whnf
        repeat (first | (refine forkB_true ?_; conv => whnf) | (refine forkB_false ?_; conv => whnf) | (refine reqD_dec (by exact Nat.le_of_ble_eq_true rfl) ?_; conv => whnf) | (refine reqD_dec (by exact Nat.eq_of_beq_eq_true rfl) ?_; conv => whnf) | (refine reqD_dec ⟨by decide, by exact Nat.le_of_ble_eq_true rfl⟩ ?_; conv => whnf))
        conv => whnf
        repeat' (first | (refine forkB_true ?_; conv => whnf) | (refine forkB_false ?_; conv => whnf) | (refine reqD_dec (by exact Nat.le_of_ble_eq_true rfl) ?_; conv => whnf) | (refine reqD_dec (by exact Nat.eq_of_beq_eq_true rfl) ?_; conv => whnf) | (refine exI_i64 (by omega) (by omega) ?_; conv => whnf) | (refine exI_as _ rfl ?_; conv => whnf) | (refine forkB_dec (fun _ => ?_) (fun _ => ?_) <;> conv => whnf) | (refine forkB_intro (fun _ => ?_) (fun _ => ?_) <;> conv => whnf))
        refine drawnX_done (by kernel_rfl) ?_
        conv => whnf
        repeat (first | (refine forkB_true ?_; conv => whnf) | (refine forkB_false ?_; conv => whnf) | (refine reqD_dec (by exact Nat.le_of_ble_eq_true rfl) ?_; conv => whnf) | (refine reqD_dec (by exact Nat.eq_of_beq_eq_true rfl) ?_; conv => whnf) | (refine reqD_dec ⟨by decide, by exact Nat.le_of_ble_eq_true rfl⟩ ?_; conv => whnf))
        conv => whnf
        repeat' (first | (refine forkB_true ?_; conv => whnf) | (refine forkB_false ?_; conv => whnf) | (refine reqD_dec (by exact Nat.le_of_ble_eq_true rfl) ?_; conv => whnf) | (refine reqD_dec (by exact Nat.eq_of_beq_eq_true rfl) ?_; conv => whnf) | (refine exI_i64 (by omega) (by omega) ?_; conv => whnf) | (refine exI_as _ rfl ?_; conv => whnf) | (refine forkB_dec (fun _ => ?_) (fun _ => ?_) <;> conv => whnf) | (refine forkB_intro (fun _ => ?_) (fun _ => ?_) <;> conv => whnf))
        refine callX_le bg_countS callee13 rfl rfl (.cons (AV.Le.refl _) .nil) rfl ?_
        rintro x hx rfl
        conv => whnf
        repeat' (first | (refine forkB_true ?_; conv => whnf) | (refine forkB_false ?_; conv => whnf) | (refine reqD_dec (by exact Nat.le_of_ble_eq_true rfl) ?_; conv => whnf) | (refine reqD_dec (by exact Nat.eq_of_beq_eq_true rfl) ?_; conv => whnf) | (refine exI_i64 (by omega) (by omega) ?_; conv => whnf) | (refine exI_as _ rfl ?_; conv => whnf) | (refine forkB_dec (fun _ => ?_) (fun _ => ?_) <;> conv => whnf) | (refine forkB_intro (fun _ => ?_) (fun _ => ?_) <;> conv => whnf))
        refine callX_le (invert_spec bgL (by decide) bg_okL) (callee_of Try.func27 rfl rfl) rfl rfl (.cons (AV.Le.refl _) .nil) rfl ?_
        rintro x hx rfl
        conv => whnf
        repeat (first | (refine forkB_true ?_; conv => whnf) | (refine forkB_false ?_; conv => whnf) | (refine reqD_dec (by exact Nat.le_of_ble_eq_true rfl) ?_; conv => whnf) | (refine reqD_dec (by exact Nat.eq_of_beq_eq_true rfl) ?_; conv => whnf) | (refine reqD_dec ⟨by decide, by exact Nat.le_of_ble_eq_true rfl⟩ ?_; conv => whnf))
        refine exI_as 2 (by rfl) ?_
        conv => whnf
        repeat' (first | (refine forkB_true ?_; conv => whnf) | (refine forkB_false ?_; conv => whnf) | (refine reqD_dec (by exact Nat.le_of_ble_eq_true rfl) ?_; conv => whnf) | (refine reqD_dec (by exact Nat.eq_of_beq_eq_true rfl) ?_; conv => whnf) | (refine exI_i64 (by omega) (by omega) ?_; conv => whnf) | (refine exI_as _ rfl ?_; conv => whnf) | (refine forkB_dec (fun _ => ?_) (fun _ => ?_) <;> conv => whnf) | (refine forkB_intro (fun _ => ?_) (fun _ => ?_) <;> conv => whnf))
        refine callX_le bg_withinS (callee_of Try.func48 rfl rfl) rfl rfl (.cons (AV.Le.refl _) (.cons (AV.Le.refl _) (.cons (AV.Le.refl _) .nil))) rfl ?_
        rintro x hx rfl
        conv => whnf
        repeat' (first | (refine forkB_true ?_; conv => whnf) | (refine forkB_false ?_; conv => whnf) | (refine reqD_dec (by exact Nat.le_of_ble_eq_true rfl) ?_; conv => whnf) | (refine reqD_dec (by exact Nat.eq_of_beq_eq_true rfl) ?_; conv => whnf) | (refine exI_i64 (by omega) (by omega) ?_; conv => whnf) | (refine exI_as _ rfl ?_; conv => whnf) | (refine forkB_dec (fun _ => ?_) (fun _ => ?_) <;> conv => whnf) | (refine forkB_intro (fun _ => ?_) (fun _ => ?_) <;> conv => whnf))
        refine retX_val rfl ?_
        conv => whnf
        rfl
      · conv => whnf
        repeat (first | (refine forkB_true ?_; conv => whnf) | (refine forkB_false ?_; conv => whnf) | (refine reqD_dec (by exact Nat.le_of_ble_eq_true rfl) ?_; conv => whnf) | (refine reqD_dec (by exact Nat.eq_of_beq_eq_true rfl) ?_; conv => whnf) | (refine reqD_dec ⟨by decide, by exact Nat.le_of_ble_eq_true rfl⟩ ?_; conv => whnf))
        refine callX_tr (Tr.trans (Tr.obj 8 (ob := ⟨60, 3, 56, [.int .i64 0, .sl true 0 0 [], rowC (namedR 1 ⟨#[99]⟩)]⟩) (by rfl) (cells := bgC.flatMap chgC) (.cons (AC.LeV.refl _) (.cons nilLe (.cons (AC.LeV.refl _) .nil))))
          (Tr.frz' (T := 60) (s := 3) (B := 56) (cells := bgC.flatMap chgC) 8 1 (by rfl) (by decide) rfl rfl)) (by rfl) ?_
        refine callX_le bg_spec2 (callee_of Try.func23 rfl rfl) rfl rfl (.cons (AV.Le.refl _) (.cons (AV.Le.refl _) (.cons (AV.Le.refl _) (.cons (AV.Le.refl _) .nil)))) rfl ?_
        rintro x hx rfl
        conv => whnf
        repeat (first | (refine forkB_true ?_; conv => whnf) | (refine forkB_false ?_; conv => whnf) | (refine reqD_dec (by exact Nat.le_of_ble_eq_true rfl) ?_; conv => whnf) | (refine reqD_dec (by exact Nat.eq_of_beq_eq_true rfl) ?_; conv => whnf) | (refine reqD_dec ⟨by decide, by exact Nat.le_of_ble_eq_true rfl⟩ ?_; conv => whnf))
        conv => whnf
        repeat' (first | (refine forkB_true ?_; conv => whnf) | (refine forkB_false ?_; conv => whnf) | (refine reqD_dec (by exact Nat.le_of_ble_eq_true rfl) ?_; conv => whnf) | (refine reqD_dec (by exact Nat.eq_of_beq_eq_true rfl) ?_; conv => whnf) | (refine exI_i64 (by omega) (by omega) ?_; conv => whnf) | (refine exI_as _ rfl ?_; conv => whnf) | (refine forkB_dec (fun _ => ?_) (fun _ => ?_) <;> conv => whnf) | (refine forkB_intro (fun _ => ?_) (fun _ => ?_) <;> conv => whnf))
        refine drawnX_done (by kernel_rfl) ?_
        conv => whnf
        repeat (first | (refine forkB_true ?_; conv => whnf) | (refine forkB_false ?_; conv => whnf) | (refine reqD_dec (by exact Nat.le_of_ble_eq_true rfl) ?_; conv => whnf) | (refine reqD_dec (by exact Nat.eq_of_beq_eq_true rfl) ?_; conv => whnf) | (refine reqD_dec ⟨by decide, by exact Nat.le_of_ble_eq_true rfl⟩ ?_; conv => whnf))
        conv => whnf
        repeat' (first | (refine forkB_true ?_; conv => whnf) | (refine forkB_false ?_; conv => whnf) | (refine reqD_dec (by exact Nat.le_of_ble_eq_true rfl) ?_; conv => whnf) | (refine reqD_dec (by exact Nat.eq_of_beq_eq_true rfl) ?_; conv => whnf) | (refine exI_i64 (by omega) (by omega) ?_; conv => whnf) | (refine exI_as _ rfl ?_; conv => whnf) | (refine forkB_dec (fun _ => ?_) (fun _ => ?_) <;> conv => whnf) | (refine forkB_intro (fun _ => ?_) (fun _ => ?_) <;> conv => whnf))
        refine callX_le bg_countS callee13 rfl rfl (.cons (AV.Le.refl _) .nil) rfl ?_
        rintro x hx rfl
        conv => whnf
        repeat' (first | (refine forkB_true ?_; conv => whnf) | (refine forkB_false ?_; conv => whnf) | (refine reqD_dec (by exact Nat.le_of_ble_eq_true rfl) ?_; conv => whnf) | (refine reqD_dec (by exact Nat.eq_of_beq_eq_true rfl) ?_; conv => whnf) | (refine exI_i64 (by omega) (by omega) ?_; conv => whnf) | (refine exI_as _ rfl ?_; conv => whnf) | (refine forkB_dec (fun _ => ?_) (fun _ => ?_) <;> conv => whnf) | (refine forkB_intro (fun _ => ?_) (fun _ => ?_) <;> conv => whnf))
        refine callX_le (invert_spec bgL (by decide) bg_okL) (callee_of Try.func27 rfl rfl) rfl rfl (.cons (AV.Le.refl _) .nil) rfl ?_
        rintro x hx rfl
        conv => whnf
        repeat (first | (refine forkB_true ?_; conv => whnf) | (refine forkB_false ?_; conv => whnf) | (refine reqD_dec (by exact Nat.le_of_ble_eq_true rfl) ?_; conv => whnf) | (refine reqD_dec (by exact Nat.eq_of_beq_eq_true rfl) ?_; conv => whnf) | (refine reqD_dec ⟨by decide, by exact Nat.le_of_ble_eq_true rfl⟩ ?_; conv => whnf))
        refine exI_as 2 (by rfl) ?_
        conv => whnf
        repeat' (first | (refine forkB_true ?_; conv => whnf) | (refine forkB_false ?_; conv => whnf) | (refine reqD_dec (by exact Nat.le_of_ble_eq_true rfl) ?_; conv => whnf) | (refine reqD_dec (by exact Nat.eq_of_beq_eq_true rfl) ?_; conv => whnf) | (refine exI_i64 (by omega) (by omega) ?_; conv => whnf) | (refine exI_as _ rfl ?_; conv => whnf) | (refine forkB_dec (fun _ => ?_) (fun _ => ?_) <;> conv => whnf) | (refine forkB_intro (fun _ => ?_) (fun _ => ?_) <;> conv => whnf))
        refine callX_le bg_withinS (callee_of Try.func48 rfl rfl) rfl rfl (.cons (AV.Le.refl _) (.cons (AV.Le.refl _) (.cons (AV.Le.refl _) .nil))) rfl ?_
        rintro x hx rfl
        conv => whnf
        repeat' (first | (refine forkB_true ?_; conv => whnf) | (refine forkB_false ?_; conv => whnf) | (refine reqD_dec (by exact Nat.le_of_ble_eq_true rfl) ?_; conv => whnf) | (refine reqD_dec (by exact Nat.eq_of_beq_eq_true rfl) ?_; conv => whnf) | (refine exI_i64 (by omega) (by omega) ?_; conv => whnf) | (refine exI_as _ rfl ?_; conv => whnf) | (refine forkB_dec (fun _ => ?_) (fun _ => ?_) <;> conv => whnf) | (refine forkB_intro (fun _ => ?_) (fun _ => ?_) <;> conv => whnf))
        refine retX_val rfl ?_
        conv => whnf
        rfl
    · conv => whnf
      repeat (first | (refine forkB_true ?_; conv => whnf) | (refine forkB_false ?_; conv => whnf) | (refine reqD_dec (by exact Nat.le_of_ble_eq_true rfl) ?_; conv => whnf) | (refine reqD_dec (by exact Nat.eq_of_beq_eq_true rfl) ?_; conv => whnf) | (refine reqD_dec ⟨by decide, by exact Nat.le_of_ble_eq_true rfl⟩ ?_; conv => whnf))
      refine callX_tr (Tr.trans (Tr.obj 9 (ob := ⟨60, 3, 56, [.int .i64 0, .sl true 0 0 [], rowC (namedR 1 ⟨#[99]⟩)]⟩) (by rfl) (cells := bgC.flatMap chgC) (.cons (AC.LeV.refl _) (.cons nilLe (.cons (AC.LeV.refl _) .nil))))
        (Tr.frz' (T := 60) (s := 3) (B := 56) (cells := bgC.flatMap chgC) 9 1 (by rfl) (by decide) rfl rfl)) (by rfl) ?_
      refine callX_le bg_spec2 (callee_of Try.func23 rfl rfl) rfl rfl (.cons (AV.Le.refl _) (.cons (AV.Le.refl _) (.cons (AV.Le.refl _) (.cons (AV.Le.refl _) .nil)))) rfl ?_
      rintro x hx rfl
      conv => whnf
      repeat (first | (refine forkB_true ?_; conv => whnf) | (refine forkB_false ?_; conv => whnf) | (refine reqD_dec (by exact Nat.le_of_ble_eq_true rfl) ?_; conv => whnf) | (refine reqD_dec (by exact Nat.eq_of_beq_eq_true rfl) ?_; conv => whnf) | (refine reqD_dec ⟨by decide, by exact Nat.le_of_ble_eq_true rfl⟩ ?_; conv => whnf))
      conv => whnf
      repeat' (first | (refine forkB_true ?_; conv => whnf) | (refine forkB_false ?_; conv => whnf) | (refine reqD_dec (by exact Nat.le_of_ble_eq_true rfl) ?_; conv => whnf) | (refine reqD_dec (by exact Nat.eq_of_beq_eq_true rfl) ?_; conv => whnf) | (refine exI_i64 (by omega) (by omega) ?_; conv => whnf) | (refine exI_as _ rfl ?_; conv => whnf) | (refine forkB_dec (fun _ => ?_) (fun _ => ?_) <;> conv => whnf) | (refine forkB_intro (fun _ => ?_) (fun _ => ?_) <;> conv => whnf))
      refine drawnX_done (by kernel_rfl) ?_
      conv => whnf
      repeat (first | (refine forkB_true ?_; conv => whnf) | (refine forkB_false ?_; conv => whnf) | (refine reqD_dec (by exact Nat.le_of_ble_eq_true rfl) ?_; conv => whnf) | (refine reqD_dec (by exact Nat.eq_of_beq_eq_true rfl) ?_; conv => whnf) | (refine reqD_dec ⟨by decide, by exact Nat.le_of_ble_eq_true rfl⟩ ?_; conv => whnf))
      conv => whnf
      repeat' (first | (refine forkB_true ?_; conv => whnf) | (refine forkB_false ?_; conv => whnf) | (refine reqD_dec (by exact Nat.le_of_ble_eq_true rfl) ?_; conv => whnf) | (refine reqD_dec (by exact Nat.eq_of_beq_eq_true rfl) ?_; conv => whnf) | (refine exI_i64 (by omega) (by omega) ?_; conv => whnf) | (refine exI_as _ rfl ?_; conv => whnf) | (refine forkB_dec (fun _ => ?_) (fun _ => ?_) <;> conv => whnf) | (refine forkB_intro (fun _ => ?_) (fun _ => ?_) <;> conv => whnf))
      refine callX_le bg_countS callee13 rfl rfl (.cons (AV.Le.refl _) .nil) rfl ?_
      rintro x hx rfl
      conv => whnf
      repeat' (first | (refine forkB_true ?_; conv => whnf) | (refine forkB_false ?_; conv => whnf) | (refine reqD_dec (by exact Nat.le_of_ble_eq_true rfl) ?_; conv => whnf) | (refine reqD_dec (by exact Nat.eq_of_beq_eq_true rfl) ?_; conv => whnf) | (refine exI_i64 (by omega) (by omega) ?_; conv => whnf) | (refine exI_as _ rfl ?_; conv => whnf) | (refine forkB_dec (fun _ => ?_) (fun _ => ?_) <;> conv => whnf) | (refine forkB_intro (fun _ => ?_) (fun _ => ?_) <;> conv => whnf))
      refine callX_le (invert_spec bgL (by decide) bg_okL) (callee_of Try.func27 rfl rfl) rfl rfl (.cons (AV.Le.refl _) .nil) rfl ?_
      rintro x hx rfl
      conv => whnf
      repeat (first | (refine forkB_true ?_; conv => whnf) | (refine forkB_false ?_; conv => whnf) | (refine reqD_dec (by exact Nat.le_of_ble_eq_true rfl) ?_; conv => whnf) | (refine reqD_dec (by exact Nat.eq_of_beq_eq_true rfl) ?_; conv => whnf) | (refine reqD_dec ⟨by decide, by exact Nat.le_of_ble_eq_true rfl⟩ ?_; conv => whnf))
      refine exI_as 2 (by rfl) ?_
      conv => whnf
      repeat' (first | (refine forkB_true ?_; conv => whnf) | (refine forkB_false ?_; conv => whnf) | (refine reqD_dec (by exact Nat.le_of_ble_eq_true rfl) ?_; conv => whnf) | (refine reqD_dec (by exact Nat.eq_of_beq_eq_true rfl) ?_; conv => whnf) | (refine exI_i64 (by omega) (by omega) ?_; conv => whnf) | (refine exI_as _ rfl ?_; conv => whnf) | (refine forkB_dec (fun _ => ?_) (fun _ => ?_) <;> conv => whnf) | (refine forkB_intro (fun _ => ?_) (fun _ => ?_) <;> conv => whnf))
      refine callX_le bg_withinS (callee_of Try.func48 rfl rfl) rfl rfl (.cons (AV.Le.refl _) (.cons (AV.Le.refl _) (.cons (AV.Le.refl _) .nil))) rfl ?_
      rintro x hx rfl
      conv => whnf
      repeat' (first | (refine forkB_true ?_; conv => whnf) | (refine forkB_false ?_; conv => whnf) | (refine reqD_dec (by exact Nat.le_of_ble_eq_true rfl) ?_; conv => whnf) | (refine reqD_dec (by exact Nat.eq_of_beq_eq_true rfl) ?_; conv => whnf) | (refine exI_i64 (by omega) (by omega) ?_; conv => whnf) | (refine exI_as _ rfl ?_; conv => whnf) | (refine forkB_dec (fun _ => ?_) (fun _ => ?_) <;> conv => whnf) | (refine forkB_intro (fun _ => ?_) (fun _ => ?_) <;> conv => whnf))
      refine retX_val rfl ?_
      conv => whnf
      rfl
  · conv => whnf
    repeat (first | (refine forkB_true ?_; conv => whnf) | (refine forkB_false ?_; conv => whnf) | (refine reqD_dec (by exact Nat.le_of_ble_eq_true rfl) ?_; conv => whnf) | (refine reqD_dec (by exact Nat.eq_of_beq_eq_true rfl) ?_; conv => whnf) | (refine reqD_dec ⟨by decide, by exact Nat.le_of_ble_eq_true rfl⟩ ?_; conv => whnf))
    refine callX_le (named_spec 1 ⟨#[99]⟩) (callee_of Try.func47 rfl rfl) rfl rfl (.cons (AV.Le.refl _) (.cons (AV.Le.refl _) .nil)) rfl ?_
    rintro x hx rfl
    conv => whnf
    repeat (first | (refine forkB_true ?_; conv => whnf) | (refine forkB_false ?_; conv => whnf) | (refine reqD_dec (by exact Nat.le_of_ble_eq_true rfl) ?_; conv => whnf) | (refine reqD_dec (by exact Nat.eq_of_beq_eq_true rfl) ?_; conv => whnf) | (refine reqD_dec ⟨by decide, by exact Nat.le_of_ble_eq_true rfl⟩ ?_; conv => whnf))
    refine callX_tr (Tr.trans (Tr.obj 9 (ob := ⟨60, 3, 56, [.int .i64 0, .sl true 0 0 [], rowC (namedR 1 ⟨#[99]⟩)]⟩) (by rfl) (cells := bgC.flatMap chgC) (.cons (AC.LeV.refl _) (.cons nilLe (.cons (AC.LeV.refl _) .nil))))
      (Tr.frz' (T := 60) (s := 3) (B := 56) (cells := bgC.flatMap chgC) 9 1 (by rfl) (by decide) rfl rfl)) (by rfl) ?_
    refine callX_le bg_spec2 (callee_of Try.func23 rfl rfl) rfl rfl (.cons (AV.Le.refl _) (.cons (AV.Le.refl _) (.cons (AV.Le.refl _) (.cons (AV.Le.refl _) .nil)))) rfl ?_
    rintro x hx rfl
    conv => whnf
    repeat (first | (refine forkB_true ?_; conv => whnf) | (refine forkB_false ?_; conv => whnf) | (refine reqD_dec (by exact Nat.le_of_ble_eq_true rfl) ?_; conv => whnf) | (refine reqD_dec (by exact Nat.eq_of_beq_eq_true rfl) ?_; conv => whnf) | (refine reqD_dec ⟨by decide, by exact Nat.le_of_ble_eq_true rfl⟩ ?_; conv => whnf))
    conv => whnf
    repeat' (first | (refine forkB_true ?_; conv => whnf) | (refine forkB_false ?_; conv => whnf) | (refine reqD_dec (by exact Nat.le_of_ble_eq_true rfl) ?_; conv => whnf) | (refine reqD_dec (by exact Nat.eq_of_beq_eq_true rfl) ?_; conv => whnf) | (refine exI_i64 (by omega) (by omega) ?_; conv => whnf) | (refine exI_as _ rfl ?_; conv => whnf) | (refine forkB_dec (fun _ => ?_) (fun _ => ?_) <;> conv => whnf) | (refine forkB_intro (fun _ => ?_) (fun _ => ?_) <;> conv => whnf))
    refine drawnX_done (by kernel_rfl) ?_
    conv => whnf
    repeat (first | (refine forkB_true ?_; conv => whnf) | (refine forkB_false ?_; conv => whnf) | (refine reqD_dec (by exact Nat.le_of_ble_eq_true rfl) ?_; conv => whnf) | (refine reqD_dec (by exact Nat.eq_of_beq_eq_true rfl) ?_; conv => whnf) | (refine reqD_dec ⟨by decide, by exact Nat.le_of_ble_eq_true rfl⟩ ?_; conv => whnf))
    conv => whnf
    repeat' (first | (refine forkB_true ?_; conv => whnf) | (refine forkB_false ?_; conv => whnf) | (refine reqD_dec (by exact Nat.le_of_ble_eq_true rfl) ?_; conv => whnf) | (refine reqD_dec (by exact Nat.eq_of_beq_eq_true rfl) ?_; conv => whnf) | (refine exI_i64 (by omega) (by omega) ?_; conv => whnf) | (refine exI_as _ rfl ?_; conv => whnf) | (refine forkB_dec (fun _ => ?_) (fun _ => ?_) <;> conv => whnf) | (refine forkB_intro (fun _ => ?_) (fun _ => ?_) <;> conv => whnf))
    refine callX_le bg_countS callee13 rfl rfl (.cons (AV.Le.refl _) .nil) rfl ?_
    rintro x hx rfl
    conv => whnf
    repeat' (first | (refine forkB_true ?_; conv => whnf) | (refine forkB_false ?_; conv => whnf) | (refine reqD_dec (by exact Nat.le_of_ble_eq_true rfl) ?_; conv => whnf) | (refine reqD_dec (by exact Nat.eq_of_beq_eq_true rfl) ?_; conv => whnf) | (refine exI_i64 (by omega) (by omega) ?_; conv => whnf) | (refine exI_as _ rfl ?_; conv => whnf) | (refine forkB_dec (fun _ => ?_) (fun _ => ?_) <;> conv => whnf) | (refine forkB_intro (fun _ => ?_) (fun _ => ?_) <;> conv => whnf))
    refine callX_le (invert_spec bgL (by decide) bg_okL) (callee_of Try.func27 rfl rfl) rfl rfl (.cons (AV.Le.refl _) .nil) rfl ?_
    rintro x hx rfl
    conv => whnf
    repeat (first | (refine forkB_true ?_; conv => whnf) | (refine forkB_false ?_; conv => whnf) | (refine reqD_dec (by exact Nat.le_of_ble_eq_true rfl) ?_; conv => whnf) | (refine reqD_dec (by exact Nat.eq_of_beq_eq_true rfl) ?_; conv => whnf) | (refine reqD_dec ⟨by decide, by exact Nat.le_of_ble_eq_true rfl⟩ ?_; conv => whnf))
    refine exI_as 2 (by rfl) ?_
    conv => whnf
    repeat' (first | (refine forkB_true ?_; conv => whnf) | (refine forkB_false ?_; conv => whnf) | (refine reqD_dec (by exact Nat.le_of_ble_eq_true rfl) ?_; conv => whnf) | (refine reqD_dec (by exact Nat.eq_of_beq_eq_true rfl) ?_; conv => whnf) | (refine exI_i64 (by omega) (by omega) ?_; conv => whnf) | (refine exI_as _ rfl ?_; conv => whnf) | (refine forkB_dec (fun _ => ?_) (fun _ => ?_) <;> conv => whnf) | (refine forkB_intro (fun _ => ?_) (fun _ => ?_) <;> conv => whnf))
    refine callX_le bg_withinS (callee_of Try.func48 rfl rfl) rfl rfl (.cons (AV.Le.refl _) (.cons (AV.Le.refl _) (.cons (AV.Le.refl _) .nil))) rfl ?_
    rintro x hx rfl
    conv => whnf
    repeat' (first | (refine forkB_true ?_; conv => whnf) | (refine forkB_false ?_; conv => whnf) | (refine reqD_dec (by exact Nat.le_of_ble_eq_true rfl) ?_; conv => whnf) | (refine reqD_dec (by exact Nat.eq_of_beq_eq_true rfl) ?_; conv => whnf) | (refine exI_i64 (by omega) (by omega) ?_; conv => whnf) | (refine exI_as _ rfl ?_; conv => whnf) | (refine forkB_dec (fun _ => ?_) (fun _ => ?_) <;> conv => whnf) | (refine forkB_intro (fun _ => ?_) (fun _ => ?_) <;> conv => whnf))
    refine retX_val rfl ?_
    conv => whnf
    rfl
end Go.Proofs.Ve

