/-
  VeSev: joined by wip/tools/merge.py out of VeVc VeVd.
-/
import Derived.Test.YtcdfmdiifgpdnaaVeSix
import Derived.Test.YtcdfmdiifgpdnaaVeTri
/-
  VeVc: TableFills: what its calls compute.
-/
set_option linter.unusedVariables false
set_option linter.unusedSimpArgs false
namespace Go.Proofs.Ve
open Go

def fiS : Sch := ⟨0, [⟨⟨#[116]⟩, [⟨⟨#[105, 100]⟩, 4⟩], 1, [], []⟩]⟩
def rowI (i : Nat) : Row := [⟨4, i, ⟨#[]⟩⟩]
def rowsL (i : Nat) : Tab := (List.range i).map rowI
def chgI (j : Nat) : Chg := ⟨0, [], rowI j⟩
def chgsL (i : Nat) : List Chg := ((List.range i).drop 504).map chgI
theorem fi_e : schE fiS = 0 := by kernel_rfl
theorem fi_count (k : Nat) : countS [rowsL k] = k := by simp [countS, rowsL]
structure FiOK (k : Nat) : Prop where
  ap : applyS fiS 0 1 [rowsL 504] (chgsL k) = if k ≤ 512 then ([rowsL k], 0) else ([], 2)
  mo : monoLB fiS 1 (chgsL k) [rowsL 504] 504 = true
  ck : checkS fiS 0 1 [rowsL k] = if k ≤ 512 then 0 else 2
theorem fi_ap509 : applyS fiS 0 1 [rowsL 504] (chgsL 509) = ([rowsL 509], 0) := by kernel_rfl
theorem fi_mo509 : monoLB fiS 1 (chgsL 509) [rowsL 504] 504 = true := by kernel_rfl
theorem fi_ck509 : checkS fiS 0 1 [rowsL 509] = 0 := by kernel_rfl
theorem fi_ok509 : FiOK 509 := ⟨by rw [if_pos (by decide)]; exact fi_ap509, fi_mo509, by rw [if_pos (by decide)]; exact fi_ck509⟩
theorem fi_ap510 : applyS fiS 0 1 [rowsL 504] (chgsL 510) = ([rowsL 510], 0) := by kernel_rfl
theorem fi_mo510 : monoLB fiS 1 (chgsL 510) [rowsL 504] 504 = true := by kernel_rfl
theorem fi_ck510 : checkS fiS 0 1 [rowsL 510] = 0 := by kernel_rfl
theorem fi_ok510 : FiOK 510 := ⟨by rw [if_pos (by decide)]; exact fi_ap510, fi_mo510, by rw [if_pos (by decide)]; exact fi_ck510⟩
theorem fi_ap511 : applyS fiS 0 1 [rowsL 504] (chgsL 511) = ([rowsL 511], 0) := by kernel_rfl
theorem fi_mo511 : monoLB fiS 1 (chgsL 511) [rowsL 504] 504 = true := by kernel_rfl
theorem fi_ck511 : checkS fiS 0 1 [rowsL 511] = 0 := by kernel_rfl
theorem fi_ok511 : FiOK 511 := ⟨by rw [if_pos (by decide)]; exact fi_ap511, fi_mo511, by rw [if_pos (by decide)]; exact fi_ck511⟩
theorem fi_ap512 : applyS fiS 0 1 [rowsL 504] (chgsL 512) = ([rowsL 512], 0) := by kernel_rfl
theorem fi_mo512 : monoLB fiS 1 (chgsL 512) [rowsL 504] 504 = true := by kernel_rfl
theorem fi_ck512 : checkS fiS 0 1 [rowsL 512] = 0 := by kernel_rfl
theorem fi_ok512 : FiOK 512 := ⟨by rw [if_pos (by decide)]; exact fi_ap512, fi_mo512, by rw [if_pos (by decide)]; exact fi_ck512⟩
theorem fi_ap513 : applyS fiS 0 1 [rowsL 504] (chgsL 513) = ([], 2) := by kernel_rfl
theorem fi_mo513 : monoLB fiS 1 (chgsL 513) [rowsL 504] 504 = true := by kernel_rfl
theorem fi_ck513 : checkS fiS 0 1 [rowsL 513] = 2 := by kernel_rfl
theorem fi_ok513 : FiOK 513 := ⟨by rw [if_neg (by decide)]; exact fi_ap513, fi_mo513, by rw [if_neg (by decide)]; exact fi_ck513⟩
theorem fi_ap514 : applyS fiS 0 1 [rowsL 504] (chgsL 514) = ([], 2) := by kernel_rfl
theorem fi_mo514 : monoLB fiS 1 (chgsL 514) [rowsL 504] 504 = true := by kernel_rfl
theorem fi_ck514 : checkS fiS 0 1 [rowsL 514] = 2 := by kernel_rfl
theorem fi_ok514 : FiOK 514 := ⟨by rw [if_neg (by decide)]; exact fi_ap514, fi_mo514, by rw [if_neg (by decide)]; exact fi_ck514⟩
theorem fi_ok (k : Nat) (h1 : 509 ≤ k) (h2 : k ≤ 514) : FiOK k := by
  have : k = 509 ∨ k = 510 ∨ k = 511 ∨ k = 512 ∨ k = 513 ∨ k = 514 := by omega
  rcases this with rfl | rfl | rfl | rfl | rfl | rfl
  · exact fi_ok509
  · exact fi_ok510
  · exact fi_ok511
  · exact fi_ok512
  · exact fi_ok513
  · exact fi_ok514
end Go.Proofs.Ve


/-
  VeVd: TableFills: the walk.
-/
set_option linter.unusedVariables false
set_option linter.unusedSimpArgs false
set_option pp.maxSteps 1000
set_option maxHeartbeats 2000000
namespace Go.Proofs.Ve
open Go

def fiA1 (k i : Nat) : AS := AS.of 89 0 4 [(3, .one (.ptr 2 0)), (4, .one nilC), (5, .one (.gref 3)), (6, .one (.int .i64 k)), (7, .one (.int .i64 (i + 1 : Nat)))] [(2, ⟨32, 0, 0, schC fiS⟩), (3, ⟨27, 1, 24, (rowsL (i + 1)).flatMap rowC1⟩)]
def fiA2 (k i : Nat) : AS := AS.of 89 0 5 [(3, .one (.ptr 2 0)), (4, .one (.gref 4)), (5, .one (.gref 3)), (6, .one (.int .i64 k)), (7, .one (.int .i64 (i + 1 : Nat)))] [(2, ⟨32, 0, 0, schC fiS⟩), (3, ⟨27, 1, 24, (rowsL (i + 1)).flatMap rowC1⟩), (4, ⟨60, 3, 56, (chgsL (i + 1)).flatMap chgC⟩)]
def fiA (k : Nat) : Nat → AS
  | 0 => AS.of 89 0 3 [(3, .one (.ptr 2 0)), (4, .one nilC), (5, .one nilC), (6, .one (.int .i64 k)), (7, .one (.int .i64 0))] [(2, ⟨32, 0, 0, schC fiS⟩)]
  | i + 1 => match decide (i < 504) with
    | true => fiA1 k i
    | false => fiA2 k i
def fiB (k : Nat) : AS := AS.of 89 0 3 [(3, .one (.ptr 2 0)), (4, .one (chgsC (chgsL k))), (5, .one (tabC (rowsL k))), (6, .one (.int .i64 k))] [(2, ⟨32, 0, 0, schC fiS⟩)]
theorem fiA_1 (k i : Nat) (h : i < 504) : fiA k (i + 1) = fiA1 k i := by simp [fiA, h]
theorem fiA_2 (k i : Nat) (h : ¬ i < 504) : fiA k (i + 1) = fiA2 k i := by simp [fiA, h]
theorem fiA_sz (k i : Nat) : (fiA k i).sz = 89 := by
  cases i with
  | zero => rfl
  | succ i =>
    by_cases h : i < 504
    · rw [fiA_1 k i h]; rfl
    · rw [fiA_2 k i h]; rfl
theorem rowsL_next (i : Nat) : (rowsL i).flatMap rowC1 ++ [rowC (rowI i)] = (rowsL (i + 1)).flatMap rowC1 := by
  unfold rowsL
  rw [List.range_succ, List.map_append, List.flatMap_append]
  rfl
theorem rowsL_len (i : Nat) : (rowsL i).length = i := by simp [rowsL]
theorem chgsL_next (i : Nat) (h : 504 ≤ i) : (chgsL i).flatMap chgC ++ chgC (chgI i) = (chgsL (i + 1)).flatMap chgC := by
  unfold chgsL
  rw [List.range_succ, List.drop_append_of_le_length (by simpa using h), List.map_append, List.flatMap_append]
  rfl
theorem chgsL_len (i : Nat) : (chgsL i).length = i - 504 := by simp [chgsL]

theorem map_app_sub (L : List AC) (r : Nat) (x : AC) (h : L.all (·.deep) = true) : (L ++ [AC.gref r]).map (fun c => c.sub r x) = L ++ [x] := by
  rw [List.map_append, map_deep (fun c hc => AC.sub_deep r x hc) L h]
  simp [AC.sub]

theorem rowsL_take (k : Nat) (h : 504 ≤ k) : ((rowsL k).drop 0).take (504 - 0) = rowsL 504 := by
  unfold rowsL
  rw [List.drop_zero, ← List.map_take, List.take_range, Nat.min_eq_left h]
theorem rowI_ok (i : Nat) : okR (rowI i) := by show 1 ≤ 4398046511104; decide
theorem rowsL_ok (k : Nat) (hk : k ≤ 4398046511104) : ∀ l ∈ [rowsL k], okT l := by
  intro l hl
  rw [List.mem_singleton] at hl
  subst hl
  refine ⟨by rw [rowsL_len]; exact hk, fun r hr => ?_⟩
  obtain ⟨i, _, rfl⟩ := List.mem_map.1 hr
  exact rowI_ok i
theorem chgsL_ok (k : Nat) : ∀ c ∈ chgsL k, okC c := by
  intro c hc
  obtain ⟨i, _, rfl⟩ := List.mem_map.1 hc
  exact ⟨Nat.zero_le _, rowI_ok i⟩
theorem fi_okS : okS fiS := ⟨by decide, by
  intro T hT
  simp only [fiS, List.mem_singleton] at hT
  subst hT
  refine ⟨by unfold okN; decide, by decide, ?_, rfl, rfl⟩
  intro c hc
  simp only [List.mem_cons, List.not_mem_nil, or_false] at hc
  rcases hc with rfl
  unfold okN; decide⟩
theorem fi_schema : PSpec Try.prog 53 [.agg (schC fiS)] (fun x => x = .one (.int .i64 0)) := by
  have := schema_spec fiS fi_okS
  rw [fi_e] at this
  exact this
theorem fi_applyG (k : Nat) (ok : FiOK k) (hk : 509 ≤ k ∧ k ≤ 514) : PSpec Try.prog 23 [.agg (schC fiS), .one (.int .i64 1), .agg (stC [rowsL 504]), .one (chgsC (chgsL k))] (fun r => r = applyV (if k ≤ 512 then ([rowsL k], 0) else ([], 2))) := by
  have := apply_spec fiS 0 1 [rowsL 504] (chgsL k) fi_schema (by decide) (rowsL_ok 504 (by decide)) (by rw [fi_count]; decide) (by rw [chgsL_len]; omega) (chgsL_ok k) (fun _ => by rw [fi_count]; exact monoLB_spec ok.mo)
  rw [ok.ap] at this
  exact this
theorem fi_apply (k : Nat) (h : k ≤ 512) (ok : FiOK k) (hk : 509 ≤ k ∧ k ≤ 514) : PSpec Try.prog 23 [.agg (schC fiS), .one (.int .i64 1), .agg (stC [rowsL 504]), .one (chgsC (chgsL k))] (fun r => r = applyV ([rowsL k], 0)) := by
  have := fi_applyG k ok hk
  rw [if_pos h] at this
  exact this
theorem fi_apply2 (k : Nat) (h : ¬ k ≤ 512) (ok : FiOK k) (hk : 509 ≤ k ∧ k ≤ 514) : PSpec Try.prog 23 [.agg (schC fiS), .one (.int .i64 1), .agg (stC [rowsL 504]), .one (chgsC (chgsL k))] (fun r => r = applyV ([], 2)) := by
  have := fi_applyG k ok hk
  rw [if_neg h] at this
  exact this
theorem fi_checkG (k : Nat) (ok : FiOK k) (hk : 509 ≤ k ∧ k ≤ 514) : PSpec Try.prog 24 [.agg (schC fiS), .one (.int .i64 1), .agg (stC [rowsL k])] (fun x => x = .one (.int .i64 (if k ≤ 512 then 0 else 2))) := by
  have := check_spec fiS 0 1 [rowsL k] fi_schema (by show 1 ≤ 4398046511104; decide) (rowsL_ok k (by omega)) (by rw [fi_count]; omega)
  rw [ok.ck] at this
  exact this
theorem fi_check (k : Nat) (h : k ≤ 512) (ok : FiOK k) (hk : 509 ≤ k ∧ k ≤ 514) : PSpec Try.prog 24 [.agg (schC fiS), .one (.int .i64 1), .agg (stC [rowsL k])] (fun x => x = .one (.int .i64 0)) := by
  have := fi_checkG k ok hk
  rw [if_pos h] at this
  exact this
theorem fi_check2 (k : Nat) (h : ¬ k ≤ 512) (ok : FiOK k) (hk : 509 ≤ k ∧ k ≤ 514) : PSpec Try.prog 24 [.agg (schC fiS), .one (.int .i64 1), .agg (stC [rowsL k])] (fun x => x = .one (.int .i64 2)) := by
  have := fi_checkG k ok hk
  rw [if_neg h] at this
  exact this

theorem fi_countS (k : Nat) (h : k ≤ 514) : PSpec Try.prog 13 [.agg (stC [rowsL k])] (fun r => r = .one (.int .i64 k)) := by
  have := count_spec [rowsL k] (by show 1 ≤ 4398046511104; decide) (by rw [fi_count]; omega)
  rw [fi_count] at this
  exact this

theorem fills_spec (n : Int) (hn : 0 ≤ n ∧ n < 256) : PSpec Try.prog 4 [.one (.int .u8 n)] (fun r => r = .one (.bool true)) := by
  refine pspec_x env08_ok mixed08 Try.func4 rfl 89 rfl _ rfl rfl ?_
  conv => whnf
  repeat (first | (refine forkB_true ?_; conv => whnf) | (refine forkB_false ?_; conv => whnf) | (refine reqD_dec (by exact Nat.le_of_ble_eq_true rfl) ?_; conv => whnf) | (refine reqD_dec (by exact Nat.eq_of_beq_eq_true rfl) ?_; conv => whnf) | (refine reqD_dec ⟨by decide, by exact Nat.le_of_ble_eq_true rfl⟩ ?_; conv => whnf))
  refine exI_i64 (by omega) (by omega) ?_
  conv => whnf
  repeat (first | (refine forkB_true ?_; conv => whnf) | (refine forkB_false ?_; conv => whnf) | (refine reqD_dec (by exact Nat.le_of_ble_eq_true rfl) ?_; conv => whnf) | (refine reqD_dec (by exact Nat.eq_of_beq_eq_true rfl) ?_; conv => whnf) | (refine reqD_dec ⟨by decide, by exact Nat.le_of_ble_eq_true rfl⟩ ?_; conv => whnf))
  obtain ⟨m, hm, hm6⟩ : ∃ m : Nat, n.tmod 6 = (m : Int) ∧ m < 6 := ⟨(n.tmod 6).toNat, by rw [Int.tmod_eq_emod_of_nonneg hn.1]; omega, by rw [Int.tmod_eq_emod_of_nonneg hn.1]; omega⟩
  refine exI_as (m : Int) hm ?_
  conv => whnf
  repeat (first | (refine forkB_true ?_; conv => whnf) | (refine forkB_false ?_; conv => whnf) | (refine reqD_dec (by exact Nat.le_of_ble_eq_true rfl) ?_; conv => whnf) | (refine reqD_dec (by exact Nat.eq_of_beq_eq_true rfl) ?_; conv => whnf) | (refine reqD_dec ⟨by decide, by exact Nat.le_of_ble_eq_true rfl⟩ ?_; conv => whnf))
  refine exI_as ((509 + m : Nat) : Int) (by show IntKind.i64.wrap (509 + (m : Int)) = _; unfold IntKind.wrap; simp [IntKind.signed, IntKind.bits]; split <;> omega) ?_
  obtain ⟨k, hk⟩ : ∃ k, 509 + m = k := ⟨_, rfl⟩
  rw [hk]
  have hk1 : 509 ≤ k ∧ k ≤ 514 := by omega
  conv => whnf
  repeat (first | (refine forkB_true ?_; conv => whnf) | (refine forkB_false ?_; conv => whnf) | (refine reqD_dec (by exact Nat.le_of_ble_eq_true rfl) ?_; conv => whnf) | (refine reqD_dec (by exact Nat.eq_of_beq_eq_true rfl) ?_; conv => whnf) | (refine reqD_dec ⟨by decide, by exact Nat.le_of_ble_eq_true rfl⟩ ?_; conv => whnf))
  refine loopX_out ?_
  refine loopX_of env08_ok mixed08 (σ := Nat) (fiA k) (fun i => i ≤ k) (fun i => k - i) 0 (fun i => fiA_sz k i) ?_ (Nat.zero_le _) ?_
  · refine Tr.trans (Tr.frz' (T := 50) (s := 2) (B := 24) (cells := [.str ⟨#[105, 100]⟩, .int .i64 4]) 0 1 (by rfl) (by decide) rfl rfl) ?_
    refine Tr.trans (Tr.obj 1 (ob := ⟨55, 5, 96, [.str ⟨#[116]⟩, .sl false 24 1 [.str ⟨#[105, 100]⟩, .int .i64 4], .int .i64 1, .sl true 0 0 [], .sl true 0 0 []]⟩) (by rfl) (cells := tblC ⟨⟨#[116]⟩, [⟨⟨#[105, 100]⟩, 4⟩], 1, [], []⟩)
      (.cons (AC.LeV.refl _) (.cons (AC.LeV.refl _) (.cons (AC.LeV.refl _) (.cons nilLe (.cons nilLe .nil)))))) ?_
    refine Tr.trans (Tr.frz' (T := 55) (s := 5) (B := 96) (cells := tblC ⟨⟨#[116]⟩, [⟨⟨#[105, 100]⟩, 4⟩], 1, [], []⟩) 1 1 (by rfl) (by decide) rfl rfl) ?_
    exact (Tr.ofId rfl rfl (by decide) (by exact Nat.le_of_ble_eq_true rfl) ⟨⟨rfl, rfl⟩, ⟨rfl, rfl⟩, ⟨rfl, rfl⟩, ⟨rfl, rfl⟩, ⟨rfl, rfl⟩, trivial⟩ ⟨⟨rfl, rfl, by decide⟩, trivial⟩)
  intro i hi
  match i, hi with
  | 0, _ =>
    conv => whnf
    repeat (first | (refine forkB_true ?_; conv => whnf) | (refine forkB_false ?_; conv => whnf) | (refine reqD_dec (by exact Nat.le_of_ble_eq_true rfl) ?_; conv => whnf) | (refine reqD_dec (by exact Nat.eq_of_beq_eq_true rfl) ?_; conv => whnf) | (refine reqD_dec ⟨by decide, by exact Nat.le_of_ble_eq_true rfl⟩ ?_; conv => whnf))
    refine forkB_dec (fun _ => ?_) (fun h => absurd (show (0 : Int) < k by omega) h)
    conv => whnf
    repeat (first | (refine forkB_true ?_; conv => whnf) | (refine forkB_false ?_; conv => whnf) | (refine reqD_dec (by exact Nat.le_of_ble_eq_true rfl) ?_; conv => whnf) | (refine reqD_dec (by exact Nat.eq_of_beq_eq_true rfl) ?_; conv => whnf) | (refine reqD_dec ⟨by decide, by exact Nat.le_of_ble_eq_true rfl⟩ ?_; conv => whnf))
    refine exI_as 1 (by decide) ?_
    conv => whnf
    repeat (first | (refine forkB_true ?_; conv => whnf) | (refine forkB_false ?_; conv => whnf) | (refine reqD_dec (by exact Nat.le_of_ble_eq_true rfl) ?_; conv => whnf) | (refine reqD_dec (by exact Nat.eq_of_beq_eq_true rfl) ?_; conv => whnf) | (refine reqD_dec ⟨by decide, by exact Nat.le_of_ble_eq_true rfl⟩ ?_; conv => whnf))
    refine ⟨1, by omega, by omega, ?_⟩
    rw [fiA_1 k 0 (by decide)]
    refine Tr.trans (Tr.frz' (T := 58) (s := 3) (B := 32) (cells := vC ⟨4, 0, ⟨#[]⟩⟩) 3 1 (by rfl) (by decide) rfl rfl) ?_
    have hX : (rowsL (0 + 1)).flatMap rowC1 = [rowC (rowI 0)] := rfl
    exact (Tr.ofMv 3 5 rfl rfl (by decide) (by decide) (by exact Nat.le_of_ble_eq_true rfl) ⟨⟨rfl, rfl⟩, ⟨rfl, rfl⟩, ⟨rfl, rfl⟩, ⟨rfl, rfl⟩, ⟨rfl, rfl⟩, trivial⟩ ⟨⟨rfl, rfl, by decide⟩, ⟨(congrArg some ((ob_ren_deep (mv 3 5) (all_flat rowC1_deep (rowsL (0 + 1)))).trans (congrArg (Ob.mk 27 1 24) hX))).symm, ob_lt_deep _ (all_flat rowC1_deep _), by decide⟩, trivial⟩)
  | i + 1, hi =>
    by_cases h : i < 504
    · rw [fiA_1 k i h]
      conv => whnf
      repeat (first | (refine forkB_true ?_; conv => whnf) | (refine forkB_false ?_; conv => whnf) | (refine reqD_dec (by exact Nat.le_of_ble_eq_true rfl) ?_; conv => whnf) | (refine reqD_dec (by exact Nat.eq_of_beq_eq_true rfl) ?_; conv => whnf) | (refine reqD_dec ⟨by decide, by exact Nat.le_of_ble_eq_true rfl⟩ ?_; conv => whnf))
      refine forkB_dec (fun h1 => ?_) (fun h1 => ?_)
      · have h1 : i + 1 < k := by omega
        conv => whnf
        repeat (first | (refine forkB_true ?_; conv => whnf) | (refine forkB_false ?_; conv => whnf) | (refine reqD_dec (by exact Nat.le_of_ble_eq_true rfl) ?_; conv => whnf) | (refine reqD_dec (by exact Nat.eq_of_beq_eq_true rfl) ?_; conv => whnf) | (refine reqD_dec ⟨by decide, by exact Nat.le_of_ble_eq_true rfl⟩ ?_; conv => whnf))
        refine reqD_dec (flat_div rowC1_len (by decide) _) ?_
        refine reqD_dec (by simp only [flat_len rowC1_len, rowsL_len]; simp [ty27]; omega) ?_
        refine forceL_as ((rowsL (i + 1)).flatMap rowC1 ++ [.gref 4]) rfl ?_
        conv => whnf
        repeat (first | (refine forkB_true ?_; conv => whnf) | (refine forkB_false ?_; conv => whnf) | (refine reqD_dec (by exact Nat.le_of_ble_eq_true rfl) ?_; conv => whnf) | (refine reqD_dec (by exact Nat.eq_of_beq_eq_true rfl) ?_; conv => whnf) | (refine reqD_dec ⟨by decide, by exact Nat.le_of_ble_eq_true rfl⟩ ?_; conv => whnf))
        have hX : (rowsL (i + 1 + 1)).flatMap rowC1 = ((rowsL (i + 1)).flatMap rowC1 ++ [AC.gref 4]).map (fun c => c.sub 4 (.sl false 32 1 (vC ⟨4, (i + 1 : Nat), ⟨#[]⟩⟩))) := by
          rw [map_app_sub _ _ _ (all_flat rowC1_deep _), ← rowsL_next]
          rfl
        refine forkB_dec (fun h2 => ?_) (fun h2 => ?_)
        · have h2 : i + 1 = 504 := by omega
          have hi3 : i = 503 := by omega
          conv => whnf
          repeat (first | (refine forkB_true ?_; conv => whnf) | (refine forkB_false ?_; conv => whnf) | (refine reqD_dec (by exact Nat.le_of_ble_eq_true rfl) ?_; conv => whnf) | (refine reqD_dec (by exact Nat.eq_of_beq_eq_true rfl) ?_; conv => whnf) | (refine reqD_dec ⟨by decide, by exact Nat.le_of_ble_eq_true rfl⟩ ?_; conv => whnf))
          refine exI_i64 (by omega) (by omega) ?_
          conv => whnf
          repeat (first | (refine forkB_true ?_; conv => whnf) | (refine forkB_false ?_; conv => whnf) | (refine reqD_dec (by exact Nat.le_of_ble_eq_true rfl) ?_; conv => whnf) | (refine reqD_dec (by exact Nat.eq_of_beq_eq_true rfl) ?_; conv => whnf) | (refine reqD_dec ⟨by decide, by exact Nat.le_of_ble_eq_true rfl⟩ ?_; conv => whnf))
          refine ⟨i + 1 + 1, by omega, by omega, ?_⟩
          rw [fiA_2 k (i + 1) (by omega)]
          have hY : (chgsL (i + 1 + 1)).flatMap chgC = [.int .i64 0, rowC [], rowC (rowI (i + 1))] := by
            rw [← chgsL_next (i + 1) (by omega), hi3]
            have : chgsL (503 + 1) = [] := List.eq_nil_of_length_eq_zero (chgsL_len _)
            rw [this]
            rfl
          refine Tr.trans (Tr.obj 8 (ob := ⟨60, 3, 56, [.int .i64 0, .sl true 0 0 [], .gref 4]⟩) (by rfl) (cells := [.int .i64 0, rowC [], .gref 4]) (.cons (AC.LeV.refl _) (.cons nilLe (.cons (AC.LeV.refl _) .nil)))) ?_
          refine Tr.trans (Tr.frz' (T := 58) (s := 3) (B := 32) (cells := vC ⟨4, (i + 1 : Nat), ⟨#[]⟩⟩) 4 1 (by rfl) (by decide) rfl rfl) ?_
          exact Tr.ofMv2 3 6 4 8 rfl rfl (by decide) rfl (by decide) (by exact Nat.le_of_ble_eq_true rfl) (by exact Nat.le_of_ble_eq_true rfl) ⟨⟨rfl, rfl⟩, ⟨rfl, rfl⟩, ⟨rfl, rfl⟩, ⟨rfl, rfl⟩, ⟨rfl, rfl⟩, trivial⟩
            ⟨⟨rfl, rfl, by decide⟩, ⟨(congrArg some ((ob_ren_deep _ (all_flat rowC1_deep (rowsL (i + 1 + 1)))).trans (congrArg (Ob.mk 27 1 24) hX))).symm, ob_lt_deep _ (all_flat rowC1_deep _), by decide⟩,
              ⟨(congrArg some ((ob_ren_deep _ (all_flat chgC_deep (chgsL (i + 1 + 1)))).trans (congrArg (Ob.mk 60 3 56) hY))).symm, ob_lt_deep _ (all_flat chgC_deep _), by decide⟩, trivial⟩
        · have h2 : i + 1 < 504 := by omega
          conv => whnf
          repeat (first | (refine forkB_true ?_; conv => whnf) | (refine forkB_false ?_; conv => whnf) | (refine reqD_dec (by exact Nat.le_of_ble_eq_true rfl) ?_; conv => whnf) | (refine reqD_dec (by exact Nat.eq_of_beq_eq_true rfl) ?_; conv => whnf) | (refine reqD_dec ⟨by decide, by exact Nat.le_of_ble_eq_true rfl⟩ ?_; conv => whnf))
          refine exI_i64 (by omega) (by omega) ?_
          conv => whnf
          repeat (first | (refine forkB_true ?_; conv => whnf) | (refine forkB_false ?_; conv => whnf) | (refine reqD_dec (by exact Nat.le_of_ble_eq_true rfl) ?_; conv => whnf) | (refine reqD_dec (by exact Nat.eq_of_beq_eq_true rfl) ?_; conv => whnf) | (refine reqD_dec ⟨by decide, by exact Nat.le_of_ble_eq_true rfl⟩ ?_; conv => whnf))
          refine ⟨i + 1 + 1, by omega, by omega, ?_⟩
          rw [fiA_1 k (i + 1) h2]
          refine Tr.trans (Tr.frz' (T := 58) (s := 3) (B := 32) (cells := vC ⟨4, (i + 1 : Nat), ⟨#[]⟩⟩) 4 1 (by rfl) (by decide) rfl rfl) ?_
          exact (Tr.ofMv 3 6 rfl rfl (by decide) (by decide) (by exact Nat.le_of_ble_eq_true rfl) ⟨⟨rfl, rfl⟩, ⟨rfl, rfl⟩, ⟨rfl, rfl⟩, ⟨rfl, rfl⟩, ⟨rfl, rfl⟩, trivial⟩ ⟨⟨rfl, rfl, by decide⟩, ⟨(congrArg some ((ob_ren_deep (mv 3 6) (all_flat rowC1_deep (rowsL (i + 1 + 1)))).trans (congrArg (Ob.mk 27 1 24) hX))).symm, ob_lt_deep _ (all_flat rowC1_deep _), by decide⟩, trivial⟩)
      · exfalso; omega
    · rw [fiA_2 k i h]
      conv => whnf
      repeat (first | (refine forkB_true ?_; conv => whnf) | (refine forkB_false ?_; conv => whnf) | (refine reqD_dec (by exact Nat.le_of_ble_eq_true rfl) ?_; conv => whnf) | (refine reqD_dec (by exact Nat.eq_of_beq_eq_true rfl) ?_; conv => whnf) | (refine reqD_dec ⟨by decide, by exact Nat.le_of_ble_eq_true rfl⟩ ?_; conv => whnf))
      refine forkB_dec (fun h1 => ?_) (fun h1 => ?_)
      · have h1 : i + 1 < k := by omega
        conv => whnf
        repeat (first | (refine forkB_true ?_; conv => whnf) | (refine forkB_false ?_; conv => whnf) | (refine reqD_dec (by exact Nat.le_of_ble_eq_true rfl) ?_; conv => whnf) | (refine reqD_dec (by exact Nat.eq_of_beq_eq_true rfl) ?_; conv => whnf) | (refine reqD_dec ⟨by decide, by exact Nat.le_of_ble_eq_true rfl⟩ ?_; conv => whnf))
        refine reqD_dec (flat_div rowC1_len (by decide) _) ?_
        refine reqD_dec (by simp only [flat_len rowC1_len, rowsL_len]; simp [ty27]; omega) ?_
        refine forceL_as ((rowsL (i + 1)).flatMap rowC1 ++ [.gref 5]) rfl ?_
        conv => whnf
        repeat (first | (refine forkB_true ?_; conv => whnf) | (refine forkB_false ?_; conv => whnf) | (refine reqD_dec (by exact Nat.le_of_ble_eq_true rfl) ?_; conv => whnf) | (refine reqD_dec (by exact Nat.eq_of_beq_eq_true rfl) ?_; conv => whnf) | (refine reqD_dec ⟨by decide, by exact Nat.le_of_ble_eq_true rfl⟩ ?_; conv => whnf))
        have hX : (rowsL (i + 1 + 1)).flatMap rowC1 = ((rowsL (i + 1)).flatMap rowC1 ++ [AC.gref 5]).map (fun c => c.sub 5 (.sl false 32 1 (vC ⟨4, (i + 1 : Nat), ⟨#[]⟩⟩))) := by
          rw [map_app_sub _ _ _ (all_flat rowC1_deep _), ← rowsL_next]
          rfl
        refine forkB_dec (fun _ => ?_) (fun h => absurd (show ((i + 1 : Nat) : Int) ≥ 504 by omega) h)
        conv => whnf
        repeat (first | (refine forkB_true ?_; conv => whnf) | (refine forkB_false ?_; conv => whnf) | (refine reqD_dec (by exact Nat.le_of_ble_eq_true rfl) ?_; conv => whnf) | (refine reqD_dec (by exact Nat.eq_of_beq_eq_true rfl) ?_; conv => whnf) | (refine reqD_dec ⟨by decide, by exact Nat.le_of_ble_eq_true rfl⟩ ?_; conv => whnf))
        refine reqD_dec (flat_div chgC_len (by decide) _) ?_
        refine reqD_dec (by simp only [flat_len chgC_len, chgsL_len]; simp [ty60]; omega) ?_
        refine forceL_as ((chgsL (i + 1)).flatMap chgC ++ [.int .i64 0, .sl true 0 0 [], .gref 5]) rfl ?_
        conv => whnf
        repeat (first | (refine forkB_true ?_; conv => whnf) | (refine forkB_false ?_; conv => whnf) | (refine reqD_dec (by exact Nat.le_of_ble_eq_true rfl) ?_; conv => whnf) | (refine reqD_dec (by exact Nat.eq_of_beq_eq_true rfl) ?_; conv => whnf) | (refine reqD_dec ⟨by decide, by exact Nat.le_of_ble_eq_true rfl⟩ ?_; conv => whnf))
        refine exI_i64 (by omega) (by omega) ?_
        conv => whnf
        repeat (first | (refine forkB_true ?_; conv => whnf) | (refine forkB_false ?_; conv => whnf) | (refine reqD_dec (by exact Nat.le_of_ble_eq_true rfl) ?_; conv => whnf) | (refine reqD_dec (by exact Nat.eq_of_beq_eq_true rfl) ?_; conv => whnf) | (refine reqD_dec ⟨by decide, by exact Nat.le_of_ble_eq_true rfl⟩ ?_; conv => whnf))
        refine ⟨i + 1 + 1, by omega, by omega, ?_⟩
        rw [fiA_2 k (i + 1) (by omega)]
        have hY : (chgsL (i + 1 + 1)).flatMap chgC = ((chgsL (i + 1)).flatMap chgC ++ [.int .i64 0, rowC [], AC.gref 5]).map (fun c => c.sub 5 (.sl false 32 1 (vC ⟨4, (i + 1 : Nat), ⟨#[]⟩⟩))) := by
          rw [List.map_append, map_deep (fun c hc => AC.sub_deep 5 _ hc) _ (all_flat chgC_deep _), ← chgsL_next (i + 1) (by omega)]
          rfl
        refine Tr.trans (Tr.obj 9 (ob := ⟨60, 3, 56, (chgsL (i + 1)).flatMap chgC ++ [.int .i64 0, .sl true 0 0 [], .gref 5]⟩) (by rfl) (cells := (chgsL (i + 1)).flatMap chgC ++ [.int .i64 0, rowC [], .gref 5]) ((Pw.same AC.LeV.refl _).append (.cons (AC.LeV.refl _) (.cons nilLe (.cons (AC.LeV.refl _) .nil))))) ?_
        refine Tr.trans (Tr.frz' (T := 58) (s := 3) (B := 32) (cells := vC ⟨4, (i + 1 : Nat), ⟨#[]⟩⟩) 5 1 (by rfl) (by decide) rfl rfl) ?_
        exact Tr.ofMv2 3 7 4 9 rfl rfl (by decide) rfl (by decide) (by exact Nat.le_of_ble_eq_true rfl) (by exact Nat.le_of_ble_eq_true rfl) ⟨⟨rfl, rfl⟩, ⟨rfl, rfl⟩, ⟨rfl, rfl⟩, ⟨rfl, rfl⟩, ⟨rfl, rfl⟩, trivial⟩
          ⟨⟨rfl, rfl, by decide⟩, ⟨(congrArg some ((ob_ren_deep _ (all_flat rowC1_deep (rowsL (i + 1 + 1)))).trans (congrArg (Ob.mk 27 1 24) hX))).symm, ob_lt_deep _ (all_flat rowC1_deep _), by decide⟩,
            ⟨(congrArg some ((ob_ren_deep _ (all_flat chgC_deep (chgsL (i + 1 + 1)))).trans (congrArg (Ob.mk 60 3 56) hY))).symm, ob_lt_deep _ (all_flat chgC_deep _), by decide⟩, trivial⟩
      · have h1 : i + 1 = k := by omega
        subst h1
        conv => whnf
        repeat (first | (refine forkB_true ?_; conv => whnf) | (refine forkB_false ?_; conv => whnf) | (refine reqD_dec (by exact Nat.le_of_ble_eq_true rfl) ?_; conv => whnf) | (refine reqD_dec (by exact Nat.eq_of_beq_eq_true rfl) ?_; conv => whnf) | (refine reqD_dec ⟨by decide, by exact Nat.le_of_ble_eq_true rfl⟩ ?_; conv => whnf))
        refine ⟨fiB (i + 1), ?_, rfl, ?_⟩
        · refine Tr.trans (Tr.frz' (T := 27) (s := 1) (B := 24) (cells := (rowsL (i + 1)).flatMap rowC1) 3 (rowsL (i + 1)).length (by rfl) (by decide) (flat_len rowC1_len _) (all_flat rowC1_deep _)) ?_
          have hX : (chgsL (i + 1)).flatMap chgC = ((chgsL (i + 1)).flatMap chgC).map (fun c => c.sub 3 (.sl false 24 (rowsL (i + 1)).length ((rowsL (i + 1)).flatMap rowC1))) := (map_deep (fun c hc => AC.sub_deep 3 _ hc) _ (all_flat chgC_deep _)).symm
          refine Tr.trans (Tr.frz' (T := 60) (s := 3) (B := 56) (cells := (chgsL (i + 1)).flatMap chgC) 4 (chgsL (i + 1)).length (congrArg (fun z => some (Ob.mk 60 3 56 z)) hX.symm) (by decide) (flat_len chgC_len _) (all_flat chgC_deep _)) ?_
          exact (Tr.ofId rfl rfl (by decide) (by exact Nat.le_of_ble_eq_true rfl) ⟨⟨rfl, rfl⟩, ⟨rfl, rfl⟩, ⟨rfl, rfl⟩, ⟨rfl, rfl⟩, trivial⟩ ⟨⟨rfl, rfl, by decide⟩, trivial⟩)
        have ok := fi_ok (i + 1) hk1.1 hk1.2
        obtain ⟨k, hk⟩ : ∃ k, i + 1 = k := ⟨_, rfl⟩
        rw [hk] at ok hk1 ⊢
        conv => whnf
        repeat (first | (refine forkB_true ?_; conv => whnf) | (refine forkB_false ?_; conv => whnf) | (refine reqD_dec (by exact Nat.le_of_ble_eq_true rfl) ?_; conv => whnf) | (refine reqD_dec (by exact Nat.eq_of_beq_eq_true rfl) ?_; conv => whnf) | (refine reqD_dec ⟨by decide, by exact Nat.le_of_ble_eq_true rfl⟩ ?_; conv => whnf))
        refine reqD_dec (flat_len rowC1_len _) ?_
        conv => whnf
        repeat (first | (refine forkB_true ?_; conv => whnf) | (refine forkB_false ?_; conv => whnf) | (refine reqD_dec (by exact Nat.le_of_ble_eq_true rfl) ?_; conv => whnf) | (refine reqD_dec (by exact Nat.eq_of_beq_eq_true rfl) ?_; conv => whnf) | (refine reqD_dec ⟨by decide, by exact Nat.le_of_ble_eq_true rfl⟩ ?_; conv => whnf))
        refine reqD_dec (by simp only [rowsL_len]; omega) ?_
        refine exV_as (.one (tabC (rowsL 504))) ((slice_flat (f := rowC1) rowC1_len (rowsL k) 24 _ 0 504 (by rw [rowsL_len]; omega)).trans (congrArg (fun z => AV.one (tabC z)) (rowsL_take k (by omega)))) ?_
        conv => whnf
        repeat (first | (refine forkB_true ?_; conv => whnf) | (refine forkB_false ?_; conv => whnf) | (refine reqD_dec (by exact Nat.le_of_ble_eq_true rfl) ?_; conv => whnf) | (refine reqD_dec (by exact Nat.eq_of_beq_eq_true rfl) ?_; conv => whnf) | (refine reqD_dec ⟨by decide, by exact Nat.le_of_ble_eq_true rfl⟩ ?_; conv => whnf))
        refine callX_tr (A1 := AS.of 89 0 5 [(3, .one (.ptr 2 0)), (5, .one (tabC (rowsL k))), (6, .one (.int .i64 k)), (46, .agg (schC fiS)), (47, .agg (stC [rowsL 504])), (48, .one (chgsC (chgsL k)))] [(2, ⟨32, 0, 0, schC fiS⟩)]) ?_ (by rfl) ?_
        · refine Tr.trans (Tr.frz' (T := 41) (s := 1) (B := 24) (cells := [tabC (rowsL 504)]) 3 1 (by rfl) (by decide) rfl rfl) ?_
          exact (Tr.ofId rfl rfl (by decide) (by exact Nat.le_of_ble_eq_true rfl) ⟨⟨rfl, rfl⟩, ⟨rfl, rfl⟩, ⟨rfl, rfl⟩, ⟨rfl, rfl⟩, ⟨rfl, rfl⟩, ⟨rfl, rfl⟩, trivial⟩ ⟨⟨rfl, rfl, by decide⟩, trivial⟩)
        by_cases h512 : k ≤ 512
        · refine callX_le (fi_apply k h512 ok hk1) (callee_of Try.func23 rfl rfl) rfl rfl (.cons (AV.Le.refl _) (.cons (AV.Le.refl _) (.cons (AV.Le.refl _) (.cons (AV.Le.refl _) .nil)))) rfl ?_
          rintro x hx rfl
          conv => whnf
          repeat (first | (refine forkB_true ?_; conv => whnf) | (refine forkB_false ?_; conv => whnf) | (refine reqD_dec (by exact Nat.le_of_ble_eq_true rfl) ?_; conv => whnf) | (refine reqD_dec (by exact Nat.eq_of_beq_eq_true rfl) ?_; conv => whnf) | (refine reqD_dec ⟨by decide, by exact Nat.le_of_ble_eq_true rfl⟩ ?_; conv => whnf))
          refine callX_tr (A1 := AS.of 89 0 6 [(6, .one (.int .i64 k)), (10, .one (.ptr 5 0)), (11, .one (.int .i64 0)), (52, .agg (schC fiS)), (55, .agg (stC [rowsL k]))] [(5, ⟨25, 0, 0, stC [rowsL k]⟩)]) ?_ (by rfl) ?_
          · refine Tr.trans (Tr.frz' (T := 41) (s := 1) (B := 24) (cells := [tabC (rowsL k)]) 6 1 (by rfl) (by decide) rfl rfl) ?_
            exact (Tr.ofId rfl rfl (by decide) (by exact Nat.le_of_ble_eq_true rfl) ⟨⟨rfl, rfl⟩, ⟨rfl, rfl⟩, ⟨rfl, rfl⟩, ⟨rfl, rfl⟩, ⟨rfl, rfl⟩, trivial⟩ ⟨⟨rfl, rfl, by decide⟩, trivial⟩)
          refine callX_le (fi_check k h512 ok hk1) (callee_of Try.func24 rfl rfl) rfl rfl (.cons (AV.Le.refl _) (.cons (AV.Le.refl _) (.cons (AV.Le.refl _) .nil))) rfl ?_
          rintro x hx rfl
          conv => whnf
          repeat (first | (refine forkB_true ?_; conv => whnf) | (refine forkB_false ?_; conv => whnf) | (refine reqD_dec (by exact Nat.le_of_ble_eq_true rfl) ?_; conv => whnf) | (refine reqD_dec (by exact Nat.eq_of_beq_eq_true rfl) ?_; conv => whnf) | (refine reqD_dec ⟨by decide, by exact Nat.le_of_ble_eq_true rfl⟩ ?_; conv => whnf))
          refine forkB_dec (fun h => absurd h (by omega)) (fun _ => ?_)
          conv => whnf
          repeat (first | (refine forkB_true ?_; conv => whnf) | (refine forkB_false ?_; conv => whnf) | (refine reqD_dec (by exact Nat.le_of_ble_eq_true rfl) ?_; conv => whnf) | (refine reqD_dec (by exact Nat.eq_of_beq_eq_true rfl) ?_; conv => whnf) | (refine reqD_dec ⟨by decide, by exact Nat.le_of_ble_eq_true rfl⟩ ?_; conv => whnf))
          refine callX_le begun_spec (callee_of Try.func22 rfl rfl) rfl rfl .nil rfl ?_
          rintro x hx rfl
          conv => whnf
          repeat' (first | (refine forkB_true ?_; conv => whnf) | (refine forkB_false ?_; conv => whnf) | (refine reqD_dec (by exact Nat.le_of_ble_eq_true rfl) ?_; conv => whnf) | (refine reqD_dec (by exact Nat.eq_of_beq_eq_true rfl) ?_; conv => whnf) | (refine exI_i64 (by omega) (by omega) ?_; conv => whnf) | (refine exI_as _ rfl ?_; conv => whnf) | (refine forkB_dec (fun _ => ?_) (fun _ => ?_) <;> conv => whnf) | (refine forkB_intro (fun _ => ?_) (fun _ => ?_) <;> conv => whnf))
          refine callX_le (fi_countS k (by omega)) callee13 rfl rfl (.cons (AV.Le.refl _) .nil) rfl ?_
          rintro x hx rfl
          conv => whnf
          repeat (first | (refine forkB_true ?_; conv => whnf) | (refine forkB_false ?_; conv => whnf) | (refine reqD_dec (by exact Nat.le_of_ble_eq_true rfl) ?_; conv => whnf) | (refine reqD_dec (by exact Nat.eq_of_beq_eq_true rfl) ?_; conv => whnf) | (refine reqD_dec ⟨by decide, by exact Nat.le_of_ble_eq_true rfl⟩ ?_; conv => whnf))
          refine forkB_intro (fun _ => ?_) (fun h => absurd h (by simp))
          conv => whnf
          repeat' (first | (refine forkB_true ?_; conv => whnf) | (refine forkB_false ?_; conv => whnf) | (refine reqD_dec (by exact Nat.le_of_ble_eq_true rfl) ?_; conv => whnf) | (refine reqD_dec (by exact Nat.eq_of_beq_eq_true rfl) ?_; conv => whnf) | (refine exI_i64 (by omega) (by omega) ?_; conv => whnf) | (refine exI_as _ rfl ?_; conv => whnf) | (refine forkB_dec (fun _ => ?_) (fun _ => ?_) <;> conv => whnf) | (refine forkB_intro (fun _ => ?_) (fun _ => ?_) <;> conv => whnf))
          refine retX_val rfl ?_
          conv => whnf
          rfl
        · refine callX_le (fi_apply2 k h512 ok hk1) (callee_of Try.func23 rfl rfl) rfl rfl (.cons (AV.Le.refl _) (.cons (AV.Le.refl _) (.cons (AV.Le.refl _) (.cons (AV.Le.refl _) .nil)))) rfl ?_
          rintro x hx rfl
          conv => whnf
          repeat (first | (refine forkB_true ?_; conv => whnf) | (refine forkB_false ?_; conv => whnf) | (refine reqD_dec (by exact Nat.le_of_ble_eq_true rfl) ?_; conv => whnf) | (refine reqD_dec (by exact Nat.eq_of_beq_eq_true rfl) ?_; conv => whnf) | (refine reqD_dec ⟨by decide, by exact Nat.le_of_ble_eq_true rfl⟩ ?_; conv => whnf))
          refine callX_tr (A1 := AS.of 89 0 6 [(6, .one (.int .i64 k)), (10, .one (.ptr 5 0)), (11, .one (.int .i64 2)), (52, .agg (schC fiS)), (55, .agg (stC [rowsL k]))] [(5, ⟨25, 0, 0, stC []⟩)]) ?_ (by rfl) ?_
          · refine Tr.trans (Tr.frz' (T := 41) (s := 1) (B := 24) (cells := [tabC (rowsL k)]) 6 1 (by rfl) (by decide) rfl rfl) ?_
            exact (Tr.ofId rfl rfl (by decide) (by exact Nat.le_of_ble_eq_true rfl) ⟨⟨rfl, rfl⟩, ⟨rfl, rfl⟩, ⟨rfl, rfl⟩, ⟨rfl, rfl⟩, ⟨rfl, rfl⟩, trivial⟩ ⟨⟨rfl, rfl, by decide⟩, trivial⟩)
          refine callX_le (fi_check2 k h512 ok hk1) (callee_of Try.func24 rfl rfl) rfl rfl (.cons (AV.Le.refl _) (.cons (AV.Le.refl _) (.cons (AV.Le.refl _) .nil))) rfl ?_
          rintro x hx rfl
          conv => whnf
          repeat (first | (refine forkB_true ?_; conv => whnf) | (refine forkB_false ?_; conv => whnf) | (refine reqD_dec (by exact Nat.le_of_ble_eq_true rfl) ?_; conv => whnf) | (refine reqD_dec (by exact Nat.eq_of_beq_eq_true rfl) ?_; conv => whnf) | (refine reqD_dec ⟨by decide, by exact Nat.le_of_ble_eq_true rfl⟩ ?_; conv => whnf))
          refine forkB_dec (fun _ => ?_) (fun h => absurd (show (k : Int) > 512 by omega) h)
          conv => whnf
          repeat (first | (refine forkB_true ?_; conv => whnf) | (refine forkB_false ?_; conv => whnf) | (refine reqD_dec (by exact Nat.le_of_ble_eq_true rfl) ?_; conv => whnf) | (refine reqD_dec (by exact Nat.eq_of_beq_eq_true rfl) ?_; conv => whnf) | (refine reqD_dec ⟨by decide, by exact Nat.le_of_ble_eq_true rfl⟩ ?_; conv => whnf))
          refine callX_le begun_spec (callee_of Try.func22 rfl rfl) rfl rfl .nil rfl ?_
          rintro x hx rfl
          conv => whnf
          repeat' (first | (refine forkB_true ?_; conv => whnf) | (refine forkB_false ?_; conv => whnf) | (refine reqD_dec (by exact Nat.le_of_ble_eq_true rfl) ?_; conv => whnf) | (refine reqD_dec (by exact Nat.eq_of_beq_eq_true rfl) ?_; conv => whnf) | (refine exI_i64 (by omega) (by omega) ?_; conv => whnf) | (refine exI_as _ rfl ?_; conv => whnf) | (refine forkB_dec (fun _ => ?_) (fun _ => ?_) <;> conv => whnf) | (refine forkB_intro (fun _ => ?_) (fun _ => ?_) <;> conv => whnf))
          refine retX_val rfl ?_
          conv => whnf
          rfl
end Go.Proofs.Ve

