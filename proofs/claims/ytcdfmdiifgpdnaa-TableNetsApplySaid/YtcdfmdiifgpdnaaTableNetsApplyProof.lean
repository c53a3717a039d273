/-
  TableNetsApply: for every list of codes, the call of partsynclaw08.TableNetsApply returns true and leaves its arguments as they were.
  Conditions: none beyond the given statement's own.
-/
import Derived.Test.YtcdfmdiifgpdnaaRows
import Derived.WalkKit
import Derived.ProofKit
import Derived.OpenShut
import Derived.Test.YtcdfmdiifgpdnaaVeTri
import Derived.Test.YtcdfmdiifgpdnaaVeTen
namespace Go.Proofs.Ytcdfmdiifgpdnaa.tableNetsApply
open Go Go.ChangeShapes Go.WideShapes Go.ChangeAt Go.RowKit Go.Proofs.Ve
set_option linter.unusedVariables false

theorem laid : laidOutB Try.prog = true := by kernel_rfl
theorem own : ownKnob Try.prog.godebug = none := by kernel_rfl

section
set_option maxRecDepth 100000
variable {H : Type} {enc : TypeId × Value → H} {w : World}
theorem el5 (n : Nat) (cs : List Value) (x : DataW H × List MemPlace) (h : DataW.trod enc Try.prog w 0 (fun _ => true) true n 5 cs = some x) (_ : Fit Try.prog 5 x.1) : ∃ a : Int, (0 ≤ a ∧ a < 256) ∧ Pw (RepD (GhOld w).F w) (byteC a) cs := by
  obtain ⟨a, rfl, rfl, hw⟩ := DataW.trod_int Try.underlying5 h
  refine ⟨a, ?_, .one (.int _ _)⟩
  simp only [Lit.wf, Bool.and_eq_true, decide_eq_true_eq] at hw
  have h1 : IntKind.u8.min = 0 := by decide
  have h2 : IntKind.u8.max = 255 := by decide
  omega
theorem reach_eq : reachBytes = 140737488351232 := by decide
theorem arg22 {r : Reach} {b0 : Nat} {v : Value} {d : DataW H} {ps : List MemPlace} (hval : Value.okWide Try.prog w r b0 22 v) (h : DataW.Trod enc Try.prog w 0 (fun _ => true) true 22 v d ps) (hw : Fit Try.prog 22 d) :
    ∃ cs : List Int, ok8 cs ∧ RepAV (GhOld w) 0 w (.one (slC byteC 1 cs)) v := by
  obtain ⟨l, hr, hl, ho⟩ := arg_slice (f := byteC) (s := 1) (B := 1) (ok := fun a => 0 ≤ a ∧ a < 256) Try.underlying22 (by kernel_rfl) (by decide) (by kernel_rfl) byteC_len el5 hval h hw
  have h1 := reach_eq
  exact ⟨l, ⟨by omega, ho⟩, .one (.deep hr)⟩
end

theorem post_same {H : Type} {enc : TypeId × Value → H} {P : Program} {f : Func} {s : ChangeSpec} {apart fresh handsOn : Bool} {W W' : World} {args : Array Value} {v : Value} {ds gs : List (DataW H)} {before pa pv : List MemPlace}
    (hW : DataW.Whole enc P f.params.toList s.vars apart W args.toList ds gs before)
    (hres : ∀ (b : Nat) (sp : Nat → Bool) (hd : Bool), DataW.TrodAll enc P W' b sp hd f.resultTypes.toList (v.resultList f.resultTypes.size) (s.fn H (ds ++ gs)).results [])
    (hargs : DataW.TrodAll enc P W' 0 (fun b => decide (b < W.heap.size)) true f.params.toList args.toList (s.fn H (ds ++ gs)).args pa)
    (hvars : DataW.TrodVars enc P W' (fun b => decide (b < W.heap.size)) s.vars (s.fn H (ds ++ gs)).vars pv)
    (hps : before = pa ++ pv) (hk : W.keptBut W' (· ∈ before)) :
    s.post enc P f apart fresh handsOn false W args v W' := by
  refine ⟨ds, gs, before, [], pa, pv, hW, hres _ _ _, hargs, hvars, World.keptBut_mono (fun p hp => ⟨hp, ?_⟩) hk, fun h => by cases h⟩
  rw [hps, List.mem_append] at hp
  exact Or.inr hp

set_option maxRecDepth 100000 in
theorem lifted (os : Os) (started : os.Started) (H : Type) (enc : TypeId × Value → H) :
    ReturnsInHanded {} Try.checked os 7 .any (Rows.tableNetsApplySpec.pre6 enc Try.prog Try.f7 Rows.tableNetsApplyRow.domain false) (Rows.tableNetsApplySpec.post enc Try.prog Try.f7 false true false false) := by
  refine returnsInHanded_of_change_sized (C := Try.checked) own started (by kernel_rfl) Try.func7
    (ChangeSpec.witness6 (enc := enc) (C := Try.checked) false ⟨#[], #[.slice none 0 0], []⟩ 8 (by kernel_rfl) (by kernel_rfl) (by kernel_rfl) (by kernel_rfl)) ?_
  intro W base args ds gs before hval0 hW hcnd hsz _
  have hval : ∀ (j : Nat) t v, Try.f7.params[j]? = some t → args[j]? = some v → Value.okWide Try.prog W .any base t v := hval0
  have hW' := hW
  have hlt := fun p hp => hW.lt (p := p) hp
  obtain ⟨p, q, hA0, hV, rfl, hfz, hnd⟩ := hW
  have hA : DataW.TrodAll enc Try.prog W 0 (fun _ => true) true Try.f7.params.toList args.toList ds p := hA0
  rw [Try.params7] at hA hval
  obtain ⟨v0, vs0, d0, ds0, p0, q0, hargs, rfl, rfl, h0, r0⟩ := trodAll_cons hA
  obtain ⟨rfl, rfl, rfl⟩ := trodAll_nil r0
  obtain rfl : args = #[v0] := by cases args; simp_all
  obtain ⟨rfl, rfl⟩ := trodVars_none hV
  have hfit : ∀ (j : Nat) t d, Try.f7.params.toList[j]? = some t → [d0][j]? = some d → Fit Try.prog t d := fun j t d ht hd n hn => by
    simpa using List.all_eq_true.1 hsz n (DataW.weights_mem_each (j := j) (t := t) (d := d) (by rw [List.getElem?_append_left (by exact (List.getElem?_eq_some_iff.1 ht).1)]; exact ht) (by rw [List.getElem?_append_left (by exact (List.getElem?_eq_some_iff.1 hd).1)]; exact hd) n hn)
  rw [Try.params7] at hfit
  obtain ⟨codes, hcodes, a0⟩ := arg22 (hval 0 22 v0 rfl rfl) h0 (hfit 0 22 d0 rfl rfl)
  clear hA0 hval0
  have c := calls_true_in (vs := [v0]) (nets_spec codes hcodes) (.cons a0 .nil)
  refine c.mono fun e W' ⟨he, hg⟩ => ?_
  subst he
  have b0 := Below.trod laid (by kernel_rfl) (of_decide_eq_true (by kernel_rfl)) h0 hg (fun x hx => hlt x (by simp [hx]))
  exact ⟨_, rfl, post_same (pa := p0 ++ []) (pv := []) hW' (fun _ _ _ => trodAll_cons_mk (shut_bool Try.underlying4 _) trodAll_mk0) (trodAll_cons_mk b0 trodAll_mk0) rfl (by simp) (hg.frame _)⟩

theorem over : Rows.tableNetsApplyRow.holds Try.pinned (OpenSpec.ofChange Rows.tableNetsApplySpec) :=
  OpenClaim.holds_of_wide 7 Try.f7 rfl rfl rfl rfl rfl rfl rfl ⟨rfl, rfl, rfl, rfl, rfl⟩ rfl rfl rfl rfl rfl (by kernel_rfl) Try.func7 (by kernel_rfl)
    (of_decide_eq_true (by kernel_rfl)) (by unfold Func.isWrapper; first | (rw [if_pos (by decide +kernel)]; kernel_rfl) | (rw [if_neg (by decide +kernel)]; exact ⟨rfl, rfl⟩))
    (fun os started H enc _ => lifted os started H enc)

theorem proved : Rows.TableNetsApplySaid :=
  over
#print axioms proved
end Go.Proofs.Ytcdfmdiifgpdnaa.tableNetsApply

