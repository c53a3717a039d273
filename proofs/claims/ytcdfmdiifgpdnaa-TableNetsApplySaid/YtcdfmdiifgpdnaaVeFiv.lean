/-
  VeFiv: joined by wip/tools/merge.py out of VeV1 VeV2 VeV3 VeV4 VeV5 VeV6 VeV7 VeV8 VeV9 VeVa VeVb.
-/
import Derived.Test.YtcdfmdiifgpdnaaVeFou
import Derived.Test.YtcdfmdiifgpdnaaVeTri
/-
  VeV1: names.
-/
set_option linter.unusedVariables false
set_option linter.unusedSimpArgs false
set_option pp.maxSteps 2000
namespace Go.Proofs.Ve
open Go

def badC (pos : Nat) (c : Int) : Bool := !(decide (c ≥ 97) && decide (c ≤ 122)) && (pos == 0 || (decide (c ≠ 95) && (decide (c < 48) || decide (c > 57))))
def nameGo (s : ByteArray) : Nat → Nat → Bool
  | 0, _ => true
  | f + 1, pos => if pos < s.size then (if badC pos ((Utf8.decode s pos).1 : Int) then false else nameGo s f (pos + (Utf8.decode s pos).2)) else true
def nameR (s : ByteArray) : Bool := if (s.size : Int) < 1 ∨ (s.size : Int) > 32 then false else nameGo s s.size 0

theorem nameGo_end (s : ByteArray) (pos : Nat) (h : ¬ pos < s.size) : ∀ f, nameGo s f pos = true
  | 0 => rfl
  | f + 1 => by rw [nameGo, if_neg h]
theorem decode_pos (s : ByteArray) (pos : Nat) : 1 ≤ (Utf8.decode s pos).2 := by
  simp only [Utf8.decode]
  repeat' split
  all_goals simp

theorem name_spec (s : ByteArray) (hs : s.size ≤ 4611686018427387904) : PSpec Try.prog 80 [.one (.str s)] (fun r => r = .one (.bool (nameR s))) := by
  refine pspec_x env08_ok mixed08 Try.func80 rfl 44 rfl _ rfl rfl ?_
  refine wn ?_
  refine exI_as _ rfl ?_
  refine wn ?_
  refine forkB_dec (fun h1 => ?_) (fun h1 => ?_)
  · refine wn ?_
    refine retX_val rfl ?_
    conv => whnf
    rw [nameR, if_pos (.inl h1)]
    rfl
  · refine wn ?_
    refine exI_as _ rfl ?_
    refine wn ?_
    refine forkB_dec (fun h2 => ?_) (fun h2 => ?_)
    · refine wn ?_
      refine retX_val rfl ?_
      conv => whnf
      rw [nameR, if_pos (.inr h2)]
      rfl
    · have e : nameR s = nameGo s s.size 0 := by rw [nameR, if_neg (by omega)]
      refine wn ?_
      refine loopX_of env08_ok mixed08 (σ := Nat) (fun i => AS.of 44 0 1 [(0, .one (.str s)), (15, .one (.ptr 0 0))] [(0, ⟨.iter s i, 0, 0, []⟩)])
        (fun i => ∃ f, s.size ≤ f + i ∧ nameR s = nameGo s f i) (fun i => s.size - i) 0 (fun _ => rfl) tid ⟨s.size, Nat.le_refl _, e⟩ ?_
      rintro i ⟨f, hf, hi⟩
      refine wn ?_
      refine forkB_dec (fun h3 => ?_) (fun h3 => ?_)
      · have h3 : i < s.size := h3
        have hd := decode_pos s i
        obtain ⟨f, rfl⟩ : ∃ g, f = g + 1 := ⟨f - 1, by omega⟩
        rw [nameGo, if_pos h3] at hi
        have out : badC i ((Utf8.decode s i).1 : Int) = true → nameR s = false := fun h => by rw [hi, if_pos h]
        have go : badC i ((Utf8.decode s i).1 : Int) = false → nameR s = nameGo s f (i + (Utf8.decode s i).2) := fun h => by rw [hi, if_neg (by rw [h]; simp)]
        clear hi
        refine wm ?_
        repeat' (first | (refine i64 ?_; refine wm ?_) | (refine exI_as _ rfl ?_; refine wm ?_) | (refine forkB_dec (fun _ => ?_) (fun _ => ?_) <;> refine wm ?_) | (refine forkB_intro (fun _ => ?_) (fun _ => ?_) <;> refine wm ?_))
        all_goals first
          | (refine retX_val rfl ?_; (conv => whnf); rw [out (by clear out go; simp_all [badC] <;> omega)]; rfl)
          | (exact ⟨i + (Utf8.decode s i).2, ⟨f, by omega, go (by clear out go; simp_all [badC] <;> omega)⟩, by omega, tid⟩)
          | (exfalso; clear out go; simp_all <;> omega)
      · refine wn ?_
        refine retX_val rfl ?_
        conv => whnf
        rw [hi, nameGo_end s i h3]
        rfl
end Go.Proofs.Ve


/-
  VeV2: sound schemas.
-/
set_option linter.unusedVariables false
set_option linter.unusedSimpArgs false
set_option pp.maxSteps 2000
namespace Go.Proofs.Ve
open Go

def badCol (ks : List ByteArray) (c : Col) : Bool := !nameR c.name || (hasK c.name ks || decide (c.kind ≠ 3 ∧ c.kind ≠ 4 ∧ c.kind ≠ 5))
def colsFrom : List ByteArray → List Col → Bool
  | _, [] => true
  | ks, c :: r => !badCol ks c && colsFrom (ks ++ [c.name]) r
def badTbl (ks : List ByteArray) (T : Tbl) : Bool := !nameR T.name || (hasK T.name ks || decide ((T.cols.length : Int) = 0 ∨ T.key < 1 ∨ T.key > T.cols.length))
def tblsFrom : List ByteArray → List Tbl → Bool
  | _, [] => true
  | ks, T :: r => !badTbl ks T && (colsFrom [] T.cols && tblsFrom (ks ++ [T.name]) r)
def colRef (T O : Tbl) (i : Nat) (c : Int) : Bool := decide (0 ≤ c ∧ c < T.cols.length) && decide ((T.cols[c.toNat]?).map (·.kind) = (O.cols[i]?).map (·.kind))
def colsRef (T O : Tbl) : Nat → List Int → Bool
  | _, [] => true
  | i, c :: r => colRef T O i c && colsRef T O (i + 1) r
def refOk (s : Sch) (T : Tbl) (r : Ref) : Bool := if h : 0 ≤ r.table ∧ r.table < s.tables.length then decide ((r.cols.length : Int) = (s.tables[r.table.toNat]'(by omega)).key) && colsRef T (s.tables[r.table.toNat]'(by omega)) 0 r.cols else false
def refsT (s : Sch) (T : Tbl) : Bool := T.refs.all (refOk s T)
def soundS (s : Sch) : Bool := decide (0 ≤ s.ver ∧ s.ver ≤ 1000) && (tblsFrom [] s.tables && s.tables.all (refsT s))
theorem tbls_key : ∀ (l : List Tbl) (ks : List ByteArray), tblsFrom ks l = true → ∀ T ∈ l, 1 ≤ T.key ∧ T.key ≤ T.cols.length
  | T0 :: r, ks, h, T, hT => by
    rw [tblsFrom, Bool.and_eq_true, Bool.and_eq_true] at h
    rcases List.mem_cons.1 hT with rfl | hT
    · have h1 := h.1
      unfold badTbl at h1
      simp at h1
      omega
    · exact tbls_key r _ h.2.2 T hT
theorem resT {b : Bool} (h : b = true) : AV.one (AC.bool true) = AV.one (AC.bool b) := by rw [h]
theorem resF {b : Bool} (h : b = false) : AV.one (AC.bool false) = AV.one (AC.bool b) := by rw [h]
theorem resI {k : IntKind} {a b : Int} (h : b = a) : AV.one (AC.int k a) = AV.one (AC.int k b) := by rw [h]
theorem all_get {α : Type} (f : α → Bool) (l : List α) (i : Nat) (h : i < l.length) : (l.drop i).all f = (f l[i] && (l.drop (i + 1)).all f) := by
  rw [List.drop_eq_getElem_cons h, List.all_cons]

def okN (n : ByteArray) : Prop := n.size ≤ 4611686018427387904
structure okS (s : Sch) : Prop where
  len : s.tables.length ≤ 4398046511104
  tbl : ∀ T ∈ s.tables, okN T.name ∧ T.cols.length ≤ 4398046511104 ∧ (∀ c ∈ T.cols, okN c.name) ∧ (T.refs.length ≤ 4398046511104 ∧ ∀ r ∈ T.refs, r.cols.length ≤ 4398046511104) ∧ T.checks.length ≤ 1099511627776

theorem intC_len (n : Int) : (intC n).length = 1 := rfl
theorem refC_len (r : Ref) : (refC r).length = 2 := rfl
theorem callee80 : callee Try.prog 80 := callee_of Try.func80 rfl rfl

theorem sound_spec (s : Sch) (hs : okS s) : PSpec Try.prog 69 [.agg (schC s)] (fun r => r = .one (.bool (soundS s))) := by
  obtain ⟨hlen, htbl⟩ := hs
  refine pspec_x env08_ok mixed08 Try.func69 rfl 174 rfl _ rfl rfl ?_
  refine wn ?_
  refine forkB_dec (fun h1 => ?_) (fun h1 => ?_)
  · refine wn ?_
    refine retX_val rfl ?_
    conv => whnf
    rw [soundS, decide_eq_false (by omega)]
    rfl
  · refine wn ?_
    refine forkB_dec (fun h2 => ?_) (fun h2 => ?_)
    · refine wn ?_
      refine retX_val rfl ?_
      conv => whnf
      rw [soundS, decide_eq_false (by omega)]
      rfl
    · have e : soundS s = (tblsFrom [] s.tables && s.tables.all (refsT s)) := by rw [soundS, decide_eq_true (by omega), Bool.true_and]
      refine wn ?_
      refine exI_as _ rfl ?_
      refine wn ?_
      refine loopX_of env08_ok mixed08 (σ := Nat × List ByteArray) (fun q => AS.of 174 0 2 [(1, .one (.ptr 0 0)), (3, .one (.mref 1)), (26, .one (slC tblC 96 s.tables)), (27, .one (.int .i64 s.tables.length)), (28, .one (.int .i64 (q.1 : Nat)))] [(0, ⟨32, 0, 0, schC s⟩), (1, ⟨.keys q.2, 0, 0, []⟩)])
        (fun q => q.1 ≤ s.tables.length ∧ tblsFrom [] s.tables = tblsFrom q.2 (s.tables.drop q.1)) (fun q => s.tables.length - q.1) (0, []) (fun _ => rfl) tid ⟨Nat.zero_le _, rfl⟩ ?_
      rintro ⟨i, ks⟩ ⟨hi, hfi⟩
      have hi : i ≤ s.tables.length := hi
      have hfi : tblsFrom [] s.tables = tblsFrom ks (s.tables.drop i) := hfi
      refine wn ?_
      refine forkB_dec (fun h3 => ?_) (fun h3 => ?_)
      · have hi2 : i < s.tables.length := by omega
        rw [List.drop_eq_getElem_cons hi2] at hfi
        have hmem := htbl _ (List.getElem_mem hi2)
        obtain ⟨T, hT⟩ : ∃ T, s.tables[i] = T := ⟨_, rfl⟩
        rw [hT] at hfi hmem
        rw [tblsFrom] at hfi
        obtain ⟨hn, hcl, hcn, hnr, hnc⟩ := hmem
        refine wn ?_
        refine rq ?_
        refine forceL_as (tblC T) ((flat_get (f := tblC) tblC_len s.tables i hi2).trans (by rw [hT])) ?_
        refine wn ?_
        refine cle (name_spec T.name hn) callee80 ?_
        rintro x hx rfl
        have bad : badTbl ks T = true → soundS s = false := fun h => by rw [e, hfi, h]; rfl
        cases hf : nameR T.name with
        | false =>
          refine wm ?_
          repeat' (first | (refine i64 ?_; refine wm ?_) | (refine exI_as _ rfl ?_; refine wm ?_) | (refine forkB_dec (fun _ => ?_) (fun _ => ?_) <;> refine wm ?_) | (refine forkB_intro (fun _ => ?_) (fun _ => ?_) <;> refine wm ?_))
          refine retX_val rfl ?_
          conv => whnf
          rw [bad (by rw [badTbl, hf]; rfl)]
          rfl
        | true =>
          refine wm ?_
          repeat' (first | (refine i64 ?_; refine wm ?_) | (refine exI_as _ rfl ?_; refine wm ?_) | (refine forkB_dec (fun _ => ?_) (fun _ => ?_) <;> refine wm ?_) | (refine forkB_intro (fun _ => ?_) (fun _ => ?_) <;> refine wm ?_))
          any_goals (refine retX_val rfl ?_; (conv => whnf); rw [bad (by clear bad hfi htbl e; simp_all [badTbl] <;> omega)]; rfl)
          rename_i hk h1 h2 h3
          have hk : hasK T.name ks = false := hk
          have ok : badTbl ks T = false := by clear bad hfi htbl e; simp_all [badTbl] <;> omega
          rw [ok, Bool.not_false, Bool.true_and] at hfi
          refine reqD_intro (congrArg not hk) ?_
          refine wm ?_
          repeat' (first | (refine i64 ?_; refine wm ?_) | (refine exI_as _ rfl ?_; refine wm ?_) | (refine forkB_dec (fun _ => ?_) (fun _ => ?_) <;> refine wm ?_) | (refine forkB_intro (fun _ => ?_) (fun _ => ?_) <;> refine wm ?_))
          refine loopX_of env08_ok mixed08 (σ := Nat × List ByteArray) (fun q => AS.of 174 0 4 [(1, .one (.ptr 0 0)), (3, .one (.mref 1)), (6, .one (.mref 3)), (26, .one (slC tblC 96 s.tables)), (27, .one (.int .i64 s.tables.length)), (28, .one (.int .i64 (i : Nat))), (66, .one (slC colC 24 T.cols)), (67, .one (.int .i64 T.cols.length)), (68, .one (.int .i64 (q.1 : Nat)))] [(0, ⟨32, 0, 0, schC s⟩), (1, ⟨.keys (ks ++ [T.name]), 0, 0, []⟩), (3, ⟨.keys q.2, 0, 0, []⟩)])
            (fun q => q.1 ≤ T.cols.length ∧ colsFrom [] T.cols = colsFrom q.2 (T.cols.drop q.1)) (fun q => T.cols.length - q.1) (0, []) (fun _ => rfl) tid ⟨Nat.zero_le _, rfl⟩ ?_
          rintro ⟨j, cs⟩ ⟨hj, hfj⟩
          have hj : j ≤ T.cols.length := hj
          have hfj : colsFrom [] T.cols = colsFrom cs (T.cols.drop j) := hfj
          refine wn ?_
          refine forkB_dec (fun h4 => ?_) (fun h4 => ?_)
          · have hj2 : j < T.cols.length := by omega
            rw [List.drop_eq_getElem_cons hj2] at hfj
            have hcn := hcn _ (List.getElem_mem hj2)
            obtain ⟨C, hC⟩ : ∃ C, T.cols[j] = C := ⟨_, rfl⟩
            rw [hC] at hfj hcn
            rw [colsFrom] at hfj
            refine wn ?_
            refine rq ?_
            refine forceL_as (colC C) ((flat_get (f := colC) colC_len T.cols j hj2).trans (by rw [hC])) ?_
            refine wn ?_
            refine cle (name_spec C.name hcn) callee80 ?_
            rintro x hx rfl
            have badc : badCol cs C = true → soundS s = false := fun h => by rw [e, hfi, hfj, h]; rfl
            cases hf2 : nameR C.name with
            | false =>
              refine wm ?_
              repeat' (first | (refine i64 ?_; refine wm ?_) | (refine exI_as _ rfl ?_; refine wm ?_) | (refine forkB_dec (fun _ => ?_) (fun _ => ?_) <;> refine wm ?_) | (refine forkB_intro (fun _ => ?_) (fun _ => ?_) <;> refine wm ?_))
              refine retX_val rfl ?_
              conv => whnf
              rw [badc (by rw [badCol, hf2]; rfl)]
              rfl
            | true =>
              refine wm ?_
              repeat' (first | (refine i64 ?_; refine wm ?_) | (refine exI_as _ rfl ?_; refine wm ?_) | (refine forkB_dec (fun _ => ?_) (fun _ => ?_) <;> refine wm ?_) | (refine forkB_intro (fun _ => ?_) (fun _ => ?_) <;> refine wm ?_))
              any_goals (refine retX_val rfl ?_; (conv => whnf); rw [badc (by clear badc bad hfi hfj htbl e; simp_all [badCol] <;> omega)]; rfl)
              all_goals
                have hk2 : hasK C.name cs = false := by assumption
                have okc : badCol cs C = false := by clear badc bad hfi hfj htbl e hcn; simp_all [badCol] <;> omega
                rw [okc, Bool.not_false, Bool.true_and] at hfj
                refine reqD_intro (congrArg not hk2) ?_
                refine wm ?_
                repeat' (first | (refine i64 ?_; refine wm ?_) | (refine exI_as _ rfl ?_; refine wm ?_) | (refine forkB_dec (fun _ => ?_) (fun _ => ?_) <;> refine wm ?_) | (refine forkB_intro (fun _ => ?_) (fun _ => ?_) <;> refine wm ?_))
                exact ⟨(j + 1, cs ++ [C.name]), ⟨by show j + 1 ≤ _; omega, hfj⟩, by show T.cols.length - (j + 1) < T.cols.length - j; omega, tid⟩
          · have ej : j = T.cols.length := by omega
            rw [List.drop_eq_nil_of_le (by omega), colsFrom] at hfj
            rw [hfj, Bool.true_and] at hfi
            refine wm ?_
            repeat' (first | (refine i64 ?_; refine wm ?_) | (refine exI_as _ rfl ?_; refine wm ?_) | (refine forkB_dec (fun _ => ?_) (fun _ => ?_) <;> refine wm ?_) | (refine forkB_intro (fun _ => ?_) (fun _ => ?_) <;> refine wm ?_))
            exact ⟨(i + 1, ks ++ [T.name]), ⟨by show i + 1 ≤ _; omega, hfi⟩, by show s.tables.length - (i + 1) < s.tables.length - i; omega, tid⟩
      · have ei : i = s.tables.length := by omega
        rw [List.drop_eq_nil_of_le (by omega), tblsFrom] at hfi
        have hkey := tbls_key _ _ hfi
        rw [hfi, Bool.true_and] at e
        refine wm ?_
        repeat' (first | (refine i64 ?_; refine wm ?_) | (refine exI_as _ rfl ?_; refine wm ?_) | (refine forkB_dec (fun _ => ?_) (fun _ => ?_) <;> refine wm ?_) | (refine forkB_intro (fun _ => ?_) (fun _ => ?_) <;> refine wm ?_))
        refine loopX_of env08_ok mixed08 (σ := Nat) (fun q => AS.of 174 0 1 [(1, .one (.ptr 0 0)), (103, .one (slC tblC 96 s.tables)), (104, .one (.int .i64 s.tables.length)), (105, .one (.int .i64 (q : Nat)))] [(0, ⟨32, 0, 0, schC s⟩)])
          (fun q => q ≤ s.tables.length ∧ soundS s = (s.tables.drop q).all (refsT s)) (fun q => s.tables.length - q) 0 (fun _ => rfl) tid ⟨Nat.zero_le _, e⟩ ?_
        clear e
        rintro j ⟨hj, e⟩
        have hj : j ≤ s.tables.length := hj
        have e : soundS s = (s.tables.drop j).all (refsT s) := e
        refine wn ?_
        refine forkB_dec (fun h4 => ?_) (fun h4 => ?_)
        · have hj2 : j < s.tables.length := by omega
          rw [all_get _ _ j hj2] at e
          have hmem := htbl _ (List.getElem_mem hj2)
          obtain ⟨T, hT⟩ : ∃ T, s.tables[j] = T := ⟨_, rfl⟩
          rw [hT] at hmem e
          obtain ⟨hn, hcl, hcn, ⟨hrl, hrc⟩, hnc⟩ := hmem
          refine wn ?_
          refine rq ?_
          refine forceL_as (tblC T) ((flat_get (f := tblC) tblC_len s.tables j hj2).trans (by rw [hT])) ?_
          refine wn ?_
          refine exI_as _ rfl ?_
          refine wn ?_
          refine loopX_of env08_ok mixed08 (σ := Nat) (fun k => AS.of 174 0 2 [(1, .one (.ptr 0 0)), (10, .one (.ptr 1 0)), (103, .one (slC tblC 96 s.tables)), (104, .one (.int .i64 s.tables.length)), (105, .one (.int .i64 (j : Nat))), (110, .one (slC refC 32 T.refs)), (111, .one (.int .i64 T.refs.length)), (112, .one (.int .i64 (k : Nat)))] [(0, ⟨32, 0, 0, schC s⟩), (1, ⟨55, 0, 0, tblC T⟩)])
            (fun k => k ≤ T.refs.length ∧ refsT s T = (T.refs.drop k).all (refOk s T)) (fun k => T.refs.length - k) 0 (fun _ => rfl) tid ⟨Nat.zero_le _, rfl⟩ ?_
          rintro k ⟨hk, er⟩
          have hk : k ≤ T.refs.length := hk
          have er : refsT s T = (T.refs.drop k).all (refOk s T) := er
          refine wn ?_
          refine forkB_dec (fun h5 => ?_) (fun h5 => ?_)
          · have hk2 : k < T.refs.length := by have h5 : (k : Int) < T.refs.length := h5; omega
            rw [all_get _ _ k hk2] at er
            have hrc := hrc _ (List.getElem_mem hk2)
            obtain ⟨R, hR⟩ : ∃ R, T.refs[k] = R := ⟨_, rfl⟩
            rw [hR] at er hrc
            have bad : refOk s T R = false → soundS s = false := fun h => by rw [e, er, h]; rfl
            refine wn ?_
            refine rq ?_
            refine forceL_as (refC R) ((flat_get (f := refC) refC_len T.refs k hk2).trans (by rw [hR])) ?_
            refine wn ?_
            refine forkB_dec (fun h6 => ?_) (fun h6 => ?_)
            · refine wn ?_
              refine retX_val rfl ?_
              conv => whnf
              exact resF (bad (dif_neg (by omega)))
            · refine wn ?_
              refine exI_as _ rfl ?_
              refine wn ?_
              refine forkB_dec (fun h7 => ?_) (fun h7 => ?_)
              · refine wn ?_
                refine retX_val rfl ?_
                conv => whnf
                exact resF (bad (dif_neg (by omega)))
              · have hb : 0 ≤ R.table ∧ R.table < s.tables.length := by omega
                have eok : refOk s T R = (decide ((R.cols.length : Int) = (s.tables[R.table.toNat]'(by omega)).key) && colsRef T (s.tables[R.table.toNat]'(by omega)) 0 R.cols) := dif_pos hb
                have hO := hkey _ (List.getElem_mem (l := s.tables) (n := R.table.toNat) (by omega))
                obtain ⟨m, hm⟩ : ∃ m : Nat, R.table = m := ⟨R.table.toNat, by omega⟩
                have hml : m < s.tables.length := by omega
                obtain ⟨O, hOe⟩ : ∃ O, s.tables[m] = O := ⟨_, rfl⟩
                have eO : s.tables[R.table.toNat]'(by omega) = O := by simp only [hm, Int.toNat_natCast]; exact hOe
                rw [eO] at eok hO
                refine wn ?_
                refine reqD_dec (by omega) ?_
                refine forceL_as (tblC O) (by rw [hm]; exact (flat_get (f := tblC) tblC_len s.tables m hml).trans (by rw [hOe])) ?_
                refine wn ?_
                refine exI_as _ rfl ?_
                refine wn ?_
                refine forkB_intro (fun h8 => ?_) (fun h8 => ?_)
                · have h8 : (R.cols.length : Int) ≠ O.key := by simpa using h8
                  rw [decide_eq_false h8, Bool.false_and] at eok
                  refine wn ?_
                  refine retX_val rfl ?_
                  conv => whnf
                  exact resF (bad eok)
                · have h8 : (R.cols.length : Int) = O.key := by simpa using h8
                  rw [decide_eq_true h8, Bool.true_and] at eok
                  refine wn ?_
                  refine exI_as _ rfl ?_
                  refine wn ?_
                  refine loopX_of env08_ok mixed08 (σ := Nat) (fun q => AS.of 174 0 4 [(1, .one (.ptr 0 0)), (10, .one (.ptr 1 0)), (13, .one (.ptr 3 0)), (103, .one (slC tblC 96 s.tables)), (104, .one (.int .i64 s.tables.length)), (105, .one (.int .i64 (j : Nat))), (110, .one (slC refC 32 T.refs)), (111, .one (.int .i64 T.refs.length)), (112, .one (.int .i64 (k : Nat))), (140, .one (slC intC 8 R.cols)), (141, .one (.int .i64 R.cols.length)), (142, .one (.int .i64 (q : Nat)))] [(0, ⟨32, 0, 0, schC s⟩), (1, ⟨55, 0, 0, tblC T⟩), (3, ⟨55, 0, 0, tblC O⟩)])
                    (fun q => q ≤ R.cols.length ∧ refOk s T R = colsRef T O q (R.cols.drop q)) (fun q => R.cols.length - q) 0 (fun _ => rfl) tid ⟨Nat.zero_le _, eok⟩ ?_
                  clear eok
                  rintro q ⟨hq, eok⟩
                  have hq : q ≤ R.cols.length := hq
                  have eok : refOk s T R = colsRef T O q (R.cols.drop q) := eok
                  refine wn ?_
                  refine forkB_dec (fun h9 => ?_) (fun h9 => ?_)
                  · have hq2 : q < R.cols.length := by have h9 : (q : Int) < R.cols.length := h9; omega
                    rw [List.drop_eq_getElem_cons hq2, colsRef] at eok
                    have hqO : q < O.cols.length := by omega
                    obtain ⟨c, hc⟩ : ∃ c, R.cols[q] = c := ⟨_, rfl⟩
                    rw [hc] at eok
                    have badc : colRef T O q c = false → soundS s = false := fun h => bad (by rw [eok, h]; rfl)
                    refine wn ?_
                    refine rq ?_
                    refine forceL_as (intC c) ((flat_get (f := intC) intC_len R.cols q hq2).trans (by rw [hc])) ?_
                    refine wn ?_
                    refine drawnX_phase env08_ok (fun _ => true) (List.range 24) (tks 0 24 (.stop)) 0 (lst 24 []) (by kernel_rfl) ?_
                    refine wn ?_
                    refine forkB_dec (fun hA => ?_) (fun hA => ?_)
                    · refine wn ?_
                      refine drawnX_done (by kernel_rfl) ?_
                      refine wn ?_
                      refine retX_val rfl ?_
                      conv => whnf
                      exact resF (badc (by rw [colRef, decide_eq_false (by omega)]; rfl))
                    · refine wn ?_
                      refine exI_as _ rfl ?_
                      refine wn ?_
                      refine forkB_dec (fun hB => ?_) (fun hB => ?_)
                      · refine wn ?_
                        refine drawnX_done (by kernel_rfl) ?_
                        refine wn ?_
                        refine retX_val rfl ?_
                        conv => whnf
                        exact resF (badc (by rw [colRef, decide_eq_false (by omega)]; rfl))
                      · obtain ⟨x, hx⟩ : ∃ x : Nat, c = x := ⟨c.toNat, by omega⟩
                        have hxl : x < T.cols.length := by omega
                        have ec : colRef T O q c = decide (T.cols[x].kind = O.cols[q].kind) := by
                          rw [colRef, decide_eq_true (by omega), Bool.true_and]
                          simp [hx, hxl, hqO]
                        refine wn ?_
                        refine reqD_dec (by omega) ?_
                        refine forceL_as (colC T.cols[x]) (by rw [hx]; exact flat_get (f := colC) colC_len T.cols x hxl) ?_
                        refine wn ?_
                        refine reqD_dec (by omega) ?_
                        refine forceL_as (colC O.cols[q]) (flat_get (f := colC) colC_len O.cols q hqO) ?_
                        refine wn ?_
                        refine forkB_intro (fun hC => ?_) (fun hC => ?_)
                        · have hC : T.cols[x].kind ≠ O.cols[q].kind := by simpa using hC
                          refine wn ?_
                          refine drawnX_done (by kernel_rfl) ?_
                          refine wn ?_
                          refine retX_val rfl ?_
                          conv => whnf
                          exact resF (badc (by rw [ec, decide_eq_false hC]))
                        · have hC : T.cols[x].kind = O.cols[q].kind := by simpa using hC
                          rw [ec, decide_eq_true hC, Bool.true_and] at eok
                          refine wn ?_
                          refine drawnX_done (by kernel_rfl) ?_
                          refine wn ?_
                          refine exI_i64 (by show -9223372036854775808 ≤ (q : Int) + 1; omega) (by show (q : Int) + 1 ≤ 9223372036854775807; omega) ?_
                          refine wn ?_
                          exact ⟨q + 1, ⟨hq2, eok⟩, by show R.cols.length - (q + 1) < R.cols.length - q; omega, tid⟩
                  · rw [List.drop_eq_nil_of_le (by have h9 : ¬ (q : Int) < R.cols.length := h9; omega), colsRef] at eok
                    rw [eok, Bool.true_and] at er
                    refine wn ?_
                    refine exI_i64 (by show -9223372036854775808 ≤ (k : Int) + 1; omega) (by show (k : Int) + 1 ≤ 9223372036854775807; omega) ?_
                    refine wn ?_
                    exact ⟨k + 1, ⟨hk2, er⟩, by show T.refs.length - (k + 1) < T.refs.length - k; omega, tid⟩
          · rw [List.drop_eq_nil_of_le (by have h5 : ¬ (k : Int) < T.refs.length := h5; omega)] at er
            have er : refsT s T = true := er
            rw [er, Bool.true_and] at e
            refine wn ?_
            refine exI_i64 (by show -9223372036854775808 ≤ (j : Int) + 1; omega) (by show (j : Int) + 1 ≤ 9223372036854775807; omega) ?_
            refine wn ?_
            exact ⟨j + 1, ⟨hj2, e⟩, by show s.tables.length - (j + 1) < s.tables.length - j; omega, tid⟩
        · rw [List.drop_eq_nil_of_le (by omega)] at e
          refine wn ?_
          refine retX_val rfl ?_
          conv => whnf
          exact resT e
end Go.Proofs.Ve


/-
  VeV3: the check of schemas (of tables without references and checks).
-/
set_option linter.unusedVariables false
set_option linter.unusedSimpArgs false
set_option pp.maxSteps 2000
namespace Go.Proofs.Ve
open Go

def schE (s : Sch) : Int := if limS s then (if soundS s then 0 else 70) else 2

theorem schema_spec (s : Sch) (hs : okS s) (hck : ∀ T ∈ s.tables, T.checks = []) : PSpec Try.prog 53 [.agg (schC s)] (fun r => r = .one (.int .i64 (schE s))) := by
  refine pspec_x env08_ok mixed08 Try.func53 rfl 39 rfl _ rfl rfl ?_
  have hlen := hs.len
  refine wn ?_
  refine cle (limits_spec s) (callee_of Try.func68 rfl rfl) ?_
  rintro x hx rfl
  cases h1 : limS s with
  | false =>
    refine wm ?_
    repeat' (first | (refine i64 ?_; refine wm ?_) | (refine exI_as _ rfl ?_; refine wm ?_) | (refine forkB_dec (fun _ => ?_) (fun _ => ?_) <;> refine wm ?_) | (refine forkB_intro (fun _ => ?_) (fun _ => ?_) <;> refine wm ?_))
    refine retX_val rfl ?_
    conv => whnf
    rw [schE, h1]
    rfl
  | true =>
    refine wm ?_
    repeat' (first | (refine i64 ?_; refine wm ?_) | (refine exI_as _ rfl ?_; refine wm ?_) | (refine forkB_dec (fun _ => ?_) (fun _ => ?_) <;> refine wm ?_) | (refine forkB_intro (fun _ => ?_) (fun _ => ?_) <;> refine wm ?_))
    refine cle (sound_spec s hs) (callee_of Try.func69 rfl rfl) ?_
    rintro x hx rfl
    cases h2 : soundS s with
    | false =>
      refine wm ?_
      repeat' (first | (refine i64 ?_; refine wm ?_) | (refine exI_as _ rfl ?_; refine wm ?_) | (refine forkB_dec (fun _ => ?_) (fun _ => ?_) <;> refine wm ?_) | (refine forkB_intro (fun _ => ?_) (fun _ => ?_) <;> refine wm ?_))
      refine retX_val rfl ?_
      conv => whnf
      rw [schE, h1, h2]
      rfl
    | true =>
      have e : schE s = 0 := by rw [schE, h1, h2]; rfl
      refine wm ?_
      repeat' (first | (refine i64 ?_; refine wm ?_) | (refine exI_as _ rfl ?_; refine wm ?_) | (refine forkB_dec (fun _ => ?_) (fun _ => ?_) <;> refine wm ?_) | (refine forkB_intro (fun _ => ?_) (fun _ => ?_) <;> refine wm ?_))
      refine loopX_of env08_ok mixed08 (σ := Nat) (fun q => AS.of 39 0 1 [(1, .one (.ptr 0 0)), (15, .one (slC tblC 96 s.tables)), (16, .one (.int .i64 s.tables.length)), (17, .one (.int .i64 (q : Nat)))] [(0, ⟨32, 0, 0, schC s⟩)])
        (fun q => q ≤ s.tables.length) (fun q => s.tables.length - q) 0 (fun _ => rfl) tid (Nat.zero_le _) ?_
      intro j hj
      refine wn ?_
      refine forkB_dec (fun h4 => ?_) (fun h4 => ?_)
      · have hj2 : j < s.tables.length := by omega
        have hmem := hs.tbl _ (List.getElem_mem hj2)
        have hnc := hck _ (List.getElem_mem hj2)
        obtain ⟨T, hT⟩ : ∃ T, s.tables[j] = T := ⟨_, rfl⟩
        rw [hT] at hmem hnc
        refine wn ?_
        refine rq ?_
        refine forceL_as (tblC T) ((flat_get (f := tblC) tblC_len s.tables j hj2).trans (by rw [hT])) ?_
        refine wn ?_
        refine exI_as 0 (by rw [hnc]; rfl) ?_
        refine wn ?_
        refine loopX_n env08_ok mixed08 1 ?_
        refine wm ?_
        repeat' (first | (refine i64 ?_; refine wm ?_) | (refine exI_as _ rfl ?_; refine wm ?_) | (refine forkB_dec (fun _ => ?_) (fun _ => ?_) <;> refine wm ?_) | (refine forkB_intro (fun _ => ?_) (fun _ => ?_) <;> refine wm ?_))
        exact ⟨j + 1, by omega, by omega, tid⟩
      · refine wn ?_
        refine retX_val rfl ?_
        conv => whnf
        rw [e]
        rfl
end Go.Proofs.Ve


/-
  VeV4: copies of states.
-/
set_option linter.unusedVariables false
set_option linter.unusedSimpArgs false
set_option pp.maxSteps 2000
namespace Go.Proofs.Ve
open Go

theorem rowC1_deep (r : Row) : (rowC1 r).all (·.deep) = true := rfl
theorem tabC1_deep (r : Tab) : (tabC1 r).all (·.deep) = true := rfl
def nilC : AC := .sl true 0 0 []
def outC (st : St) (i : Nat) : List AC := (st.take i).map tabC ++ List.replicate (st.length - i) nilC
theorem outC_len (st : St) (i : Nat) (h : i ≤ st.length) : (outC st i).length = st.length := by simp [outC]; omega
theorem outC_deep (st : St) (i : Nat) : (outC st i).all (·.deep) = true := by
  simp only [List.all_eq_true, outC, List.mem_append, List.mem_map, List.mem_replicate]
  rintro x (⟨l, _, rfl⟩ | ⟨_, rfl⟩) <;> rfl
theorem outC_step (st : St) (i : Nat) (h : i < st.length) : (outC st i).set i (tabC st[i]) = outC st (i + 1) := by
  have e : ((st.take i).map tabC).length = i := by simp; omega
  unfold outC
  rw [List.set_append_right _ _ (by rw [e]; exact Nat.le_refl _), e, Nat.sub_self]
  rw [show st.length - i = (st.length - (i + 1)) + 1 by omega, List.replicate_succ, List.set_cons_zero, List.take_add_one, List.getElem?_eq_getElem h, List.map_append, List.append_assoc]
  rfl
theorem outC_set (st : St) (i : Nat) (h : i < st.length) : (outC st i).set i nilC = outC st i := by
  have e : ((st.take i).map tabC).length = i := by simp; omega
  unfold outC
  rw [List.set_append_right _ _ (by rw [e]; exact Nat.le_refl _), e, Nat.sub_self]
  rw [show st.length - i = (st.length - (i + 1)) + 1 by omega, List.replicate_succ, List.set_cons_zero]
theorem outC_end (st : St) : outC st st.length = st.flatMap tabC1 := by
  have : ∀ st : St, st.map tabC = st.flatMap tabC1 := fun st => by
    induction st with
    | nil => rfl
    | cons a l ih => rw [List.map_cons, List.flatMap_cons, ih]; rfl
  unfold outC
  simp [this]


theorem take_one_rows (l : Tab) (h : 0 < l.length) : (l.take (0 + 1)).flatMap rowC1 = [rowC l[0]] := by
  cases l with
  | nil => exact absurd h (Nat.lt_irrefl _)
  | cons a l => rfl
theorem take_next_rows (l : Tab) (j : Nat) (h : j < l.length) : (l.take j).flatMap rowC1 ++ [rowC l[j]] = (l.take (j + 1)).flatMap rowC1 := by
  rw [List.take_add_one, List.getElem?_eq_getElem h, List.flatMap_append]
  rfl
def clInner (st : St) (i : Nat) (l : Tab) : Nat → AS
  | 0 => AS.of 43 0 4 [(2, .one (.ptr 1 0)), (3, .one (.ptr 3 0)), (4, .one (.int .i64 (i : Nat))), (14, .one (tabsC st)), (15, .one (.int .i64 st.length)), (16, .one (.int .i64 (i : Nat))), (21, .one (tabC l)), (22, .one (.int .i64 l.length)), (23, .one (.int .i64 0))]
      [(1, ⟨25, 0, 0, [nilC]⟩), (2, ⟨41, 1, 24, (outC st i).set i nilC⟩), (3, ⟨25, 0, 0, [.gref 2]⟩)]
  | j + 1 => AS.of 43 0 5 [(2, .one (.ptr 1 0)), (3, .one (.ptr 3 0)), (4, .one (.int .i64 (i : Nat))), (14, .one (tabsC st)), (15, .one (.int .i64 st.length)), (16, .one (.int .i64 (i : Nat))), (21, .one (tabC l)), (22, .one (.int .i64 l.length)), (23, .one (.int .i64 (j + 1 : Nat)))]
      [(1, ⟨25, 0, 0, [nilC]⟩), (2, ⟨41, 1, 24, (outC st i).set i (.gref 4)⟩), (3, ⟨25, 0, 0, [.gref 2]⟩), (4, ⟨27, 1, 24, (l.take (j + 1)).flatMap rowC1⟩)]

theorem cloned_spec (st : St) (h1 : st.length ≤ 1099511627776) (hok : ∀ l ∈ st, okT l) : NSpec Try.prog 49 [.agg (stC st)] (.agg [.gref 0]) ⟨41, 1, 24, st.flatMap tabC1⟩ := by
  refine nspec_x env08_ok mixed08 Try.func49 rfl 43 rfl _ rfl rfl ?_
  refine wn ?_
  refine exI_as _ rfl ?_
  refine wn ?_
  refine rq ?_
  refine wn ?_
  refine rq ?_
  refine forceL_as (outC st 0) (by simp [outC, nilC, ty41]) ?_
  refine wm ?_
  repeat' (first | (refine i64 ?_; refine wm ?_) | (refine exI_as _ rfl ?_; refine wm ?_) | (refine forkB_dec (fun _ => ?_) (fun _ => ?_) <;> refine wm ?_) | (refine forkB_intro (fun _ => ?_) (fun _ => ?_) <;> refine wm ?_))
  refine loopX_of env08_ok mixed08 (σ := Nat) (fun i => AS.of 43 0 4 [(2, .one (.ptr 1 0)), (3, .one (.ptr 3 0)), (14, .one (tabsC st)), (15, .one (.int .i64 st.length)), (16, .one (.int .i64 (i : Nat)))]
      [(1, ⟨25, 0, 0, [nilC]⟩), (2, ⟨41, 1, 24, outC st i⟩), (3, ⟨25, 0, 0, [.gref 2]⟩)])
    (fun i => i ≤ st.length) (fun i => st.length - i) 0 (fun _ => rfl) ?_ (Nat.zero_le _) ?_
  · exact (tid ⟨⟨rfl, rfl, by decide⟩, ⟨(congrArg some (ob_ren_deep _ (outC_deep st 0))).symm, ob_lt_deep _ (outC_deep st 0), by decide⟩, ⟨rfl, rfl, by decide⟩, trivial⟩)
  intro i hi
  refine wn ?_
  refine forkB_dec (fun h => ?_) (fun h => ?_)
  · have hi2 : i < st.length := by omega
    have hl := hok _ (List.getElem_mem hi2)
    obtain ⟨l, hle⟩ : ∃ l, st[i] = l := ⟨_, rfl⟩
    rw [hle] at hl
    have hll := hl.1
    refine wn ?_
    refine rq ?_
    refine forceL_as (tabC1 l) ((flat_get (f := tabC1) tabC1_len st i hi2).trans (by rw [hle])) ?_
    refine wn ?_
    refine exI_as _ rfl ?_
    refine wn ?_
    refine loopX_of env08_ok mixed08 (σ := Nat) (clInner st i l)
      (fun j => j ≤ l.length) (fun j => l.length - j) 0 (fun j => by cases j <;> rfl) ?_ (Nat.zero_le _) ?_
    · exact (tid ⟨⟨rfl, rfl, by decide⟩, ⟨(congrArg some ((ob_ren_set _ (outC_deep st i)).trans (congrArg (Ob.mk 41 1 24) (outC_set st i hi2)))).symm, ob_lt_set _ (outC_deep st i) rfl, by decide⟩, ⟨rfl, rfl, by decide⟩, trivial⟩)
    intro j hj
    cases j with
    | zero =>
      refine wn ?_
      refine forkB_dec (fun h2 => ?_) (fun h2 => ?_)
      · have hj2 : 0 < l.length := by omega
        refine wn ?_
        refine rq ?_
        refine wn ?_
        refine forceL_as (rowC1 l[0]) (flat_get (f := rowC1) rowC1_len l 0 hj2) ?_
        refine wn ?_
        refine drawnX_phase env08_ok (fun id => id == 2 || id == 3) (List.range 13) (tks 0 9 (.one 9 (.one 10 (.one 11 (tks 12 1 (.stop)))))) 1 (lst 14 [13]) (by kernel_rfl) ?_
        refine wn ?_
        refine reqD_dec (by simp [ty41, outC_len st i hi]; omega) ?_
        refine wn ?_
        refine forceL_as [nilC] ((take1 _ i (by simp [outC_len st i hi]; omega)).trans (by simp)) ?_
        refine wn ?_
        refine cle (copied_spec l[0] (hl.2 _ (List.getElem_mem hj2))) callee44 ?_
        rintro x hx rfl
        refine wn ?_
        refine rq ?_
        refine wn ?_
        refine forkB_intro (fun h => absurd h (by simp [ty27])) (fun _ => ?_)
        refine wn ?_
        refine rq ?_
        refine wn ?_
        refine reqD_dec (by simp [ty41, outC_len st i hi]; omega) ?_
        refine wn ?_
        refine drawnX_phase env08_ok (fun _ => false) (List.range 14) (.one 13 (.stop)) 0 (lst 14 []) (by kernel_rfl) ?_
        refine wn ?_
        refine reqD_dec (by simp [ty41, outC_len st i hi]; omega) ?_
        refine wn ?_
        refine forceL_as ((outC st i).set i (.gref 5)) ((setR1 _ i _ (by simp [outC_len st i hi]; omega)).trans (by simp)) ?_
        refine wn ?_
        refine drawnX_done (by kernel_rfl) ?_
        refine wn ?_
        refine i64 ?_
        refine wn ?_
        refine ⟨1, by omega, by omega, ?_⟩
        exact (tmv 4 5 ⟨⟨rfl, rfl, by decide⟩, ⟨(congrArg some ((ob_ren_set (mv 4 5) (i := i) (c := .gref 4) (outC_deep st i)))).symm, ob_lt_set _ (outC_deep st i) rfl, by decide⟩, ⟨rfl, rfl, by decide⟩, ⟨(congrArg some ((ob_ren_deep (mv 4 5) (all_flat rowC1_deep _)).trans (congrArg (Ob.mk 27 1 24) (take_one_rows l hj2)))).symm, ob_lt_deep _ (all_flat rowC1_deep _), by decide⟩, trivial⟩)
      · have el : l = [] := List.eq_nil_of_length_eq_zero (by omega)
        have en : (outC st i).set i (tabC l) = outC st (i + 1) := by rw [← hle]; exact outC_step st i hi2
        refine wn ?_
        refine i64 ?_
        refine wn ?_
        refine ⟨i + 1, by omega, by omega, ?_⟩
        subst el
        refine Tr.trans (Tr.obj 2 (ob := ⟨41, 1, 24, (outC st i).set i nilC⟩) rfl (cells := outC st (i + 1)) (en ▸ Pw.set AC.LeV.refl (AC.LeV.sl (AC.Le.nil (.inl rfl))))) ?_
        exact (tid ⟨⟨rfl, rfl, by decide⟩, ⟨(congrArg some (ob_ren_deep _ (outC_deep st (i + 1)))).symm, ob_lt_deep _ (outC_deep st (i + 1)), by decide⟩, ⟨rfl, rfl, by decide⟩, trivial⟩)
    | succ j =>
      refine wn ?_
      refine forkB_dec (fun h2 => ?_) (fun h2 => ?_)
      · have hj2 : j + 1 < l.length := by omega
        refine wn ?_
        refine rq ?_
        refine wn ?_
        refine forceL_as (rowC1 l[j + 1]) (flat_get (f := rowC1) rowC1_len l (j + 1) hj2) ?_
        refine wn ?_
        refine drawnX_phase env08_ok (fun id => id == 2 || id == 3) (List.range 13) (tks 0 9 (.one 9 (.one 10 (.one 11 (tks 12 1 (.stop)))))) 1 (lst 14 [13]) (by kernel_rfl) ?_
        refine wn ?_
        refine reqD_dec (by simp [ty41, outC_len st i hi]; omega) ?_
        refine wn ?_
        refine forceL_as [.gref 4] ((take1 _ i (by simp [outC_len st i hi]; omega)).trans (by simp)) ?_
        refine wn ?_
        refine cle (copied_spec l[j + 1] (hl.2 _ (List.getElem_mem hj2))) callee44 ?_
        rintro x hx rfl
        refine wn ?_
        refine rq ?_
        refine wn ?_
        refine reqD_dec (flat_div rowC1_len (by decide) _) ?_
        refine reqD_dec (by simp only [flat_len rowC1_len]; simp [ty27]; omega) ?_
        refine forceL_as ((l.take (j + 1 + 1)).flatMap rowC1) (take_next_rows l (j + 1) hj2) ?_
        refine wn ?_
        refine reqD_dec (by simp [ty41, outC_len st i hi]; omega) ?_
        refine wn ?_
        refine drawnX_phase env08_ok (fun _ => false) (List.range 14) (.one 13 (.stop)) 0 (lst 14 []) (by kernel_rfl) ?_
        refine wn ?_
        refine reqD_dec (by simp [ty41, outC_len st i hi]; omega) ?_
        refine wn ?_
        refine forceL_as ((outC st i).set i (.gref 6)) ((setR1 _ i _ (by simp [outC_len st i hi]; omega)).trans (by simp)) ?_
        refine wn ?_
        refine drawnX_done (by kernel_rfl) ?_
        refine wn ?_
        refine i64 ?_
        refine wn ?_
        refine ⟨j + 1 + 1, by omega, by omega, ?_⟩
        exact (tmv 4 6 ⟨⟨rfl, rfl, by decide⟩, ⟨(congrArg some ((ob_ren_set (mv 4 6) (i := i) (c := .gref 4) (outC_deep st i)))).symm, ob_lt_set _ (outC_deep st i) rfl, by decide⟩, ⟨rfl, rfl, by decide⟩, ⟨(congrArg some (ob_ren_deep (mv 4 6) (all_flat rowC1_deep _))).symm, ob_lt_deep _ (all_flat rowC1_deep _), by decide⟩, trivial⟩)
      · have el : j + 1 = l.length := by omega
        have en : (outC st i).set i (tabC l) = outC st (i + 1) := by rw [← hle]; exact outC_step st i hi2
        refine wn ?_
        refine i64 ?_
        refine wn ?_
        refine ⟨i + 1, by omega, by omega, ?_⟩
        refine Tr.trans (Tr.frz' 4 (j + 1) rfl (show 0 < 1 by decide) (by rw [flat_len rowC1_len]; simp; omega) (all_flat rowC1_deep _)) ?_
        have hx : tabC l = (AC.gref 4).sub 4 (.sl false 24 (j + 1) ((l.take (j + 1)).flatMap rowC1)) := by
          show tabC l = .sl false 24 (j + 1) ((l.take (j + 1)).flatMap rowC1)
          rw [el, List.take_length]
          rfl
        have hX : outC st (i + 1) = ((outC st i).set i (.gref 4)).map (·.sub 4 (.sl false 24 (j + 1) ((l.take (j + 1)).flatMap rowC1))) := by
          rw [sub_set 4 _ (outC_deep st i), ← hx, en]
        exact (tid ⟨⟨rfl, rfl, by decide⟩, ⟨(congrArg some ((ob_ren_deep _ (outC_deep st (i + 1))).trans (congrArg (Ob.mk 41 1 24) hX))).symm, ob_lt_deep _ (outC_deep st (i + 1)), by decide⟩, ⟨rfl, rfl, by decide⟩, trivial⟩)
  · have e : i = st.length := by omega
    subst e
    refine wm ?_
    repeat' (first | (refine i64 ?_; refine wm ?_) | (refine exI_as _ rfl ?_; refine wm ?_) | (refine forkB_dec (fun _ => ?_) (fun _ => ?_) <;> refine wm ?_) | (refine forkB_intro (fun _ => ?_) (fun _ => ?_) <;> refine wm ?_))
    refine retX_new 2 rfl (by exact Nat.le_of_ble_eq_true rfl) ?_ (ob_lt_deep 1 (all_flat tabC1_deep st)) rfl rfl
    exact (congrArg some ((ob_ren_deep (fun _ => 2) (all_flat tabC1_deep st)).trans (congrArg (Ob.mk 41 1 24) (outC_end st).symm))).symm
end Go.Proofs.Ve


/-
  VeV5: the place of a key in a table's rows.
-/
set_option linter.unusedVariables false
set_option linter.unusedSimpArgs false
set_option pp.maxSteps 2000
namespace Go.Proofs.Ve
open Go

def plObs (s : Sch) (t : Int) (l : Tab) (key : Row) : List Ob := [⟨32, 0, 0, schC s⟩, ⟨3, 0, 0, [.int .i64 t]⟩, ⟨41, 0, 0, [tabC l]⟩, ⟨27, 0, 0, [rowC key]⟩]
def plFn : AC := .fn 65 [.ptr 0 0, .ptr 1 0, .ptr 2 0, .ptr 3 0]
def plObs5 (s : Sch) (t : Int) (l : Tab) (key : Row) : List Ob := [⟨32, 0, 0, schC s⟩, ⟨3, 0, 0, [.int .i64 t]⟩, ⟨41, 0, 0, [tabC l]⟩, ⟨27, 0, 0, [rowC key]⟩, ⟨66, 0, 0, [plFn]⟩]

theorem at_spec (s : Sch) (t : Int) (l : Tab) (key : Row) (hl : okT l) (hk : okR key) (i : Nat) (hi : i < l.length) :
    OSpec Try.prog 65 [.one (.int .i64 (i : Nat)), .one (.ptr 0 0), .one (.ptr 1 0), .one (.ptr 2 0), .one (.ptr 3 0)] (plObs s t l key) (fun r => r = .one (.int .i64 (cmpR (keyR s t l[i]) key))) := by
  refine ospec_x env08_ok mixed08 Try.func65 rfl 16 rfl _ rfl rfl ?_
  have hr := hl.2 _ (List.getElem_mem hi)
  have hkr := keyR_le s t l[i]
  unfold okR at hr hk
  refine wn ?_
  refine drawnX_phase env08_ok (fun _ => true) (List.range 10) (tks 0 6 (tks 7 1 (.one 6 (.one 8 (tks 9 1 (.stop)))))) 0 (lst 10 []) (by kernel_rfl) ?_
  refine wn ?_
  refine rq ?_
  refine forceL_as (rowC1 l[i]) (flat_get (f := rowC1) rowC1_len l i hi) ?_
  refine wn ?_
  refine cle (key_spec s t l[i] hr) (callee_of Try.func43 rfl rfl) ?_
  rintro x hx rfl
  refine wn ?_
  refine cle (compareRows_spec (keyR s t l[i]) key (by omega) (by omega)) (callee_of Try.func42 rfl rfl) ?_
  rintro x hx rfl
  refine wn ?_
  refine drawnX_done (by kernel_rfl) ?_
  refine wn ?_
  refine retX_obs rfl rfl (by exact Nat.le_of_ble_eq_true rfl) ⟨⟨rfl, rfl⟩, ⟨rfl, rfl⟩, ⟨rfl, rfl⟩, ⟨rfl, rfl⟩, trivial⟩ ?_
  conv => whnf
  rfl

theorem less_spec (s : Sch) (t : Int) (l : Tab) (key : Row) (hl : okT l) (hk : okR key) (i : Nat) (hi : i < l.length) :
    OSpec Try.prog 67 [.one (.int .i64 (i : Nat)), .one (.ptr 4 0)] (plObs5 s t l key) (fun r => r = .one (.bool (decide (cmpR (keyR s t l[i]) key ≥ 0)))) := by
  refine ospec_x env08_ok mixed08 Try.func67 rfl 8 rfl _ rfl rfl ?_
  refine wn ?_
  refine callX_obs (at_spec s t l key hl hk i hi) (callee_of Try.func65 rfl rfl) id (posN 4) rfl rfl (.cons (AV.Le.refl _) (.cons (AV.Le.refl _) (.cons (AV.Le.refl _) (.cons (AV.Le.refl _) (.cons (AV.Le.refl _) .nil))))) (passedN (obs := plObs s t l key) rfl (by exact Nat.le_of_ble_eq_true rfl) ⟨⟨rfl, rfl⟩, ⟨rfl, rfl⟩, ⟨rfl, rfl⟩, ⟨rfl, rfl⟩, trivial⟩) ?_
  rintro x hx rfl
  refine wn ?_
  refine forkB_dec (fun h1 => ?_) (fun h1 => ?_)
  · refine wn ?_
    refine retX_obs rfl rfl (by exact Nat.le_of_ble_eq_true rfl) ⟨⟨rfl, rfl⟩, ⟨rfl, rfl⟩, ⟨rfl, rfl⟩, ⟨rfl, rfl⟩, ⟨rfl, rfl⟩, trivial⟩ ?_
    conv => whnf
    rw [decide_eq_true h1]
    rfl
  · refine wn ?_
    refine retX_obs rfl rfl (by exact Nat.le_of_ble_eq_true rfl) ⟨⟨rfl, rfl⟩, ⟨rfl, rfl⟩, ⟨rfl, rfl⟩, ⟨rfl, rfl⟩, ⟨rfl, rfl⟩, trivial⟩ ?_
    conv => whnf
    rw [decide_eq_false h1]
    rfl

theorem search_spec (s : Sch) (t : Int) (l : Tab) (key : Row) (hl : okT l) (hk : okR key) (m : Nat) (hm : m ≤ l.length) (hmono : ∀ (i : Nat) (hi : i < l.length), cmpR (keyR s t l[i]) key ≥ 0 ↔ m ≤ i) :
    OSpec Try.prog 66 [.one (.int .i64 l.length), .one (.fn 67 [.ptr 4 0])] (plObs5 s t l key) (fun r => r = .one (.int .i64 m)) := by
  refine ospec_x env08_ok mixed08 Try.func66 rfl 26 rfl _ rfl rfl ?_
  have hll := hl.1
  refine wn ?_
  refine loopX_of env08_ok mixed08 (σ := Nat × Nat) (fun q => AS.of 26 5 5 [(1, .one (.fn 67 [.ptr 4 0])), (5, .one (.int .i64 (q.1 : Nat))), (6, .one (.int .i64 (q.2 : Nat)))] [(0, ⟨32, 0, 0, schC s⟩), (1, ⟨3, 0, 0, [.int .i64 t]⟩), (2, ⟨41, 0, 0, [tabC l]⟩), (3, ⟨27, 0, 0, [rowC key]⟩), (4, ⟨66, 0, 0, [plFn]⟩)])
    (fun q => q.1 ≤ m ∧ m ≤ q.2 ∧ q.2 ≤ l.length) (fun q => q.2 - q.1) (0, l.length) (fun _ => rfl) tid ⟨Nat.zero_le _, hm, Nat.le_refl _⟩ ?_
  rintro ⟨i, j⟩ ⟨h1, h2, h3⟩
  have h1 : i ≤ m := h1
  have h2 : m ≤ j := h2
  have h3 : j ≤ l.length := h3
  refine wn ?_
  refine forkB_dec (fun h4 => ?_) (fun h4 => ?_)
  · have h4 : i < j := by have h4 : (i : Int) < j := h4; omega
    refine wn ?_
    refine exI_i64 (by show -9223372036854775808 ≤ ((i : Int) + j); omega) (by show ((i : Int) + j) ≤ _; omega) ?_
    refine wn ?_
    refine exI_as ((i + j : Nat) : Int) (by show IntKind.u64.wrap ((i : Int) + j) = _; unfold IntKind.wrap; simp [IntKind.signed, IntKind.bits]; omega) ?_
    refine wn ?_
    refine exI_as (((i + j) / 2 : Nat) : Int) (by
      have e : (2 : Int) ^ min (Int.toNat 1) IntKind.u64.bits = 2 := by decide
      rw [e, Int.fdiv_eq_ediv_of_nonneg _ (by omega)]
      omega) ?_
    refine wn ?_
    refine i64 ?_
    refine wn ?_
    have hh : (i + j) / 2 < l.length := by omega
    have hmm := hmono _ hh
    refine callX_obs (less_spec s t l key hl hk _ hh) (callee_of Try.func67 rfl rfl) id (posN 5) rfl rfl (.cons (AV.Le.refl _) (.cons (AV.Le.refl _) .nil)) (passedN (obs := plObs5 s t l key) rfl (by exact Nat.le_of_ble_eq_true rfl) ⟨⟨rfl, rfl⟩, ⟨rfl, rfl⟩, ⟨rfl, rfl⟩, ⟨rfl, rfl⟩, ⟨rfl, rfl⟩, trivial⟩) ?_
    rintro x hx rfl
    by_cases hc : cmpR (keyR s t l[(i + j) / 2]) key ≥ 0
    · rw [decide_eq_true hc]
      have := hmm.1 hc
      refine wm ?_
      repeat' (first | (refine i64 ?_; refine wm ?_) | (refine exI_as _ rfl ?_; refine wm ?_) | (refine forkB_dec (fun _ => ?_) (fun _ => ?_) <;> refine wm ?_) | (refine forkB_intro (fun _ => ?_) (fun _ => ?_) <;> refine wm ?_))
      exact ⟨(i, (i + j) / 2), ⟨h1, this, by show (i + j) / 2 ≤ _; omega⟩, by show (i + j) / 2 - i < j - i; omega, tid⟩
    · rw [decide_eq_false hc]
      have : ¬ m ≤ (i + j) / 2 := fun h => hc (hmm.2 h)
      refine wm ?_
      repeat' (first | (refine i64 ?_; refine wm ?_) | (refine exI_as _ rfl ?_; refine wm ?_) | (refine forkB_dec (fun _ => ?_) (fun _ => ?_) <;> refine wm ?_) | (refine forkB_intro (fun _ => ?_) (fun _ => ?_) <;> refine wm ?_))
      exact ⟨((i + j) / 2 + 1, j), ⟨by show (i + j) / 2 + 1 ≤ m; omega, h2, h3⟩, by show j - ((i + j) / 2 + 1) < j - i; omega, tid⟩
  · have h4 : ¬ i < j := by have h4 : ¬ (i : Int) < j := h4; omega
    have e : i = m := by omega
    subst e
    refine wn ?_
    refine retX_obs rfl rfl (by exact Nat.le_of_ble_eq_true rfl) ⟨⟨rfl, rfl⟩, ⟨rfl, rfl⟩, ⟨rfl, rfl⟩, ⟨rfl, rfl⟩, ⟨rfl, rfl⟩, trivial⟩ ?_
    conv => whnf
    rfl

def thereB (s : Sch) (t : Int) (l : Tab) (key : Row) (m : Nat) : Bool := if h : m < l.length then decide (cmpR (keyR s t l[m]) key = 0) else false
def placeV (s : Sch) (t : Int) (l : Tab) (key : Row) (m : Nat) : AV := .tup [.one (.int .i64 m), .one (.bool (thereB s t l key m))]
theorem place_spec (s : Sch) (t : Int) (l : Tab) (key : Row) (hl : okT l) (hk : okR key) (m : Nat) (hm : m ≤ l.length) (hmono : ∀ (i : Nat) (hi : i < l.length), cmpR (keyR s t l[i]) key ≥ 0 ↔ m ≤ i) :
    PSpec Try.prog 51 [.agg (schC s), .one (.int .i64 t), .one (tabC l), .one (rowC key)] (fun r => r = placeV s t l key m) := by
  refine pspec_x env08_ok mixed08 Try.func51 rfl 28 rfl _ rfl rfl ?_
  refine wn ?_
  refine exI_as _ rfl ?_
  refine wn ?_
  refine callX_obs (search_spec s t l key hl hk m hm hmono) (callee_of Try.func66 rfl rfl) id (posN 5) rfl rfl (.cons (AV.Le.refl _) (.cons (AV.Le.refl _) .nil)) (passedN (obs := plObs5 s t l key) rfl (by exact Nat.le_of_ble_eq_true rfl) ⟨⟨rfl, rfl⟩, ⟨rfl, rfl⟩, ⟨rfl, rfl⟩, ⟨rfl, rfl⟩, ⟨rfl, rfl⟩, trivial⟩) ?_
  rintro x hx rfl
  refine wn ?_
  refine exI_as _ rfl ?_
  refine wn ?_
  have fin : ∀ b : Bool, b = (if h : m < l.length then decide (cmpR (keyR s t l[m]) key = 0) else false) → AV.tup [.one (.int .i64 m), .one (.bool b)] = placeV s t l key m := fun b h => by rw [h]; rfl
  refine forkB_dec (fun h1 => ?_) (fun h1 => ?_)
  · have h1 : m < l.length := by omega
    refine wn ?_
    refine callX_obs (at_spec s t l key hl hk m h1) (callee_of Try.func65 rfl rfl) id (posN 4) rfl rfl (.cons (AV.Le.refl _) (.cons (AV.Le.refl _) (.cons (AV.Le.refl _) (.cons (AV.Le.refl _) (.cons (AV.Le.refl _) .nil))))) (passedN (obs := plObs s t l key) rfl (by exact Nat.le_of_ble_eq_true rfl) ⟨⟨rfl, rfl⟩, ⟨rfl, rfl⟩, ⟨rfl, rfl⟩, ⟨rfl, rfl⟩, trivial⟩) ?_
    rintro x hx rfl
    refine wn ?_
    refine forkB_dec (fun h2 => ?_) (fun h2 => ?_)
    · have h2 : cmpR (keyR s t l[m]) key = 0 := h2
      refine wn ?_
      refine retX_val rfl ?_
      conv => whnf
      exact fin true (by rw [dif_pos h1, decide_eq_true h2])
    · have h2 : ¬ cmpR (keyR s t l[m]) key = 0 := h2
      refine wn ?_
      refine retX_val rfl ?_
      conv => whnf
      exact fin false (by rw [dif_pos h1, decide_eq_false h2])
  · have h1 : ¬ m < l.length := by omega
    refine wn ?_
    refine retX_val rfl ?_
    conv => whnf
    exact fin false (by rw [dif_neg h1])
end Go.Proofs.Ve


/-
  VeV6: what Apply computes.
-/
set_option linter.unusedVariables false
set_option linter.unusedSimpArgs false
namespace Go.Proofs.Ve
open Go

def low (s : Sch) (t : Int) (l : Tab) (key : Row) : Nat := (l.takeWhile (fun r => decide (cmpR (keyR s t r) key < 0))).length
def Mono (s : Sch) (t : Int) (l : Tab) (key : Row) : Prop := ∀ (i : Nat) (hi : i < l.length), cmpR (keyR s t l[i]) key ≥ 0 ↔ low s t l key ≤ i
theorem low_le (s : Sch) (t : Int) (l : Tab) (key : Row) : low s t l key ≤ l.length := (List.takeWhile_sublist _).length_le
theorem there_lt {s : Sch} {t : Int} {l : Tab} {key : Row} {m : Nat} (h : thereB s t l key m = true) : m < l.length := by
  unfold thereB at h
  split at h
  · assumption
  · cases h

def tabAt (cur : St) (t : Int) : Tab := cur.getD t.toNat []
def front (m : Nat) (l : Tab) (new : Row) : Tab := if new.length > 0 then l.take m ++ [new] else l.take m
def behind (th : Bool) (m : Nat) (l : Tab) : Tab := bif th then l.drop (m + 1) else l.drop m
def cnt (th : Bool) (n : Int) (new : Row) : Int := if new.length > 0 then (bif th then n - 1 else n) + 1 else (bif th then n - 1 else n)
def stepC (s : Sch) (mode : Int) (cur : St) (n : Int) (c : Chg) : Int × St × Int :=
  bif !validC s mode c then (71, cur, n) else
    bif (thereB s c.table (tabAt cur c.table) (keyC s c) (low s c.table (tabAt cur c.table) (keyC s c)) != decide (c.old.length > 0)) ||
        (thereB s c.table (tabAt cur c.table) (keyC s c) (low s c.table (tabAt cur c.table) (keyC s c)) && decide (cmpR ((tabAt cur c.table).getD (low s c.table (tabAt cur c.table) (keyC s c)) []) c.old ≠ 0)) then (81, cur, n)
    else if cnt (thereB s c.table (tabAt cur c.table) (keyC s c) (low s c.table (tabAt cur c.table) (keyC s c))) n c.new > 512 then (2, cur, n)
    else (0, cur.set c.table.toNat (front (low s c.table (tabAt cur c.table) (keyC s c)) (tabAt cur c.table) c.new ++ behind (thereB s c.table (tabAt cur c.table) (keyC s c) (low s c.table (tabAt cur c.table) (keyC s c))) (low s c.table (tabAt cur c.table) (keyC s c)) (tabAt cur c.table)),
      cnt (thereB s c.table (tabAt cur c.table) (keyC s c) (low s c.table (tabAt cur c.table) (keyC s c))) n c.new)
/-- The same, once the table, the place and whether it is there are known. -/
def stepT (cur : St) (n : Int) (c : Chg) (l : Tab) (m : Nat) (th : Bool) : Int × St × Int :=
  bif (th != decide (c.old.length > 0)) || (th && decide (cmpR (l.getD m []) c.old ≠ 0)) then (81, cur, n)
  else if cnt th n c.new > 512 then (2, cur, n)
  else (0, cur.set c.table.toNat (front m l c.new ++ behind th m l), cnt th n c.new)
theorem stepC_bad {s : Sch} {mode : Int} {cur : St} {n : Int} {c : Chg} (h : validC s mode c = false) : stepC s mode cur n c = (71, cur, n) := by rw [stepC, h]; rfl
theorem stepC_ok {s : Sch} {mode : Int} {cur : St} {n : Int} {c : Chg} {l : Tab} {m : Nat} {th : Bool} (h : validC s mode c = true) (hl : tabAt cur c.table = l) (hm : low s c.table l (keyC s c) = m) (ht : thereB s c.table l (keyC s c) m = th) : stepC s mode cur n c = stepT cur n c l m th := by
  subst hl hm ht
  rw [stepC, h]
  rfl

def applyL (s : Sch) (mode : Int) : List Chg → St → Int → St × Int
  | [], cur, _ => (cur, 0)
  | c :: r, cur, n => if (stepC s mode cur n c).1 ≠ 0 then ([], (stepC s mode cur n c).1) else applyL s mode r (stepC s mode cur n c).2.1 (stepC s mode cur n c).2.2
def monoL (s : Sch) (mode : Int) : List Chg → St → Int → Prop
  | [], _, _ => True
  | c :: r, cur, n => (validC s mode c = true → Mono s c.table (tabAt cur c.table) (keyC s c)) ∧ ((stepC s mode cur n c).1 = 0 → monoL s mode r (stepC s mode cur n c).2.1 (stepC s mode cur n c).2.2)
def applyS (s : Sch) (e mode : Int) (st : St) (l : List Chg) : St × Int := if checkS s e mode st ≠ 0 then ([], checkS s e mode st) else applyL s mode l st (countS st)
def applyV (q : St × Int) : AV := .tup [.agg (stC q.1), .one (.int .i64 q.2)]

structure okI (s : Sch) (cur : St) (n : Int) : Prop where
  cnt : (countS cur : Int) = n
  le : n ≤ 512
  len : cur.length = s.tables.length
  row : ∀ l ∈ cur, ∀ r ∈ l, okR r

theorem valid_tab {s : Sch} {mode : Int} {c : Chg} (h : validC s mode c = true) : 0 ≤ c.table ∧ c.table < s.tables.length := by
  unfold validC at h
  rw [Bool.and_eq_true] at h
  exact of_decide_eq_true h.1

theorem countS_set : ∀ (cur : St) (t : Nat) (l' : Tab) (h : t < cur.length), countS (cur.set t l') + cur[t].length = countS cur + l'.length
  | a :: cur, 0, l', h => by simp [countS]; omega
  | a :: cur, t + 1, l', h => by
    have := countS_set cur t l' (by simpa using h)
    simp [countS] at this ⊢
    omega
theorem countS_get : ∀ (cur : St) (t : Nat) (h : t < cur.length), cur[t].length ≤ countS cur
  | a :: cur, 0, h => by simp [countS]
  | a :: cur, t + 1, h => by
    have := countS_get cur t (by simpa using h)
    simp [countS] at this ⊢
    omega

theorem tabAt_get {cur : St} {t : Int} (h : t.toNat < cur.length) : tabAt cur t = cur[t.toNat] := by
  unfold tabAt
  rw [List.getD_eq_getElem?_getD, List.getElem?_eq_getElem h]
  rfl

theorem stepT_ok {s : Sch} {cur : St} {n : Int} {c : Chg} {l : Tab} {m : Nat} {th : Bool} (hI : okI s cur n) (ht : 0 ≤ c.table ∧ c.table < s.tables.length) (hl : tabAt cur c.table = l) (hm : m ≤ l.length) (hth : th = true → m < l.length) (hc : okC c)
    (h : cnt th n c.new ≤ 512) : okI s (cur.set c.table.toNat (front m l c.new ++ behind th m l)) (cnt th n c.new) := by
  have hlt : c.table.toNat < cur.length := by rw [hI.len]; omega
  have hg := tabAt_get hlt
  rw [hl] at hg
  refine ⟨?_, h, by rw [List.length_set]; exact hI.len, ?_⟩
  · have h1 := countS_set cur c.table.toNat (front m l c.new ++ behind th m l) hlt
    rw [← hg] at h1
    have h2 := hI.cnt
    have h3 : (front m l c.new ++ behind th m l).length = (if c.new.length > 0 then m + 1 else m) + (bif th then l.length - (m + 1) else l.length - m) := by
      rw [List.length_append]
      unfold front behind
      cases th <;> split <;> simp <;> omega
    rw [h3] at h1
    unfold cnt
    cases th with
    | true =>
      have := hth rfl
      simp only [cond_true] at h1 ⊢
      split at h1 <;> rename_i hn <;> simp only [hn] <;> simp <;> omega
    | false =>
      simp only [cond_false] at h1 ⊢
      split at h1 <;> rename_i hn <;> simp only [hn] <;> simp <;> omega
  · intro x hx r hr
    rcases List.mem_or_eq_of_mem_set hx with h1 | h1
    · exact hI.row x h1 r hr
    · rw [h1] at hr
      have hlm : l ∈ cur := by rw [hg]; exact List.getElem_mem hlt
      rcases List.mem_append.1 hr with h2 | h2
      · unfold front at h2
        split at h2
        · rcases List.mem_append.1 h2 with h3 | h3
          · exact hI.row l hlm r (List.mem_of_mem_take h3)
          · rw [List.mem_singleton] at h3
            rw [h3]
            exact hc.2
        · exact hI.row l hlm r (List.mem_of_mem_take h2)
      · unfold behind at h2
        cases th with
        | true => exact hI.row l hlm r (List.mem_of_mem_drop h2)
        | false => exact hI.row l hlm r (List.mem_of_mem_drop h2)

def fullT (l : Tab) : AC := .sl true 24 l.length (l.flatMap rowC1)
theorem slice_from (l : Tab) (d : Bool) (m : Nat) (hm : m ≤ l.length) : AV.one (.sl (false && d) 24 (l.length - m) (((l.flatMap rowC1).drop (m * 1)).take ((l.length - m) * 1))) = .one (tabC (l.drop m)) := by
  have := slice_flat (f := rowC1) rowC1_len l 24 d m l.length (Nat.le_refl _)
  rw [this, List.take_of_length_le (by simp)]
  rfl
theorem slice_full (l : Tab) (m : Nat) (hm : m ≤ l.length) : AV.one (.sl true 24 m ((l.flatMap rowC1).take (m * 1))) = .one (fullT (l.take m)) := by
  rw [flat_take rowC1_len]
  unfold fullT
  rw [List.length_take, Nat.min_eq_left hm]
theorem set_flat (cur : St) (t : Nat) (l : Tab) : (cur.flatMap tabC1).set t (tabC l) = (cur.set t l).flatMap tabC1 := by
  have : ∀ st : St, st.flatMap tabC1 = st.map tabC := fun st => by
    induction st with
    | nil => rfl
    | cons a l ih => rw [List.map_cons, List.flatMap_cons, ih]; rfl
  rw [this, this, List.map_set]
end Go.Proofs.Ve


/-
  VeV7: Apply.
-/
set_option linter.unusedVariables false
set_option linter.unusedSimpArgs false
set_option pp.maxSteps 1000
set_option maxHeartbeats 2000000
namespace Go.Proofs.Ve
open Go

/-- The state ahead of the last statement of a round. -/
def apS (mode n : Int) (i : Nat) (cur : St) (l : List Chg) (s : Sch) (c : Chg) (F B : Tab) (n' : Int) : AS :=
  AS.of 124 0 6 [(1, .one (.int .i64 mode)), (4, .one (.ptr 0 0)), (8, .one (.ptr 2 0)), (11, .one (.ptr 4 0)), (12, .one (.int .i64 n')), (14, .one (.ptr 5 0)), (15, .one (tabC F)), (18, .one (tabC B)), (31, .one (chgsC l)), (32, .one (.int .i64 l.length)), (33, .one (.int .i64 (i : Nat)))]
    [(0, ⟨32, 0, 0, schC s⟩), (2, ⟨25, 0, 0, [nilC]⟩), (3, ⟨41, 1, 24, cur.flatMap tabC1⟩), (4, ⟨25, 0, 0, [.gref 3]⟩), (5, ⟨60, 0, 0, chgC c⟩)]
theorem apply_spec (s : Sch) (e mode : Int) (st : St) (l : List Chg) (h53 : PSpec Try.prog 53 [.agg (schC s)] (fun x => x = .one (.int .i64 e))) (h1 : st.length ≤ 1099511627776) (hst : ∀ l ∈ st, okT l) (hcs : countS st ≤ 9223372036854775807) (hl : l.length ≤ 1099511627776) (hlc : ∀ c ∈ l, okC c)
    (hmono : checkS s e mode st = 0 → monoL s mode l st (countS st)) :
    PSpec Try.prog 23 [.agg (schC s), .one (.int .i64 mode), .agg (stC st), .one (chgsC l)] (fun r => r = applyV (applyS s e mode st l)) := by
  refine pspec_x env08_ok mixed08 Try.func23 rfl 124 rfl _ rfl rfl ?_
  refine wn ?_
  refine cle (check_spec s e mode st h53 (by omega) hst hcs) (callee_of Try.func24 rfl rfl) ?_
  rintro x hx rfl
  refine wn ?_
  refine forkB_intro (fun h2 => ?_) (fun h2 => ?_)
  · have h2 : checkS s e mode st ≠ 0 := by simpa using h2
    have ea : applyS s e mode st l = ([], checkS s e mode st) := by rw [applyS, if_pos h2]
    refine wn ?_
    refine retX_tr (Tr.obj 2 (ob := ⟨25, 0, 0, [nilC]⟩) rfl (cells := [tabsC []]) (Pw.one (AC.LeV.sl (AC.Le.nil (.inl rfl))))) ?_
    refine retX_val rfl ?_
    conv => whnf
    rw [ea]
    rfl
  · have h2 : checkS s e mode st = 0 := by simpa using h2
    have ea : applyS s e mode st l = applyL s mode l st (countS st) := by rw [applyS, if_neg (by simpa using h2)]
    have hmono := hmono h2
    refine wn ?_
    refine callX_new (cloned_spec st h1 hst) (callee_of Try.func49 rfl rfl) (fun n => .agg [.gref n]) (fun n => by simp [AV.ren, AC.renL, AC.ren, cren]) (fun ρ => ob_ren_deep ρ (all_flat tabC1_deep st)) rfl rfl (.cons (AV.Le.refl _) .nil) rfl ?_
    refine wn ?_
    refine callX_lend (Tr.frz' 3 st.length rfl (show 0 < 1 by decide) (flat_len tabC1_len st) (all_flat tabC1_deep st)) (count_spec st (by omega) hcs) callee13 (fun r h => by rw [h]; rfl) rfl rfl (.cons (AV.Le.refl _) .nil) rfl ?_
    rintro x rfl
    refine wn ?_
    refine exI_as _ rfl ?_
    refine wn ?_
    have hI0 : okI s st (countS st) := by
      refine ⟨rfl, ?_, ?_, fun l hl => (hst l hl).2⟩
      · unfold checkS at h2
        split at h2
        · omega
        · split at h2
          · omega
          · split at h2
            · omega
            · omega
      · unfold checkS at h2
        split at h2
        · omega
        · split at h2
          · omega
          · split at h2
            · omega
            · split at h2
              · omega
              · rename_i h; simpa using h
    refine loopX_of env08_ok mixed08 (σ := Nat × St × Int) (fun q => AS.of 124 0 5 [(1, .one (.int .i64 mode)), (4, .one (.ptr 0 0)), (8, .one (.ptr 2 0)), (11, .one (.ptr 4 0)), (12, .one (.int .i64 q.2.2)), (31, .one (chgsC l)), (32, .one (.int .i64 l.length)), (33, .one (.int .i64 (q.1 : Nat)))]
        [(0, ⟨32, 0, 0, schC s⟩), (2, ⟨25, 0, 0, [nilC]⟩), (3, ⟨41, 1, 24, q.2.1.flatMap tabC1⟩), (4, ⟨25, 0, 0, [.gref 3]⟩)])
      (fun q => q.1 ≤ l.length ∧ applyL s mode l st (countS st) = applyL s mode (l.drop q.1) q.2.1 q.2.2 ∧ monoL s mode (l.drop q.1) q.2.1 q.2.2 ∧ okI s q.2.1 q.2.2) (fun q => l.length - q.1) (0, st, (countS st : Int)) (fun _ => rfl)
      (tid ⟨⟨rfl, rfl, by decide⟩, ⟨rfl, rfl, by decide⟩, ⟨(congrArg some (ob_ren_deep _ (all_flat tabC1_deep st))).symm, ob_lt_deep _ (all_flat tabC1_deep st), by decide⟩, ⟨rfl, rfl, by decide⟩, trivial⟩) ⟨Nat.zero_le _, rfl, hmono, hI0⟩ ?_
    rintro ⟨i, cur, n⟩ ⟨hi, hap, hmo, hI⟩
    have hi : i ≤ l.length := hi
    have hap : applyL s mode l st (countS st) = applyL s mode (l.drop i) cur n := hap
    have hmo : monoL s mode (l.drop i) cur n := hmo
    have hI : okI s cur n := hI
    clear hI0 hmono hcs hst
    refine wn ?_
    refine forkB_dec (fun h3 => ?_) (fun h3 => ?_)
    · have hi2 : i < l.length := by have h3 : (i : Int) < l.length := h3; omega
      rw [List.drop_eq_getElem_cons hi2] at hap hmo
      have hc := hlc _ (List.getElem_mem hi2)
      obtain ⟨c, hce⟩ : ∃ c, l[i] = c := ⟨_, rfl⟩
      rw [hce] at hap hmo hc
      rw [applyL] at hap
      obtain ⟨hmo1, hmo2⟩ := hmo
      refine wn ?_
      refine rq ?_
      refine wn ?_
      refine forceL_as (chgC c) ((flat_get (f := chgC) chgC_len l i hi2).trans (by rw [hce])) ?_
      refine wn ?_
      refine cle (validC_spec s mode c hc) (callee_of Try.func50 rfl rfl) ?_
      rintro x hx rfl
      have bad : ∀ k cur' n', stepC s mode cur n c = (k, cur', n') → k ≠ 0 → applyS s e mode st l = ([], k) := fun k cur' n' h h' => by rw [ea, hap, h, if_pos h']
      cases hv : validC s mode c with
      | false =>
        refine wm ?_
        repeat' (first | (refine i64 ?_; refine wm ?_) | (refine exI_as _ rfl ?_; refine wm ?_) | (refine forkB_dec (fun _ => ?_) (fun _ => ?_) <;> refine wm ?_) | (refine forkB_intro (fun _ => ?_) (fun _ => ?_) <;> refine wm ?_))
        refine retX_tr (Tr.obj 2 (ob := ⟨25, 0, 0, [nilC]⟩) rfl (cells := [tabsC []]) (Pw.one (AC.LeV.sl (AC.Le.nil (.inl rfl))))) ?_
        refine retX_val rfl ?_
        conv => whnf
        rw [bad _ _ _ (stepC_bad hv) (by decide)]
        rfl
      | true =>
        have ht := valid_tab hv
        have hlt : c.table.toNat < cur.length := by rw [hI.len]; omega
        have hmm := hmo1 hv
        obtain ⟨T, hT⟩ : ∃ T, tabAt cur c.table = T := ⟨_, rfl⟩
        rw [hT] at hmm
        have hTg : cur[c.table.toNat] = T := by rw [← tabAt_get hlt]; exact hT
        obtain ⟨m, hm⟩ : ∃ m, low s c.table T (keyC s c) = m := ⟨_, rfl⟩
        have hml : m ≤ T.length := hm ▸ low_le s c.table T (keyC s c)
        have hTl : T.length ≤ 512 := by
          have h4 := countS_get cur c.table.toNat hlt
          rw [hTg] at h4
          have h5 := hI.cnt
          have h6 := hI.le
          omega
        have hTm : T ∈ cur := by rw [← hTg]; exact List.getElem_mem hlt
        have hTo : okT T := ⟨by omega, hI.row T hTm⟩
        have hn0 : 0 ≤ n ∧ n ≤ 512 := by have := hI.cnt; have := hI.le; omega
        unfold Mono at hmm
        rw [hm] at hmm
        refine wm ?_
        repeat' (first | (refine i64 ?_; refine wm ?_) | (refine exI_as _ rfl ?_; refine wm ?_) | (refine forkB_dec (fun _ => ?_) (fun _ => ?_) <;> refine wm ?_) | (refine forkB_intro (fun _ => ?_) (fun _ => ?_) <;> refine wm ?_))
        refine reqD_dec (by show 0 ≤ c.table ∧ c.table.toNat * 1 < (cur.flatMap tabC1).length; rw [flat_len tabC1_len]; omega) ?_
        refine wn ?_
        refine forceL_as [tabC T] ((flat_get (f := tabC1) tabC1_len cur c.table.toNat hlt).trans (by rw [hTg]; rfl)) ?_
        refine wn ?_
        refine drawnX_phase env08_ok (fun _ => true) (List.range 13) (tks 0 6 (.one 6 (.one 7 (tks 8 5 (.stop))))) 0 (lst 13 []) (by kernel_rfl) ?_
        refine wn ?_
        have hko : okR (keyC s c) := by
          unfold okR keyC
          have h4 := keyR_le s c.table c.old
          have h5 := keyR_le s c.table c.new
          have h6 := hc.1
          have h7 := hc.2
          unfold okR at h6 h7
          split <;> omega
        refine cle (keyOf_spec s c hc.1 hc.2) (callee_of Try.func52 rfl rfl) ?_
        rintro x hx rfl
        refine wn ?_
        refine cle (place_spec s c.table T (keyC s c) hTo hko m hml hmm) (callee_of Try.func51 rfl rfl) ?_
        intro x hx h4
        unfold placeV at h4
        subst h4
        have hst := fun th h => stepC_ok (n := n) (th := th) hv hT hm h
        cases hth : thereB s c.table T (keyC s c) m with
        | true =>
          have hst := hst true hth
          have hmT := there_lt hth
          have hthm : true = true → m < T.length := fun _ => hmT
          refine wn ?_
          refine drawnX_done (by kernel_rfl) ?_
          refine wn ?_
          refine drawnX_phase env08_ok (fun _ => true) (List.range 19) (tks 0 15 (.one 15 (tks 16 3 (.stop)))) 0 (lst 19 []) (by kernel_rfl) ?_
          refine wn ?_
          refine exI_as _ rfl ?_
          refine wn ?_
          refine forkB_dec (fun h4 => ?_) (fun h4 => ?_)
          · have h4 : decide (c.old.length > 0) = true := decide_eq_true (by omega)
            refine wn ?_
            refine reqD_dec (by omega) ?_
            refine wn ?_
            refine forceL_as (rowC1 T[m]) (flat_get (f := rowC1) rowC1_len T m hmT) ?_
            refine wn ?_
            refine cle (compareRows_spec T[m] c.old (by have := hTo.2 _ (List.getElem_mem hmT); unfold okR at this; omega) (by have := hc.1; unfold okR at this; omega)) callee42 ?_
            rintro x hx rfl
            refine wn ?_
            have hg : T.getD m [] = T[m] := by rw [List.getD_eq_getElem?_getD, List.getElem?_eq_getElem hmT]; rfl
            refine forkB_intro (fun h5 => ?_) (fun h5 => ?_)
            · have h5 : cmpR T[m] c.old ≠ 0 := by simpa using h5
              refine wn ?_
              refine drawnX_done (by kernel_rfl) ?_
              refine wn ?_
              refine retX_tr (Tr.obj 2 (ob := ⟨25, 0, 0, [nilC]⟩) rfl (cells := [tabsC []]) (Pw.one (AC.LeV.sl (AC.Le.nil (.inl rfl))))) ?_
              refine retX_val rfl ?_
              conv => whnf
              rw [bad 81 cur n (by rw [hst, stepT, h4, hg, decide_eq_true h5]; rfl) (by decide)]
              rfl
            · have h5 : cmpR T[m] c.old = 0 := by simpa using h5
              have hst : stepC s mode cur n c = if cnt true n c.new > 512 then (2, cur, n) else (0, cur.set c.table.toNat (front m T c.new ++ behind true m T), cnt true n c.new) := hst.trans (by rw [stepT, h4, hg, decide_eq_false (by simpa using h5)]; rfl)
              refine wn ?_
              refine drawnX_done (by kernel_rfl) ?_
              refine wn ?_
              refine reqD_dec (flat_len rowC1_len T) ?_
              refine wn ?_
              refine reqD_dec (by omega) ?_
              refine exV_as (.one (tabC (T.drop (m)))) (slice_from T _ (m) (by omega)) ?_
              refine wn ?_
              refine i64 ?_
              refine wn ?_
              refine reqD_dec (flat_len rowC1_len T) ?_
              refine wn ?_
              refine reqD_dec (by omega) ?_
              refine exV_as (.one (tabC (T.drop (m + 1)))) (slice_from T _ (m + 1) (by omega)) ?_
              refine wn ?_
              refine exI_i64 (by show -9223372036854775808 ≤ n - 1; omega) (by show n - 1 ≤ 9223372036854775807; omega) ?_
              refine wn ?_
              refine reqD_dec (flat_len rowC1_len T) ?_
              refine wn ?_
              refine reqD_dec (by omega) ?_
              refine exV_as (.one (fullT (T.take m))) (slice_full T m (by omega)) ?_
              refine wn ?_
              refine exI_as _ rfl ?_
              refine wn ?_
              refine forkB_dec (fun h6 => ?_) (fun h6 => ?_)
              · have h6 : c.new.length > 0 := by omega
                have ef : front m T c.new = T.take m ++ [c.new] := by rw [front, if_pos h6]
                have ec : cnt true n c.new = n - 1 + 1 := by rw [cnt, if_pos h6]; rfl
                refine wn ?_
                refine cle (copied_spec c.new hc.2) callee44 ?_
                rintro x hx rfl
                refine wn ?_
                refine rq ?_
                refine wn ?_
                refine forkB_intro (fun h => absurd h (by simp [ty27])) (fun _ => ?_)
                refine wn ?_
                refine reqD_dec (flat_len rowC1_len _) ?_
                refine reqD_dec (by simp [ty27]; omega) ?_
                refine forceL_as ((front m T c.new).flatMap rowC1) (by rw [ef, List.flatMap_append]; rfl) ?_
                refine wn ?_
                refine exI_i64 (by show -9223372036854775808 ≤ n - 1 + 1; omega) (by show n - 1 + 1 ≤ 9223372036854775807; omega) ?_
                refine wn ?_
                refine forkB_intro (fun h7 => ?_) (fun h7 => ?_)
                · have h7 : n - 1 + 1 > 512 := by simpa using h7
                  refine wn ?_
                  refine retX_tr (Tr.obj 2 (ob := ⟨25, 0, 0, [nilC]⟩) rfl (cells := [tabsC []]) (Pw.one (AC.LeV.sl (AC.Le.nil (.inl rfl))))) ?_
                  refine retX_val rfl ?_
                  conv => whnf
                  rw [bad 2 cur n (by rw [hst, if_pos (by rw [ec]; exact h7)]) (by decide)]
                  rfl
                · have h7 : ¬ n - 1 + 1 > 512 := by simpa using h7
                  have hst : stepC s mode cur n c = _ := hst.trans (if_neg (by rw [ec]; exact h7))
                  obtain ⟨F, hF⟩ : ∃ F, front m T c.new = F := ⟨_, rfl⟩
                  have hFl : F.length ≤ 513 := by rw [← hF, ef]; simp; omega
                  rw [hF] at hst ef ⊢
                  refine wn ?_
                  refine drawnX_tr (A1 := apS mode n i cur l s c F (T.drop (m + 1)) (n - 1 + 1)) ?_ (by rfl) ?_
                  · refine Tr.trans (Tr.frz' (T := 27) (s := 1) (B := 24) (cells := F.flatMap rowC1) 7 F.length (by rfl) (by decide) (flat_len rowC1_len F) (all_flat rowC1_deep F)) ?_
                    exact (tid ⟨⟨rfl, rfl, by decide⟩, ⟨rfl, rfl, by decide⟩, ⟨(congrArg some ((ob_ren_deep _ (all_flat tabC1_deep cur)).trans (congrArg (Ob.mk 41 1 24) (map_deep (fun c hc => AC.sub_deep 7 _ hc) _ (all_flat tabC1_deep cur)).symm))).symm, ob_lt_deep _ (all_flat tabC1_deep cur), by decide⟩, ⟨rfl, rfl, by decide⟩, ⟨rfl, rfl, by decide⟩, trivial⟩)
                  refine drawnX_phase env08_ok (fun id => id == 3 || id == 4 || id == 5) (List.range 13) (tks 0 11 (.one 11 (tks 12 1 (.stop)))) 1 (lst 14 [13]) (by kernel_rfl) ?_
                  refine wn ?_
                  refine exI_as _ rfl ?_
                  refine wn ?_
                  refine exI_as _ rfl ?_
                  refine wn ?_
                  refine reqD_dec (flat_len rowC1_len F) ?_
                  refine wn ?_
                  refine reqD_dec (by omega) ?_
                  refine exV_as (.one (fullT F)) ((slice_full F F.length (Nat.le_refl _)).trans (by rw [List.take_length])) ?_
                  refine wn ?_
                  refine reqD_dec (flat_len rowC1_len _) ?_
                  refine wn ?_
                  rw [hst] at hap hmo2
                  have hap : applyL s mode l st (countS st) = applyL s mode (l.drop (i + 1)) (cur.set c.table.toNat (F ++ T.drop (m + 1))) (n - 1 + 1) := by rw [← ec]; exact hap
                  have hmo2 : monoL s mode (l.drop (i + 1)) (cur.set c.table.toNat (F ++ T.drop (m + 1))) (n - 1 + 1) := by rw [← ec]; exact hmo2 rfl
                  have hI2 : okI s (cur.set c.table.toNat (F ++ T.drop (m + 1))) (n - 1 + 1) := by
                    have h8 := stepT_ok (th := true) hI ht hT hml hthm hc (by rw [ec]; omega)
                    rw [hF, ec] at h8
                    exact h8
                  refine forkB_intro (fun h8 => ?_) (fun h8 => ?_)
                  · have h8 : T.drop (m + 1) = [] := List.eq_nil_of_length_eq_zero (of_decide_eq_true h8)
                    rw [h8, List.append_nil] at hap hmo2 hI2
                    refine wn ?_
                    refine reqD_dec (by show 0 ≤ c.table ∧ c.table.toNat * 1 < (cur.flatMap tabC1).length; rw [flat_len tabC1_len]; omega) ?_
                    refine wn ?_
                    refine drawnX_phase env08_ok (fun _ => false) (List.range 14) (.one 13 (.stop)) 0 (lst 14 []) (by kernel_rfl) ?_
                    refine wn ?_
                    refine reqD_dec (by show c.table.toNat * 1 + 1 ≤ (cur.flatMap tabC1).length; rw [flat_len tabC1_len]; omega) ?_
                    refine wn ?_
                    refine forceL_as ((cur.flatMap tabC1).set c.table.toNat (fullT F)) (setR1 _ c.table.toNat _ (by rw [flat_len tabC1_len]; omega)) ?_
                    refine wn ?_
                    refine drawnX_done (by kernel_rfl) ?_
                    refine wn ?_
                    refine i64 ?_
                    refine wn ?_
                    refine ⟨(i + 1, cur.set c.table.toNat F, n - 1 + 1), ⟨by show i + 1 ≤ l.length; omega, hap, hmo2, hI2⟩, by show l.length - (i + 1) < l.length - i; omega, ?_⟩
                    refine Tr.trans (Tr.obj 3 (ob := ⟨41, 1, 24, (cur.flatMap tabC1).set c.table.toNat (fullT F)⟩) (by rfl) (cells := (cur.set c.table.toNat F).flatMap tabC1) (set_flat cur c.table.toNat F ▸ Pw.set AC.LeV.refl (AC.LeV.sl AC.Le.sameB))) ?_
                    exact (tid ⟨⟨rfl, rfl, by decide⟩, ⟨rfl, rfl, by decide⟩, ⟨(congrArg some (ob_ren_deep _ (all_flat tabC1_deep _))).symm, ob_lt_deep _ (all_flat tabC1_deep _), by decide⟩, ⟨rfl, rfl, by decide⟩, trivial⟩)
                  · refine wn ?_
                    refine reqD_dec (flat_len rowC1_len F) ?_
                    refine reqD_dec (by simp [ty27]; omega) ?_
                    refine forceL_as ((F ++ T.drop (m + 1)).flatMap rowC1) (List.flatMap_append).symm ?_
                    refine wn ?_
                    refine reqD_dec (by show 0 ≤ c.table ∧ c.table.toNat * 1 < (cur.flatMap tabC1).length; rw [flat_len tabC1_len]; omega) ?_
                    refine wn ?_
                    refine drawnX_phase env08_ok (fun _ => false) (List.range 14) (.one 13 (.stop)) 0 (lst 14 []) (by kernel_rfl) ?_
                    refine wn ?_
                    refine reqD_dec (by show c.table.toNat * 1 + 1 ≤ (cur.flatMap tabC1).length; rw [flat_len tabC1_len]; omega) ?_
                    refine wn ?_
                    refine forceL_as ((cur.flatMap tabC1).set c.table.toNat (.gref 6)) (setR1 _ c.table.toNat _ (by rw [flat_len tabC1_len]; omega)) ?_
                    refine wn ?_
                    refine drawnX_done (by kernel_rfl) ?_
                    refine wn ?_
                    refine i64 ?_
                    refine wn ?_
                    refine ⟨(i + 1, cur.set c.table.toNat (F ++ T.drop (m + 1)), n - 1 + 1), ⟨by show i + 1 ≤ l.length; omega, hap, hmo2, hI2⟩, by show l.length - (i + 1) < l.length - i; omega, ?_⟩
                    refine Tr.trans (Tr.frz' (T := 27) (s := 1) (B := 24) (cells := (F ++ T.drop (m + 1)).flatMap rowC1) 6 (F ++ T.drop (m + 1)).length (by rfl) (by decide) (flat_len rowC1_len _) (all_flat rowC1_deep _)) ?_
                    have hX : (cur.set c.table.toNat (F ++ T.drop (m + 1))).flatMap tabC1 = ((cur.flatMap tabC1).set c.table.toNat (.gref 6)).map (·.sub 6 (.sl false 24 (F ++ T.drop (m + 1)).length ((F ++ T.drop (m + 1)).flatMap rowC1))) := by
                      rw [sub_set 6 _ (all_flat tabC1_deep cur), ← set_flat]
                      rfl
                    exact (tid ⟨⟨rfl, rfl, by decide⟩, ⟨rfl, rfl, by decide⟩, ⟨(congrArg some ((ob_ren_deep _ (all_flat tabC1_deep _)).trans (congrArg (Ob.mk 41 1 24) hX))).symm, ob_lt_deep _ (all_flat tabC1_deep _), by decide⟩, ⟨rfl, rfl, by decide⟩, trivial⟩)
              · have h6 : ¬ c.new.length > 0 := by omega
                have ef : front m T c.new = T.take m := by rw [front, if_neg h6]
                have ec : cnt true n c.new = n - 1 := by rw [cnt, if_neg h6]; rfl
                refine wn ?_
                refine forkB_intro (fun h7 => ?_) (fun h7 => ?_)
                · have h7 : n - 1 > 512 := by simpa using h7
                  refine wn ?_
                  refine retX_tr (Tr.obj 2 (ob := ⟨25, 0, 0, [nilC]⟩) rfl (cells := [tabsC []]) (Pw.one (AC.LeV.sl (AC.Le.nil (.inl rfl))))) ?_
                  refine retX_val rfl ?_
                  conv => whnf
                  rw [bad 2 cur n (by rw [hst, if_pos (by rw [ec]; exact h7)]) (by decide)]
                  rfl
                · have h7 : ¬ n - 1 > 512 := by simpa using h7
                  have hst : stepC s mode cur n c = _ := hst.trans (if_neg (by rw [ec]; exact h7))
                  obtain ⟨F, hF⟩ : ∃ F, front m T c.new = F := ⟨_, rfl⟩
                  have hFl : F.length ≤ 513 := by rw [← hF, ef]; simp; omega
                  rw [hF] at hst ef
                  rw [← ef]
                  refine wn ?_
                  refine drawnX_tr (A1 := apS mode n i cur l s c F (T.drop (m + 1)) (n - 1)) ?_ (by rfl) ?_
                  · refine Tr.trans (Tr.slot 15 (v := .one (tabC F)) (AV.Le.one (AC.LeV.sl AC.Le.sameB))) ?_
                    exact (tid ⟨⟨rfl, rfl, by decide⟩, ⟨rfl, rfl, by decide⟩, ⟨(congrArg some (ob_ren_deep _ (all_flat tabC1_deep cur))).symm, ob_lt_deep _ (all_flat tabC1_deep cur), by decide⟩, ⟨rfl, rfl, by decide⟩, ⟨rfl, rfl, by decide⟩, trivial⟩)
                  refine drawnX_phase env08_ok (fun id => id == 3 || id == 4 || id == 5) (List.range 13) (tks 0 11 (.one 11 (tks 12 1 (.stop)))) 1 (lst 14 [13]) (by kernel_rfl) ?_
                  refine wn ?_
                  refine exI_as _ rfl ?_
                  refine wn ?_
                  refine exI_as _ rfl ?_
                  refine wn ?_
                  refine reqD_dec (flat_len rowC1_len F) ?_
                  refine wn ?_
                  refine reqD_dec (by omega) ?_
                  refine exV_as (.one (fullT F)) ((slice_full F F.length (Nat.le_refl _)).trans (by rw [List.take_length])) ?_
                  refine wn ?_
                  refine reqD_dec (flat_len rowC1_len _) ?_
                  refine wn ?_
                  rw [hst] at hap hmo2
                  have hap : applyL s mode l st (countS st) = applyL s mode (l.drop (i + 1)) (cur.set c.table.toNat (F ++ T.drop (m + 1))) (n - 1) := by rw [← ec]; exact hap
                  have hmo2 : monoL s mode (l.drop (i + 1)) (cur.set c.table.toNat (F ++ T.drop (m + 1))) (n - 1) := by rw [← ec]; exact hmo2 rfl
                  have hI2 : okI s (cur.set c.table.toNat (F ++ T.drop (m + 1))) (n - 1) := by
                    have h8 := stepT_ok (th := true) hI ht hT hml hthm hc (by rw [ec]; omega)
                    rw [hF, ec] at h8
                    exact h8
                  refine forkB_intro (fun h8 => ?_) (fun h8 => ?_)
                  · have h8 : T.drop (m + 1) = [] := List.eq_nil_of_length_eq_zero (of_decide_eq_true h8)
                    rw [h8, List.append_nil] at hap hmo2 hI2
                    refine wn ?_
                    refine reqD_dec (by show 0 ≤ c.table ∧ c.table.toNat * 1 < (cur.flatMap tabC1).length; rw [flat_len tabC1_len]; omega) ?_
                    refine wn ?_
                    refine drawnX_phase env08_ok (fun _ => false) (List.range 14) (.one 13 (.stop)) 0 (lst 14 []) (by kernel_rfl) ?_
                    refine wn ?_
                    refine reqD_dec (by show c.table.toNat * 1 + 1 ≤ (cur.flatMap tabC1).length; rw [flat_len tabC1_len]; omega) ?_
                    refine wn ?_
                    refine forceL_as ((cur.flatMap tabC1).set c.table.toNat (fullT F)) (setR1 _ c.table.toNat _ (by rw [flat_len tabC1_len]; omega)) ?_
                    refine wn ?_
                    refine drawnX_done (by kernel_rfl) ?_
                    refine wn ?_
                    refine i64 ?_
                    refine wn ?_
                    refine ⟨(i + 1, cur.set c.table.toNat F, n - 1), ⟨by show i + 1 ≤ l.length; omega, hap, hmo2, hI2⟩, by show l.length - (i + 1) < l.length - i; omega, ?_⟩
                    refine Tr.trans (Tr.obj 3 (ob := ⟨41, 1, 24, (cur.flatMap tabC1).set c.table.toNat (fullT F)⟩) (by rfl) (cells := (cur.set c.table.toNat F).flatMap tabC1) (set_flat cur c.table.toNat F ▸ Pw.set AC.LeV.refl (AC.LeV.sl AC.Le.sameB))) ?_
                    exact (tid ⟨⟨rfl, rfl, by decide⟩, ⟨rfl, rfl, by decide⟩, ⟨(congrArg some (ob_ren_deep _ (all_flat tabC1_deep _))).symm, ob_lt_deep _ (all_flat tabC1_deep _), by decide⟩, ⟨rfl, rfl, by decide⟩, trivial⟩)
                  · refine wn ?_
                    refine reqD_dec (flat_len rowC1_len F) ?_
                    refine reqD_dec (by simp [ty27]; omega) ?_
                    refine forceL_as ((F ++ T.drop (m + 1)).flatMap rowC1) (List.flatMap_append).symm ?_
                    refine wn ?_
                    refine reqD_dec (by show 0 ≤ c.table ∧ c.table.toNat * 1 < (cur.flatMap tabC1).length; rw [flat_len tabC1_len]; omega) ?_
                    refine wn ?_
                    refine drawnX_phase env08_ok (fun _ => false) (List.range 14) (.one 13 (.stop)) 0 (lst 14 []) (by kernel_rfl) ?_
                    refine wn ?_
                    refine reqD_dec (by show c.table.toNat * 1 + 1 ≤ (cur.flatMap tabC1).length; rw [flat_len tabC1_len]; omega) ?_
                    refine wn ?_
                    refine forceL_as ((cur.flatMap tabC1).set c.table.toNat (.gref 6)) (setR1 _ c.table.toNat _ (by rw [flat_len tabC1_len]; omega)) ?_
                    refine wn ?_
                    refine drawnX_done (by kernel_rfl) ?_
                    refine wn ?_
                    refine i64 ?_
                    refine wn ?_
                    refine ⟨(i + 1, cur.set c.table.toNat (F ++ T.drop (m + 1)), n - 1), ⟨by show i + 1 ≤ l.length; omega, hap, hmo2, hI2⟩, by show l.length - (i + 1) < l.length - i; omega, ?_⟩
                    refine Tr.trans (Tr.frz' (T := 27) (s := 1) (B := 24) (cells := (F ++ T.drop (m + 1)).flatMap rowC1) 6 (F ++ T.drop (m + 1)).length (by rfl) (by decide) (flat_len rowC1_len _) (all_flat rowC1_deep _)) ?_
                    have hX : (cur.set c.table.toNat (F ++ T.drop (m + 1))).flatMap tabC1 = ((cur.flatMap tabC1).set c.table.toNat (.gref 6)).map (·.sub 6 (.sl false 24 (F ++ T.drop (m + 1)).length ((F ++ T.drop (m + 1)).flatMap rowC1))) := by
                      rw [sub_set 6 _ (all_flat tabC1_deep cur), ← set_flat]
                      rfl
                    exact (tid ⟨⟨rfl, rfl, by decide⟩, ⟨rfl, rfl, by decide⟩, ⟨(congrArg some ((ob_ren_deep _ (all_flat tabC1_deep _)).trans (congrArg (Ob.mk 41 1 24) hX))).symm, ob_lt_deep _ (all_flat tabC1_deep _), by decide⟩, ⟨rfl, rfl, by decide⟩, trivial⟩)
          · have h4 : decide (c.old.length > 0) = false := decide_eq_false (by omega)
            refine wn ?_
            refine drawnX_done (by kernel_rfl) ?_
            refine wn ?_
            refine retX_tr (Tr.obj 2 (ob := ⟨25, 0, 0, [nilC]⟩) rfl (cells := [tabsC []]) (Pw.one (AC.LeV.sl (AC.Le.nil (.inl rfl))))) ?_
            refine retX_val rfl ?_
            conv => whnf
            rw [bad 81 cur n (by rw [hst, stepT, h4]; rfl) (by decide)]
            rfl
        | false =>
          have hst := hst false hth
          have hthm : false = true → m < T.length := fun h => by cases h
          refine wn ?_
          refine drawnX_done (by kernel_rfl) ?_
          refine wn ?_
          refine drawnX_phase env08_ok (fun _ => true) (List.range 19) (tks 0 15 (.one 15 (tks 16 3 (.stop)))) 0 (lst 19 []) (by kernel_rfl) ?_
          refine wn ?_
          refine exI_as _ rfl ?_
          refine wn ?_
          refine forkB_dec (fun h4 => ?_) (fun h4 => ?_)
          · have h4 : decide (c.old.length > 0) = true := decide_eq_true (by omega)
            refine wn ?_
            refine drawnX_done (by kernel_rfl) ?_
            refine wn ?_
            refine retX_tr (Tr.obj 2 (ob := ⟨25, 0, 0, [nilC]⟩) rfl (cells := [tabsC []]) (Pw.one (AC.LeV.sl (AC.Le.nil (.inl rfl))))) ?_
            refine retX_val rfl ?_
            conv => whnf
            rw [bad 81 cur n (by rw [hst, stepT, h4]; rfl) (by decide)]
            rfl
          · have h4 : decide (c.old.length > 0) = false := decide_eq_false (by omega)
            have hst : stepC s mode cur n c = if cnt false n c.new > 512 then (2, cur, n) else (0, cur.set c.table.toNat (front m T c.new ++ behind false m T), cnt false n c.new) := hst.trans (by rw [stepT, h4]; rfl)
            refine wn ?_
            refine drawnX_done (by kernel_rfl) ?_
            refine wn ?_
            refine reqD_dec (flat_len rowC1_len T) ?_
            refine wn ?_
            refine reqD_dec (by omega) ?_
            refine exV_as (.one (tabC (T.drop (m)))) (slice_from T _ (m) (by omega)) ?_
            refine wn ?_
            refine reqD_dec (flat_len rowC1_len T) ?_
            refine wn ?_
            refine reqD_dec (by omega) ?_
            refine exV_as (.one (fullT (T.take m))) (slice_full T m (by omega)) ?_
            refine wn ?_
            refine exI_as _ rfl ?_
            refine wn ?_
            refine forkB_dec (fun h6 => ?_) (fun h6 => ?_)
            · have h6 : c.new.length > 0 := by omega
              have ef : front m T c.new = T.take m ++ [c.new] := by rw [front, if_pos h6]
              have ec : cnt false n c.new = n + 1 := by rw [cnt, if_pos h6]; rfl
              refine wn ?_
              refine cle (copied_spec c.new hc.2) callee44 ?_
              rintro x hx rfl
              refine wn ?_
              refine rq ?_
              refine wn ?_
              refine forkB_intro (fun h => absurd h (by simp [ty27])) (fun _ => ?_)
              refine wn ?_
              refine reqD_dec (flat_len rowC1_len _) ?_
              refine reqD_dec (by simp [ty27]; omega) ?_
              refine forceL_as ((front m T c.new).flatMap rowC1) (by rw [ef, List.flatMap_append]; rfl) ?_
              refine wn ?_
              refine exI_i64 (by show -9223372036854775808 ≤ n + 1; omega) (by show n + 1 ≤ 9223372036854775807; omega) ?_
              refine wn ?_
              refine forkB_intro (fun h7 => ?_) (fun h7 => ?_)
              · have h7 : n + 1 > 512 := by simpa using h7
                refine wn ?_
                refine retX_tr (Tr.obj 2 (ob := ⟨25, 0, 0, [nilC]⟩) rfl (cells := [tabsC []]) (Pw.one (AC.LeV.sl (AC.Le.nil (.inl rfl))))) ?_
                refine retX_val rfl ?_
                conv => whnf
                rw [bad 2 cur n (by rw [hst, if_pos (by rw [ec]; exact h7)]) (by decide)]
                rfl
              · have h7 : ¬ n + 1 > 512 := by simpa using h7
                have hst : stepC s mode cur n c = _ := hst.trans (if_neg (by rw [ec]; exact h7))
                obtain ⟨F, hF⟩ : ∃ F, front m T c.new = F := ⟨_, rfl⟩
                have hFl : F.length ≤ 513 := by rw [← hF, ef]; simp; omega
                rw [hF] at hst ef ⊢
                refine wn ?_
                refine drawnX_tr (A1 := apS mode n i cur l s c F (T.drop m) (n + 1)) ?_ (by rfl) ?_
                · refine Tr.trans (Tr.frz' (T := 27) (s := 1) (B := 24) (cells := F.flatMap rowC1) 7 F.length (by rfl) (by decide) (flat_len rowC1_len F) (all_flat rowC1_deep F)) ?_
                  exact (tid ⟨⟨rfl, rfl, by decide⟩, ⟨rfl, rfl, by decide⟩, ⟨(congrArg some ((ob_ren_deep _ (all_flat tabC1_deep cur)).trans (congrArg (Ob.mk 41 1 24) (map_deep (fun c hc => AC.sub_deep 7 _ hc) _ (all_flat tabC1_deep cur)).symm))).symm, ob_lt_deep _ (all_flat tabC1_deep cur), by decide⟩, ⟨rfl, rfl, by decide⟩, ⟨rfl, rfl, by decide⟩, trivial⟩)
                refine drawnX_phase env08_ok (fun id => id == 3 || id == 4 || id == 5) (List.range 13) (tks 0 11 (.one 11 (tks 12 1 (.stop)))) 1 (lst 14 [13]) (by kernel_rfl) ?_
                refine wn ?_
                refine exI_as _ rfl ?_
                refine wn ?_
                refine exI_as _ rfl ?_
                refine wn ?_
                refine reqD_dec (flat_len rowC1_len F) ?_
                refine wn ?_
                refine reqD_dec (by omega) ?_
                refine exV_as (.one (fullT F)) ((slice_full F F.length (Nat.le_refl _)).trans (by rw [List.take_length])) ?_
                refine wn ?_
                refine reqD_dec (flat_len rowC1_len _) ?_
                refine wn ?_
                rw [hst] at hap hmo2
                have hap : applyL s mode l st (countS st) = applyL s mode (l.drop (i + 1)) (cur.set c.table.toNat (F ++ T.drop m)) (n + 1) := by rw [← ec]; exact hap
                have hmo2 : monoL s mode (l.drop (i + 1)) (cur.set c.table.toNat (F ++ T.drop m)) (n + 1) := by rw [← ec]; exact hmo2 rfl
                have hI2 : okI s (cur.set c.table.toNat (F ++ T.drop m)) (n + 1) := by
                  have h8 := stepT_ok (th := false) hI ht hT hml hthm hc (by rw [ec]; omega)
                  rw [hF, ec] at h8
                  exact h8
                refine forkB_intro (fun h8 => ?_) (fun h8 => ?_)
                · have h8 : T.drop m = [] := List.eq_nil_of_length_eq_zero (of_decide_eq_true h8)
                  rw [h8, List.append_nil] at hap hmo2 hI2
                  refine wn ?_
                  refine reqD_dec (by show 0 ≤ c.table ∧ c.table.toNat * 1 < (cur.flatMap tabC1).length; rw [flat_len tabC1_len]; omega) ?_
                  refine wn ?_
                  refine drawnX_phase env08_ok (fun _ => false) (List.range 14) (.one 13 (.stop)) 0 (lst 14 []) (by kernel_rfl) ?_
                  refine wn ?_
                  refine reqD_dec (by show c.table.toNat * 1 + 1 ≤ (cur.flatMap tabC1).length; rw [flat_len tabC1_len]; omega) ?_
                  refine wn ?_
                  refine forceL_as ((cur.flatMap tabC1).set c.table.toNat (fullT F)) (setR1 _ c.table.toNat _ (by rw [flat_len tabC1_len]; omega)) ?_
                  refine wn ?_
                  refine drawnX_done (by kernel_rfl) ?_
                  refine wn ?_
                  refine i64 ?_
                  refine wn ?_
                  refine ⟨(i + 1, cur.set c.table.toNat F, n + 1), ⟨by show i + 1 ≤ l.length; omega, hap, hmo2, hI2⟩, by show l.length - (i + 1) < l.length - i; omega, ?_⟩
                  refine Tr.trans (Tr.obj 3 (ob := ⟨41, 1, 24, (cur.flatMap tabC1).set c.table.toNat (fullT F)⟩) (by rfl) (cells := (cur.set c.table.toNat F).flatMap tabC1) (set_flat cur c.table.toNat F ▸ Pw.set AC.LeV.refl (AC.LeV.sl AC.Le.sameB))) ?_
                  exact (tid ⟨⟨rfl, rfl, by decide⟩, ⟨rfl, rfl, by decide⟩, ⟨(congrArg some (ob_ren_deep _ (all_flat tabC1_deep _))).symm, ob_lt_deep _ (all_flat tabC1_deep _), by decide⟩, ⟨rfl, rfl, by decide⟩, trivial⟩)
                · refine wn ?_
                  refine reqD_dec (flat_len rowC1_len F) ?_
                  refine reqD_dec (by simp [ty27]; omega) ?_
                  refine forceL_as ((F ++ T.drop m).flatMap rowC1) (List.flatMap_append).symm ?_
                  refine wn ?_
                  refine reqD_dec (by show 0 ≤ c.table ∧ c.table.toNat * 1 < (cur.flatMap tabC1).length; rw [flat_len tabC1_len]; omega) ?_
                  refine wn ?_
                  refine drawnX_phase env08_ok (fun _ => false) (List.range 14) (.one 13 (.stop)) 0 (lst 14 []) (by kernel_rfl) ?_
                  refine wn ?_
                  refine reqD_dec (by show c.table.toNat * 1 + 1 ≤ (cur.flatMap tabC1).length; rw [flat_len tabC1_len]; omega) ?_
                  refine wn ?_
                  refine forceL_as ((cur.flatMap tabC1).set c.table.toNat (.gref 6)) (setR1 _ c.table.toNat _ (by rw [flat_len tabC1_len]; omega)) ?_
                  refine wn ?_
                  refine drawnX_done (by kernel_rfl) ?_
                  refine wn ?_
                  refine i64 ?_
                  refine wn ?_
                  refine ⟨(i + 1, cur.set c.table.toNat (F ++ T.drop m), n + 1), ⟨by show i + 1 ≤ l.length; omega, hap, hmo2, hI2⟩, by show l.length - (i + 1) < l.length - i; omega, ?_⟩
                  refine Tr.trans (Tr.frz' (T := 27) (s := 1) (B := 24) (cells := (F ++ T.drop m).flatMap rowC1) 6 (F ++ T.drop m).length (by rfl) (by decide) (flat_len rowC1_len _) (all_flat rowC1_deep _)) ?_
                  have hX : (cur.set c.table.toNat (F ++ T.drop m)).flatMap tabC1 = ((cur.flatMap tabC1).set c.table.toNat (.gref 6)).map (·.sub 6 (.sl false 24 (F ++ T.drop m).length ((F ++ T.drop m).flatMap rowC1))) := by
                    rw [sub_set 6 _ (all_flat tabC1_deep cur), ← set_flat]
                    rfl
                  exact (tid ⟨⟨rfl, rfl, by decide⟩, ⟨rfl, rfl, by decide⟩, ⟨(congrArg some ((ob_ren_deep _ (all_flat tabC1_deep _)).trans (congrArg (Ob.mk 41 1 24) hX))).symm, ob_lt_deep _ (all_flat tabC1_deep _), by decide⟩, ⟨rfl, rfl, by decide⟩, trivial⟩)
            · have h6 : ¬ c.new.length > 0 := by omega
              have ef : front m T c.new = T.take m := by rw [front, if_neg h6]
              have ec : cnt false n c.new = n := by rw [cnt, if_neg h6]; rfl
              refine wn ?_
              refine forkB_intro (fun h7 => ?_) (fun h7 => ?_)
              · have h7 : n > 512 := by simpa using h7
                refine wn ?_
                refine retX_tr (Tr.obj 2 (ob := ⟨25, 0, 0, [nilC]⟩) rfl (cells := [tabsC []]) (Pw.one (AC.LeV.sl (AC.Le.nil (.inl rfl))))) ?_
                refine retX_val rfl ?_
                conv => whnf
                rw [bad 2 cur n (by rw [hst, if_pos (by rw [ec]; exact h7)]) (by decide)]
                rfl
              · have h7 : ¬ n > 512 := by simpa using h7
                have hst : stepC s mode cur n c = _ := hst.trans (if_neg (by rw [ec]; exact h7))
                obtain ⟨F, hF⟩ : ∃ F, front m T c.new = F := ⟨_, rfl⟩
                have hFl : F.length ≤ 513 := by rw [← hF, ef]; simp; omega
                rw [hF] at hst ef
                rw [← ef]
                refine wn ?_
                refine drawnX_tr (A1 := apS mode n i cur l s c F (T.drop m) (n)) ?_ (by rfl) ?_
                · refine Tr.trans (Tr.slot 15 (v := .one (tabC F)) (AV.Le.one (AC.LeV.sl AC.Le.sameB))) ?_
                  exact (tid ⟨⟨rfl, rfl, by decide⟩, ⟨rfl, rfl, by decide⟩, ⟨(congrArg some (ob_ren_deep _ (all_flat tabC1_deep cur))).symm, ob_lt_deep _ (all_flat tabC1_deep cur), by decide⟩, ⟨rfl, rfl, by decide⟩, ⟨rfl, rfl, by decide⟩, trivial⟩)
                refine drawnX_phase env08_ok (fun id => id == 3 || id == 4 || id == 5) (List.range 13) (tks 0 11 (.one 11 (tks 12 1 (.stop)))) 1 (lst 14 [13]) (by kernel_rfl) ?_
                refine wn ?_
                refine exI_as _ rfl ?_
                refine wn ?_
                refine exI_as _ rfl ?_
                refine wn ?_
                refine reqD_dec (flat_len rowC1_len F) ?_
                refine wn ?_
                refine reqD_dec (by omega) ?_
                refine exV_as (.one (fullT F)) ((slice_full F F.length (Nat.le_refl _)).trans (by rw [List.take_length])) ?_
                refine wn ?_
                refine reqD_dec (flat_len rowC1_len _) ?_
                refine wn ?_
                rw [hst] at hap hmo2
                have hap : applyL s mode l st (countS st) = applyL s mode (l.drop (i + 1)) (cur.set c.table.toNat (F ++ T.drop m)) (n) := by rw [← ec]; exact hap
                have hmo2 : monoL s mode (l.drop (i + 1)) (cur.set c.table.toNat (F ++ T.drop m)) (n) := by rw [← ec]; exact hmo2 rfl
                have hI2 : okI s (cur.set c.table.toNat (F ++ T.drop m)) (n) := by
                  have h8 := stepT_ok (th := false) hI ht hT hml hthm hc (by rw [ec]; omega)
                  rw [hF, ec] at h8
                  exact h8
                refine forkB_intro (fun h8 => ?_) (fun h8 => ?_)
                · have h8 : T.drop m = [] := List.eq_nil_of_length_eq_zero (of_decide_eq_true h8)
                  rw [h8, List.append_nil] at hap hmo2 hI2
                  refine wn ?_
                  refine reqD_dec (by show 0 ≤ c.table ∧ c.table.toNat * 1 < (cur.flatMap tabC1).length; rw [flat_len tabC1_len]; omega) ?_
                  refine wn ?_
                  refine drawnX_phase env08_ok (fun _ => false) (List.range 14) (.one 13 (.stop)) 0 (lst 14 []) (by kernel_rfl) ?_
                  refine wn ?_
                  refine reqD_dec (by show c.table.toNat * 1 + 1 ≤ (cur.flatMap tabC1).length; rw [flat_len tabC1_len]; omega) ?_
                  refine wn ?_
                  refine forceL_as ((cur.flatMap tabC1).set c.table.toNat (fullT F)) (setR1 _ c.table.toNat _ (by rw [flat_len tabC1_len]; omega)) ?_
                  refine wn ?_
                  refine drawnX_done (by kernel_rfl) ?_
                  refine wn ?_
                  refine i64 ?_
                  refine wn ?_
                  refine ⟨(i + 1, cur.set c.table.toNat F, n), ⟨by show i + 1 ≤ l.length; omega, hap, hmo2, hI2⟩, by show l.length - (i + 1) < l.length - i; omega, ?_⟩
                  refine Tr.trans (Tr.obj 3 (ob := ⟨41, 1, 24, (cur.flatMap tabC1).set c.table.toNat (fullT F)⟩) (by rfl) (cells := (cur.set c.table.toNat F).flatMap tabC1) (set_flat cur c.table.toNat F ▸ Pw.set AC.LeV.refl (AC.LeV.sl AC.Le.sameB))) ?_
                  exact (tid ⟨⟨rfl, rfl, by decide⟩, ⟨rfl, rfl, by decide⟩, ⟨(congrArg some (ob_ren_deep _ (all_flat tabC1_deep _))).symm, ob_lt_deep _ (all_flat tabC1_deep _), by decide⟩, ⟨rfl, rfl, by decide⟩, trivial⟩)
                · refine wn ?_
                  refine reqD_dec (flat_len rowC1_len F) ?_
                  refine reqD_dec (by simp [ty27]; omega) ?_
                  refine forceL_as ((F ++ T.drop m).flatMap rowC1) (List.flatMap_append).symm ?_
                  refine wn ?_
                  refine reqD_dec (by show 0 ≤ c.table ∧ c.table.toNat * 1 < (cur.flatMap tabC1).length; rw [flat_len tabC1_len]; omega) ?_
                  refine wn ?_
                  refine drawnX_phase env08_ok (fun _ => false) (List.range 14) (.one 13 (.stop)) 0 (lst 14 []) (by kernel_rfl) ?_
                  refine wn ?_
                  refine reqD_dec (by show c.table.toNat * 1 + 1 ≤ (cur.flatMap tabC1).length; rw [flat_len tabC1_len]; omega) ?_
                  refine wn ?_
                  refine forceL_as ((cur.flatMap tabC1).set c.table.toNat (.gref 6)) (setR1 _ c.table.toNat _ (by rw [flat_len tabC1_len]; omega)) ?_
                  refine wn ?_
                  refine drawnX_done (by kernel_rfl) ?_
                  refine wn ?_
                  refine i64 ?_
                  refine wn ?_
                  refine ⟨(i + 1, cur.set c.table.toNat (F ++ T.drop m), n), ⟨by show i + 1 ≤ l.length; omega, hap, hmo2, hI2⟩, by show l.length - (i + 1) < l.length - i; omega, ?_⟩
                  refine Tr.trans (Tr.frz' (T := 27) (s := 1) (B := 24) (cells := (F ++ T.drop m).flatMap rowC1) 6 (F ++ T.drop m).length (by rfl) (by decide) (flat_len rowC1_len _) (all_flat rowC1_deep _)) ?_
                  have hX : (cur.set c.table.toNat (F ++ T.drop m)).flatMap tabC1 = ((cur.flatMap tabC1).set c.table.toNat (.gref 6)).map (·.sub 6 (.sl false 24 (F ++ T.drop m).length ((F ++ T.drop m).flatMap rowC1))) := by
                    rw [sub_set 6 _ (all_flat tabC1_deep cur), ← set_flat]
                    rfl
                  exact (tid ⟨⟨rfl, rfl, by decide⟩, ⟨rfl, rfl, by decide⟩, ⟨(congrArg some ((ob_ren_deep _ (all_flat tabC1_deep _)).trans (congrArg (Ob.mk 41 1 24) hX))).symm, ob_lt_deep _ (all_flat tabC1_deep _), by decide⟩, ⟨rfl, rfl, by decide⟩, trivial⟩)
    · have ei : i = l.length := by have h3 : ¬ (i : Int) < l.length := h3; omega
      rw [List.drop_eq_nil_of_le (by omega), applyL] at hap
      refine wn ?_
      refine retX_tr (Tr.frz' (T := 41) (s := 1) (B := 24) (cells := cur.flatMap tabC1) 3 cur.length (by rfl) (by decide) (flat_len tabC1_len cur) (all_flat tabC1_deep cur)) ?_
      refine retX_val rfl ?_
      conv => whnf
      rw [ea, hap]
      rfl
end Go.Proofs.Ve


/-
  VeV8: sorting one element.
-/
set_option linter.unusedVariables false
set_option linter.unusedSimpArgs false
set_option pp.maxSteps 1000
namespace Go.Proofs.Ve
open Go

theorem AV.Le.any {c : AC} : AV.Le (.one c) (.one .any) := fun G nx w v h => by
  cases h with
  | one h => exact .one (.deep (.any v h.one h.cells))

theorem len64_spec : PSpec Try.prog 93 [.one (.int .u64 1)] (fun r => r = .one (.int .i64 1)) := by
  refine pspec_x env08_ok mixed08 Try.func93 rfl 25 rfl _ rfl rfl ?_
  refine wm ?_
  repeat' (first | (refine i64 ?_; refine wm ?_) | (refine exI_as _ rfl ?_; refine wm ?_) | (refine forkB_dec (fun _ => ?_) (fun _ => ?_) <;> refine wm ?_) | (refine forkB_intro (fun _ => ?_) (fun _ => ?_) <;> refine wm ?_))
  refine reqD_dec (by decide) ?_
  refine optD_as 1 (by decide) ?_
  refine wm ?_
  repeat' (first | (refine i64 ?_; refine wm ?_) | (refine exI_as _ rfl ?_; refine wm ?_) | (refine forkB_dec (fun _ => ?_) (fun _ => ?_) <;> refine wm ?_) | (refine forkB_intro (fun _ => ?_) (fun _ => ?_) <;> refine wm ?_))
  refine retX_val rfl ?_
  conv => whnf
  rfl
theorem len_spec : PSpec Try.prog 74 [.one (.int .u64 1)] (fun r => r = .one (.int .i64 1)) := by
  refine pspec_x env08_ok mixed08 Try.func74 rfl 8 rfl _ rfl rfl ?_
  refine wn ?_
  refine cle len64_spec (callee_of Try.func93 rfl rfl) ?_
  rintro x hx rfl
  refine wn ?_
  refine retX_val rfl ?_
  conv => whnf
  rfl
def ord1 : Ob := ⟨3, 1, 8, [.int .i64 0]⟩
theorem ins_spec : OSpec Try.prog 84 [.one (.gref 0), .one (.int .i64 0), .one (.int .i64 1), .one .any] [ord1] (fun r => r = .tup []) := by
  refine ospec_x env08_ok mixed08 Try.func84 rfl 53 rfl _ rfl rfl ?_
  refine wn ?_
  refine i64 ?_
  refine wn ?_
  refine loopX_n env08_ok mixed08 1 ?_
  refine wm ?_
  repeat' (first | (refine i64 ?_; refine wm ?_) | (refine exI_as _ rfl ?_; refine wm ?_) | (refine forkB_dec (fun _ => ?_) (fun _ => ?_) <;> refine wm ?_) | (refine forkB_intro (fun _ => ?_) (fun _ => ?_) <;> refine wm ?_))
  refine retX_obs rfl rfl (by exact Nat.le_of_ble_eq_true rfl) ⟨⟨rfl, rfl⟩, trivial⟩ ?_
  conv => whnf
theorem pdq_spec : OSpec Try.prog 73 [.one (.gref 0), .one (.int .i64 0), .one (.int .i64 1), .one .any, .one .any] [ord1] (fun r => r = .tup []) := by
  refine ospec_x env08_ok mixed08 Try.func73 rfl 148 rfl _ rfl rfl ?_
  refine wn ?_
  refine loopX_n env08_ok mixed08 1 ?_
  refine wm ?_
  repeat' (first | (refine i64 ?_; refine wm ?_) | (refine exI_as _ rfl ?_; refine wm ?_) | (refine forkB_dec (fun _ => ?_) (fun _ => ?_) <;> refine wm ?_) | (refine forkB_intro (fun _ => ?_) (fun _ => ?_) <;> refine wm ?_))
  refine callX_obs ins_spec (callee_of Try.func84 rfl rfl) id (posN 1) rfl rfl (.cons (AV.Le.refl _) (.cons (AV.Le.refl _) (.cons (AV.Le.refl _) (.cons (AV.Le.refl _) .nil)))) (passedN (obs := [ord1]) rfl (by exact Nat.le_of_ble_eq_true rfl) ⟨⟨rfl, rfl⟩, trivial⟩) ?_
  rintro x hx rfl
  refine wm ?_
  repeat' (first | (refine i64 ?_; refine wm ?_) | (refine exI_as _ rfl ?_; refine wm ?_) | (refine forkB_dec (fun _ => ?_) (fun _ => ?_) <;> refine wm ?_) | (refine forkB_intro (fun _ => ?_) (fun _ => ?_) <;> refine wm ?_))
  refine retX_obs rfl rfl (by exact Nat.le_of_ble_eq_true rfl) ⟨⟨rfl, rfl⟩, trivial⟩ ?_
  conv => whnf
theorem sort_spec : OSpec Try.prog 56 [.one (.gref 0), .one .any] [ord1] (fun r => r = .tup []) := by
  refine ospec_x env08_ok mixed08 Try.func56 rfl 14 rfl _ rfl rfl ?_
  refine wn ?_
  refine ⟨1, rfl, ?_⟩
  refine wn ?_
  refine exI_as 1 (by decide) ?_
  refine wn ?_
  refine cle len_spec (callee_of Try.func74 rfl rfl) ?_
  rintro x hx rfl
  refine wn ?_
  refine callX_obs pdq_spec (callee_of Try.func73 rfl rfl) id (posN 1) rfl rfl (.cons (AV.Le.refl _) (.cons (AV.Le.refl _) (.cons (AV.Le.refl _) (.cons AV.Le.any (.cons (AV.Le.refl _) .nil))))) (passedN (obs := [ord1]) rfl (by exact Nat.le_of_ble_eq_true rfl) ⟨⟨rfl, rfl⟩, trivial⟩) ?_
  rintro x hx rfl
  refine wm ?_
  repeat' (first | (refine i64 ?_; refine wm ?_) | (refine exI_as _ rfl ?_; refine wm ?_) | (refine forkB_dec (fun _ => ?_) (fun _ => ?_) <;> refine wm ?_) | (refine forkB_intro (fun _ => ?_) (fun _ => ?_) <;> refine wm ?_))
  refine retX_obs rfl rfl (by exact Nat.le_of_ble_eq_true rfl) ⟨⟨rfl, rfl⟩, trivial⟩ ?_
  conv => whnf
end Go.Proofs.Ve


/-
  VeV9: Net of a row that comes and goes.
-/
set_option linter.unusedVariables false
set_option linter.unusedSimpArgs false
set_option pp.maxSteps 1000
set_option maxHeartbeats 2000000
namespace Go.Proofs.Ve
open Go

def npS (s : Sch) (mode t : Int) (r key : Row) : Nat → AS
  | 0 => AS.of 148 0 3 [(1, .one (.int .i64 mode)), (3, .one (.ptr 0 0)), (9, .one (.ptr 1 0)), (10, .one (.ptr 2 0)), (33, .one (chgsC [⟨t, [], r⟩, ⟨t, r, []⟩])), (34, .one (.int .i64 2)), (35, .one (.int .i64 0))]
      [(0, ⟨32, 0, 0, schC s⟩), (1, ⟨56, 0, 0, [nilC]⟩), (2, ⟨41, 0, 0, [nilC]⟩)]
  | 1 => AS.of 148 0 5 [(1, .one (.int .i64 mode)), (3, .one (.ptr 0 0)), (9, .one (.ptr 1 0)), (10, .one (.ptr 2 0)), (33, .one (chgsC [⟨t, [], r⟩, ⟨t, r, []⟩])), (34, .one (.int .i64 2)), (35, .one (.int .i64 1))]
      [(0, ⟨32, 0, 0, schC s⟩), (1, ⟨56, 0, 0, [.gref 3]⟩), (2, ⟨41, 0, 0, [.gref 4]⟩), (3, ⟨60, 3, 56, [.int .i64 t, rowC [], rowC r]⟩), (4, ⟨27, 1, 24, [rowC key]⟩)]
  | _ => AS.of 148 0 5 [(1, .one (.int .i64 mode)), (3, .one (.ptr 0 0)), (9, .one (.ptr 1 0)), (10, .one (.ptr 2 0)), (33, .one (chgsC [⟨t, [], r⟩, ⟨t, r, []⟩])), (34, .one (.int .i64 2)), (35, .one (.int .i64 2))]
      [(0, ⟨32, 0, 0, schC s⟩), (1, ⟨56, 0, 0, [.gref 3]⟩), (2, ⟨41, 0, 0, [.gref 4]⟩), (3, ⟨60, 3, 56, [.int .i64 t, rowC [], rowC []]⟩), (4, ⟨27, 1, 24, [rowC key]⟩)]

theorem net_pair (s : Sch) (mode t : Int) (r key : Row) (hm : 1 ≤ mode ∧ mode ≤ 3) (h53 : PSpec Try.prog 53 [.agg (schC s)] (fun x => x = .one (.int .i64 0))) (hr : okR r) (hkr : okR key)
    (hv1 : validC s mode ⟨t, [], r⟩ = true) (hv2 : validC s mode ⟨t, r, []⟩ = true) (hk1 : keyC s ⟨t, [], r⟩ = key) (hk2 : keyC s ⟨t, r, []⟩ = key) (hkk : cmpR key key = 0) (hrr : cmpR r r = 0) :
    PSpec Try.prog 32 [.agg (schC s), .one (.int .i64 mode), .one (chgsC [⟨t, [], r⟩, ⟨t, r, []⟩])] (fun x => x = .tup [.one (chgsC []), .one (.int .i64 0)]) := by
  refine pspec_x env08_ok mixed08 Try.func32 rfl 148 rfl _ rfl rfl ?_
  have h0 : okR [] := Nat.zero_le _
  refine wn ?_
  refine cle h53 (callee_of Try.func53 rfl rfl) ?_
  rintro x hx rfl
  refine wn ?_
  refine forkB_dec (fun h => absurd h (by omega)) (fun _ => ?_)
  refine wn ?_
  refine forkB_dec (fun h => absurd h (by omega)) (fun _ => ?_)
  refine wm ?_
  repeat' (first | (refine i64 ?_; refine wm ?_) | (refine exI_as _ rfl ?_; refine wm ?_) | (refine forkB_dec (fun _ => ?_) (fun _ => ?_) <;> refine wm ?_) | (refine forkB_intro (fun _ => ?_) (fun _ => ?_) <;> refine wm ?_))
  refine loopX_of env08_ok mixed08 (σ := Nat) (npS s mode t r key) (fun i => i ≤ 2) (fun i => 2 - i) 0 (fun i => by match i with | 0 => rfl | 1 => rfl | i + 2 => rfl) tid (by decide) ?_
  intro i hi
  match i, hi with
  | 0, _ =>
    refine wm ?_
    repeat' (first | (refine i64 ?_; refine wm ?_) | (refine exI_as _ rfl ?_; refine wm ?_) | (refine forkB_dec (fun _ => ?_) (fun _ => ?_) <;> refine wm ?_) | (refine forkB_intro (fun _ => ?_) (fun _ => ?_) <;> refine wm ?_))
    refine rq ?_
    refine wn ?_
    refine cle (validC_spec s mode ⟨t, [], r⟩ ⟨h0, hr⟩) (callee_of Try.func50 rfl rfl) ?_
    rw [hv1]
    rintro x hx rfl
    refine wm ?_
    repeat' (first | (refine i64 ?_; refine wm ?_) | (refine exI_as _ rfl ?_; refine wm ?_) | (refine forkB_dec (fun _ => ?_) (fun _ => ?_) <;> refine wm ?_) | (refine forkB_intro (fun _ => ?_) (fun _ => ?_) <;> refine wm ?_))
    refine cle (keyOf_spec s ⟨t, [], r⟩ h0 hr) (callee_of Try.func52 rfl rfl) ?_
    rw [hk1]
    rintro x hx rfl
    refine wm ?_
    repeat' (first | (refine i64 ?_; refine wm ?_) | (refine exI_as _ rfl ?_; refine wm ?_) | (refine forkB_dec (fun _ => ?_) (fun _ => ?_) <;> refine wm ?_) | (refine forkB_intro (fun _ => ?_) (fun _ => ?_) <;> refine wm ?_))
    refine loopX_n env08_ok mixed08 1 ?_
    refine wm ?_
    repeat' (first | (refine i64 ?_; refine wm ?_) | (refine exI_as _ rfl ?_; refine wm ?_) | (refine forkB_dec (fun _ => ?_) (fun _ => ?_) <;> refine wm ?_) | (refine forkB_intro (fun _ => ?_) (fun _ => ?_) <;> refine wm ?_))
    refine drawnX_phase env08_ok (fun id => id < 4) (List.range 16) (tks 0 5 (tks 6 2 (tks 12 2 (.two 5 14 (.two 8 14 (.take 9 (.two 10 14 (.two 11 14 (.one 14 (.one 15 (.stop))) (.one 11 (.one 15 (.stop)))) (.one 10 (.one 11 (.one 15 (.stop)))))) (.one 8 (.take 9 (.one 10 (.one 11 (.one 15 (.stop))))))) (.one 5 (.one 8 (.take 9 (.one 10 (.one 11 (.one 15 (.stop))))))))))) 2 (lst 18 [16, 17]) (by kernel_rfl) ?_
    refine wn ?_
    refine ⟨?_, ?_⟩
    · refine wn ?_
      refine cle (copied_spec ([]) (h0)) callee44 ?_
      rintro x hx rfl
      refine wn ?_
      refine ⟨?_, ?_⟩
      · refine wn ?_
        refine cle (copied_spec (r) (hr)) callee44 ?_
        rintro x hx rfl
        refine wn ?_
        refine ⟨?_, ?_⟩
        · refine wn ?_
          refine ⟨?_, ?_⟩
          · refine wn ?_
            refine rq ?_
            refine wn ?_
            refine forkB_intro (fun h => absurd h (by simp [ty60, ty27])) (fun _ => ?_)
            refine wn ?_
            refine rq ?_
            refine wn ?_
            refine rq ?_
            refine wn ?_
            refine forkB_intro (fun h => absurd h (by simp [ty60, ty27])) (fun _ => ?_)
            refine wn ?_
            refine rq ?_
            refine wn ?_
            refine drawnX_phase env08_ok (fun _ => false) (List.range 18) (.one 16 (.one 17 (.stop))) 0 (lst 18 []) (by kernel_rfl) ?_
            refine wn ?_
            refine wn ?_
            refine drawnX_done (by kernel_rfl) ?_
            refine wn ?_
            refine exI_as 1 (by decide) ?_
            refine wn ?_
            refine ⟨1, by decide, by decide, ?_⟩
            exact Tr.ofMv2 3 (5) 4 7 rfl rfl (by decide) rfl (by decide) (by exact Nat.le_of_ble_eq_true rfl) (by exact Nat.le_of_ble_eq_true rfl) ⟨⟨rfl, rfl⟩, ⟨rfl, rfl⟩, ⟨rfl, rfl⟩, ⟨rfl, rfl⟩, ⟨rfl, rfl⟩, ⟨rfl, rfl⟩, ⟨rfl, rfl⟩, trivial⟩ ⟨⟨rfl, rfl, by decide⟩, ⟨rfl, rfl, by decide⟩, ⟨rfl, rfl, by decide⟩, ⟨rfl, rfl, by decide⟩, ⟨rfl, rfl, by decide⟩, trivial⟩
          · refine wn ?_
            refine rq ?_
            refine wn ?_
            refine forkB_intro (fun h => absurd h (by simp [ty60, ty27])) (fun _ => ?_)
            refine wn ?_
            refine rq ?_
            refine wn ?_
            refine rq ?_
            refine wn ?_
            refine forkB_intro (fun h => absurd h (by simp [ty60, ty27])) (fun _ => ?_)
            refine wn ?_
            refine rq ?_
            refine wn ?_
            refine drawnX_phase env08_ok (fun _ => false) (List.range 18) (.one 16 (.one 17 (.stop))) 0 (lst 18 []) (by kernel_rfl) ?_
            refine wn ?_
            refine wn ?_
            refine drawnX_done (by kernel_rfl) ?_
            refine wn ?_
            refine exI_as 1 (by decide) ?_
            refine wn ?_
            refine ⟨1, by decide, by decide, ?_⟩
            exact Tr.ofMv2 3 (6) 4 7 rfl rfl (by decide) rfl (by decide) (by exact Nat.le_of_ble_eq_true rfl) (by exact Nat.le_of_ble_eq_true rfl) ⟨⟨rfl, rfl⟩, ⟨rfl, rfl⟩, ⟨rfl, rfl⟩, ⟨rfl, rfl⟩, ⟨rfl, rfl⟩, ⟨rfl, rfl⟩, ⟨rfl, rfl⟩, trivial⟩ ⟨⟨rfl, rfl, by decide⟩, ⟨rfl, rfl, by decide⟩, ⟨rfl, rfl, by decide⟩, ⟨rfl, rfl, by decide⟩, ⟨rfl, rfl, by decide⟩, trivial⟩
        · refine wn ?_
          refine rq ?_
          refine wn ?_
          refine forkB_intro (fun h => absurd h (by simp [ty60, ty27])) (fun _ => ?_)
          refine wn ?_
          refine rq ?_
          refine wn ?_
          refine rq ?_
          refine wn ?_
          refine forkB_intro (fun h => absurd h (by simp [ty60, ty27])) (fun _ => ?_)
          refine wn ?_
          refine rq ?_
          refine wn ?_
          refine drawnX_phase env08_ok (fun _ => false) (List.range 18) (.one 16 (.one 17 (.stop))) 0 (lst 18 []) (by kernel_rfl) ?_
          refine wn ?_
          refine wn ?_
          refine drawnX_done (by kernel_rfl) ?_
          refine wn ?_
          refine exI_as 1 (by decide) ?_
          refine wn ?_
          refine ⟨1, by decide, by decide, ?_⟩
          exact Tr.ofMv2 3 (6) 4 7 rfl rfl (by decide) rfl (by decide) (by exact Nat.le_of_ble_eq_true rfl) (by exact Nat.le_of_ble_eq_true rfl) ⟨⟨rfl, rfl⟩, ⟨rfl, rfl⟩, ⟨rfl, rfl⟩, ⟨rfl, rfl⟩, ⟨rfl, rfl⟩, ⟨rfl, rfl⟩, ⟨rfl, rfl⟩, trivial⟩ ⟨⟨rfl, rfl, by decide⟩, ⟨rfl, rfl, by decide⟩, ⟨rfl, rfl, by decide⟩, ⟨rfl, rfl, by decide⟩, ⟨rfl, rfl, by decide⟩, trivial⟩
      · refine wn ?_
        refine cle (copied_spec (r) (hr)) callee44 ?_
        rintro x hx rfl
        refine wn ?_
        refine rq ?_
        refine wn ?_
        refine forkB_intro (fun h => absurd h (by simp [ty60, ty27])) (fun _ => ?_)
        refine wn ?_
        refine rq ?_
        refine wn ?_
        refine rq ?_
        refine wn ?_
        refine forkB_intro (fun h => absurd h (by simp [ty60, ty27])) (fun _ => ?_)
        refine wn ?_
        refine rq ?_
        refine wn ?_
        refine drawnX_phase env08_ok (fun _ => false) (List.range 18) (.one 16 (.one 17 (.stop))) 0 (lst 18 []) (by kernel_rfl) ?_
        refine wn ?_
        refine wn ?_
        refine drawnX_done (by kernel_rfl) ?_
        refine wn ?_
        refine exI_as 1 (by decide) ?_
        refine wn ?_
        refine ⟨1, by decide, by decide, ?_⟩
        exact Tr.ofMv2 3 (6) 4 7 rfl rfl (by decide) rfl (by decide) (by exact Nat.le_of_ble_eq_true rfl) (by exact Nat.le_of_ble_eq_true rfl) ⟨⟨rfl, rfl⟩, ⟨rfl, rfl⟩, ⟨rfl, rfl⟩, ⟨rfl, rfl⟩, ⟨rfl, rfl⟩, ⟨rfl, rfl⟩, ⟨rfl, rfl⟩, trivial⟩ ⟨⟨rfl, rfl, by decide⟩, ⟨rfl, rfl, by decide⟩, ⟨rfl, rfl, by decide⟩, ⟨rfl, rfl, by decide⟩, ⟨rfl, rfl, by decide⟩, trivial⟩
    · refine wn ?_
      refine cle (copied_spec ([]) (h0)) callee44 ?_
      rintro x hx rfl
      refine wn ?_
      refine cle (copied_spec (r) (hr)) callee44 ?_
      rintro x hx rfl
      refine wn ?_
      refine rq ?_
      refine wn ?_
      refine forkB_intro (fun h => absurd h (by simp [ty60, ty27])) (fun _ => ?_)
      refine wn ?_
      refine rq ?_
      refine wn ?_
      refine rq ?_
      refine wn ?_
      refine forkB_intro (fun h => absurd h (by simp [ty60, ty27])) (fun _ => ?_)
      refine wn ?_
      refine rq ?_
      refine wn ?_
      refine drawnX_phase env08_ok (fun _ => false) (List.range 18) (.one 16 (.one 17 (.stop))) 0 (lst 18 []) (by kernel_rfl) ?_
      refine wn ?_
      refine wn ?_
      refine drawnX_done (by kernel_rfl) ?_
      refine wn ?_
      refine exI_as 1 (by decide) ?_
      refine wn ?_
      refine ⟨1, by decide, by decide, ?_⟩
      exact Tr.ofMv2 3 (6) 4 7 rfl rfl (by decide) rfl (by decide) (by exact Nat.le_of_ble_eq_true rfl) (by exact Nat.le_of_ble_eq_true rfl) ⟨⟨rfl, rfl⟩, ⟨rfl, rfl⟩, ⟨rfl, rfl⟩, ⟨rfl, rfl⟩, ⟨rfl, rfl⟩, ⟨rfl, rfl⟩, ⟨rfl, rfl⟩, trivial⟩ ⟨⟨rfl, rfl, by decide⟩, ⟨rfl, rfl, by decide⟩, ⟨rfl, rfl, by decide⟩, ⟨rfl, rfl, by decide⟩, ⟨rfl, rfl, by decide⟩, trivial⟩
  | 1, _ =>
    refine wm ?_
    repeat' (first | (refine i64 ?_; refine wm ?_) | (refine exI_as _ rfl ?_; refine wm ?_) | (refine forkB_dec (fun _ => ?_) (fun _ => ?_) <;> refine wm ?_) | (refine forkB_intro (fun _ => ?_) (fun _ => ?_) <;> refine wm ?_))
    try (refine rq ?_)
    refine wn ?_
    refine cle (validC_spec s mode ⟨t, r, []⟩ ⟨hr, h0⟩) (callee_of Try.func50 rfl rfl) ?_
    rw [hv2]
    rintro x hx rfl
    refine wm ?_
    repeat' (first | (refine i64 ?_; refine wm ?_) | (refine exI_as _ rfl ?_; refine wm ?_) | (refine forkB_dec (fun _ => ?_) (fun _ => ?_) <;> refine wm ?_) | (refine forkB_intro (fun _ => ?_) (fun _ => ?_) <;> refine wm ?_))
    refine cle (keyOf_spec s ⟨t, r, []⟩ hr h0) (callee_of Try.func52 rfl rfl) ?_
    rw [hk2]
    rintro x hx rfl
    refine wm ?_
    repeat' (first | (refine i64 ?_; refine wm ?_) | (refine exI_as _ rfl ?_; refine wm ?_) | (refine forkB_dec (fun _ => ?_) (fun _ => ?_) <;> refine wm ?_) | (refine forkB_intro (fun _ => ?_) (fun _ => ?_) <;> refine wm ?_))
    refine ⟨1, rfl, ?_⟩
    refine wm ?_
    repeat' (first | (refine i64 ?_; refine wm ?_) | (refine exI_as _ rfl ?_; refine wm ?_) | (refine forkB_dec (fun _ => ?_) (fun _ => ?_) <;> refine wm ?_) | (refine forkB_intro (fun _ => ?_) (fun _ => ?_) <;> refine wm ?_))
    refine loopX_n env08_ok mixed08 2 ?_
    refine wm ?_
    repeat' (first | (refine i64 ?_; refine wm ?_) | (refine exI_as _ rfl ?_; refine wm ?_) | (refine forkB_dec (fun _ => ?_) (fun _ => ?_) <;> refine wm ?_) | (refine forkB_intro (fun _ => ?_) (fun _ => ?_) <;> refine wm ?_))
    try (refine rq ?_)
    refine wn ?_
    refine forkB_intro (fun _ => ?_) (fun h => absurd h (by simp))
    refine wn ?_
    refine cle (compareRows_spec key key (by unfold okR at hkr; omega) (by unfold okR at hkr; omega)) callee42 ?_
    rw [hkk]
    rintro x hx rfl
    refine wm ?_
    repeat' (first | (refine i64 ?_; refine wm ?_) | (refine exI_as _ rfl ?_; refine wm ?_) | (refine forkB_dec (fun _ => ?_) (fun _ => ?_) <;> refine wm ?_) | (refine forkB_intro (fun _ => ?_) (fun _ => ?_) <;> refine wm ?_))
    refine drawnX_phase env08_ok (fun _ => true) (List.range 9) (tks 0 7 (.one 7 (tks 8 1 (.stop)))) 0 (lst 9 []) (by kernel_rfl) ?_
    refine wn ?_
    try (refine rq ?_)
    refine wn ?_
    refine cle (compareRows_spec r r (by unfold okR at hr; omega) (by unfold okR at hr; omega)) callee42 ?_
    rw [hrr]
    rintro x hx rfl
    refine wm ?_
    repeat' (first | (refine i64 ?_; refine wm ?_) | (refine exI_as _ rfl ?_; refine wm ?_) | (refine forkB_dec (fun _ => ?_) (fun _ => ?_) <;> refine wm ?_) | (refine forkB_intro (fun _ => ?_) (fun _ => ?_) <;> refine wm ?_))
    refine drawnX_done (by kernel_rfl) ?_
    refine wn ?_
    refine drawnX_phase env08_ok (fun _ => true) (List.range 7) (tks 0 4 (.one 4 (tks 5 2 (.stop)))) 1 (lst 8 [7]) (by kernel_rfl) ?_
    refine wn ?_
    refine cle (copied_spec [] h0) callee44 ?_
    rintro x hx rfl
    refine wn ?_
    try (refine rq ?_)
    refine wn ?_
    refine drawnX_phase env08_ok (fun _ => false) (List.range 8) (.one 7 (.stop)) 0 (lst 8 []) (by kernel_rfl) ?_
    refine wn ?_
    refine drawnX_done (by kernel_rfl) ?_
    refine wn ?_
    refine exI_as 2 (by decide) ?_
    refine wn ?_
    exact ⟨2, by decide, by decide, tid⟩
  | 2, _ =>
    refine wm ?_
    repeat' (first | (refine i64 ?_; refine wm ?_) | (refine exI_as _ rfl ?_; refine wm ?_) | (refine forkB_dec (fun _ => ?_) (fun _ => ?_) <;> refine wm ?_) | (refine forkB_intro (fun _ => ?_) (fun _ => ?_) <;> refine wm ?_))
    refine ⟨1, rfl, ?_⟩
    refine wm ?_
    repeat' (first | (refine i64 ?_; refine wm ?_) | (refine exI_as _ rfl ?_; refine wm ?_) | (refine forkB_dec (fun _ => ?_) (fun _ => ?_) <;> refine wm ?_) | (refine forkB_intro (fun _ => ?_) (fun _ => ?_) <;> refine wm ?_))
    try (refine rq ?_)
    refine wn ?_
    try (refine rq ?_)
    refine wn ?_
    refine ⟨1, rfl, ?_⟩
    refine wm ?_
    repeat' (first | (refine i64 ?_; refine wm ?_) | (refine exI_as _ rfl ?_; refine wm ?_) | (refine forkB_dec (fun _ => ?_) (fun _ => ?_) <;> refine wm ?_) | (refine forkB_intro (fun _ => ?_) (fun _ => ?_) <;> refine wm ?_))
    refine loopX_n env08_ok mixed08 2 ?_
    refine wm ?_
    repeat' (first | (refine i64 ?_; refine wm ?_) | (refine exI_as _ rfl ?_; refine wm ?_) | (refine forkB_dec (fun _ => ?_) (fun _ => ?_) <;> refine wm ?_) | (refine forkB_intro (fun _ => ?_) (fun _ => ?_) <;> refine wm ?_))
    try (refine rq ?_)
    refine wn ?_
    try (refine rq ?_)
    refine wn ?_
    refine wm ?_
    repeat' (first | (refine i64 ?_; refine wm ?_) | (refine exI_as _ rfl ?_; refine wm ?_) | (refine forkB_dec (fun _ => ?_) (fun _ => ?_) <;> refine wm ?_) | (refine forkB_intro (fun _ => ?_) (fun _ => ?_) <;> refine wm ?_))
    refine callX_obs sort_spec (callee_of Try.func56 rfl rfl) (fun _ => 5) (fun j => if j = 5 then some 0 else none) (avs := [.one (.gref 5), .one .any]) rfl rfl (.cons (AV.Le.refl _) (.cons AV.Le.any .nil)) (passed1 (args := [.one (.gref 0), .one .any]) 5 rfl (by exact Nat.le_of_ble_eq_true rfl) rfl rfl) ?_
    rintro x hx rfl
    refine wm ?_
    repeat' (first | (refine i64 ?_; refine wm ?_) | (refine exI_as _ rfl ?_; refine wm ?_) | (refine forkB_dec (fun _ => ?_) (fun _ => ?_) <;> refine wm ?_) | (refine forkB_intro (fun _ => ?_) (fun _ => ?_) <;> refine wm ?_))
    refine ⟨1, rfl, ?_⟩
    refine wm ?_
    repeat' (first | (refine i64 ?_; refine wm ?_) | (refine exI_as _ rfl ?_; refine wm ?_) | (refine forkB_dec (fun _ => ?_) (fun _ => ?_) <;> refine wm ?_) | (refine forkB_intro (fun _ => ?_) (fun _ => ?_) <;> refine wm ?_))
    refine loopX_n env08_ok mixed08 2 ?_
    refine wm ?_
    repeat' (first | (refine i64 ?_; refine wm ?_) | (refine exI_as _ rfl ?_; refine wm ?_) | (refine forkB_dec (fun _ => ?_) (fun _ => ?_) <;> refine wm ?_) | (refine forkB_intro (fun _ => ?_) (fun _ => ?_) <;> refine wm ?_))
    try (refine rq ?_)
    refine wn ?_
    try (refine rq ?_)
    refine wn ?_
    refine drawnX_phase env08_ok (fun _ => true) (List.range 12) (tks 0 10 (.one 10 (tks 11 1 (.stop)))) 0 (lst 12 []) (by kernel_rfl) ?_
    refine wn ?_
    try (refine rq ?_)
    refine wn ?_
    try (refine rq ?_)
    refine wn ?_
    refine cle (compareRows_spec [] [] (by decide) (by decide)) callee42 ?_
    rintro x hx rfl
    refine wm ?_
    repeat' (first | (refine i64 ?_; refine wm ?_) | (refine exI_as _ rfl ?_; refine wm ?_) | (refine forkB_dec (fun _ => ?_) (fun _ => ?_) <;> refine wm ?_) | (refine forkB_intro (fun _ => ?_) (fun _ => ?_) <;> refine wm ?_))
    refine drawnX_done (by kernel_rfl) ?_
    refine wn ?_
    refine wm ?_
    repeat' (first | (refine i64 ?_; refine wm ?_) | (refine exI_as _ rfl ?_; refine wm ?_) | (refine forkB_dec (fun _ => ?_) (fun _ => ?_) <;> refine wm ?_) | (refine forkB_intro (fun _ => ?_) (fun _ => ?_) <;> refine wm ?_))
    refine retX_tr (Tr.slot 6 (AV.Le.nilOf (f := chgC) (B := 56) (l := []) rfl)) ?_
    refine retX_val rfl ?_
    conv => whnf
    rfl
end Go.Proofs.Ve


/-
  VeVa: the sanity check: what its calls compute.
-/
set_option linter.unusedVariables false
set_option linter.unusedSimpArgs false
namespace Go.Proofs.Ve
open Go

theorem tw_get {α : Type} (p : α → Bool) : ∀ (l : List α) (i : Nat) (h : i < l.length), i < (l.takeWhile p).length → p l[i] = true
  | a :: l, i, h, hi => by
    rw [List.takeWhile_cons] at hi
    cases ha : p a with
    | false => rw [ha] at hi; simp at hi
    | true =>
      rw [ha] at hi
      cases i with
      | zero => exact ha
      | succ i => exact tw_get p l i (by simpa using h) (by simpa using hi)
/-- Mono, as a check. -/
def monoB (s : Sch) (t : Int) (l : Tab) (key : Row) : Bool := (l.drop (low s t l key)).all fun r => decide (cmpR (keyR s t r) key ≥ 0)
theorem monoB_spec {s : Sch} {t : Int} {l : Tab} {key : Row} (h : monoB s t l key = true) : Mono s t l key := fun i hi => by
  unfold monoB at h
  constructor
  · intro hc
    rcases Nat.lt_or_ge i (low s t l key) with h1 | h1
    · have := tw_get _ l i hi h1
      have := of_decide_eq_true this
      omega
    · exact h1
  · intro hc
    have hm : l[i] ∈ l.drop (low s t l key) := by
      rw [List.mem_drop_iff_getElem]
      exact ⟨i - low s t l key, by omega, by congr 1; omega⟩
    exact of_decide_eq_true (List.all_eq_true.1 h _ hm)
def monoLB (s : Sch) (mode : Int) : List Chg → St → Int → Bool
  | [], _, _ => true
  | c :: r, cur, n => (!validC s mode c || monoB s c.table (tabAt cur c.table) (keyC s c)) && (!decide ((stepC s mode cur n c).1 = 0) || monoLB s mode r (stepC s mode cur n c).2.1 (stepC s mode cur n c).2.2)
theorem monoLB_spec {s : Sch} {mode : Int} : ∀ {l : List Chg} {cur : St} {n : Int}, monoLB s mode l cur n = true → monoL s mode l cur n
  | [], _, _, _ => trivial
  | c :: r, cur, n, h => by
    unfold monoLB at h
    simp only [Bool.and_eq_true, Bool.or_eq_true, Bool.not_eq_true', decide_eq_false_iff_not] at h
    refine ⟨fun hv => ?_, fun h0 => ?_⟩
    · rcases h.1 with h1 | h1
      · rw [hv] at h1; cases h1
      · exact monoB_spec h1
    · rcases h.2 with h1 | h1
      · exact absurd h0 h1
      · exact monoLB_spec h1

def bs (l : List UInt8) : ByteArray := ⟨l.toArray⟩
def bgS : Sch := ⟨0, [⟨⟨#[116]⟩, [⟨⟨#[105, 100]⟩, 4⟩, ⟨⟨#[110, 97, 109, 101]⟩, 5⟩], 1, [], []⟩]⟩
def bgT : St := [[namedR 1 ⟨#[97]⟩]]
def bgR : Row := namedR 2 ⟨#[98]⟩
def bgL : List Chg := [⟨0, [], bgR⟩, ⟨0, bgR, []⟩]
def bgC : List Chg := [⟨0, [], namedR 1 ⟨#[99]⟩⟩]
theorem bg_e : schE bgS = 0 := by kernel_rfl
theorem bg_check : checkS bgS 0 1 bgT = 0 := by kernel_rfl
theorem bg_apply : applyS bgS 0 1 bgT bgL = (bgT, 0) := by kernel_rfl
theorem bg_apply2 : applyS bgS 0 1 bgT bgC = ([], 81) := by kernel_rfl
theorem bg_mono : monoLB bgS 1 bgL bgT (countS bgT) = true := by kernel_rfl
theorem bg_mono2 : monoLB bgS 1 bgC bgT (countS bgT) = true := by kernel_rfl
theorem bg_v1 : validC bgS 1 ⟨0, [], bgR⟩ = true := by kernel_rfl
theorem bg_v2 : validC bgS 1 ⟨0, bgR, []⟩ = true := by kernel_rfl
def bgK : Row := [⟨4, 2, ⟨#[]⟩⟩]
theorem bg_k1 : keyC bgS ⟨0, [], bgR⟩ = bgK := by kernel_rfl
theorem bg_k2 : keyC bgS ⟨0, bgR, []⟩ = bgK := by kernel_rfl
theorem bg_kk : cmpR bgK bgK = 0 := by kernel_rfl
theorem bg_rr : cmpR bgR bgR = 0 := by kernel_rfl
theorem bg_within : withinFrom bgS bgT 0 bgT = true := by kernel_rfl
theorem bg_count : countS bgT = 1 := by kernel_rfl
theorem bg_okS : okS bgS := ⟨by decide, by
  intro T hT
  simp only [bgS, List.mem_singleton] at hT
  subst hT
  refine ⟨by unfold okN; decide, by decide, ?_, ⟨by decide, fun r hr => by cases hr⟩, by decide⟩
  intro c hc
  simp only [List.mem_cons, List.not_mem_nil, or_false] at hc
  rcases hc with rfl | rfl <;> unfold okN <;> decide⟩
theorem bg_schema : PSpec Try.prog 53 [.agg (schC bgS)] (fun x => x = .one (.int .i64 0)) := by
  have := schema_spec bgS bg_okS (by simp [bgS])
  rw [bg_e] at this
  exact this
theorem named_ok (i : Int) (t : ByteArray) : okR (namedR i t) := by show 2 ≤ 4398046511104; decide
theorem bg_okT : ∀ l ∈ bgT, okT l := by
  intro l hl
  simp only [bgT, List.mem_singleton] at hl
  subst hl
  refine ⟨by decide, fun r hr => ?_⟩
  simp only [List.mem_singleton] at hr
  subst hr
  exact named_ok _ _
theorem bg_spec1 : PSpec Try.prog 23 [.agg (schC bgS), .one (.int .i64 1), .agg (stC bgT), .one (chgsC bgL)] (fun r => r = applyV (bgT, 0)) := by
  have := apply_spec bgS 0 1 bgT bgL bg_schema (by decide) bg_okT (by rw [bg_count]; decide) (by decide) (by
    intro c hc
    simp only [bgL, List.mem_cons, List.not_mem_nil, or_false] at hc
    rcases hc with rfl | rfl
    · exact ⟨Nat.zero_le _, named_ok _ _⟩
    · exact ⟨named_ok _ _, Nat.zero_le _⟩) (fun _ => monoLB_spec bg_mono)
  rw [bg_apply] at this
  exact this
theorem bg_spec2 : PSpec Try.prog 23 [.agg (schC bgS), .one (.int .i64 1), .agg (stC bgT), .one (chgsC bgC)] (fun r => r = applyV ([], 81)) := by
  have := apply_spec bgS 0 1 bgT bgC bg_schema (by decide) bg_okT (by rw [bg_count]; decide) (by decide) (by
    intro c hc
    simp only [bgC, List.mem_cons, List.not_mem_nil, or_false] at hc
    subst hc
    exact ⟨Nat.zero_le _, named_ok _ _⟩) (fun _ => monoLB_spec bg_mono2)
  rw [bg_apply2] at this
  exact this
theorem bg_net : PSpec Try.prog 32 [.agg (schC bgS), .one (.int .i64 1), .one (chgsC bgL)] (fun x => x = .tup [.one (chgsC []), .one (.int .i64 0)]) :=
  net_pair bgS 1 0 bgR bgK (by decide) bg_schema (named_ok _ _) (by unfold okR; decide) bg_v1 bg_v2 bg_k1 bg_k2 bg_kk bg_rr
theorem bg_withinS : PSpec Try.prog 48 [.agg (schC bgS), .agg (stC bgT), .agg (stC bgT)] (fun x => x = .one (.bool true)) := by
  have := within_spec bgS bgT bgT (by decide) bg_okT bg_okT
  rw [bg_within] at this
  exact this
theorem bg_countS : PSpec Try.prog 13 [.agg (stC bgT)] (fun r => r = .one (.int .i64 1)) := by
  have := count_spec bgT (by decide) (by rw [bg_count]; decide)
  rw [bg_count] at this
  exact this
end Go.Proofs.Ve


/-
  VeVb: the sanity check 'begun' is true.
-/
set_option linter.unusedVariables false
set_option linter.unusedSimpArgs false
set_option pp.maxSteps 1000
set_option maxHeartbeats 2000000
namespace Go.Proofs.Ve
open Go

theorem nilLe {α : Type} {f : α → List AC} {B : Nat} : AC.LeV (.sl true 0 0 []) (slC f B []) := AC.LeV.sl (AC.Le.nil (.inl rfl))
theorem bg_okL : ∀ c ∈ bgL, okC c := by
  intro c hc
  simp only [bgL, List.mem_cons, List.not_mem_nil, or_false] at hc
  rcases hc with rfl | rfl
  · exact ⟨Nat.zero_le _, named_ok _ _⟩
  · exact ⟨named_ok _ _, Nat.zero_le _⟩
theorem begun_spec : PSpec Try.prog 22 [] (fun r => r = .one (.bool true)) := by
  refine pspec_x env08_ok mixed08 Try.func22 rfl 79 rfl _ rfl rfl ?_
  refine wn ?_
  refine callX_tr (A1 := AS.of 79 0 3 [(1, .one (.ptr 2 0))] [(2, ⟨32, 0, 0, schC bgS⟩)]) ?_ (by rfl) ?_
  · refine Tr.trans (tfz 50 2 24 ([.str ⟨#[105, 100]⟩, .int .i64 4, .str ⟨#[110, 97, 109, 101]⟩, .int .i64 5]) 0 2) ?_
    refine Tr.trans (Tr.obj 1 (ob := ⟨55, 5, 96, [.str ⟨#[116]⟩, .sl false 24 2 [.str ⟨#[105, 100]⟩, .int .i64 4, .str ⟨#[110, 97, 109, 101]⟩, .int .i64 5], .int .i64 1, .sl true 0 0 [], .sl true 0 0 []]⟩) (by rfl) (cells := tblC ⟨⟨#[116]⟩, [⟨⟨#[105, 100]⟩, 4⟩, ⟨⟨#[110, 97, 109, 101]⟩, 5⟩], 1, [], []⟩)
      (.cons (AC.LeV.refl _) (.cons (AC.LeV.refl _) (.cons (AC.LeV.refl _) (.cons nilLe (.cons nilLe .nil)))))) ?_
    refine Tr.trans (tfz 55 5 96 (tblC ⟨⟨#[116]⟩, [⟨⟨#[105, 100]⟩, 4⟩, ⟨⟨#[110, 97, 109, 101]⟩, 5⟩], 1, [], []⟩) 1 1) ?_
    exact tid
  refine cle (named_spec 1 ⟨#[97]⟩) (callee_of Try.func47 rfl rfl) ?_
  rintro x hx rfl
  refine wn ?_
  refine callX_tr (A1 := AS.of 79 0 6 [(1, .one (.ptr 2 0)), (2, .one (.ptr 5 0))] [(2, ⟨32, 0, 0, schC bgS⟩), (5, ⟨25, 0, 0, stC bgT⟩)]) ?_ (by rfl) ?_
  · refine Tr.trans (tfz 27 1 24 ([rowC (namedR 1 ⟨#[97]⟩)]) 3 1) ?_
    refine Tr.trans (tfz 41 1 24 ([tabC [namedR 1 ⟨#[97]⟩]]) 4 1) ?_
    exact tid
  refine cle (named_spec 2 ⟨#[98]⟩) (callee_of Try.func47 rfl rfl) ?_
  rintro x hx rfl
  refine wn ?_
  refine cle (named_spec 2 ⟨#[98]⟩) (callee_of Try.func47 rfl rfl) ?_
  rintro x hx rfl
  refine wn ?_
  refine callX_tr (A1 := AS.of 79 0 7 [(1, .one (.ptr 2 0)), (2, .one (.ptr 5 0)), (3, .one (chgsC bgL)), (26, .agg (schC bgS)), (27, .agg (stC bgT)), (28, .one (chgsC bgL))] [(2, ⟨32, 0, 0, schC bgS⟩), (5, ⟨25, 0, 0, stC bgT⟩)]) ?_ (by rfl) ?_
  · refine Tr.trans (Tr.obj 6 (ob := ⟨60, 3, 56, [.int .i64 0, .sl true 0 0 [], rowC bgR, .int .i64 0, rowC bgR, .sl true 0 0 []]⟩) (by rfl) (cells := bgL.flatMap chgC)
      (.cons (AC.LeV.refl _) (.cons nilLe (.cons (AC.LeV.refl _) (.cons (AC.LeV.refl _) (.cons (AC.LeV.refl _) (.cons nilLe .nil))))))) ?_
    refine Tr.trans (tfz 60 3 56 (bgL.flatMap chgC) 6 2) ?_
    exact tid
  refine cle bg_spec1 (callee_of Try.func23 rfl rfl) ?_
  rintro x hx rfl
  refine wn ?_
  refine cle bg_net (callee_of Try.func32 rfl rfl) ?_
  rintro x hx rfl
  refine wm ?_
  repeat' (first | (refine i64 ?_; refine wm ?_) | (refine exI_as _ rfl ?_; refine wm ?_) | (refine forkB_dec (fun _ => ?_) (fun _ => ?_) <;> refine wm ?_) | (refine forkB_intro (fun _ => ?_) (fun _ => ?_) <;> refine wm ?_))
  refine drawnX_tr (A1 := AS.of 79 0 8 [(1, .one (.ptr 2 0)), (2, .one (.ptr 5 0)), (3, .one (chgsC bgL)), (4, .one (.ptr 7 0)), (5, .one (.int .i64 0)), (6, .one (chgsC [])), (7, .one (.int .i64 0))] [(2, ⟨32, 0, 0, schC bgS⟩), (5, ⟨25, 0, 0, stC bgT⟩), (7, ⟨25, 0, 0, stC bgT⟩)]) tid (by rfl) ?_
  refine drawnX_phase env08_ok (fun id => id < 8) (List.range 12) (tks 0 2 (.two 2 9 (.take 3 (.two 4 9 (.two 5 9 (.take 6 (.take 7 (.take 8 (.one 9 (.one 10 (.take 11 (.stop))))))) (.one 5 (.take 6 (.take 7 (.take 8 (.one 10 (.take 11 (.stop)))))))) (.one 4 (.one 5 (.take 6 (.take 7 (.take 8 (.one 10 (.take 11 (.stop)))))))))) (.one 2 (.take 3 (.one 4 (.one 5 (.take 6 (.take 7 (.take 8 (.one 10 (.take 11 (.stop)))))))))))) 0 (lst 12 []) (by kernel_rfl) ?_
  refine wn ?_
  refine ⟨?_, ?_⟩
  · refine wn ?_
    refine cle (named_spec 1 ⟨#[99]⟩) (callee_of Try.func47 rfl rfl) ?_
    rintro x hx rfl
    refine wn ?_
    refine ⟨?_, ?_⟩
    · refine wn ?_
      refine ⟨?_, ?_⟩
      · refine wn ?_
        refine callX_tr (Tr.trans (Tr.obj 8 (ob := ⟨60, 3, 56, [.int .i64 0, .sl true 0 0 [], rowC (namedR 1 ⟨#[99]⟩)]⟩) (by rfl) (cells := bgC.flatMap chgC) (.cons (AC.LeV.refl _) (.cons nilLe (.cons (AC.LeV.refl _) .nil))))
          (tfz 60 3 56 (bgC.flatMap chgC) 8 1)) (by rfl) ?_
        refine cle bg_spec2 (callee_of Try.func23 rfl rfl) ?_
        rintro x hx rfl
        refine wn ?_
        refine wm ?_
        repeat' (first | (refine i64 ?_; refine wm ?_) | (refine exI_as _ rfl ?_; refine wm ?_) | (refine forkB_dec (fun _ => ?_) (fun _ => ?_) <;> refine wm ?_) | (refine forkB_intro (fun _ => ?_) (fun _ => ?_) <;> refine wm ?_))
        refine drawnX_done (by kernel_rfl) ?_
        refine wn ?_
        refine wm ?_
        repeat' (first | (refine i64 ?_; refine wm ?_) | (refine exI_as _ rfl ?_; refine wm ?_) | (refine forkB_dec (fun _ => ?_) (fun _ => ?_) <;> refine wm ?_) | (refine forkB_intro (fun _ => ?_) (fun _ => ?_) <;> refine wm ?_))
        refine cle bg_countS callee13 ?_
        rintro x hx rfl
        refine wm ?_
        repeat' (first | (refine i64 ?_; refine wm ?_) | (refine exI_as _ rfl ?_; refine wm ?_) | (refine forkB_dec (fun _ => ?_) (fun _ => ?_) <;> refine wm ?_) | (refine forkB_intro (fun _ => ?_) (fun _ => ?_) <;> refine wm ?_))
        refine cle (invert_spec bgL (by decide) bg_okL) (callee_of Try.func27 rfl rfl) ?_
        rintro x hx rfl
        refine wn ?_
        refine exI_as 2 (by rfl) ?_
        refine wm ?_
        repeat' (first | (refine i64 ?_; refine wm ?_) | (refine exI_as _ rfl ?_; refine wm ?_) | (refine forkB_dec (fun _ => ?_) (fun _ => ?_) <;> refine wm ?_) | (refine forkB_intro (fun _ => ?_) (fun _ => ?_) <;> refine wm ?_))
        refine cle bg_withinS (callee_of Try.func48 rfl rfl) ?_
        rintro x hx rfl
        refine wm ?_
        repeat' (first | (refine i64 ?_; refine wm ?_) | (refine exI_as _ rfl ?_; refine wm ?_) | (refine forkB_dec (fun _ => ?_) (fun _ => ?_) <;> refine wm ?_) | (refine forkB_intro (fun _ => ?_) (fun _ => ?_) <;> refine wm ?_))
        refine retX_val rfl ?_
        conv => whnf
        rfl
      · refine wn ?_
        refine callX_tr (Tr.trans (Tr.obj 8 (ob := ⟨60, 3, 56, [.int .i64 0, .sl true 0 0 [], rowC (namedR 1 ⟨#[99]⟩)]⟩) (by rfl) (cells := bgC.flatMap chgC) (.cons (AC.LeV.refl _) (.cons nilLe (.cons (AC.LeV.refl _) .nil))))
          (tfz 60 3 56 (bgC.flatMap chgC) 8 1)) (by rfl) ?_
        refine cle bg_spec2 (callee_of Try.func23 rfl rfl) ?_
        rintro x hx rfl
        refine wn ?_
        refine wm ?_
        repeat' (first | (refine i64 ?_; refine wm ?_) | (refine exI_as _ rfl ?_; refine wm ?_) | (refine forkB_dec (fun _ => ?_) (fun _ => ?_) <;> refine wm ?_) | (refine forkB_intro (fun _ => ?_) (fun _ => ?_) <;> refine wm ?_))
        refine drawnX_done (by kernel_rfl) ?_
        refine wn ?_
        refine wm ?_
        repeat' (first | (refine i64 ?_; refine wm ?_) | (refine exI_as _ rfl ?_; refine wm ?_) | (refine forkB_dec (fun _ => ?_) (fun _ => ?_) <;> refine wm ?_) | (refine forkB_intro (fun _ => ?_) (fun _ => ?_) <;> refine wm ?_))
        refine cle bg_countS callee13 ?_
        rintro x hx rfl
        refine wm ?_
        repeat' (first | (refine i64 ?_; refine wm ?_) | (refine exI_as _ rfl ?_; refine wm ?_) | (refine forkB_dec (fun _ => ?_) (fun _ => ?_) <;> refine wm ?_) | (refine forkB_intro (fun _ => ?_) (fun _ => ?_) <;> refine wm ?_))
        refine cle (invert_spec bgL (by decide) bg_okL) (callee_of Try.func27 rfl rfl) ?_
        rintro x hx rfl
        refine wn ?_
        refine exI_as 2 (by rfl) ?_
        refine wm ?_
        repeat' (first | (refine i64 ?_; refine wm ?_) | (refine exI_as _ rfl ?_; refine wm ?_) | (refine forkB_dec (fun _ => ?_) (fun _ => ?_) <;> refine wm ?_) | (refine forkB_intro (fun _ => ?_) (fun _ => ?_) <;> refine wm ?_))
        refine cle bg_withinS (callee_of Try.func48 rfl rfl) ?_
        rintro x hx rfl
        refine wm ?_
        repeat' (first | (refine i64 ?_; refine wm ?_) | (refine exI_as _ rfl ?_; refine wm ?_) | (refine forkB_dec (fun _ => ?_) (fun _ => ?_) <;> refine wm ?_) | (refine forkB_intro (fun _ => ?_) (fun _ => ?_) <;> refine wm ?_))
        refine retX_val rfl ?_
        conv => whnf
        rfl
    · refine wn ?_
      refine callX_tr (Tr.trans (Tr.obj 9 (ob := ⟨60, 3, 56, [.int .i64 0, .sl true 0 0 [], rowC (namedR 1 ⟨#[99]⟩)]⟩) (by rfl) (cells := bgC.flatMap chgC) (.cons (AC.LeV.refl _) (.cons nilLe (.cons (AC.LeV.refl _) .nil))))
        (tfz 60 3 56 (bgC.flatMap chgC) 9 1)) (by rfl) ?_
      refine cle bg_spec2 (callee_of Try.func23 rfl rfl) ?_
      rintro x hx rfl
      refine wn ?_
      refine wm ?_
      repeat' (first | (refine i64 ?_; refine wm ?_) | (refine exI_as _ rfl ?_; refine wm ?_) | (refine forkB_dec (fun _ => ?_) (fun _ => ?_) <;> refine wm ?_) | (refine forkB_intro (fun _ => ?_) (fun _ => ?_) <;> refine wm ?_))
      refine drawnX_done (by kernel_rfl) ?_
      refine wn ?_
      refine wm ?_
      repeat' (first | (refine i64 ?_; refine wm ?_) | (refine exI_as _ rfl ?_; refine wm ?_) | (refine forkB_dec (fun _ => ?_) (fun _ => ?_) <;> refine wm ?_) | (refine forkB_intro (fun _ => ?_) (fun _ => ?_) <;> refine wm ?_))
      refine cle bg_countS callee13 ?_
      rintro x hx rfl
      refine wm ?_
      repeat' (first | (refine i64 ?_; refine wm ?_) | (refine exI_as _ rfl ?_; refine wm ?_) | (refine forkB_dec (fun _ => ?_) (fun _ => ?_) <;> refine wm ?_) | (refine forkB_intro (fun _ => ?_) (fun _ => ?_) <;> refine wm ?_))
      refine cle (invert_spec bgL (by decide) bg_okL) (callee_of Try.func27 rfl rfl) ?_
      rintro x hx rfl
      refine wn ?_
      refine exI_as 2 (by rfl) ?_
      refine wm ?_
      repeat' (first | (refine i64 ?_; refine wm ?_) | (refine exI_as _ rfl ?_; refine wm ?_) | (refine forkB_dec (fun _ => ?_) (fun _ => ?_) <;> refine wm ?_) | (refine forkB_intro (fun _ => ?_) (fun _ => ?_) <;> refine wm ?_))
      refine cle bg_withinS (callee_of Try.func48 rfl rfl) ?_
      rintro x hx rfl
      refine wm ?_
      repeat' (first | (refine i64 ?_; refine wm ?_) | (refine exI_as _ rfl ?_; refine wm ?_) | (refine forkB_dec (fun _ => ?_) (fun _ => ?_) <;> refine wm ?_) | (refine forkB_intro (fun _ => ?_) (fun _ => ?_) <;> refine wm ?_))
      refine retX_val rfl ?_
      conv => whnf
      rfl
  · refine wn ?_
    refine cle (named_spec 1 ⟨#[99]⟩) (callee_of Try.func47 rfl rfl) ?_
    rintro x hx rfl
    refine wn ?_
    refine callX_tr (Tr.trans (Tr.obj 9 (ob := ⟨60, 3, 56, [.int .i64 0, .sl true 0 0 [], rowC (namedR 1 ⟨#[99]⟩)]⟩) (by rfl) (cells := bgC.flatMap chgC) (.cons (AC.LeV.refl _) (.cons nilLe (.cons (AC.LeV.refl _) .nil))))
      (tfz 60 3 56 (bgC.flatMap chgC) 9 1)) (by rfl) ?_
    refine cle bg_spec2 (callee_of Try.func23 rfl rfl) ?_
    rintro x hx rfl
    refine wn ?_
    refine wm ?_
    repeat' (first | (refine i64 ?_; refine wm ?_) | (refine exI_as _ rfl ?_; refine wm ?_) | (refine forkB_dec (fun _ => ?_) (fun _ => ?_) <;> refine wm ?_) | (refine forkB_intro (fun _ => ?_) (fun _ => ?_) <;> refine wm ?_))
    refine drawnX_done (by kernel_rfl) ?_
    refine wn ?_
    refine wm ?_
    repeat' (first | (refine i64 ?_; refine wm ?_) | (refine exI_as _ rfl ?_; refine wm ?_) | (refine forkB_dec (fun _ => ?_) (fun _ => ?_) <;> refine wm ?_) | (refine forkB_intro (fun _ => ?_) (fun _ => ?_) <;> refine wm ?_))
    refine cle bg_countS callee13 ?_
    rintro x hx rfl
    refine wm ?_
    repeat' (first | (refine i64 ?_; refine wm ?_) | (refine exI_as _ rfl ?_; refine wm ?_) | (refine forkB_dec (fun _ => ?_) (fun _ => ?_) <;> refine wm ?_) | (refine forkB_intro (fun _ => ?_) (fun _ => ?_) <;> refine wm ?_))
    refine cle (invert_spec bgL (by decide) bg_okL) (callee_of Try.func27 rfl rfl) ?_
    rintro x hx rfl
    refine wn ?_
    refine exI_as 2 (by rfl) ?_
    refine wm ?_
    repeat' (first | (refine i64 ?_; refine wm ?_) | (refine exI_as _ rfl ?_; refine wm ?_) | (refine forkB_dec (fun _ => ?_) (fun _ => ?_) <;> refine wm ?_) | (refine forkB_intro (fun _ => ?_) (fun _ => ?_) <;> refine wm ?_))
    refine cle bg_withinS (callee_of Try.func48 rfl rfl) ?_
    rintro x hx rfl
    refine wm ?_
    repeat' (first | (refine i64 ?_; refine wm ?_) | (refine exI_as _ rfl ?_; refine wm ?_) | (refine forkB_dec (fun _ => ?_) (fun _ => ?_) <;> refine wm ?_) | (refine forkB_intro (fun _ => ?_) (fun _ => ?_) <;> refine wm ?_))
    refine retX_val rfl ?_
    conv => whnf
    rfl
end Go.Proofs.Ve

