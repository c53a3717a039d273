/-
  VeTri: joined by wip/tools/merge.py out of VeU VeV VeW VeX VeY VeZ VeEq VeDa VeDb VeDc VeDd VeDe VeDf VeDg VeDh VeDi VeDj VeDk VeDl VeDm VeDn VeDo VeEr VeDp VeDq.
-/
import Derived.Laws.StructEq
import Derived.Below
import Derived.Deep.Slices
import Derived.Deep.Strs
import Derived.SizedLaws
import Derived.Carry
import Derived.Test.YtcdfmdiifgpdnaaVeTwo
/-
  VeU: evaluators: computing operations, so shaped that reducing a goal to weak head normal form runs them.
-/
set_option linter.unusedVariables false
set_option linter.unusedSimpArgs false
namespace Go.Proofs.Ve
open Go

def req (b : Bool) (p : Prop) : Prop := match b with
  | true => p
  | false => False
structure reqD (b : Bool) (p : Prop) : Prop where
  get : req b p
structure forkB (b : Bool) (k : Bool → Prop) : Prop where
  get : k b
def forceV (v : AV) (k : AV → Prop) : Prop := match v with
  | .undef => k .undef
  | .one c => k (.one c)
  | .agg cs => k (.agg cs)
  | .tup vs => k (.tup vs)
def forceL (l : List AC) (k : List AC → Prop) : Prop := match l with
  | [] => k []
  | c :: r => forceL r fun r => k (c :: r)
def forceN (n : Nat) (k : Nat → Prop) : Prop := match n with
  | 0 => k 0
  | m + 1 => k (m + 1)
def optX {α : Type} (o : Option α) (k : α → Prop) : Prop := match o with
  | some a => k a
  | none => False
structure exI (x : Int) (k : Int → Prop) : Prop where
  get : k x
structure exV (v : AV) (k : AV → Prop) : Prop where
  get : k v

theorem req_spec {b : Bool} {p : Prop} (h : req b p) : b = true ∧ p := by
  cases b with
  | true => exact ⟨rfl, h⟩
  | false => exact h.elim
theorem req_intro {b : Bool} {p : Prop} (h : b = true) (hp : p) : req b p := by subst h; exact hp
theorem reqD_spec {b : Bool} {p : Prop} (h : reqD b p) : b = true ∧ p := req_spec h.get
theorem reqD_intro {b : Bool} {p : Prop} (h : b = true) (hp : p) : reqD b p := ⟨req_intro h hp⟩
theorem reqD_dec {c : Prop} {d : Decidable c} {p : Prop} (h : c) (hp : p) : reqD (@decide c d) p := reqD_intro (decide_eq_true h) hp
theorem forkB_spec {b : Bool} {k : Bool → Prop} (h : forkB b k) : k b := h.get
theorem forkB_true {k : Bool → Prop} (h : k true) : forkB true k := ⟨h⟩
theorem forkB_false {k : Bool → Prop} (h : k false) : forkB false k := ⟨h⟩
theorem forkB_intro {b : Bool} {k : Bool → Prop} (h1 : b = true → k true) (h2 : b = false → k false) : forkB b k := ⟨by
  cases b
  · exact h2 rfl
  · exact h1 rfl⟩
theorem forkB_dec {c : Prop} {d : Decidable c} {k : Bool → Prop} (h1 : c → k true) (h2 : ¬ c → k false) : forkB (@decide c d) k :=
  forkB_intro (fun h => h1 (of_decide_eq_true h)) fun h => h2 (of_decide_eq_false h)
theorem forceV_spec {v : AV} {k : AV → Prop} (h : forceV v k) : k v := by cases v <;> exact h
theorem forceL_spec : ∀ {l : List AC} {k : List AC → Prop}, forceL l k → k l
  | [], _, h => h
  | c :: r, k, h => forceL_spec (k := fun r => k (c :: r)) h
theorem forceL_intro : ∀ {l : List AC} {k : List AC → Prop}, k l → forceL l k
  | [], _, h => h
  | c :: r, k, h => forceL_intro (l := r) (k := fun r => k (c :: r)) h
theorem forceL_as {l : List AC} (l' : List AC) {k : List AC → Prop} (e : l = l') (h : k l') : forceL l k := forceL_intro (by rw [e]; exact h)
theorem forceN_spec {n : Nat} {k : Nat → Prop} (h : forceN n k) : k n := by cases n <;> exact h
theorem forceN_as {n : Nat} (n' : Nat) {k : Nat → Prop} (e : n = n') (h : k n') : forceN n k := by subst e; cases n <;> exact h
theorem optX_spec {α : Type} {o : Option α} {k : α → Prop} (h : optX o k) : ∃ a, o = some a ∧ k a := by
  cases o with
  | none => exact h.elim
  | some a => exact ⟨a, rfl, h⟩
theorem optX_as {α : Type} {o : Option α} {k : α → Prop} (a : α) (e : o = some a) (h : k a) : optX o k := by subst e; exact h
structure optD {α : Type} (o : Option α) (k : α → Prop) : Prop where
  get : optX o k
theorem optD_spec {α : Type} {o : Option α} {k : α → Prop} (h : optD o k) : ∃ a, o = some a ∧ k a := optX_spec h.get
theorem optD_as {α : Type} {o : Option α} {k : α → Prop} (a : α) (e : o = some a) (h : k a) : optD o k := ⟨optX_as a e h⟩
theorem exI_spec {x : Int} {k : Int → Prop} (h : exI x k) : k x := h.get
theorem exI_as {x : Int} {k : Int → Prop} (z : Int) (e : x = z) (h : k z) : exI x k := ⟨by rw [e]; exact h⟩
theorem exV_spec {v : AV} {k : AV → Prop} (h : exV v k) : k v := h.get
theorem exV_as {v : AV} {k : AV → Prop} (v' : AV) (e : v = v') (h : k v') : exV v k := ⟨by rw [e]; exact h⟩

theorem exI_i64 {x : Int} {k : Int → Prop} (h1 : -9223372036854775808 ≤ x) (h2 : x ≤ 9223372036854775807) (h : k x) : exI (IntKind.i64.wrap x) k := exI_as x (by
  unfold IntKind.wrap
  simp [IntKind.signed, IntKind.bits]
  split <;> omega) h

def capsOf : List AV → Option (List AC)
  | [] => some []
  | .one c :: r => match capsOf r with
    | some l => some (c :: l)
    | none => none
  | _ => none

theorem capsOf_spec : ∀ {vs : List AV} {cs : List AC}, capsOf vs = some cs → vs = cs.map .one
  | [], cs, h => by cases h; rfl
  | .one c :: r, cs, h => by
    unfold capsOf at h
    split at h
    · rename_i l hl
      cases h
      rw [capsOf_spec hl]
      rfl
    · cases h
  | .undef :: r, cs, h => by cases h
  | .agg _ :: r, cs, h => by cases h
  | .tup _ :: r, cs, h => by cases h

def resX (r : Option AC) (k : AV → Prop) : Prop := match r with
  | some (.bool b) => forkB b fun b => k (.one (.bool b))
  | some (.int K z) => exI z fun z => k (.one (.int K z))
  | some (.str s) => k (.one (.str s))
  | _ => False

theorem resX_spec {r : Option AC} {k : AV → Prop} (h : resX r k) : ∃ c, r = some c ∧ k (.one c) := by
  unfold resX at h
  split at h
  · exact ⟨_, rfl, forkB_spec h⟩
  · exact ⟨_, rfl, exI_spec h⟩
  · exact ⟨_, rfl, h⟩
  · exact h.elim

def isShift (op : BinOp) : Bool := match op with
  | .shl => true
  | .shr => true
  | _ => false
theorem isShift_iff (op : BinOp) : (op = .shl ∨ op = .shr) ↔ isShift op = true := by cases op <;> simp [isShift]

def binX (E : Env) (A : AS) (op : BinOp) (t : TypeId) (x y : Operand) (k : AV → Prop) : Prop :=
  match A.ev x with
  | .one (.int K m) => match A.ev y with
    | .one (.int K' n) => match isShift op with
      | true => resX (bopX op K m n) k
      | false => req (decide (K = K')) (resX (bopI op K m n) k)
    | _ => False
  | .one (.str m) => match A.ev y with
    | .one (.str n) => resX (bopS op m n) k
    | _ => False
  | .one (.bool m) => match A.ev y with
    | .one (.bool n) => req ((E.L t).any (fun i => i.bl)) (match op with
      | .eql => forkB (m == n) fun b => k (.one (.bool b))
      | .neq => forkB (!(m == n)) fun b => k (.one (.bool b))
      | _ => False)
    | _ => False
  | .agg xs => match A.ev y with
    | .agg ys => optX (E.eqs t) fun ks => req (decide (xs.length = ks.length) && (acEqs xs ks).isSome) (optX (acEqs xs ys) fun b => match op with
      | .eql => forkB b fun b => k (.one (.bool b))
      | .neq => forkB (!b) fun b => k (.one (.bool b))
      | _ => False)
    | _ => False
  | .one (.sl fu B n _) => req (isNilC y && (E.L t).any (fun i => i.isl)) (match op with
      | .eql => match fu && Nat.beq B 0 with
        | true => k (.one (.bool true))
        | false => (n = 0 → k (.one (.bool true))) ∧ k (.one (.bool false))
      | .neq => match fu && Nat.beq B 0 with
        | true => k (.one (.bool false))
        | false => (n = 0 → k (.one (.bool false))) ∧ k (.one (.bool true))
      | _ => False)
  | .one (.gref id) => req (isNilC y && (E.L t).any (fun i => i.isl)) (optX (A.ob id) fun ob => req (decide (0 < ob.s)) (match op with
      | .eql => (ob.cells = [] → k (.one (.bool true))) ∧ k (.one (.bool false))
      | .neq => (ob.cells = [] → k (.one (.bool false))) ∧ k (.one (.bool true))
      | _ => False))
  | _ => False

def lenX (E : Env) (A : AS) (x : Operand) (T : TypeId) (k : AV → Prop) : Prop :=
  optX (E.L T) fun i => match A.ev x with
    | .one (.str s) => req i.str (exI s.size fun z => k (.one (.int .i64 z)))
    | .one (.sl _ _ n _) => req i.isl (exI n fun z => k (.one (.int .i64 z)))
    | .one (.gref id) => req i.isl (optX (A.ob id) fun ob => req (decide (0 < ob.s)) (∃ n : Nat, ob.cells.length = n * ob.s ∧ k (.one (.int .i64 n))))
    | _ => False

def valX (i : TI) (cs : List AC) (k : AV → Prop) : Prop := forceL cs fun cs => optX (valOf i cs) k

def loadX (E : Env) (X : Nat → Bool) (T : TypeId) (ad : Operand) (A : AS) (k : AV → Prop) : Prop :=
  optX (E.L T) fun i => match A.ev ad with
    | .one (.ptr id p) => req (X id) (optX (A.ob id) fun ob => valX i ((ob.cells.drop p).take i.size) k)
    | .one (.cptr cells) => valX i (cells.take i.size) k
    | _ => False

def boundX (A : AS) (x : Option Operand) (d : Int) (k : Int → Prop) : Prop := optX (bnd A x d) k

def sliceX (E : Env) (A : AS) (T : TypeId) (x : Operand) (lo hi mx : Option Operand) (k : AV → Prop) : Prop :=
  optX (E.L T) fun i => match mx with
    | none => match A.ev x with
      | .one (.str s) => req i.str (boundX A lo 0 fun l => boundX A hi s.size fun h => reqD (decide (0 ≤ l ∧ l ≤ h ∧ h ≤ s.size)) (exV (.one (.str (s.extract l.toNat h.toNat))) k))
      | .one (.sl full B n cells) => req i.isl (optX (E.L i.elem) fun j => reqD (decide (cells.length = n * j.size)) (boundX A lo 0 fun l => boundX A hi n fun h => reqD (decide (0 ≤ l ∧ l ≤ h ∧ h ≤ n))
          (exV (.one (.sl (full && decide (h = n)) B (h.toNat - l.toNat) ((cells.drop (l.toNat * j.size)).take ((h.toNat - l.toNat) * j.size)))) k)))
      | _ => False
    | some z => match lo, hi with
      | none, some y => match A.ev x with
        | .one (.sl full B n cells) => req (i.isl && !Nat.beq B 0) (optX (E.L i.elem) fun j => reqD (decide (cells.length = n * j.size)) (boundX A (some y) n fun h => boundX A (some z) n fun m => reqD (decide (m = h ∧ 0 ≤ h ∧ h ≤ n))
            (exV (.one (.sl true B h.toNat (cells.take (h.toNat * j.size)))) k)))
        | _ => False
      | _, _ => False

def buildX (E : Env) (A : AS) (T : TypeId) (ps : Array (Nat × Operand)) (k : AV → Prop) : Prop :=
  optX (E.L T) fun i => req (!i.zero.isEmpty && !i.flds.isEmpty && i.flds.all (fun x => (E.L x.2).isSome)) (optX (afill (places E.L i) i.zero (evParts A ps)) fun cs => forceL cs fun cs => k (.agg cs))

/-- A computing operation, or a load. -/
def xq (E : Env) (X : Nat → Bool) (o : Oper) (A : AS) (k : AV → Prop) : Prop :=
  match o.op with
  | .load T ad => loadX E X T ad A k
  | .move x => forceV (A.ev x) k
  | .assign x => forceV (A.ev x) k
  | .pick c x y => match A.ev c with
    | .one (.bool b) => forkB b fun b => match b with
      | true => forceV (A.ev x) k
      | false => forceV (A.ev y) k
    | _ => False
  | .binOp op t x y _ => binX E A op t x y k
  | .unOp op _ x => match op with
    | .not => match A.ev x with
      | .one (.bool b) => forkB b fun b => k (.one (.bool (!b)))
      | _ => False
    | .neg => match A.ev x with
      | .one (.int K n) => exI (K.wrap (0 - n)) fun z => k (.one (.int K z))
      | _ => False
    | _ => False
  | .convert s d x => match A.ev x with
    | .one (.int _ n) => req (E.L s).isSome (optX (E.L d) fun j => optX j.ik fun K => exI (K.wrap n) fun z => k (.one (.int K z)))
    | _ => False
  | .nilCheck x => match A.ev x with
    | .one (.ptr id p) => k (.one (.ptr id p))
    | _ => False
  | .extract x j => match A.ev x with
    | .tup vs => optX vs[j]? k
    | _ => False
  | .makeFunc (.func f) first caps => req (first.size == 0) (optX (capsOf (caps.toList.map A.ev)) fun cs => k (.one (.fn f cs)))
  | .fieldAddr S x f => optX (E.L S) fun i => optX i.flds[f]? fun r => optX (E.L r.2) fun j => req (decide (j.size ≠ 0)) (match A.ev x with
    | .one (.ptr id p) => k (.one (.ptr id (p + r.1)))
    | .one (.cptr cells) => k (.one (.cptr (cells.drop r.1)))
    | _ => False)
  | .field S x f => optX (E.L S) fun i => optX i.flds[f]? fun r => optX (E.L r.2) fun j => match A.ev x with
    | .agg cs => valX j ((cs.drop r.1).take j.size) k
    | _ => False
  | .indexAddr T x ix => optX (E.L T) fun i => req i.isl (optX (E.L i.elem) fun j => match A.ev x with
    | .one (.sl _ _ n cells) => match A.ev ix with
      | .one (.int _ q) => reqD (decide (0 ≤ q ∧ q < n)) (forceL ((cells.drop (q.toNat * j.size)).take j.size) fun cs => k (.one (.cptr cs)))
      | _ => False
    | .one (.gref id) => match A.ev ix with
      | .one (.int _ q) => optX (A.ob id) fun ob => req (decide (ob.s = j.size ∧ j.size ≠ 0)) (reqD (decide (0 ≤ q ∧ q.toNat * j.size < ob.cells.length)) (k (.one (.ptr id (q.toNat * j.size)))))
      | _ => False
    | _ => False)
  | .index T x ix => optX (E.L T) fun i => req i.str (match A.ev x with
    | .one (.str s) => match A.ev ix with
      | .one (.int _ q) => reqD (decide (0 ≤ q)) (optD s.data.toList[q.toNat]? fun b => k (.one (.int .u8 b.toNat)))
      | _ => False
    | _ => False)
  | .slice T x lo hi mx => sliceX E A T x lo hi mx k
  | .build T ps => buildX E A T ps k
  | .call c => match c.callee with
    | .builtin .len => match c.args.toList with
      | [x] => match c.argTypes.toList with
        | [T] => lenX E A x T k
        | _ => False
      | _ => False
    | .builtin .min => match c.args.toList with
      | [x, y] => match A.ev x with
        | .one (.int K m) => match A.ev y with
          | .one (.int _ n) => forkB (decide (n < m)) fun b => k (.one (.int K (bif b then n else m)))
          | _ => False
        | _ => False
      | _ => False
    | .builtin .max => match c.args.toList with
      | [x, y] => match A.ev x with
        | .one (.int K m) => match A.ev y with
          | .one (.int _ n) => forkB (decide (n > m)) fun b => k (.one (.int K (bif b then n else m)))
          | _ => False
        | _ => False
      | _ => False
    | _ => False
  | _ => False
end Go.Proofs.Ve

/-
  VeV: the evaluator for computing operations is sound.
-/
set_option linter.unusedVariables false
set_option linter.unusedSimpArgs false
namespace Go.Proofs.Ve
open Go

section
variable {E : Env} {X : Nat → Bool} {A : AS} {o : Oper} {k : AV → Prop}

theorem valX_spec {i : TI} {cs : List AC} (h : valX i cs k) : ∃ v, valOf i cs = some v ∧ k v := optX_spec (forceL_spec h)

theorem req_and {b c : Bool} {p : Prop} (h : req (b && c) p) : b = true ∧ c = true ∧ p := by
  obtain ⟨h1, h2⟩ := req_spec h
  simp only [Bool.and_eq_true] at h1
  exact ⟨h1.1, h1.2, h2⟩

theorem xq_load {T : TypeId} {ad : Operand} (h : loadX E X T ad A k) : qloadW E X T ad A k := by
  unfold loadX at h
  obtain ⟨i, hi, h⟩ := optX_spec h
  unfold qloadW
  simp only [hi]
  split at h
  · rename_i id p e
    obtain ⟨hX, h⟩ := req_spec h
    obtain ⟨ob, hob, h⟩ := optX_spec h
    obtain ⟨v, hv, h⟩ := valX_spec h
    simp only [e, hob, hv]
    exact ⟨hX, h⟩
  · rename_i cells e
    obtain ⟨v, hv, h⟩ := valX_spec h
    simp only [e, hv]
    exact h
  · exact h.elim

theorem xq_bin {op : BinOp} {t u : TypeId} {x y : Operand} (ho : o.op = .binOp op t x y u) (h : binX E A op t x y k) : pv E o A k := by
  unfold binX at h
  simp only [pv, ho]
  split at h
  · rename_i K m e1
    split at h
    · rename_i K' n e2
      simp only [e1, e2, isShift_iff]
      split at h
      · rename_i hs
        obtain ⟨c, hc, h⟩ := resX_spec h
        simp only [hs, hc, if_true]
        exact h
      · rename_i hs
        obtain ⟨hk, h⟩ := req_spec h
        obtain ⟨c, hc, h⟩ := resX_spec h
        simp only [hs, hc]
        exact ⟨of_decide_eq_true hk, h⟩
    · exact h.elim
  · rename_i m e1
    split at h
    · rename_i n e2
      obtain ⟨c, hc, h⟩ := resX_spec h
      simp only [e1, e2, hc]
      exact h
    · exact h.elim
  · rename_i m e1
    split at h
    · rename_i n e2
      obtain ⟨hk, h⟩ := req_spec h
      simp only [e1, e2]
      split at h
      · exact ⟨hk, forkB_spec h⟩
      · exact ⟨hk, forkB_spec h⟩
      · exact h.elim
    · exact h.elim
  · rename_i xs e1
    split at h
    · rename_i ys e2
      obtain ⟨ks, hks, h⟩ := optX_spec h
      obtain ⟨h1, h2, h⟩ := req_and h
      obtain ⟨b, hb, h⟩ := optX_spec h
      simp only [e1, e2, hks, hb]
      refine ⟨of_decide_eq_true h1, h2, ?_⟩
      split at h
      · exact forkB_spec h
      · exact forkB_spec h
      · exact h.elim
    · exact h.elim
  · rename_i fu B n cells e1
    obtain ⟨h1, h2, h⟩ := req_and h
    have hy := isNilC_eq h1
    have e2 : A.ev y = .one (.sl true 0 0 []) := by rw [hy]; rfl
    simp only [e1, e2]
    refine ⟨hy, h2, ?_⟩
    split at h
    · intro b hb hb2
      split at h
      · rename_i hn
        rw [hb2 hn]
        exact h
      · cases b with
        | true => exact h.1 (hb rfl)
        | false => exact h.2
    · intro b hb hb2
      split at h
      · rename_i hn
        rw [hb2 hn]
        exact h
      · cases b with
        | false => exact h.1 (hb rfl)
        | true => exact h.2
    · exact h.elim
  · rename_i id e1
    obtain ⟨h1, h2, h⟩ := req_and h
    obtain ⟨ob, hob, h⟩ := optX_spec h
    obtain ⟨h3, h⟩ := req_spec h
    have hy := isNilC_eq h1
    have e2 : A.ev y = .one (.sl true 0 0 []) := by rw [hy]; rfl
    simp only [e1, e2, hob]
    refine ⟨hy, h2, of_decide_eq_true h3, ?_⟩
    split at h
    · intro b hb
      cases b with
      | true => exact h.1 (hb rfl)
      | false => exact h.2
    · intro b hb
      cases b with
      | false => exact h.1 (hb rfl)
      | true => exact h.2
    · exact h.elim
  · exact h.elim

theorem xq_len {x : Operand} {T : TypeId} (h : lenX E A x T k) : pvLen E A x T k := by
  unfold lenX at h
  obtain ⟨i, hi, h⟩ := optX_spec h
  unfold pvLen
  simp only [hi]
  split at h
  · rename_i s e
    obtain ⟨h1, h⟩ := req_spec h
    simp only [e]
    exact ⟨h1, exI_spec h⟩
  · rename_i fu B n cells e
    obtain ⟨h1, h⟩ := req_spec h
    simp only [e]
    exact ⟨h1, exI_spec h⟩
  · rename_i id e
    obtain ⟨h1, h⟩ := req_spec h
    obtain ⟨ob, hob, h⟩ := optX_spec h
    obtain ⟨h2, n, h3, h⟩ := req_spec h
    simp only [e, hob]
    exact ⟨h1, of_decide_eq_true h2, n, h3, h⟩
  · exact h.elim

theorem xq_slice {T : TypeId} {x : Operand} {lo hi mx : Option Operand} (ho : o.op = .slice T x lo hi mx) (h : sliceX E A T x lo hi mx k) : pv E o A k := by
  unfold sliceX at h
  obtain ⟨i, hi', h⟩ := optX_spec h
  split at h
  · simp only [pv, ho, hi']
    split at h
    · rename_i s e
      obtain ⟨h1, h⟩ := req_spec h
      obtain ⟨l, hl, h⟩ := optX_spec h
      obtain ⟨q, hq, h⟩ := optX_spec h
      obtain ⟨h2, h⟩ := reqD_spec h
      have h2 := of_decide_eq_true h2
      simp only [e, hl, hq]
      exact ⟨h1, h2.1, h2.2.1, h2.2.2, exV_spec h⟩
    · rename_i fu B n cells e
      obtain ⟨h1, h⟩ := req_spec h
      obtain ⟨j, hj, h⟩ := optX_spec h
      obtain ⟨h3, h⟩ := reqD_spec h
      obtain ⟨l, hl, h⟩ := optX_spec h
      obtain ⟨q, hq, h⟩ := optX_spec h
      obtain ⟨h2, h⟩ := reqD_spec h
      have h2 := of_decide_eq_true h2
      simp only [e, hj, hl, hq]
      exact ⟨h1, of_decide_eq_true h3, h2.1, h2.2.1, h2.2.2, exV_spec h⟩
    · exact h.elim
  · rename_i z
    split at h
    · rename_i y
      simp only [pv, ho, hi']
      split at h
      · rename_i fu B n cells e
        obtain ⟨h1, h⟩ := req_spec h
        obtain ⟨j, hj, h⟩ := optX_spec h
        obtain ⟨h3, h⟩ := reqD_spec h
        obtain ⟨l, hl, h⟩ := optX_spec h
        obtain ⟨q, hq, h⟩ := optX_spec h
        obtain ⟨h2, h⟩ := reqD_spec h
        have h2 := of_decide_eq_true h2
        have h1 : i.isl = true ∧ B ≠ 0 := by
          rw [Bool.and_eq_true] at h1
          exact ⟨h1.1, fun e => by rw [e] at h1; cases h1.2⟩
        simp only [e, hj, hl, hq]
        exact ⟨h1, of_decide_eq_true h3, h2.1, h2.2.1, h2.2.2, exV_spec h⟩
      · exact h.elim
    · exact h.elim

theorem xq_build {T : TypeId} {ps : Array (Nat × Operand)} (ho : o.op = .build T ps) (h : buildX E A T ps k) : pv E o A k := by
  unfold buildX at h
  obtain ⟨i, hi, h⟩ := optX_spec h
  obtain ⟨h1, h⟩ := req_spec h
  obtain ⟨cs, hcs, h⟩ := optX_spec h
  have h := forceL_spec h
  simp only [Bool.and_eq_true, Bool.not_eq_true', List.isEmpty_eq_false_iff] at h1
  simp only [pv, ho, hi, hcs]
  exact ⟨h1.1.1, h1.1.2, h1.2, h⟩

theorem xq_call {c : Call} (ho : o.op = .call c) (h : xq E X o A k) : pv E o A k := by
  simp only [xq, ho] at h
  simp only [pv, ho, pvCall]
  obtain ⟨callee, args, ts⟩ := c
  simp only at h ⊢
  split at h
  · split at h
    · rename_i x e1
      split at h
      · rename_i T e2
        simp only [e1, e2]
        exact xq_len h
      · exact h.elim
    · exact h.elim
  · split at h
    · rename_i x y e1
      simp only [e1, pvMin]
      split at h
      · rename_i K m e2
        split at h
        · rename_i K' n e3
          simp only [e2, e3]
          have h := forkB_spec h
          by_cases hc : n < m
          · simpa [hc] using h
          · simpa [hc] using h
        · exact h.elim
      · exact h.elim
    · exact h.elim
  · split at h
    · rename_i x y e1
      simp only [e1, pvMax]
      split at h
      · rename_i K m e2
        split at h
        · rename_i K' n e3
          simp only [e2, e3]
          have h := forkB_spec h
          by_cases hc : m < n
          · simpa [hc] using h
          · simpa [hc] using h
        · exact h.elim
      · exact h.elim
    · exact h.elim
  · exact h.elim

theorem xq_sound (h : xq E X o A k) : qwp E X o A k := by
  unfold qwp
  split
  · rename_i T ad ho
    simp only [xq, ho] at h
    exact xq_load h
  · rename_i hno
    cases ho : o.op with
    | load T ad => exact absurd ho (hno T ad)
    | move x => simp only [xq, ho] at h; simp only [pv, ho]; exact forceV_spec h
    | assign x => simp only [xq, ho] at h; simp only [pv, ho]; exact forceV_spec h
    | pick c x y =>
      simp only [xq, ho] at h
      simp only [pv, ho]
      split at h
      · rename_i b e
        have h := forkB_spec h
        cases b with
        | true => simpa [e] using forceV_spec h
        | false => simpa [e] using forceV_spec h
      · exact h.elim
    | binOp op t x y u => simp only [xq, ho] at h; exact xq_bin ho h
    | unOp op t x =>
      simp only [xq, ho] at h
      simp only [pv, ho]
      split at h
      · split at h
        · rename_i b e
          simp only [e]
          exact forkB_spec h
        · exact h.elim
      · split at h
        · rename_i b e
          simp only [e]
          exact exI_spec h
        · exact h.elim
      · exact h.elim
    | convert s d x =>
      simp only [xq, ho] at h
      simp only [pv, ho]
      split at h
      · rename_i K n e
        obtain ⟨h1, h⟩ := req_spec h
        obtain ⟨j, hj, h⟩ := optX_spec h
        obtain ⟨K', hK, h⟩ := optX_spec h
        obtain ⟨i, hi⟩ := Option.isSome_iff_exists.1 h1
        simp only [e, hi, hj, hK]
        exact exI_spec h
      · exact h.elim
    | nilCheck x =>
      simp only [xq, ho] at h
      simp only [pv, ho]
      split at h
      · rename_i id p e
        simp only [e]
        exact h
      · exact h.elim
    | extract x j =>
      simp only [xq, ho] at h
      simp only [pv, ho]
      split at h
      · rename_i vs e
        obtain ⟨v, hv, h⟩ := optX_spec h
        simp only [e, hv]
        exact h
      · exact h.elim
    | makeFunc t first caps =>
      simp only [xq, ho] at h
      cases t with
      | func f =>
        simp only at h
        obtain ⟨h1, h⟩ := req_spec h
        obtain ⟨cs, hcs, h⟩ := optX_spec h
        simp only [pv, ho]
        exact ⟨by simpa using h1, cs, capsOf_spec hcs, h⟩
      | _ => exact h.elim
    | fieldAddr S x f =>
      simp only [xq, ho] at h
      obtain ⟨i, hi, h⟩ := optX_spec h
      obtain ⟨⟨off, ty⟩, hf, h⟩ := optX_spec h
      obtain ⟨j, hj, h⟩ := optX_spec h
      obtain ⟨h1, h⟩ := req_spec h
      simp only at hj
      simp only [pv, ho, hi, hf, hj]
      refine ⟨of_decide_eq_true h1, ?_⟩
      split at h
      · rename_i id p e
        simp only [e]
        exact h
      · rename_i cells e
        simp only [e]
        exact h
      · exact h.elim
    | field S x f =>
      simp only [xq, ho] at h
      obtain ⟨i, hi, h⟩ := optX_spec h
      obtain ⟨⟨off, ty⟩, hf, h⟩ := optX_spec h
      obtain ⟨j, hj, h⟩ := optX_spec h
      simp only at hj
      split at h
      · rename_i cs e
        obtain ⟨v, hv, h⟩ := valX_spec h
        simp only at hv
        simp only [pv, ho, hi, hf, hj, e, hv]
        exact h
      · exact h.elim
    | indexAddr T x ix =>
      simp only [xq, ho] at h
      obtain ⟨i, hi, h⟩ := optX_spec h
      obtain ⟨h1, h⟩ := req_spec h
      obtain ⟨j, hj, h⟩ := optX_spec h
      simp only [pv, ho, hi, hj]
      refine ⟨h1, ?_⟩
      split at h
      · rename_i fu B n cells e1
        split at h
        · rename_i K q e2
          obtain ⟨h2, h⟩ := reqD_spec h
          have h2 := of_decide_eq_true h2
          simp only [e1, e2]
          exact ⟨h2.1, h2.2, forceL_spec h⟩
        · exact h.elim
      · rename_i id e1
        split at h
        · rename_i K q e2
          obtain ⟨ob, hob, h⟩ := optX_spec h
          obtain ⟨h2, h⟩ := req_spec h
          obtain ⟨h3, h⟩ := reqD_spec h
          have h2 := of_decide_eq_true h2
          have h3 := of_decide_eq_true h3
          simp only [e1, e2, hob]
          exact ⟨h2.1, h2.2, h3.1, h3.2, h⟩
        · exact h.elim
      · exact h.elim
    | index T x ix =>
      simp only [xq, ho] at h
      obtain ⟨i, hi, h⟩ := optX_spec h
      obtain ⟨h1, h⟩ := req_spec h
      simp only [pv, ho, hi]
      refine ⟨h1, ?_⟩
      split at h
      · rename_i s e1
        split at h
        · rename_i K q e2
          obtain ⟨h2, h⟩ := reqD_spec h
          obtain ⟨b, hb, h⟩ := optD_spec h
          simp only [e1, e2, hb]
          exact ⟨of_decide_eq_true h2, h⟩
        · exact h.elim
      · exact h.elim
    | slice T x lo hi mx => simp only [xq, ho] at h; exact xq_slice ho h
    | build T ps => simp only [xq, ho] at h; exact xq_build ho h
    | call c => exact xq_call ho h
    | _ => simp only [xq, ho] at h
end
end Go.Proofs.Ve

/-
  VeW: evaluators: effects, regions, code.
-/
set_option linter.unusedVariables false
set_option linter.unusedSimpArgs false
namespace Go.Proofs.Ve
open Go

/-- What an operation does to abstract states, as a fact. -/
def OW (P : Program) : ORule := fun o A K => (∀ t, o.dst = some t → t < A.sz) → ∀ G a w Q, Rel G A a w → o.wp P a w (Post K G w) Q
theorem OW.sound (P : Program) : (OW P).Sound P := fun o A K h hd G a w Q R => h hd G a w Q R
def allX : Nat → Bool := fun _ => true
structure callX (P : Program) (o : Oper) (A : AS) (K : AS → Prop) : Prop where
  get : OW P o A (fun A' => A'.sz = A.sz ∧ K A')

def AS.newAt (A : AS) (n : Nat) (o : Ob) : AS := { A with nx := n + 1, ob := fupd A.ob n (some o) }
def newX (A : AS) (o : Ob) (k : Nat → AS → Prop) : Prop := forceN A.nx fun n => k n (A.newAt n o)
theorem newX_spec {A : AS} {o : Ob} {k : Nat → AS → Prop} (h : newX A o k) : k A.nx (A.new o) := forceN_spec (k := fun n => k n (A.newAt n o)) h

/-- What is appended or copied: its elements and their number. -/
def srcX (A : AS) (y : Operand) (s : Nat) (k : Nat → List AC → Prop) : Prop :=
  match A.ev y with
  | .one (.sl _ _ m cs) => reqD (decide (cs.length = m * s)) (k m cs)
  | .one (.gref id) => optX (A.ob id) fun ob => req (decide (0 < ob.s ∧ ob.s = s)) (reqD (decide (ob.cells.length = ob.cells.length / s * s)) (k (ob.cells.length / s) ob.cells))
  | _ => False

def appendX (E : Env) (x y : Operand) (T : TypeId) (dst : Option Tmp) (A : AS) (K : AS → Prop) : Prop :=
  optX (E.L T) fun i => optX (E.L i.elem) fun j => req (decide (i.isl = true ∧ j.size ≠ 0 ∧ j.zero.length = j.size ∧ j.bytes ≠ 0)) (srcX A y j.size fun m cs =>
    match isNilC x with
    | true => reqD (decide (m * j.bytes ≤ 140737488355328)) (forceL cs fun cs => newX A ⟨i.elem, j.size, j.bytes, cs⟩ fun n A' => K (A'.put dst (.one (.gref n))))
    | false => match A.ev x with
      | .one (.gref id) => optX (A.ob id) fun ob => req (decide (ob.T.id = i.elem ∧ ob.s = j.size ∧ ob.B = j.bytes)) (reqD (decide (ob.cells.length = ob.cells.length / j.size * j.size))
          (reqD (decide ((ob.cells.length / j.size + m) * j.bytes ≤ 140737488355328)) (forceL (ob.cells ++ cs) fun cells => newX (A.kill id) ⟨i.elem, j.size, j.bytes, cells⟩ fun n A' => K (A'.put dst (.one (.gref n))))))
      | .one (.sl full B n cells) => forkB (decide (m = 0)) fun b => match b with
        | true => K (A.put dst (.one (.sl full B n cells)))
        | false => req full (reqD (decide (cells.length = n * j.size)) (reqD (decide ((n + m) * j.bytes ≤ 140737488355328)) (forceL (cells ++ cs) fun cells => newX A ⟨i.elem, j.size, j.bytes, cells⟩ fun n A' => K (A'.put dst (.one (.gref n))))))
      | _ => False)

def copyX (E : Env) (x y : Operand) (T : TypeId) (dst : Option Tmp) (A : AS) (K : AS → Prop) : Prop :=
  optX (E.L T) fun i => optX (E.L i.elem) fun j => req (decide (i.isl = true ∧ j.size ≠ 0)) (srcX A y j.size fun m cs => match A.ev x with
    | .one (.gref id) => optX (A.ob id) fun ob => req (decide (ob.s = j.size)) (reqD (decide (ob.cells.length = ob.cells.length / j.size * j.size))
        (forceL (setR ob.cells 0 (cs.take (min m (ob.cells.length / j.size) * j.size))) fun cells => K ((A.upd id { ob with cells := cells }).put dst (.one (.int .i64 (min m (ob.cells.length / j.size) : Nat))))))
    | _ => False)

def storeX (E : Env) (T : TypeId) (ad x : Operand) (dst : Option Tmp) (A : AS) (K : AS → Prop) : Prop :=
  optX (E.L T) fun i => match A.ev ad with
    | .one (.ptr id p) => optX (A.ob id) fun ob => req (A.ev x).isVal (forceL (A.ev x).cells fun cs => req (decide (cs.length = i.size ∧ i.size ≠ 0)) (reqD (decide (p + i.size ≤ ob.cells.length))
        (forceL (setR ob.cells p cs) fun cells => K ((A.upd id { ob with cells := cells }).put dst .undef))))
    | _ => False

def buildSliceX (E : Env) (T : TypeId) (n : Nat) (ps : Array (Nat × Operand)) (dst : Option Tmp) (A : AS) (K : AS → Prop) : Prop :=
  optX (E.L T) fun i => optX (E.L i.elem) fun j => req (decide (i.isl = true ∧ j.size ≠ 0 ∧ j.zero.length = j.size ∧ j.bytes ≠ 0 ∧ n ≠ 0 ∧ n * j.size ≤ 16777216 ∧ n * j.bytes ≤ 140737488355328))
    (optX (afill (fun k => some (k * j.size, j.size)) (List.replicate n j.zero).flatten (evParts A ps)) fun cs => forceL cs fun cs => req (decide (cs.length = n * j.size)) (newX A ⟨i.elem, j.size, j.bytes, cs⟩ fun m A' => K (A'.put dst (.one (.gref m)))))

def makeSliceX (E : Env) (T : TypeId) (x y : Operand) (dst : Option Tmp) (A : AS) (K : AS → Prop) : Prop :=
  optX (E.L T) fun i => optX (E.L i.elem) fun j => req (decide (i.isl = true ∧ j.size ≠ 0 ∧ j.zero.length = j.size ∧ j.bytes ≠ 0)) (match A.ev x with
    | .one (.int _ m) => match A.ev y with
      | .one (.int _ m') => reqD (decide (m = m' ∧ 0 ≤ m)) (reqD (decide (m.toNat * j.bytes ≤ 140737488355328)) (forceL (List.replicate m.toNat j.zero).flatten fun cs => newX A ⟨i.elem, j.size, j.bytes, cs⟩ fun n A' => K (A'.put dst (.one (.gref n)))))
      | _ => False
    | _ => False)

def builtinX (E : Env) (X : Nat → Bool) (o : Oper) (c : Call) (b : Builtin) (A : AS) (K : AS → Prop) : Prop :=
  match b with
  | .append => match c.args.toList with
    | [x, y] => match c.argTypes.toList with
      | [T, T'] => req (decide (T = T')) (appendX E x y T o.dst A K)
      | _ => False
    | _ => False
  | .copy => match c.args.toList with
    | [x, y] => match c.argTypes.toList with
      | [T, T'] => req (decide (T = T')) (copyX E x y T o.dst A K)
      | _ => False
    | _ => False
  | _ => xq E X o A (fun v => K (A.put o.dst v))

def makeMapX (r : Option Operand) (dst : Option Tmp) (A : AS) (K : AS → Prop) : Prop :=
  match r with
  | none => newX A ⟨.keys [], 0, 0, []⟩ fun n A' => K (A'.put dst (.one (.mref n)))
  | some _ => False
def rangeX (E : Env) (T : TypeId) (x : Operand) (dst : Option Tmp) (A : AS) (K : AS → Prop) : Prop :=
  optX (E.L T) fun i => match A.ev x with
    | .one (.str s) => req i.str (newX A ⟨.iter s 0, 0, 0, []⟩ fun n A' => K (A'.put dst (.one (.ptr n 0))))
    | _ => False
def nextX (x : Operand) (str : Bool) (dst : Option Tmp) (A : AS) (K : AS → Prop) : Prop :=
  match str with
  | true => match A.ev x with
    | .one (.ptr id p) => req (decide (p = 0)) (optX (A.ob id) fun ob => req (decide (ob.s = 0)) (match ob.T with
      | .iter s pos => forkB (decide (pos < s.size)) fun b => match b with
        | true => K ((A.upd id ⟨.iter s (pos + (Utf8.decode s pos).2), 0, 0, []⟩).put dst (.tup [.one (.bool true), .one (.int .i64 pos), .one (.int .i32 (Utf8.decode s pos).1)]))
        | false => K (A.put dst (.tup [.one (.bool false)]))
      | _ => False))
    | _ => False
  | false => False
def lookupX (E : Env) (T : TypeId) (x y : Operand) (ok : Bool) (dst : Option Tmp) (A : AS) (K : AS → Prop) : Prop :=
  match ok with
  | false => match A.ev x with
    | .one (.mref id) => match A.ev y with
      | .one (.str k) => req (E.maps T) (optX (A.ob id) fun ob => req (decide (ob.s = 0)) (match ob.T with
        | .keys l => forkB (hasK k l) fun b => K (A.put dst (.one (.bool b)))
        | _ => False))
      | _ => False
    | _ => False
  | true => False
def mapUpdateX (E : Env) (T : TypeId) (x y z : Operand) (dst : Option Tmp) (A : AS) (K : AS → Prop) : Prop :=
  match A.ev x with
  | .one (.mref id) => match A.ev y with
    | .one (.str k) => match A.ev z with
      | .one (.bool b) => req b (req (E.maps T) (optX (A.ob id) fun ob => req (decide (ob.s = 0)) (match ob.T with
        | .keys l => reqD (!hasK k l) (K ((A.upd id ⟨.keys (l ++ [k]), 0, 0, []⟩).put dst .undef))
        | _ => False)))
      | _ => False
    | _ => False
  | _ => False

/-- Any operation. -/
def xop (P : Program) (E : Env) (o : Oper) (A : AS) (K : AS → Prop) : Prop :=
  match o.op with
  | .alloc T => optX (E.L T) fun i => req (!i.zero.isEmpty) (newX A ⟨T, 0, 0, i.zero⟩ fun n A' => K (A'.put o.dst (.one (.ptr n 0))))
  | .box T x => req (A.ev x).isVal (forceL (A.ev x).cells fun cs => newX A ⟨T, 0, 0, cs⟩ fun n A' => K (A'.put o.dst (.one (.ptr n 0))))
  | .store T ad x => storeX E T ad x o.dst A K
  | .buildSlice T n ps => match n with
    | 0 => req (ps.size == 0) (optX (E.L T) fun i => optX (E.L i.elem) fun j => req (decide (i.isl = true ∧ 0 < j.size ∧ j.bytes ≠ 0)) (newX A ⟨i.elem, j.size, j.bytes, []⟩ fun n A' => K (A'.put o.dst (.one (.gref n)))))
    | m + 1 => buildSliceX E T (m + 1) ps o.dst A K
  | .makeSlice T x y => makeSliceX E T x y o.dst A K
  | .call c => match c.callee with
    | .builtin b => builtinX E allX o c b A K
    | .value _ => callX P o A K
    | .invoke _ _ => False
  | .makeMap _ r => makeMapX r o.dst A K
  | .range T x => rangeX E T x o.dst A K
  | .next x s => nextX x s o.dst A K
  | .lookup T x y ok => lookupX E T x y ok o.dst A K
  | .mapUpdate T x y z => mapUpdateX E T x y z o.dst A K
  | .slice _ x _ _ _ => match A.ev x with
    | .one (.gref _) => callX P o A K
    | _ => xq E allX o A (fun v => K (A.put o.dst v))
  | _ => xq E allX o A (fun v => K (A.put o.dst v))

def xrun (P : Program) (E : Env) (all : Array Oper) : List Oper → AS → (AS → Prop) → Prop
  | [], A, K => K A
  | o :: rest, A, K => optX (gdv all o A) fun b => match b with
    | true => xop P E o A (fun A' => xrun P E all rest A' K)
    | false => xrun P E all rest (A.put o.dst (.tup [])) K

def hrun (P : Program) (E : Env) (ops : Array Oper) (X : Nat → Bool) : Plan → AS → (AS → Prop) → Prop
  | .stop, A, K => K A
  | .take i p, A, K => optX ops[i]? fun o => optX (gdv ops o A) fun b => match b with
    | true => xq E X o A (fun v => hrun P E ops X p (A.put o.dst v) K)
    | false => hrun P E ops X p (A.put o.dst (.tup [])) K
  | .one i p, A, K => optX ops[i]? fun o => optX (gdv ops o A) fun b => match b with
    | true => xop P E o (A.hide X) (fun A' => hrun P E ops X p (A'.unhide X A) K)
    | false => hrun P E ops X p (A.put o.dst (.tup [])) K
  | .two i j p q, A, K => (optX ops[i]? fun o => optX (gdv ops o A) fun b => match b with
    | true => xop P E o (A.hide X) (fun A' => hrun P E ops X p (A'.unhide X A) K)
    | false => hrun P E ops X p (A.put o.dst (.tup [])) K) ∧ (optX ops[j]? fun o => optX (gdv ops o A) fun b => match b with
    | true => xop P E o (A.hide X) (fun A' => hrun P E ops X q (A'.unhide X A) K)
    | false => hrun P E ops X q (A.put o.dst (.tup [])) K)

structure drawnX (P : Program) (ops : Array Oper) (n : Nat) (l : Array Bool) (A : AS) (K : AS → Prop) : Prop where
  get : dstsOk A.sz ops.toList = true → AAny P ops (fun A' => A'.sz = A.sz ∧ K A') n l A

def codeOk (sz : Nat) : Code → Bool
  | .region _ ops _ => dstsOk sz ops.toList
  | .seq x y => codeOk sz x && codeOk sz y
  | .cond _ x y => codeOk sz x && codeOk sz y
  | .block _ c => codeOk sz c
  | .loop c => codeOk sz c
  | _ => true

structure loopX (P : Program) (c : Code) (A : AS) (Q : AX → AS → Prop) : Prop where
  get : codeOk A.sz c = true → SWP P (.loop c) A (fun x A' => A'.sz = A.sz ∧ Q x A')

def xcode (P : Program) (E : Env) : Code → AS → (AX → AS → Prop) → Prop
  | .skip, A, Q => Q .normal A
  | .region _ ops draw, A, Q => match draw with
    | false => xrun P E ops ops.toList A (Q .normal)
    | true => drawnX P ops ops.size (Array.replicate ops.size false) A (Q .normal)
  | .seq x y, A, Q => xcode P E x A (thenQ (fun A' => xcode P E y A' Q) Q)
  | .cond c x y, A, Q => match A.ev c with
    | .one (.bool b) => forkB b fun b => match b with
      | true => xcode P E x A Q
      | false => xcode P E y A Q
    | _ => False
  | .block i c, A, Q => xcode P E c A (blockQ i Q)
  | .loop c, A, Q => loopX P c A Q
  | .exit i, A, Q => Q (.exit i) A
  | .ret, A, Q => Q .ret A
  | _, _, _ => False

section
variable {P : Program} {E : Env} {A : AS} {o : Oper} {K : AS → Prop}

theorem put_sz (A : AS) (d : Option Tmp) (v : AV) : (A.put d v).sz = A.sz := by cases d <;> rfl

theorem xq_ow (hE : E.Ok P) {X : Nat → Bool} (h : xq E X o A (fun v => K (A.put o.dst v))) : OW P o A (fun A' => A'.sz = A.sz ∧ K A') := fun hd G a w Q R => by
  obtain ⟨v, x, h1, h2, h3⟩ := qwp_sound hE R (xq_sound h)
  exact wp_value R hd (h1 w fun _ _ _ => rfl) h2 ⟨put_sz _ _ _, h3⟩

theorem srcX_spec {y : Operand} {s : Nat} {k : Nat → List AC → Prop} (h : srcX A y s k) : srcW A y s k := by
  unfold srcX at h
  unfold srcW
  split at h
  · rename_i fu B m cs e
    obtain ⟨h1, h⟩ := reqD_spec h
    simp only [e]
    exact ⟨of_decide_eq_true h1, h⟩
  · rename_i id e
    obtain ⟨ob, hob, h⟩ := optX_spec h
    obtain ⟨h1, h⟩ := req_spec h
    obtain ⟨h2, h⟩ := reqD_spec h
    simp only [e, hob]
    have h1 := of_decide_eq_true h1
    exact ⟨h1.1, h1.2, _, of_decide_eq_true h2, h⟩
  · exact h.elim

theorem appendX_spec {x y : Operand} {T : TypeId} {d : Option Tmp} (h : appendX E x y T d A K) : appendW E x y T d A (fun A' => A'.sz = A.sz ∧ K A') := by
  unfold appendX at h
  obtain ⟨i, hi, h⟩ := optX_spec h
  obtain ⟨j, hj, h⟩ := optX_spec h
  obtain ⟨h1, h⟩ := req_spec h
  unfold appendW
  simp only [hi, hj]
  refine ⟨of_decide_eq_true h1, ?_⟩
  have h := srcX_spec h
  revert h
  generalize A.ev y = vy
  intro h
  have mono : ∀ {k k' : Nat → List AC → Prop}, (∀ m cs, k m cs → k' m cs) → srcW A y j.size k → srcW A y j.size k' := fun {k k'} hk hs => by
    unfold srcW at hs ⊢
    split at hs
    · exact ⟨hs.1, hk _ _ hs.2⟩
    · split at hs
      · rename_i ob hob
        obtain ⟨h1, h2, m, h3, h4⟩ := hs
        exact ⟨h1, h2, m, h3, hk _ _ h4⟩
      · exact hs.elim
    · exact hs.elim
  refine mono (fun m cs h => ?_) h
  split at h
  · rename_i hn
    obtain ⟨h2, h⟩ := reqD_spec h
    simp only [hn, if_true]
    exact ⟨of_decide_eq_true h2, put_sz _ _ _, newX_spec (forceL_spec h)⟩
  · rename_i hn
    simp only [hn]
    split at h
    · rename_i id e
      obtain ⟨ob, hob, h⟩ := optX_spec h
      obtain ⟨h2, h⟩ := req_spec h
      obtain ⟨h3, h⟩ := reqD_spec h
      obtain ⟨h4, h⟩ := reqD_spec h
      have h2 := of_decide_eq_true h2
      simp only [e, hob]
      exact ⟨h2.1, h2.2.1, h2.2.2, _, of_decide_eq_true h3, of_decide_eq_true h4, put_sz _ _ _, newX_spec (A := A.kill id) (forceL_spec h)⟩
    · rename_i fu B n cells e
      simp only [e]
      have h := forkB_spec h
      refine ⟨fun hm => ?_, fun hm => ?_⟩
      · simp only [hm, decide_true] at h
        exact ⟨put_sz _ _ _, h⟩
      · have hm' : decide (m = 0) = false := by simp; omega
        simp only [hm'] at h
        obtain ⟨h2, h⟩ := req_spec h
        obtain ⟨h3, h⟩ := reqD_spec h
        obtain ⟨h4, h⟩ := reqD_spec h
        exact ⟨h2, of_decide_eq_true h3, of_decide_eq_true h4, put_sz _ _ _, newX_spec (forceL_spec h)⟩
    · exact h.elim

theorem copyX_spec {x y : Operand} {T : TypeId} {d : Option Tmp} (h : copyX E x y T d A K) : copyW E x y T d A (fun A' => A'.sz = A.sz ∧ K A') := by
  unfold copyX at h
  obtain ⟨i, hi, h⟩ := optX_spec h
  obtain ⟨j, hj, h⟩ := optX_spec h
  obtain ⟨h1, h⟩ := req_spec h
  unfold copyW
  simp only [hi, hj]
  refine ⟨of_decide_eq_true h1, ?_⟩
  have h := srcX_spec h
  have mono : ∀ {k k' : Nat → List AC → Prop}, (∀ m cs, k m cs → k' m cs) → srcW A y j.size k → srcW A y j.size k' := fun {k k'} hk hs => by
    unfold srcW at hs ⊢
    split at hs
    · exact ⟨hs.1, hk _ _ hs.2⟩
    · split at hs
      · rename_i ob hob
        obtain ⟨h1, h2, m, h3, h4⟩ := hs
        exact ⟨h1, h2, m, h3, hk _ _ h4⟩
      · exact hs.elim
    · exact hs.elim
  refine mono (fun m cs h => ?_) h
  split at h
  · rename_i id e
    obtain ⟨ob, hob, h⟩ := optX_spec h
    obtain ⟨h2, h⟩ := req_spec h
    obtain ⟨h3, h⟩ := reqD_spec h
    simp only [e, hob]
    exact ⟨of_decide_eq_true h2, _, of_decide_eq_true h3, put_sz _ _ _, forceL_spec h⟩
  · exact h.elim

theorem wp_buildSlice0 (hL : E.L.Ok P) {G : Gh} {a : Act} {w : World} {Q : Exit → Act → World → Prop} (R : Rel G A a w) (hd : ∀ t, o.dst = some t → t < A.sz) {T : Nat} {i j : TI} {ps : Array (Nat × Operand)} (hi : E.L T = some i) (hs : i.isl = true) (hj : E.L i.elem = some j) (h0 : 0 < j.size) (hb0 : j.bytes ≠ 0)
    (ho : o.op = .buildSlice T 0 ps) (hp : ps.size = 0) (hK : K ((A.new ⟨i.elem, j.size, j.bytes, []⟩).put o.dst (.one (.gref A.nx)))) : o.wp P a w (Post K G w) Q := by
  obtain ⟨f, h1, h2⟩ := size_info (hL _ _ hj)
  have hps : ps = #[] := Array.eq_empty_of_size_eq_zero hp
  subst hps
  refine wp_newRow (us := #[]) R hd i.elem j.size j.bytes 0 h0 (by omega) hb0 .nil (by simp) ?_ hK
  simp [execOp, ho, Instr.buildSlice, run_underlying (elem_info (hL T i hi) hs), sizeOf, typeInfo, h1, Instr.fill, newRow]
  have e : Array.map (fun _ : Nat => (default : Value)) (Array.range 0) = #[] := Array.eq_empty_of_size_eq_zero (by simp)
  rw [e]

theorem xop_ow (hE : E.Ok P) (h : xop P E o A K) : OW P o A (fun A' => A'.sz = A.sz ∧ K A') := by
  have viaO : owp P E o A (fun A' => A'.sz = A.sz ∧ K A') → OW P o A (fun A' => A'.sz = A.sz ∧ K A') := fun h hd G a w Q R => owp_sound hE o A _ h hd G a w Q R
  cases ho : o.op with
  | alloc T =>
    simp only [xop, ho] at h
    obtain ⟨i, hi, h⟩ := optX_spec h
    obtain ⟨h1, h⟩ := req_spec h
    refine viaO ?_
    simp only [owp, ho, allocW, hi]
    exact ⟨by simpa using h1, put_sz _ _ _, newX_spec h⟩
  | box T x =>
    simp only [xop, ho] at h
    obtain ⟨h1, h⟩ := req_spec h
    refine viaO ?_
    simp only [owp, ho]
    exact ⟨h1, put_sz _ _ _, newX_spec (forceL_spec h)⟩
  | store T ad x =>
    simp only [xop, ho, storeX] at h
    obtain ⟨i, hi, h⟩ := optX_spec h
    refine viaO ?_
    simp only [owp, ho, storeW, hi]
    split at h
    · rename_i id p e
      obtain ⟨ob, hob, h⟩ := optX_spec h
      obtain ⟨h1, h⟩ := req_spec h
      have h := forceL_spec h
      obtain ⟨h2, h⟩ := req_spec h
      obtain ⟨h3, h⟩ := reqD_spec h
      have h2 := of_decide_eq_true h2
      simp only [e, hob]
      exact ⟨h1, h2.1, h2.2, of_decide_eq_true h3, put_sz _ _ _, forceL_spec h⟩
    · exact h.elim
  | buildSlice T n ps =>
    simp only [xop, ho] at h
    split at h
    · obtain ⟨h0, h⟩ := req_spec h
      obtain ⟨i, hi, h⟩ := optX_spec h
      obtain ⟨j, hj, h⟩ := optX_spec h
      obtain ⟨h1, h⟩ := req_spec h
      have h1 := of_decide_eq_true h1
      exact fun hd G a w Q R => wp_buildSlice0 hE.L R hd hi h1.1 hj h1.2.1 h1.2.2 ho (by simpa using h0) ⟨put_sz _ _ _, newX_spec h⟩
    unfold buildSliceX at h
    obtain ⟨i, hi, h⟩ := optX_spec h
    obtain ⟨j, hj, h⟩ := optX_spec h
    obtain ⟨h1, h⟩ := req_spec h
    obtain ⟨cs, hcs, h⟩ := optX_spec h
    have h := forceL_spec h
    obtain ⟨h2, h⟩ := req_spec h
    refine viaO ?_
    simp only [owp, ho, buildSliceW, hi, hj, hcs]
    exact ⟨of_decide_eq_true h1, of_decide_eq_true h2, put_sz _ _ _, newX_spec h⟩
  | makeSlice T x y =>
    simp only [xop, ho, makeSliceX] at h
    obtain ⟨i, hi, h⟩ := optX_spec h
    obtain ⟨j, hj, h⟩ := optX_spec h
    obtain ⟨h1, h⟩ := req_spec h
    refine viaO ?_
    simp only [owp, ho, makeSliceW, hi, hj]
    refine ⟨of_decide_eq_true h1, ?_⟩
    split at h
    · rename_i K1 m e1
      split at h
      · rename_i K2 m' e2
        obtain ⟨h2, h⟩ := reqD_spec h
        obtain ⟨h3, h⟩ := reqD_spec h
        have h2 := of_decide_eq_true h2
        simp only [e1, e2]
        exact ⟨h2.1, h2.2, of_decide_eq_true h3, put_sz _ _ _, newX_spec (forceL_spec h)⟩
      · exact h.elim
    · exact h.elim
  | call c =>
    simp only [xop, ho] at h
    split at h
    · rename_i b hb
      unfold builtinX at h
      split at h
      · split at h
        · rename_i x y e1
          split at h
          · rename_i T T' e2
            obtain ⟨h1, h⟩ := req_spec h
            refine viaO ?_
            simp only [owp, ho, hb, builtinW, e1, e2]
            exact ⟨of_decide_eq_true h1, appendX_spec h⟩
          · exact h.elim
        · exact h.elim
      · split at h
        · rename_i x y e1
          split at h
          · rename_i T T' e2
            obtain ⟨h1, h⟩ := req_spec h
            refine viaO ?_
            simp only [owp, ho, hb, builtinW, e1, e2]
            exact ⟨of_decide_eq_true h1, copyX_spec h⟩
          · exact h.elim
        · exact h.elim
      · exact xq_ow hE h
    · exact h.get
    · exact h.elim
  | makeMap T r =>
    simp only [xop, ho, makeMapX] at h
    cases r with
    | some r => exact h.elim
    | none => exact fun hd G a w Q R => wp_makeMap R hd ho ⟨put_sz _ _ _, newX_spec h⟩
  | range T x =>
    simp only [xop, ho, rangeX] at h
    obtain ⟨i, hi, h⟩ := optX_spec h
    split at h
    · rename_i s e
      obtain ⟨h1, h⟩ := req_spec h
      exact fun hd G a w Q R => wp_range hE R hd hi h1 ho e ⟨put_sz _ _ _, newX_spec h⟩
    · exact h.elim
  | next x str =>
    simp only [xop, ho, nextX] at h
    cases str with
    | false => exact h.elim
    | true =>
      simp only at h
      split at h
      · rename_i id p e
        obtain ⟨h0, h⟩ := req_spec h
        have h0 := of_decide_eq_true h0
        subst h0
        obtain ⟨ob, hob, h⟩ := optX_spec h
        obtain ⟨h1, h⟩ := req_spec h
        have h1 := of_decide_eq_true h1
        split at h
        · rename_i s pos hT
          have h := forkB_spec h
          by_cases hp : pos < s.size
          · rw [decide_eq_true hp] at h
            exact fun hd G a w Q R => wp_nextOn R hd ho e hob h1 hT hp ⟨put_sz _ _ _, h⟩
          · rw [decide_eq_false hp] at h
            exact fun hd G a w Q R => wp_nextEnd R hd ho e hob h1 hT hp ⟨put_sz _ _ _, h⟩
        · exact h.elim
      · exact h.elim
  | lookup T x y ok =>
    simp only [xop, ho, lookupX] at h
    cases ok with
    | true => exact h.elim
    | false =>
      simp only at h
      split at h
      · rename_i id e1
        split at h
        · rename_i k e2
          obtain ⟨h0, h⟩ := req_spec h
          obtain ⟨ob, hob, h⟩ := optX_spec h
          obtain ⟨h1, h⟩ := req_spec h
          have h1 := of_decide_eq_true h1
          split at h
          · rename_i l hT
            exact fun hd G a w Q R => wp_lookup hE R hd h0 ho e1 e2 hob h1 hT ⟨put_sz _ _ _, forkB_spec h⟩
          · exact h.elim
        · exact h.elim
      · exact h.elim
  | mapUpdate T x y z =>
    simp only [xop, ho, mapUpdateX] at h
    split at h
    · rename_i id e1
      split at h
      · rename_i k e2
        split at h
        · rename_i b e3
          obtain ⟨hb, h'⟩ := req_spec h
          clear h
          subst hb
          obtain ⟨h0, h⟩ := req_spec h'
          obtain ⟨ob, hob, h⟩ := optX_spec h
          obtain ⟨h1, h⟩ := req_spec h
          have h1 := of_decide_eq_true h1
          split at h
          · rename_i l hT
            obtain ⟨h2, h⟩ := reqD_spec h
            exact fun hd G a w Q R => wp_mapUpdate hE R h0 ho e1 e2 e3 hob h1 hT (by simpa using h2) ⟨put_sz _ _ _, h⟩
          · exact h.elim
        · exact h.elim
      · exact h.elim
    · exact h.elim
  | slice T x lo hi mx =>
    simp only [xop, ho] at h
    split at h
    · exact h.get
    · exact xq_ow hE h
  | _ =>
    simp only [xop, ho] at h
    exact xq_ow hE h

theorem OW.mono {K K' : AS → Prop} (h : OW P o A K) (hk : ∀ A, K A → K' A) : OW P o A K' := fun hd G a w Q R => Oper.wp_mono (fun a w p => p.mono hk) (h hd G a w Q R)

theorem xrun_rwp (hE : E.Ok P) {all : Array Oper} : ∀ (rest : List Oper) (A : AS) (K : AS → Prop), xrun P E all rest A K → rwp (OW P) all rest A (fun A' => A'.sz = A.sz ∧ K A')
  | [], A, K, h => ⟨rfl, h⟩
  | o :: rest, A, K, h => by
    obtain ⟨b, hb, h⟩ := optX_spec h
    refine ⟨by rw [hb]; rfl, fun hg => ?_, fun hg => ?_⟩
    · rw [hb] at hg
      cases hg
      refine (xop_ow hE h).mono fun A' k => ⟨k.1, ?_⟩
      have := xrun_rwp hE rest A' K k.2
      rw [k.1] at this
      exact this
    · rw [hb] at hg
      cases hg
      have := xrun_rwp hE rest _ K h
      rw [put_sz] at this
      exact this

theorem hrun_hwp (hE : E.Ok P) {ops : Array Oper} {X : Nat → Bool} : ∀ (p : Plan) (A : AS) (K : AS → Prop), hrun P E ops X p A K → hwp P (OW P) ops X p A (fun A' => A'.sz = A.sz ∧ K A')
  | .stop, A, K, h => ⟨rfl, h⟩
  | .take i p, A, K, h => by
    obtain ⟨o, ho, h⟩ := optX_spec h
    obtain ⟨b, hb, h⟩ := optX_spec h
    simp only [hwp, ho]
    refine ⟨by rw [hb]; rfl, fun hg => ?_, fun hg => ?_⟩
    · rw [hb] at hg
      cases hg
      intro G a w R
      obtain ⟨v, x, h1, h2, h3⟩ := qwp_sound hE R (xq_sound h)
      refine ⟨v, x, h1, h2, ?_⟩
      have := hrun_hwp hE p _ K h3
      rw [put_sz] at this
      exact this
    · rw [hb] at hg
      cases hg
      have := hrun_hwp hE p _ K h
      rw [put_sz] at this
      exact this
  | .one i p, A, K, h => by
    obtain ⟨o, ho, h⟩ := optX_spec h
    obtain ⟨b, hb, h⟩ := optX_spec h
    simp only [hwp, ho]
    exact hone hE (fun A K h => hrun_hwp hE p A K h) h hb
  | .two i j p q, A, K, h => by
    obtain ⟨hA, hB⟩ := h
    obtain ⟨o, ho, hA⟩ := optX_spec hA
    obtain ⟨b, hb, hA⟩ := optX_spec hA
    obtain ⟨o2, ho2, hB⟩ := optX_spec hB
    obtain ⟨b2, hb2, hB⟩ := optX_spec hB
    simp only [hwp, ho, ho2]
    exact ⟨hone hE (fun A K h => hrun_hwp hE p A K h) hA hb, hone hE (fun A K h => hrun_hwp hE q A K h) hB hb2⟩
where
  hone {P : Program} {E : Env} (hE : E.Ok P) {ops : Array Oper} {X : Nat → Bool} {p : Plan} {A : AS} {K : AS → Prop} {o : Oper} (ih : ∀ (A : AS) (K : AS → Prop), hrun P E ops X p A K → hwp P (OW P) ops X p A (fun A' => A'.sz = A.sz ∧ K A')) {b : Bool}
      (h : match b with
        | true => xop P E o (A.hide X) (fun A' => hrun P E ops X p (A'.unhide X A) K)
        | false => hrun P E ops X p (A.put o.dst (.tup [])) K) (hb : gdv ops o A = some b) :
      (gdv ops o A).isSome = true ∧ (gdv ops o A = some true → OW P o (A.hide X) (fun A' => A'.sz = A.sz ∧ hwp P (OW P) ops X p (A'.unhide X A) (fun A' => A'.sz = A.sz ∧ K A'))) ∧
        (gdv ops o A = some false → hwp P (OW P) ops X p (A.put o.dst (.tup [])) (fun A' => A'.sz = A.sz ∧ K A')) := by
    refine ⟨by rw [hb]; rfl, fun hg => ?_, fun hg => ?_⟩
    · rw [hb] at hg
      cases hg
      refine (xop_ow hE h).mono fun A' k => ⟨k.1, ?_⟩
      have := ih _ K k.2
      rw [show (A'.unhide X A).sz = A.sz from k.1] at this
      exact this
    · rw [hb] at hg
      cases hg
      have := ih _ K h
      rw [put_sz] at this
      exact this
end
end Go.Proofs.Ve

/-
  VeX: code by evaluation; drawn regions, loops, calls, returns; a function's contract.
-/
set_option linter.unusedVariables false
set_option linter.unusedSimpArgs false
namespace Go.Proofs.Ve
open Go

section
variable {P : Program} {E : Env} {A : AS} {o : Oper} {K : AS → Prop} {Q : AX → AS → Prop}

/-! ### drawn regions -/
theorem drawnX_phase (hE : E.Ok P) {ops : Array Oper} (X : Nat → Bool) (L : List Nat) (p : Plan) {n : Nat} (m : Nat) {l : Array Bool} (lst : Array Bool) (hok : (Region.noSelect ops && outsideB ops L && outOkB ops L l && p.ok ops L m lst n l) = true)
    (h : hrun P E ops X p A (fun A' => drawnX P ops m lst A' K)) : drawnX P ops n l A K := ⟨by
  intro hd
  refine aany_phase (m := m) (lst := lst) (OW.sound P) X L p ?_ (hrun_hwp hE p A _ h) fun A' hz k => ?_
  · unfold phaseOk
    rw [hd]
    simpa using hok
  · have k := k.2.get
    rw [hz] at k
    exact k hd⟩

theorem drawnX_done {ops : Array Oper} {n : Nat} {l : Array Bool} (hr : (Region.ready .any ops l).isEmpty = true) (h : K A) : drawnX P ops n l A K := ⟨fun _ => aany_done hr ⟨rfl, h⟩⟩

/-! ### code -/
theorem xcode_sound (hE : E.Ok P) (hm : P.follows .mixedOrders = true) : ∀ (c : Code) (A : AS) (Q : AX → AS → Prop), codeOk A.sz c = true → xcode P E c A Q → SWP P c A (fun x A' => A'.sz = A.sz ∧ Q x A')
  | .skip, A, Q, _, h => swp_skip ⟨rfl, h⟩
  | .exit i, A, Q, _, h => swp_exit ⟨rfl, h⟩
  | .ret, A, Q, _, h => swp_ret ⟨rfl, h⟩
  | .region id ops false, A, Q, hok, h => swp_region (OW.sound P) hok (xrun_rwp hE _ A _ h)
  | .region id ops true, A, Q, hok, h => swp_drawn hm (by
      have h : drawnX P ops ops.size (Array.replicate ops.size false) A (Q .normal) := h
      exact h.get hok)
  | .seq x y, A, Q, hok, h => by
    simp only [codeOk, Bool.and_eq_true] at hok
    refine swp_seq ((xcode_sound hE hm x A _ hok.1 h).mono fun e A' k => ?_)
    cases e with
    | normal =>
      have := xcode_sound hE hm y A' Q (by rw [k.1]; exact hok.2) k.2
      rw [k.1] at this
      exact this
    | exit i => exact k
    | ret => exact k
  | .cond c x y, A, Q, hok, h => by
    simp only [codeOk, Bool.and_eq_true] at hok
    simp only [xcode] at h
    split at h
    · rename_i b e
      have h := forkB_spec h
      exact swp_cond e (fun e => by subst e; exact xcode_sound hE hm x A Q hok.1 h) (fun e => by subst e; exact xcode_sound hE hm y A Q hok.2 h)
    · exact h.elim
  | .block i c, A, Q, hok, h => swp_block ((xcode_sound hE hm c A _ hok h).mono fun e A' k => by
      cases e with
      | normal => exact k
      | ret => exact k
      | exit j =>
        obtain ⟨k1, k2⟩ := k
        show if j = i then _ else _
        have k2 : if j = i then Q .normal A' else Q (.exit j) A' := k2
        by_cases e : j = i
        · rw [if_pos e] at k2 ⊢; exact ⟨k1, k2⟩
        · rw [if_neg e] at k2 ⊢; exact ⟨k1, k2⟩)
  | .loop c, A, Q, hok, h => by
    have h : loopX P c A Q := h
    exact h.get hok
  | .rangeFunc _ _ _ _, A, Q, _, h => h.elim
  | .scope _, A, Q, _, h => h.elim
  | .label _, A, Q, _, h => h.elim
  | .goto _, A, Q, _, h => h.elim
  | .refuse _, A, Q, _, h => h.elim

/-- A loop. -/
theorem loopX_intro (hE : E.Ok P) (hm : P.follows .mixedOrders = true) {c : Code} {σ : Type} (C : σ → AS) (I : σ → Prop) (μ : σ → Nat) (s0 : σ) (ρ : Nat → Nat) (hsz : ∀ s, (C s).sz = A.sz) (h0 : Wk A (C s0) ρ) (hI : I s0)
    (h : ∀ s, I s → xcode P E c (C s) (thenQ (fun A' => ∃ s' ρ', I s' ∧ μ s' < μ s ∧ Wk A' (C s') ρ') Q)) : loopX P c A Q := ⟨by
  intro hok
  refine swp_loop C I μ s0 ρ h0 hI fun s hs => (xcode_sound hE hm c (C s) _ (by rw [hsz]; exact hok) (h s hs)).mono fun e A' k => ?_
  rw [hsz] at k
  cases e with
  | normal => exact k.2
  | exit i => exact k
  | ret => exact k⟩

/-! ### steps that change nothing in memory -/
def Tr (A A' : AS) : Prop := ∀ G a w, Rel G A a w → ∃ G', Rel G' A' a w ∧ Ext G w G' w
theorem Tr.refl (A : AS) : Tr A A := fun G a w R => ⟨G, R, Ext.refl _ _⟩
theorem Tr.trans {A B C : AS} (h : Tr A B) (k : Tr B C) : Tr A C := fun G a w R => by
  obtain ⟨G1, R1, E1⟩ := h G a w R
  obtain ⟨G2, R2, E2⟩ := k G1 a w R1
  exact ⟨G2, R2, E1.trans E2⟩
theorem Tr.wk {A' : AS} {ρ : Nat → Nat} (W : Wk A A' ρ) : Tr A A' := fun G a w R => R.wk W
/-- A slice object is let go: it is immutable from now on. -/
theorem Tr.frz (id : Nat) {ob : Ob} (hob : A.ob id = some ob) (h0 : 0 < ob.s) (n : Nat) (hn : ob.cells.length = n * ob.s) (hd : ob.cells.all (·.deep) = true) : Tr A (A.frz id (.sl false ob.B n ob.cells)) := fun G a w R =>
  ⟨_, (R.freeze hob h0 hn (by simpa using hd)).1, (R.freeze hob h0 hn (by simpa using hd)).2⟩

theorem OW.tr {A1 : AS} (T : Tr A A1) (hz : A1.sz = A.sz) (h : OW P o A1 K) : OW P o A K := fun hd G a w Q R => by
  obtain ⟨G1, R1, E1⟩ := T G a w R
  exact Oper.wp_mono (fun a w p => p.ext E1) (h (by rw [hz]; exact hd) G1 a w Q R1)

theorem callX_tr {A1 : AS} (T : Tr A A1) (hz : A1.sz = A.sz) (h : callX P o A1 K) : callX P o A K := by
  have h := h.get
  rw [hz] at h
  exact ⟨OW.tr T hz h⟩

/-- The frozen state, by evaluation. -/
def frzX (A : AS) (id : Nat) (k : AS → Prop) : Prop := optX (A.ob id) fun ob => req (decide (0 < ob.s)) (req (decide (ob.cells.length = ob.cells.length / ob.s * ob.s)) (req (ob.cells.all (·.deep)) (k (A.frz id (.sl false ob.B (ob.cells.length / ob.s) ob.cells)))))
theorem frzX_spec {id : Nat} {k : AS → Prop} (h : frzX A id k) : ∃ A1, Tr A A1 ∧ A1.sz = A.sz ∧ k A1 := by
  obtain ⟨ob, hob, h⟩ := optX_spec h
  obtain ⟨h1, h⟩ := req_spec h
  obtain ⟨h2, h⟩ := req_spec h
  obtain ⟨h3, h⟩ := req_spec h
  exact ⟨_, Tr.frz id hob (of_decide_eq_true h1) _ (of_decide_eq_true h2) h3, rfl, h⟩
theorem callX_frz (id : Nat) (h : frzX A id (fun A1 => callX P o A1 K)) : callX P o A K := by
  obtain ⟨A1, T, hz, h⟩ := frzX_spec h
  exact callX_tr T hz h

/-! ### calls -/
mutual
theorem AC.ren_of_lt (ρ : Nat → Nat) : ∀ {c : AC}, c.lt 0 = true → c.ren ρ = c
  | .fn f caps, h => by
    rw [AC.ren, AC.renL_of_lt ρ (l := caps) h]
  | .ptr k off, h => by simp [AC.lt] at h
  | .gref k, h => by simp [AC.lt] at h
  | .int k n, _ => rfl
  | .bool b, _ => rfl
  | .str s, _ => rfl
  | .sl full B n cells, _ => rfl
  | .nilp, _ => rfl
  | .any, _ => rfl
  | .cptr cells, _ => rfl
theorem AC.renL_of_lt (ρ : Nat → Nat) : ∀ {l : List AC}, AC.ltL 0 l = true → AC.renL ρ l = l
  | [], _ => rfl
  | c :: r, h => by
    simp only [AC.ltL, Bool.and_eq_true] at h
    rw [AC.renL, AC.ren_of_lt ρ h.1, AC.renL_of_lt ρ h.2]
end
mutual
theorem AV.ren_of_lt (ρ : Nat → Nat) : ∀ {v : AV}, v.lt 0 = true → v.ren ρ = v
  | .undef, _ => rfl
  | .one c, h => by rw [AV.ren, AC.ren_of_lt ρ h]
  | .agg cs, h => by rw [AV.ren, AC.renL_of_lt ρ h]
  | .tup vs, h => by rw [AV.ren, AV.renL_of_lt ρ h]
theorem AV.renL_of_lt (ρ : Nat → Nat) : ∀ {l : List AV}, AV.ltL 0 l = true → AV.renL ρ l = l
  | [], _ => rfl
  | c :: r, h => by
    simp only [AV.ltL, Bool.and_eq_true] at h
    rw [AV.renL, AV.ren_of_lt ρ h.1, AV.renL_of_lt ρ h.2]
end

/-- A function that takes and gives values alone. -/
def PSpec (P : Program) (f : FuncId) (args : List AV) (post : AV → Prop) : Prop := FSpec P f args [] (fun r obs' news => obs' = [] ∧ news = [] ∧ r.lt 0 = true ∧ post r)

theorem back_nil (A : AS) (ρ : Nat → Nat) : A.back ρ 0 (fun _ => none) [] [] = A := by
  unfold AS.back
  simp

/-- A call of such a function: its operand, what it is given. -/
theorem callX_pure {fv : Operand} {xs : Array Operand} {ts : Array TypeId} {f : FuncId} {caps : List AC} {args : List AV} {post : AV → Prop} (ho : o.op = .call ⟨.value fv, xs, ts⟩) (hfv : A.ev fv = .one (.fn f caps)) (hc : callee P f) (hS : PSpec P f args post)
    (ha : xs.toList.map A.ev ++ caps.map .one = args) (hl : AV.ltL 0 args = true) (hK : ∀ r, r.lt 0 = true → post r → K (A.put o.dst r)) : callX P o A K := ⟨by
  intro hd G a w Q R
  refine wp_call R hd (ρ := id) (pos := fun _ => none) ho hfv hc hS ⟨?_, fun x hx => ?_, fun k hk => by simp at hk, fun id k => by simp, fun k o ho => by simp at ho⟩ fun r obs' news hp _ => ?_
  · rw [ha, ← AV.renL_map, AV.renL_of_lt _ hl]
  · rw [AV.ltL_all] at hl
    simpa using List.all_eq_true.1 hl x hx
  · obtain ⟨rfl, rfl, hr, hp⟩ := hp
    rw [AV.ren_of_lt _ hr]
    have := back_nil A id
    simp only [List.length_nil]
    rw [this]
    exact ⟨put_sz _ _ _, hK r hr hp⟩⟩

/-! ### returns -/
structure retX (L : Lay) (rs : List ResultVar) (n : Nat) (post : AV → List Ob → List Ob → Prop) (A : AS) : Prop where
  get : ∃ A1, Tr A A1 ∧ RetOk L rs n post A1

theorem retX_of {L : Lay} {rs : List ResultVar} {n : Nat} {post : AV → List Ob → List Ob → Prop} (h : RetOk L rs n post A) : retX L rs n post A := ⟨A, Tr.refl A, h⟩
theorem retX_frz {L : Lay} {rs : List ResultVar} {n : Nat} {post : AV → List Ob → List Ob → Prop} (id : Nat) (h : frzX A id (fun A1 => retX L rs n post A1)) : retX L rs n post A := by
  obtain ⟨A1, T, _, h⟩ := frzX_spec h
  obtain ⟨A2, T2, h⟩ := h.get
  exact ⟨A2, T.trans T2, h⟩

/-- A result that is a value. -/
theorem retX_val {L : Lay} {rs : List ResultVar} {post : AV → Prop} (hnp : A.np = 0) (h : optX (resV L A rs) fun r => req (r.lt 0) (post r)) : retX L rs 0 (fun r obs' news => obs' = [] ∧ news = [] ∧ r.lt 0 = true ∧ post r) A := by
  obtain ⟨r, hr, h⟩ := optX_spec h
  obtain ⟨h1, h⟩ := req_spec h
  refine retX_of ⟨r, [], [], id, ⟨rfl, rfl, h1, h⟩, rfl, by rw [AV.ren_of_lt _ h1]; exact hr, h1, ?_⟩
  exact
    { sz := rfl
      np := ⟨hnp.symm, Nat.le_refl _, fun k hk => by cases hk⟩
      lt := fun k hk => by cases hk
      inj := fun k k' h => by simp [AS.left] at h
      sl := fun t => .inl rfl
      ob := fun k o h => by simp [AS.left] at h }

theorem SWP.tr {c : Code} (h : SWP P c A (fun x A' => ∃ A1, Tr A' A1 ∧ Q x A1)) : SWP P c A Q := fun G a w R =>
  wp_mono (h G a w R) fun e a' w' k => by
    have key : ∀ x, Post (fun A' => ∃ A1, Tr A' A1 ∧ Q x A1) G w a' w' → Post (Q x) G w a' w' := fun x k => by
      obtain ⟨G', A', ⟨A1, T, hq⟩, r, E'⟩ := k
      obtain ⟨G2, r2, E2⟩ := T G' a' w' r
      exact ⟨G2, A1, hq, r2, E'.trans E2⟩
    cases e <;> first | exact key _ k | exact k.elim

/-- What must hold where a body ends. -/
def endX (L : Lay) (rs : List ResultVar) (n : Nat) (post : AV → List Ob → List Ob → Prop) : AX → AS → Prop
  | .exit _, _ => False
  | _, A => retX L rs n post A

/-- A function's contract: its body evaluated. -/
theorem fspec_x (hE : E.Ok P) (hm : P.follows .mixedOrders = true) {f : FuncId} {fn : Func} {c : Code} {args : List AV} {obs : List Ob} {post : AV → List Ob → List Ob → Prop} (hf : P.funcs[f]? = some fn) (hb : fn.body = some c) (nt : Nat) (hn : fn.ntmps = nt) (rs : List ResultVar) (hr : fn.results.toList = rs)
    (hok : codeOk (args.length + (nt - args.length)) c = true) (h : xcode P E c (AS.enter args obs nt) (endX E.L rs obs.length post)) : FSpec P f args obs post := by
  refine fspec_of_body hE.L hf hb (SWP.tr ?_)
  rw [hn, hr]
  refine (xcode_sound hE hm c _ _ hok h).mono fun x A' k => ?_
  have k := k.2
  have key : retX E.L rs obs.length post A' → ∃ A1, Tr A' A1 ∧ RetOk E.L rs obs.length post A1 := fun k => k.get
  cases x with
  | exit i => exact k.elim
  | normal => exact key k
  | ret => exact key k

theorem pspec_x (hE : E.Ok P) (hm : P.follows .mixedOrders = true) {f : FuncId} {fn : Func} {c : Code} {args : List AV} {post : AV → Prop} (hf : P.funcs[f]? = some fn) (hb : fn.body = some c) (nt : Nat) (hn : fn.ntmps = nt) (rs : List ResultVar) (hr : fn.results.toList = rs)
    (hok : codeOk (args.length + (nt - args.length)) c = true) (h : xcode P E c (AS.enter args [] nt) (endX E.L rs 0 (fun r obs' news => obs' = [] ∧ news = [] ∧ r.lt 0 = true ∧ post r))) : PSpec P f args post :=
  fspec_x hE hm hf hb nt hn rs hr hok h
end
end Go.Proofs.Ve

/-
  VeY: what a type is, computed.
-/
set_option linter.unusedVariables false
set_option linter.unusedSimpArgs false
namespace Go.Proofs.Ve
open Go

def tiDesc (d : TypeDesc) (size bytes : Nat) (z : Option Value) : TI :=
  { agg := d matches .struct _ | .array _ _, size := size, bytes := bytes, elem := match d with
      | .slice e => e
      | _ => 0, isl := match d with
      | .slice _ => true
      | _ => false, str := match d with
      | .string => true
      | _ => false, ik := match d with
      | .int k => some k
      | _ => none, bl := match d with
      | .bool => true
      | _ => false, flds := match d with
      | .struct fs => fs.toList.map (fun x => (x.offset, x.type))
      | _ => [], zero := match z with
      | some z => (z.cells.toList.mapM kval).getD []
      | none => [], eqk := [] }
def tiOf (P : Program) (t : Nat) : Option TI := match P.info? t with
  | some f => match P.underlying t with
    | some d => some (tiDesc d f.size f.bytes f.zero)
    | none => none
  | none => none

theorem tiOf_ok {P : Program} {t : Nat} {i : TI} (h : tiOf P t = some i) : i.Ok P t := by
  unfold tiOf at h
  split at h
  · rename_i f hf
    split at h
    · rename_i d hd
      cases h
      refine ⟨f, d, hf, hd, rfl, rfl, rfl, fun h => ?_, fun h => ?_, fun k h => ?_, fun h => ?_, fun h => ?_, fun h => ?_⟩
      · cases d <;> simp [tiDesc] at h ⊢
      · cases d <;> simp [tiDesc] at h ⊢
      · cases d <;> simp [tiDesc] at h ⊢
        exact h
      · cases d <;> simp [tiDesc] at h ⊢
      · unfold tiDesc at h ⊢
        simp only at h ⊢
        cases hz : f.zero with
        | none => rw [hz] at h; simp at h
        | some z =>
          rw [hz] at h
          refine ⟨z, rfl, ?_⟩
          cases hm : z.cells.toList.mapM kval with
          | none => simp [hm] at h
          | some l => simp [hm]
      · cases d <;> simp [tiDesc] at h ⊢
    · cases h
  · cases h
end Go.Proofs.Ve

/-
  VeZ: saying less of a value; loops whose head is a list of slots; calls and returns that say less.
-/
set_option linter.unusedVariables false
set_option linter.unusedSimpArgs false
namespace Go.Proofs.Ve
open Go

/-- c' says less than c. -/
def AC.Le (c c' : AC) : Prop := ∀ F w v, RepD F w c v → RepD F w c' v
def AC.LeV (c c' : AC) : Prop := ∀ G nx w v, RepV G nx w c v → RepV G nx w c' v
def AV.Le (c c' : AV) : Prop := ∀ G nx w v, RepAV G nx w c v → RepAV G nx w c' v

theorem AC.Le.refl (c : AC) : AC.Le c c := fun _ _ _ h => h
theorem AC.LeV.refl (c : AC) : AC.LeV c c := fun _ _ _ _ h => h
theorem AV.Le.refl (c : AV) : AV.Le c c := fun _ _ _ _ h => h
theorem AV.Le.of_eq {c c' : AV} (h : c = c') : AV.Le c c' := h ▸ AV.Le.refl c
theorem AC.Le.trans {a b c : AC} (h : AC.Le a b) (k : AC.Le b c) : AC.Le a c := fun F w v x => k F w v (h F w v x)
theorem AV.Le.trans {a b c : AV} (h : AV.Le a b) (k : AV.Le b c) : AV.Le a c := fun F n w v x => k F n w v (h F n w v x)
theorem AC.LeV.sl {full full' : Bool} {B n B' n' : Nat} {cells cells' : List AC} (h : AC.Le (.sl full B n cells) (.sl full' B' n' cells')) : AC.LeV (.sl full B n cells) (.sl full' B' n' cells') := fun G nx w v h0 => by
  cases h0 with
  | deep h0 => exact .deep (h _ _ _ h0)
theorem AV.Le.one {c c' : AC} (h : AC.LeV c c') : AV.Le (.one c) (.one c') := fun G nx w v h0 => by
  cases h0 with
  | one h0 => exact .one (h _ _ _ _ h0)
theorem AV.Le.undef (c : AV) : AV.Le c .undef := fun G nx w v _ => .undef v
theorem AV.Le.agg {cs cs' : List AC} (h : Pw AC.LeV cs cs') : AV.Le (.agg cs) (.agg cs') := fun G nx w v h0 => by
  cases h0 with
  | agg h0 =>
    refine .agg ⟨h.1.symm.trans h0.1, fun j x y hx hy => ?_⟩
    obtain ⟨c, hc, hr⟩ : ∃ c, cs[j]? = some c ∧ AC.LeV c x := by
      have hj : j < cs.length := by
        rw [h.1]
        rcases Nat.lt_or_ge j cs'.length with h' | h'
        · exact h'
        · rw [List.getElem?_eq_none h'] at hx; cases hx
      exact ⟨cs[j], List.getElem?_eq_getElem hj, h.2 j _ _ (List.getElem?_eq_getElem hj) hx⟩
    exact hr _ _ _ _ (h0.2 j c y hc hy)

/-- A slice: fewer facts on its room, its elements. -/
theorem AC.Le.slc {full : Bool} {B B' n : Nat} {cells cells' : List AC} (hB : n * B' ≤ 140737488355328) (h : Pw AC.Le cells cells') : AC.Le (.sl full B n cells) (.sl false B' n cells') := fun F w v h0 => by
  cases h0 with
  | sl _ _ _ _ a c us hl hn hf ha hB0 hz h0 hr =>
    refine .sl false B' n cells' a c us (h.1.symm.trans hl) hn (fun e => by cases e) ha hB (fun e => by cases e) h0 fun j x y hx hy => ?_
    obtain ⟨c, hc, hle⟩ : ∃ c, cells[j]? = some c ∧ AC.Le c x := by
      have hj : j < cells.length := by
        rw [h.1]
        rcases Nat.lt_or_ge j cells'.length with h' | h'
        · exact h'
        · rw [List.getElem?_eq_none h'] at hx; cases hx
      exact ⟨cells[j], List.getElem?_eq_getElem hj, h.2 j _ _ (List.getElem?_eq_getElem hj) hx⟩
    exact hle _ _ _ (hr j c y hc hy)
theorem AC.Le.sameB {full : Bool} {B n : Nat} {cells : List AC} : AC.Le (.sl full B n cells) (.sl false B n cells) := fun F w v h0 => by
  cases h0 with
  | sl _ _ _ _ a c us hl hn hf ha hB0 hz h0 hr => exact .sl false B n cells a c us hl hn (fun e => by cases e) ha hB0 (fun e => by cases e) h0 hr
theorem AC.Le.nil {full full' : Bool} {B B' : Nat} {cells : List AC} (h : full' = false ∨ (full = true ∧ B' ≠ 0)) : AC.Le (.sl full B 0 cells) (.sl full' B' 0 cells) := fun F w v h0 => by
  cases h0 with
  | sl _ _ _ _ a c us hl hn hf ha hB0 hz h0 hr => exact .sl full' B' 0 cells a c us hl hn (fun e => hf (by rcases h with h | h; rw [h] at e; cases e; exact h.1)) ha (by omega) (fun e eb => by rcases h with h | h; rw [h] at e; cases e; exact absurd eb h.2) (.inl rfl) hr
theorem Pw.same {α : Type} {R : α → α → Prop} (h : ∀ x, R x x) : ∀ l : List α, Pw R l l := fun l => ⟨rfl, fun j x y hx hy => by rw [hx] at hy; cases hy; exact h x⟩

section
variable {P : Program} {E : Env} {A : AS} {o : Oper} {K : AS → Prop} {Q : AX → AS → Prop}

/-- A slot says less. -/
theorem Tr.slot (t : Nat) {v : AV} (h : AV.Le (A.sl t) v) : Tr A (A.set t v) := fun G a w R =>
  ⟨G, { defers := R.defers, size := R.size, slots := fun s => by
          rw [AS.sl_set]
          by_cases e : s = t
          · rw [if_pos e, e]; exact h _ _ _ _ (R.slots t)
          · rw [if_neg e]; exact R.slots s
        obs := R.obs, fown := R.fown, own := R.own, N := R.N }, Ext.refl _ _⟩

/-- An object says less. -/
theorem Tr.obj (id : Nat) {ob : Ob} (hob : A.ob id = some ob) {cells : List AC} (h : Pw AC.LeV ob.cells cells) : Tr A (A.upd id { ob with cells := cells }) := fun G a w R =>
  ⟨G, { defers := R.defers, size := R.size, slots := R.slots
        obs := fun i o ho => by
          have ho : fupd A.ob id _ i = some o := ho
          by_cases e : i = id
          · subst e
            rw [fupd_same] at ho
            cases ho
            obtain ⟨h1, vs, hp, hc⟩ := R.obs i ob hob
            refine ⟨h1, vs, ⟨h.1.symm.trans hp.1, fun j x y hx hy => ?_⟩, hc⟩
            obtain ⟨c, hc, hle⟩ : ∃ c, ob.cells[j]? = some c ∧ AC.LeV c x := by
              have hj : j < ob.cells.length := by
                rw [h.1]
                rcases Nat.lt_or_ge j cells.length with h' | h'
                · exact h'
                · rw [List.getElem?_eq_none h'] at hx; cases hx
              exact ⟨ob.cells[j], List.getElem?_eq_getElem hj, h.2 j _ _ (List.getElem?_eq_getElem hj) hx⟩
            exact hle _ _ _ _ (hp.2 j c y hc hy)
          · rw [fupd_ne _ e] at ho
            exact R.obs i o ho
        fown := R.fown, own := R.own, N := R.N }, Ext.refl _ _⟩

/-! ### states out of lists -/
def look (l : List (Nat × AV)) (t : Nat) : AV := match l with
  | [] => .undef
  | (s, v) :: r => bif Nat.beq s t then v else look r t
def lookO (l : List (Nat × Ob)) (t : Nat) : Option Ob := match l with
  | [] => none
  | (s, v) :: r => bif Nat.beq s t then some v else lookO r t
def AS.of (sz np nx : Nat) (sl : List (Nat × AV)) (ob : List (Nat × Ob)) : AS := { sz := sz, np := np, nx := nx, sl := look sl, ob := lookO ob }

def slX (A : AS) (ρ : Nat → Nat) (nx : Nat) : List (Nat × AV) → Prop
  | [] => True
  | (t, v) :: r => (A.sl t = v.ren ρ ∧ v.lt nx = true) ∧ slX A ρ nx r
def obX (A : AS) (ρ : Nat → Nat) (nx : Nat) : List (Nat × Ob) → Prop
  | [] => True
  | (k, o) :: r => (A.ob (ρ k) = some (o.ren ρ) ∧ o.lt nx = true ∧ k < nx) ∧ obX A ρ nx r

theorem slX_look {ρ : Nat → Nat} {nx : Nat} : ∀ {l : List (Nat × AV)} (h : slX A ρ nx l) (t : Nat), look l t = .undef ∨ (A.sl t = (look l t).ren ρ ∧ (look l t).lt nx = true)
  | [], _, t => .inl rfl
  | (s, v) :: r, h, t => by
    unfold look
    cases e : Nat.beq s t with
    | true =>
      have e := Nat.eq_of_beq_eq_true e
      subst e
      exact .inr h.1
    | false => exact slX_look h.2 t
theorem obX_look {ρ : Nat → Nat} {nx : Nat} : ∀ {l : List (Nat × Ob)} (h : obX A ρ nx l) (k : Nat) (o : Ob), lookO l k = some o → k < nx ∧ A.ob (ρ k) = some (o.ren ρ) ∧ o.lt nx = true
  | [], _, k, o, hk => by cases hk
  | (s, v) :: r, h, k, o, hk => by
    unfold lookO at hk
    cases e : Nat.beq s k with
    | true =>
      rw [e] at hk
      have e := Nat.eq_of_beq_eq_true e
      subst e
      cases hk
      exact ⟨h.1.2.2, h.1.1, h.1.2.1⟩
    | false =>
      rw [e] at hk
      exact obX_look h.2 k o hk
theorem lookO_key : ∀ {l : List (Nat × Ob)} {k : Nat}, (lookO l k).isSome = true → k ∈ l.map (·.1)
  | [], k, h => by cases h
  | (s, v) :: r, k, h => by
    unfold lookO at h
    cases e : Nat.beq s k with
    | true => have e := Nat.eq_of_beq_eq_true e; subst e; simp
    | false => rw [e] at h; exact List.mem_cons_of_mem _ (lookO_key h)

/-- A state is forgotten down to lists; ρ says where its objects stand. -/
theorem Wk.of (ρ : Nat → Nat) {sz np nx : Nat} {sl : List (Nat × AV)} {ob : List (Nat × Ob)} (hsz : sz = A.sz) (hnp : np = A.np) (hle : np ≤ nx) (hρ : ∀ k, k < np → ρ k = k) (hlt : ∀ k, k < nx → ρ k < A.nx) (hinj : ∀ k k', k < nx → k' < nx → ρ k = ρ k' → k = k')
    (hs : slX A ρ nx sl) (ho : obX A ρ nx ob) : Wk A (AS.of sz np nx sl ob) ρ where
  sz := hsz
  np := ⟨hnp, hle, hρ⟩
  lt := hlt
  inj k k' h h' e := by
    have hk : ∀ k, (lookO ob k).isSome = true → k < nx := fun k h => by
      obtain ⟨o, ho'⟩ := Option.isSome_iff_exists.1 h
      exact (obX_look ho k o ho').1
    exact hinj k k' (hk k h) (hk k' h') e
  sl := slX_look hs
  ob := obX_look ho

theorem Tr.of (ρ : Nat → Nat) {sz np nx : Nat} {sl : List (Nat × AV)} {ob : List (Nat × Ob)} (hsz : sz = A.sz) (hnp : np = A.np) (hle : np ≤ nx) (hρ : ∀ k, k < np → ρ k = k) (hlt : ∀ k, k < nx → ρ k < A.nx) (hinj : ∀ k k', k < nx → k' < nx → ρ k = ρ k' → k = k')
    (hs : slX A ρ nx sl) (ho : obX A ρ nx ob) : Tr A (AS.of sz np nx sl ob) := Tr.wk (Wk.of ρ hsz hnp hle hρ hlt hinj hs ho)

/-- The objects keep their numbers. -/
theorem Tr.ofId {sz np nx : Nat} {sl : List (Nat × AV)} {ob : List (Nat × Ob)} (hsz : sz = A.sz) (hnp : np = A.np) (hle : np ≤ nx) (hlt : nx ≤ A.nx)
    (hs : slX A id nx sl) (ho : obX A id nx ob) : Tr A (AS.of sz np nx sl ob) := Tr.of id hsz hnp hle (fun _ _ => rfl) (fun k hk => Nat.lt_of_lt_of_le hk hlt) (fun _ _ _ _ e => e) hs ho

/-! ### loops -/
theorem swp_loopT {c : Code} {σ : Type} (C : σ → AS) (I : σ → Prop) (μ : σ → Nat) (s0 : σ) (h0 : Tr A (C s0)) (hI : I s0)
    (h : ∀ s, I s → SWP P c (C s) (thenQ (fun A' => ∃ s', I s' ∧ μ s' < μ s ∧ Tr A' (C s')) Q)) : SWP P (.loop c) A Q := fun G a w R => by
  have key : ∀ (n : Nat) (s : σ), I s → μ s < n → ∀ G a w, Rel G (C s) a w → Code.rounds P c (QX Q G w) n a w := by
    intro n
    induction n with
    | zero => intro s _ hn; omega
    | succ n ih =>
      intro s hs hn G a w R
      rw [rounds_succ]
      refine wp_mono (h s hs G a w R) fun e a' w' k => ?_
      cases e with
      | normal =>
        obtain ⟨G', A', ⟨s', hs', hμ, W⟩, r, E⟩ := k
        obtain ⟨G2, r2, E2⟩ := W G' a' w' r
        have := ih s' hs' (by omega) G2 a' w' r2
        have mono : ∀ (m : Nat) (a : Act) (w1 : World), Code.rounds P c (QX Q G2 w') m a w1 → Code.rounds P c (QX Q G w) m a w1 := by
          intro m
          induction m with
          | zero => intro a w1 h; exact h
          | succ m ihm =>
            intro a w1 h
            rw [rounds_succ] at h ⊢
            refine wp_mono h fun e a w2 k => ?_
            cases e with
            | normal => exact ihm a w2 k
            | exit i => exact QX.ext (e := .exit i) (E.trans E2) k
            | ret => exact QX.ext (e := .ret) (E.trans E2) k
            | goto l => exact k.elim
            | panic c => exact k.elim
            | outgrown => exact k.elim
        exact mono n a' w' this
      | exit i => exact k
      | ret => exact k
      | goto l => exact k.elim
      | panic c => exact k.elim
      | outgrown => exact k.elim
  obtain ⟨G', r, E⟩ := h0 G a w R
  have h1 := wp_loop_rounds _ (key (μ s0 + 1) s0 hI (Nat.lt_succ_self _) G' a w r)
  exact wp_mono h1 fun _ _ _ k => k.ext E

theorem loopX_of (hE : E.Ok P) (hm : P.follows .mixedOrders = true) {c : Code} {σ : Type} (C : σ → AS) (I : σ → Prop) (μ : σ → Nat) (s0 : σ) (hsz : ∀ s, (C s).sz = A.sz) (h0 : Tr A (C s0)) (hI : I s0)
    (h : ∀ s, I s → xcode P E c (C s) (thenQ (fun A' => ∃ s', I s' ∧ μ s' < μ s ∧ Tr A' (C s')) Q)) : loopX P c A Q := ⟨by
  intro hok
  refine swp_loopT C I μ s0 h0 hI fun s hs => (xcode_sound hE hm c (C s) _ (by rw [hsz]; exact hok) (h s hs)).mono fun e A' k => ?_
  rw [hsz] at k
  cases e with
  | normal => exact k.2
  | exit i => exact k
  | ret => exact k⟩

/-! ### calls and returns -/
theorem wp_callL {G : Gh} {a : Act} {w : World} {ρ : Nat → Nat} (R : Rel G A a w) {Q : Exit → Act → World → Prop} {f : FuncId} {fv : Operand} {caps : List AC} {xs : Array Operand} {ts : Array TypeId} {avs args : List AV} {obs : List Ob} {pos : Nat → Option Nat} {post : AV → List Ob → List Ob → Prop}
    (hd : ∀ t, o.dst = some t → t < A.sz) (ho : o.op = .call ⟨.value fv, xs, ts⟩) (hfv : A.ev fv = .one (.fn f caps)) (hc : callee P f) (hS : FSpec P f args obs post)
    (hle : Pw AV.Le (xs.toList.map A.ev ++ caps.map AV.one) avs) (hP : Passed A avs args obs ρ pos)
    (hK : ∀ r obs' news, post r obs' news → obs'.length = obs.length → K ((A.back ρ obs.length pos obs' news).put o.dst (r.ren (cren ρ obs.length A.nx)))) : o.wp P a w (Post K G w) Q := by
  obtain ⟨fn, hf1, hf2, hf3⟩ := hc
  have hfr := R.ev fv
  rw [hfv] at hfr
  obtain ⟨cvs, hval, hpw⟩ := inv_fn hfr
  have hvs : Pw (RepAV G A.nx w) (xs.toList.map A.ev ++ caps.map .one) (xs.toList.map a.eval ++ cvs) := by
    refine Pw.append ⟨by simp, fun j x y hx hy => ?_⟩ ⟨by simpa using hpw.1, fun j x y hx hy => ?_⟩
    · rw [List.getElem?_map] at hx hy
      cases hq : xs.toList[j]? with
      | none => rw [hq] at hx; cases hx
      | some q => rw [hq] at hx hy; cases hx; cases hy; exact R.ev q
    · rw [List.getElem?_map] at hx
      obtain ⟨c, hc, rfl⟩ := Option.map_eq_some_iff.1 hx
      exact .one (hpw.2 j c y hc hy)
  have hvs2 : Pw (RepAV G A.nx w) avs (xs.toList.map a.eval ++ cvs) := by
    refine ⟨hle.1.symm.trans hvs.1, fun j x y hx hy => ?_⟩
    have hj : j < (xs.toList.map A.ev ++ caps.map AV.one).length := by
      rw [hle.1]
      rcases Nat.lt_or_ge j avs.length with h' | h'
      · exact h'
      · rw [List.getElem?_eq_none h'] at hx; cases hx
    exact hle.2 j _ x (List.getElem?_eq_getElem hj) hx _ _ _ _ (hvs.2 j _ y (List.getElem?_eq_getElem hj) hy)
  have hcall := call_sound R hS hP hvs2
  unfold Oper.wp
  have hrun : (execOp a.eval o).run P w = .ok (.enter f (xs.toList.map a.eval ++ cvs).toArray) w := by
    have e : ((xs.toList.map a.eval ++ cvs).toArray : Array Value) = xs.map a.eval ++ cvs.toArray := by
      apply Array.ext'
      simp
    rw [e]
    have hf3' : ¬ fn.name = "runtime.NumGoroutine" := by simpa using hf3
    have hf2' : ¬ fn.body = none := by intro e; rw [e] at hf2; cases hf2
    simp [execOp, ho, resolve, hval, Deferred.ofValue, invoke, callFunc, hf1, hf2', hf3']
  rw [hrun]
  refine hcall.mono fun e w' h => ?_
  obtain ⟨G', v, r, obs', news, hpost, hlen, rfl, hrep, R', E⟩ := h
  exact ⟨G', _, hK r obs' news hpost hlen, R'.put hd hrep, E⟩

/-- A call of a function of values; what is given may say more than what is asked. -/
theorem callX_le {fv : Operand} {xs : Array Operand} {ts : Array TypeId} {f : FuncId} {caps : List AC} {args : List AV} {post : AV → Prop} (hS : PSpec P f args post) (hc : callee P f) (ho : o.op = .call ⟨.value fv, xs, ts⟩) (hfv : A.ev fv = .one (.fn f caps))
    (ha : Pw AV.Le (xs.toList.map A.ev ++ caps.map AV.one) args) (hl : AV.ltL 0 args = true) (hK : ∀ r, r.lt 0 = true → post r → K (A.put o.dst r)) : callX P o A K := ⟨by
  intro hd G a w Q R
  refine wp_callL R hd (ρ := id) (pos := fun _ => none) ho hfv hc hS ha ⟨?_, fun x hx => ?_, fun k hk => by simp at hk, fun id k => by simp, fun k o ho => by simp at ho⟩ fun r obs' news hp _ => ?_
  · rw [← AV.renL_map, AV.renL_of_lt _ hl]
  · rw [AV.ltL_all] at hl
    simpa using List.all_eq_true.1 hl x hx
  · obtain ⟨rfl, rfl, hr, hp⟩ := hp
    rw [AV.ren_of_lt _ hr]
    have := back_nil A id
    simp only [List.length_nil]
    rw [this]
    exact ⟨put_sz _ _ _, hK r hr hp⟩⟩

theorem retX_tr {A1 : AS} {L : Lay} {rs : List ResultVar} {n : Nat} {post : AV → List Ob → List Ob → Prop} (T : Tr A A1) (h : retX L rs n post A1) : retX L rs n post A := by
  obtain ⟨A2, T2, h⟩ := h.get
  exact ⟨A2, T.trans T2, h⟩

theorem SWP.ofTr {c : Code} {A1 : AS} (T : Tr A A1) (h : SWP P c A1 Q) : SWP P c A Q := fun G a w R => by
  obtain ⟨G1, R1, E1⟩ := T G a w R
  exact wp_mono (h G1 a w R1) fun _ _ _ k => k.ext E1
theorem loopX_tr {c : Code} {A1 : AS} (T : Tr A A1) (hz : A1.sz = A.sz) (h : loopX P c A1 Q) : loopX P c A Q := by
  have h := h.get
  rw [hz] at h
  exact ⟨fun hok => SWP.ofTr T (h hok)⟩
end
end Go.Proofs.Ve

/-
  VeEq: '==' of a struct of two whole numbers and a string.
-/
set_option linter.unusedVariables false
set_option linter.unusedSimpArgs false
namespace Go.Proofs.Ve
open Go
section
variable {P : Program}
theorem part_int {t off : Nat} {k : IntKind} (hu : P.underlying t = some (.int k)) (xs : Array Value) (w : World) {v : Value} (h : xs[off]? = some v) : (part t xs off).run P w = .ok v w := by
  simp [part, isAgg, run_underlying hu, h]
theorem part_str {t off : Nat} (hu : P.underlying t = some .string) (xs : Array Value) (w : World) {v : Value} (h : xs[off]? = some v) : (part t xs off).run P w = .ok v w := by
  simp [part, isAgg, run_underlying hu, h]
theorem eqIn_int {t d : Nat} {k : IntKind} (hu : P.underlying t = some (.int k)) (w : World) (K : IntKind) (m n : Int) : (Op.equalIn (d + 1) t (.int K m) (.int K n)).run P w = .ok (m == n) w := by
  simp [Op.equalIn, run_underlying hu]
theorem eqIn_str {t d : Nat} (hu : P.underlying t = some .string) (w : World) (m n : ByteArray) : (Op.equalIn (d + 1) t (.string m) (.string n)).run P w = .ok (m == n) w := by
  simp [Op.equalIn, run_underlying hu]

theorem eqOk_iis {t : TypeId} {f0 f1 f2 : Field} {k0 k1 : IntKind} (hu : P.underlying t = some (.struct #[f0, f1, f2])) (hs : P.stoodInHeld t = false) (hn : f0.name ≠ "_" ∧ f1.name ≠ "_" ∧ f2.name ≠ "_") (ho : f0.offset = 0 ∧ f1.offset = 1 ∧ f2.offset = 2)
    (h0 : P.underlying f0.type = some (.int k0)) (h1 : P.underlying f1.type = some (.int k1)) (h2 : P.underlying f2.type = some .string) (hg : P.eqGuardType P.depth t = false) (K0 K1 : IntKind) : EqOk P t [.int K0 0, .int K1 0, .str ⟨#[]⟩] := by
  refine ⟨hg, fun xs ys F F' w w0 w1 us vs b hlen hx hy hk hb => ?_⟩
  match xs, hlen with
  | [x0, x1, x2], hlen' =>
    clear hlen'
    cases x0 <;> try (simp [acEqs, acEq] at hk)
    cases x1 <;> try (simp [acEqs, acEq] at hk)
    cases x2 <;> try (simp [acEqs, acEq] at hk)
    rename_i L0 m0 L1 m1 s2
    match ys, hb, hy with
    | [y0, y1, y2], hb, hy =>
      cases y0 <;> try (simp [acEqs, acEq] at hb)
      cases y1 <;> try (simp [acEqs, acEq] at hb)
      cases y2 <;> try (simp [acEqs, acEq] at hb)
      rename_i L0' n0 L1' n1 t2
      match us, hx with
      | [u0, u1, u2], hx =>
        match vs, hy with
        | [v0, v1, v2], hy =>
          obtain ⟨hx0, hx1, hx2⟩ := And.intro (hx.2 0 _ _ rfl rfl) (And.intro (hx.2 1 _ _ rfl rfl) (hx.2 2 _ _ rfl rfl))
          obtain ⟨hy0, hy1, hy2⟩ := And.intro (hy.2 0 _ _ rfl rfl) (And.intro (hy.2 1 _ _ rfl rfl) (hy.2 2 _ _ rfl rfl))
          cases hx0; cases hx1; cases hx2; cases hy0; cases hy1; cases hy2
          have e0 : L0 = L0' := by
            by_cases e : L0 = L0'
            · exact e
            · simp [e] at hb
          have e1 : L1 = L1' := by
            by_cases e : L1 = L1'
            · exact e
            · simp [e] at hb
          subst e0 e1
          simp at hb
          have hf : P.fieldsOf t = #[f0, f1, f2] := by simp [Program.fieldsOf, hu]
          show (Op.equalIn (9999 + 1) t _ _).run P w = _
          rw [run_equalIn_struct (P := P) w 9999 t _ _ (by rw [hf]; exact hu) hs, hf]
          simp only [Op.eqFields, if_pos hn.1, if_pos hn.2.1, if_pos hn.2.2, ho.1, ho.2.1, ho.2.2, Sem.run_bind]
          have p0 : ∀ (w : World) (x y z : Value), (part f0.type #[x, y, z] 0).run P w = .ok x w := fun w x y z => part_int h0 _ w rfl
          have p1 : ∀ (w : World) (x y z : Value), (part f1.type #[x, y, z] 1).run P w = .ok y w := fun w x y z => part_int h1 _ w rfl
          have p2 : ∀ (w : World) (x y z : Value), (part f2.type #[x, y, z] 2).run P w = .ok z w := fun w x y z => part_str h2 _ w rfl
          have q0 : ∀ (w : World) (K : IntKind) (m n : Int), (Op.equalIn 9999 f0.type (.int K m) (.int K n)).run P w = .ok (m == n) w := fun w K m n => eqIn_int (d := 9998) h0 w K m n
          have q1 : ∀ (w : World) (K : IntKind) (m n : Int), (Op.equalIn 9999 f1.type (.int K m) (.int K n)).run P w = .ok (m == n) w := fun w K m n => eqIn_int (d := 9998) h1 w K m n
          have q2 : ∀ (w : World) (m n : ByteArray), (Op.equalIn 9999 f2.type (.string m) (.string n)).run P w = .ok (m == n) w := fun w m n => eqIn_str (d := 9998) h2 w m n
          rw [← hb]
          simp only [p0, q0, Result.andThen_ok]
          cases m0 == n0
          · simp
          · simp only [Bool.not_true, Bool.false_eq_true, if_false, Sem.run_bind, p1, q1, Result.andThen_ok]
            cases m1 == n1
            · simp
            · simp only [Bool.not_true, Bool.false_eq_true, if_false, Sem.run_bind, p2, q2, Result.andThen_ok]
              cases s2 == t2 <;> simp
        | [], hy => have := hy.1; simp at this
        | [_], hy => have := hy.1; simp at this
        | [_, _], hy => have := hy.1; simp at this
        | _ :: _ :: _ :: _ :: _, hy => have := hy.1; simp at this
      | [], hx => have := hx.1; simp at this
      | [_], hx => have := hx.1; simp at this
      | [_, _], hx => have := hx.1; simp at this
      | _ :: _ :: _ :: _ :: _, hx => have := hx.1; simp at this
    | [], hb, _ => simp [acEqs] at hb
    | [_], hb, _ => simp [acEqs] at hb
    | [_, _], hb, _ => simp [acEqs] at hb
    | _ :: _ :: _ :: _ :: _, hb, _ => simp [acEqs] at hb
end
end Go.Proofs.Ve

/-
  VeDa: lists as slices; small facts that walks share.
-/
set_option linter.unusedVariables false
namespace Go.Proofs.Ve
open Go

theorem bT {c : Prop} {d : Decidable c} (h : c) : AV.one (AC.bool true) = AV.one (AC.bool (@decide c d)) := by rw [decide_eq_true h]
theorem bF {c : Prop} {d : Decidable c} (h : ¬ c) : AV.one (AC.bool false) = AV.one (AC.bool (@decide c d)) := by rw [decide_eq_false h]

/-- A slice of a list: f gives an element's cells, B its bytes. -/
def slC {α : Type} (f : α → List AC) (B : Nat) (l : List α) : AC := .sl false B l.length (l.flatMap f)
theorem flat_get {α : Type} {f : α → List AC} {s : Nat} (hf : ∀ a, (f a).length = s) : ∀ (l : List α) (i : Nat) (h : i < l.length), ((l.flatMap f).drop (i * s)).take s = f l[i]
  | a :: l, 0, h => by
    have := hf a
    simp [this]
  | a :: l, i + 1, h => by
    have h1 := hf a
    have e : (i + 1) * s = (f a).length + i * s := by rw [h1, Nat.succ_mul, Nat.add_comm]
    rw [List.flatMap_cons, e, List.drop_length_add_append]
    exact flat_get hf l i (by simpa using h)
theorem flat_len {α : Type} {f : α → List AC} {s : Nat} (hf : ∀ a, (f a).length = s) (l : List α) : (l.flatMap f).length = l.length * s := by
  induction l with
  | nil => simp
  | cons a l ih => simp [ih, hf a, Nat.succ_mul, Nat.add_comm]
theorem flat_take {α : Type} {f : α → List AC} {s : Nat} (hf : ∀ a, (f a).length = s) (l : List α) (n : Nat) : (l.flatMap f).take (n * s) = (l.take n).flatMap f := by
  induction l generalizing n with
  | nil => simp
  | cons a l ih =>
    cases n with
    | zero => simp
    | succ n =>
      have e : (n + 1) * s = (f a).length + n * s := by rw [hf a, Nat.succ_mul, Nat.add_comm]
      rw [List.flatMap_cons, e, List.take_length_add_append, ih, List.take_succ_cons, List.flatMap_cons]
theorem flat_drop {α : Type} {f : α → List AC} {s : Nat} (hf : ∀ a, (f a).length = s) (l : List α) (n : Nat) : (l.flatMap f).drop (n * s) = (l.drop n).flatMap f := by
  induction l generalizing n with
  | nil => simp
  | cons a l ih =>
    cases n with
    | zero => simp
    | succ n =>
      have e : (n + 1) * s = (f a).length + n * s := by rw [hf a, Nat.succ_mul, Nat.add_comm]
      rw [List.flatMap_cons, e, List.drop_length_add_append, ih, List.drop_succ_cons]
theorem callee_of {P : Program} {f : FuncId} {fn : Func} (h : P.funcs[f]? = some fn) (h1 : fn.body.isNone = false) (h2 : (fn.name == "runtime.NumGoroutine") = false) : callee P f := ⟨fn, h, h1, h2⟩
theorem Pw.one {α β : Type} {R : α → β → Prop} {x : α} {y : β} (h : R x y) : Pw R [x] [y] := .cons h .nil

theorem Tr.frz' {A : AS} (id n : Nat) {T : OT} {s B : Nat} {cells : List AC} (hob : A.ob id = some ⟨T, s, B, cells⟩) (h0 : 0 < s) (hn : cells.length = n * s) (hd : cells.all (·.deep) = true) : Tr A (A.frz id (.sl false B n cells)) := Tr.frz id hob h0 n hn hd
theorem all_flat {α : Type} {f : α → List AC} (hf : ∀ a, (f a).all (·.deep) = true) (l : List α) : (l.flatMap f).all (·.deep) = true := by
  rw [List.all_flatMap]
  exact List.all_eq_true.2 fun a _ => hf a
/-- An empty slice, whatever was known of it. -/
theorem AV.Le.nilOf {α : Type} {f : α → List AC} {B : Nat} {full : Bool} {B' : Nat} {l : List α} (h : l = []) : AV.Le (.one (.sl full B' 0 [])) (.one (slC f B l)) := by
  subst h
  exact AV.Le.one (AC.LeV.sl (AC.Le.nil (.inl rfl)))

/-- A piece of a slice of a list. -/
theorem slice_flat {α : Type} {f : α → List AC} {s : Nat} (hf : ∀ a, (f a).length = s) (x : List α) (B : Nat) (d : Bool) (l h : Nat) (hh : h ≤ x.length) :
    AV.one (.sl (false && d) B (h - l) (((x.flatMap f).drop (l * s)).take ((h - l) * s))) = .one (slC f B ((x.drop l).take (h - l))) := by
  rw [flat_drop hf, flat_take hf]
  unfold slC
  rw [List.length_take, List.length_drop, Nat.min_eq_left (by omega)]
  rfl
theorem copy_flat {α : Type} {f : α → List AC} {s : Nat} (hf : ∀ a, (f a).length = s) (hs : 0 < s) (a b : List α) (h : a.length = b.length) :
    setR (a.flatMap f) 0 ((b.flatMap f).take (min b.length ((a.flatMap f).length / s) * s)) = b.flatMap f := by
  rw [flat_len hf, Nat.mul_div_cancel _ hs, h, Nat.min_self, List.take_of_length_le (by rw [flat_len hf]; exact Nat.le_refl _)]
  unfold setR
  rw [List.drop_eq_nil_of_le (by rw [flat_len hf, flat_len hf, h]; omega)]
  simp
theorem flat_div {α : Type} {f : α → List AC} {s : Nat} (hf : ∀ a, (f a).length = s) (hs : 0 < s) (l : List α) : (l.flatMap f).length = (l.flatMap f).length / s * s := by
  rw [flat_len hf, Nat.mul_div_cancel _ hs]
theorem AC.ren_deep (ρ : Nat → Nat) {c : AC} (h : c.deep = true) : c.ren ρ = c := by cases c <;> first | rfl | cases h
theorem AC.lt_deep (n : Nat) {c : AC} (h : c.deep = true) : c.lt n = true := by cases c <;> first | rfl | cases h
theorem ob_ren_deep (ρ : Nat → Nat) {T : OT} {s B : Nat} {cells : List AC} (h : cells.all (·.deep) = true) : (⟨T, s, B, cells⟩ : Ob).ren ρ = ⟨T, s, B, cells⟩ := by
  unfold Ob.ren
  congr 1
  rw [AC.renL_map]
  simp only [List.all_eq_true] at h
  exact (List.map_congr_left fun c hc => AC.ren_deep ρ (h c hc)).trans (by simp)
theorem ob_lt_deep (n : Nat) {T : OT} {s B : Nat} {cells : List AC} (h : cells.all (·.deep) = true) : (⟨T, s, B, cells⟩ : Ob).lt n = true := by
  unfold Ob.lt
  simp only [List.all_eq_true, AC.ltL_all] at h ⊢
  exact fun c hc => AC.lt_deep n (h c hc)
/-- Run on, through what is decided. -/
theorem wn {A B : Prop} (h : B) (e : B → A := by
    intro h
    conv => whnf
    repeat (first | (refine forkB_true ?_; conv => whnf) | (refine forkB_false ?_; conv => whnf) | (refine reqD_dec (by exact Nat.le_of_ble_eq_true rfl) ?_; conv => whnf) | (refine reqD_dec (by exact Nat.eq_of_beq_eq_true rfl) ?_; conv => whnf) | (refine reqD_dec ⟨by decide, by exact Nat.le_of_ble_eq_true rfl⟩ ?_; conv => whnf))
    exact h) : A := e h
theorem wm {A B : Prop} (h : B) (e : B → A := by
    intro h
    conv => whnf
    repeat (first | (refine forkB_true ?_; conv => whnf) | (refine forkB_false ?_; conv => whnf) | (refine reqD_dec (by exact Nat.le_of_ble_eq_true rfl) ?_; conv => whnf) | (refine reqD_dec (by exact Nat.eq_of_beq_eq_true rfl) ?_; conv => whnf))
    exact h) : A := e h
/-- A sum within the bounds. -/
theorem i64 {x : Int} {k : Int → Prop} (h : k x) (h1 : -9223372036854775808 ≤ x := by omega) (h2 : x ≤ 9223372036854775807 := by omega) : exI (IntKind.i64.wrap x) k := exI_i64 h1 h2 h
end Go.Proofs.Ve

/-
  VeDb: a loop of few rounds, run round by round.
-/
set_option linter.unusedVariables false
namespace Go.Proofs.Ve
open Go

def loopN (P : Program) (E : Env) (c : Code) : Nat → AS → (AX → AS → Prop) → Prop
  | 0, _, _ => False
  | n + 1, A, Q => xcode P E c A (thenQ (fun A' => loopN P E c n A' Q) Q)

theorem rounds_ext {P : Program} {c : Code} {Q : AX → AS → Prop} {G G2 : Gh} {w w' : World} (Ex : Ext G w G2 w') : ∀ (m : Nat) (a : Act) (w1 : World), Code.rounds P c (QX Q G2 w') m a w1 → Code.rounds P c (QX Q G w) m a w1
  | 0, a, w1, h => h
  | m + 1, a, w1, h => by
    rw [rounds_succ] at h ⊢
    refine wp_mono h fun e a w2 k => ?_
    cases e with
    | normal => exact rounds_ext Ex m a w2 k
    | exit i => exact QX.ext (e := .exit i) Ex k
    | ret => exact QX.ext (e := .ret) Ex k
    | goto l => exact k.elim
    | panic c => exact k.elim
    | outgrown => exact k.elim

theorem loopN_rounds {P : Program} {E : Env} (hE : E.Ok P) (hm : P.follows .mixedOrders = true) {c : Code} {sz : Nat} (hok : codeOk sz c = true) {Q : AX → AS → Prop} : ∀ (n : Nat) (A : AS), A.sz = sz → loopN P E c n A Q → ∀ G a w, Rel G A a w → Code.rounds P c (QX (fun x A' => A'.sz = sz ∧ Q x A') G w) n a w
  | 0, A, _, h, _, _, _, _ => h.elim
  | n + 1, A, hz, h, G, a, w, R => by
    rw [rounds_succ]
    refine wp_mono (xcode_sound hE hm c A _ (by rw [hz]; exact hok) h G a w R) fun e a' w' k => ?_
    rw [hz] at k
    cases e with
    | normal =>
      obtain ⟨G', A', ⟨hz', k⟩, r, Ex⟩ := k
      exact rounds_ext Ex n a' w' (loopN_rounds hE hm hok n A' hz' k G' a' w' r)
    | exit i => exact k
    | ret => exact k
    | goto l => exact k.elim
    | panic c => exact k.elim
    | outgrown => exact k.elim

theorem loopX_n {P : Program} {E : Env} (hE : E.Ok P) (hm : P.follows .mixedOrders = true) (n : Nat) {c : Code} {A : AS} {Q : AX → AS → Prop} (h : loopN P E c n A Q) : loopX P c A Q :=
  ⟨fun hok G a w R => wp_loop_rounds n (loopN_rounds hE hm hok n A rfl h G a w R)⟩
end Go.Proofs.Ve

/-
  VeDc: calls that pass objects and leave them as they were.
-/
set_option linter.unusedVariables false
namespace Go.Proofs.Ve
open Go

mutual
theorem AC.ren_congr {n : Nat} {ρ ρ' : Nat → Nat} (h : ∀ k, k < n → ρ k = ρ' k) : ∀ {c : AC}, c.lt n = true → c.ren ρ = c.ren ρ'
  | .fn f caps, e => by rw [AC.ren, AC.ren, AC.renL_congr h (l := caps) e]
  | .ptr k off, e => by rw [AC.ren, AC.ren, h k (by simpa [AC.lt] using e)]
  | .gref k, e => by rw [AC.ren, AC.ren, h k (by simpa [AC.lt] using e)]
  | .mref k, e => by rw [AC.ren, AC.ren, h k (by simpa [AC.lt] using e)]
  | .int k n, _ => rfl
  | .bool b, _ => rfl
  | .str s, _ => rfl
  | .sl full B n cells, _ => rfl
  | .nilp, _ => rfl
  | .any, _ => rfl
  | .cptr cells, _ => rfl
theorem AC.renL_congr {n : Nat} {ρ ρ' : Nat → Nat} (h : ∀ k, k < n → ρ k = ρ' k) : ∀ {l : List AC}, AC.ltL n l = true → AC.renL ρ l = AC.renL ρ' l
  | [], _ => rfl
  | c :: r, e => by
    simp only [AC.ltL, Bool.and_eq_true] at e
    rw [AC.renL, AC.renL, AC.ren_congr h e.1, AC.renL_congr h e.2]
end
theorem Ob.ren_congr {n : Nat} {ρ ρ' : Nat → Nat} (h : ∀ k, k < n → ρ k = ρ' k) {o : Ob} (e : o.lt n = true) : o.ren ρ = o.ren ρ' := by
  unfold Ob.ren
  rw [AC.renL_congr h e]

theorem back_same {A : AS} {avs args : List AV} {obs : List Ob} {ρ : Nat → Nat} {pos : Nat → Option Nat} (hP : Passed A avs args obs ρ pos) : A.back ρ obs.length pos obs [] = A := by
  have key : ∀ id, (A.back ρ obs.length pos obs []).ob id = A.ob id := fun id => by
    unfold AS.back
    simp only
    split
    · cases hp : pos id with
      | none => rfl
      | some k =>
        obtain ⟨hk, e⟩ := (hP.pos id k).1 hp
        have hg := List.getElem?_eq_getElem hk
        obtain ⟨h1, h2⟩ := hP.ob k _ hg
        simp only [hg, Option.map_some]
        rw [← e, h1, Ob.ren_congr (ρ := cren ρ obs.length A.nx) (ρ' := ρ) (fun j hj => if_pos hj) h2]
    · simp
  have e : A.back ρ obs.length pos obs [] = { A with ob := (A.back ρ obs.length pos obs []).ob } := rfl
  rw [e, funext key]

/-- A function that takes values and objects, and leaves the objects as they were. -/
def OSpec (P : Program) (f : FuncId) (args : List AV) (obs : List Ob) (post : AV → Prop) : Prop := FSpec P f args obs (fun r obs' news => obs' = obs ∧ news = [] ∧ r.lt 0 = true ∧ post r)

theorem callX_obs {P : Program} {A : AS} {o : Oper} {K : AS → Prop} {fv : Operand} {xs : Array Operand} {ts : Array TypeId} {f : FuncId} {caps : List AC} {avs args : List AV} {obs : List Ob} {post : AV → Prop} (hS : OSpec P f args obs post) (hc : callee P f) (ρ : Nat → Nat) (pos : Nat → Option Nat)
    (ho : o.op = .call ⟨.value fv, xs, ts⟩) (hfv : A.ev fv = .one (.fn f caps)) (ha : Pw AV.Le (xs.toList.map A.ev ++ caps.map AV.one) avs) (hP : Passed A avs args obs ρ pos) (hK : ∀ r, r.lt 0 = true → post r → K (A.put o.dst r)) : callX P o A K := ⟨by
  intro hd G a w Q R
  refine wp_callL R hd (ρ := ρ) (pos := pos) ho hfv hc hS ha hP fun r obs' news hp _ => ?_
  obtain ⟨rfl, rfl, hr, hp⟩ := hp
  rw [AV.ren_of_lt _ hr, back_same hP]
  exact ⟨put_sz _ _ _, hK r hr hp⟩⟩
end Go.Proofs.Ve

/-
  VeDd: a state out of lists whose last object is renamed; lists of cells of which one is written.
-/
set_option linter.unusedVariables false
namespace Go.Proofs.Ve
open Go

def mv (a b k : Nat) : Nat := bif Nat.beq k a then b else k
theorem mv_ne {a b k : Nat} (h : k ≠ a) : mv a b k = k := by
  unfold mv
  cases e : Nat.beq k a with
  | true => exact absurd (Nat.eq_of_beq_eq_true e) h
  | false => rfl
theorem mv_same (a b : Nat) : mv a b a = b := by
  unfold mv
  rw [Nat.beq_refl]
  rfl
/-- Object a of the new state is object b of the old one; those below a keep their numbers. -/
theorem Tr.ofMv {A : AS} (a b : Nat) {sz np : Nat} {sl : List (Nat × AV)} {ob : List (Nat × Ob)} (hsz : sz = A.sz) (hnp : np = A.np) (hle : np ≤ a) (hab : a ≤ b) (hb : b < A.nx)
    (hs : slX A (mv a b) (a + 1) sl) (ho : obX A (mv a b) (a + 1) ob) : Tr A (AS.of sz np (a + 1) sl ob) := by
  refine Tr.of (mv a b) hsz hnp (by omega) (fun k hk => mv_ne (by omega)) (fun k hk => ?_) (fun k k' hk hk' e => ?_) hs ho
  · by_cases h : k = a
    · rw [h, mv_same]; exact hb
    · rw [mv_ne h]; omega
  · by_cases h : k = a
    · by_cases h' : k' = a
      · omega
      · rw [h, mv_same, mv_ne h'] at e; omega
    · by_cases h' : k' = a
      · rw [h', mv_same, mv_ne h] at e; omega
      · rw [mv_ne h, mv_ne h'] at e; exact e

theorem take1 (L : List AC) (i : Nat) (h : i < L.length) : (L.drop (i * 1)).take 1 = [L[i]] := by
  rw [Nat.mul_one, List.drop_eq_getElem_cons h]
  rfl
theorem setR1 (L : List AC) (i : Nat) (d : AC) (h : i < L.length) : setR L (i * 1) [d] = L.set i d := by
  rw [Nat.mul_one]
  unfold setR
  rw [List.set_eq_take_append_cons_drop, if_pos h]
  simp
theorem map_deep {f : AC → AC} (hf : ∀ c : AC, c.deep = true → f c = c) (L : List AC) (h : L.all (·.deep) = true) : L.map f = L := by
  simp only [List.all_eq_true] at h
  exact (List.map_congr_left fun c hc => hf c (h c hc)).trans (by simp)
theorem AC.sub_deep {c : AC} (id : Nat) (x : AC) (h : c.deep = true) : c.sub id x = c := by cases c <;> first | rfl | cases h
theorem ob_ren_set (ρ : Nat → Nat) {T : OT} {s B i : Nat} {L : List AC} {c : AC} (h : L.all (·.deep) = true) : (⟨T, s, B, L.set i c⟩ : Ob).ren ρ = ⟨T, s, B, L.set i (c.ren ρ)⟩ := by
  unfold Ob.ren
  congr 1
  rw [AC.renL_map, List.map_set, map_deep (fun c hc => AC.ren_deep ρ hc) L h]
theorem ob_lt_set (n : Nat) {T : OT} {s B i : Nat} {L : List AC} {c : AC} (h : L.all (·.deep) = true) (hc : c.lt n = true) : (⟨T, s, B, L.set i c⟩ : Ob).lt n = true := by
  unfold Ob.lt
  simp only [List.all_eq_true, AC.ltL_all] at h ⊢
  intro x hx
  rcases List.mem_or_eq_of_mem_set hx with h1 | h1
  · exact AC.lt_deep n (h x h1)
  · rw [h1]; exact hc
theorem sub_set (id : Nat) (x : AC) {i : Nat} {L : List AC} {c : AC} (h : L.all (·.deep) = true) : (L.set i c).map (·.sub id x) = L.set i (c.sub id x) := by
  rw [List.map_set, map_deep (fun c hc => AC.sub_deep id x hc) L h]

def mv2 (a b c d k : Nat) : Nat := bif Nat.beq k a then b else bif Nat.beq k c then d else k
theorem mv2_a (a b c d : Nat) : mv2 a b c d a = b := by unfold mv2; rw [Nat.beq_refl]; rfl
theorem mv2_ne {a b c d k : Nat} (h : k ≠ a) : mv2 a b c d k = mv c d k := by
  unfold mv2
  cases e : Nat.beq k a with
  | true => exact absurd (Nat.eq_of_beq_eq_true e) h
  | false => rfl
/-- Objects a and c of the new state are objects b and d of the old one; those below keep their numbers. -/
theorem Tr.ofMv2 {A : AS} (a b c d : Nat) {sz np : Nat} {sl : List (Nat × AV)} {ob : List (Nat × Ob)} (hsz : sz = A.sz) (hnp : np = A.np) (hle : np ≤ a) (hac : c = a + 1) (hab : a ≤ b ∧ a ≤ d ∧ b ≠ d) (hb : b < A.nx) (hd : d < A.nx)
    (hs : slX A (mv2 a b c d) (c + 1) sl) (ho : obX A (mv2 a b c d) (c + 1) ob) : Tr A (AS.of sz np (c + 1) sl ob) := by
  have val : ∀ k, k < c + 1 → (k = a ∧ mv2 a b c d k = b) ∨ (k = c ∧ mv2 a b c d k = d) ∨ (k < a ∧ mv2 a b c d k = k) := fun k hk => by
    by_cases h : k = a
    · exact .inl ⟨h, h ▸ mv2_a k b c d⟩
    · by_cases h2 : k = c
      · exact .inr (.inl ⟨h2, by rw [mv2_ne h, h2, mv_same]⟩)
      · exact .inr (.inr ⟨by omega, by rw [mv2_ne h, mv_ne h2]⟩)
  refine Tr.of (mv2 a b c d) hsz hnp (by omega) (fun k hk => ?_) (fun k hk => ?_) (fun k k' hk hk' e => ?_) hs ho
  · rcases val k (by omega) with ⟨h, _⟩ | ⟨h, _⟩ | ⟨_, h⟩
    · omega
    · omega
    · exact h
  · rcases val k hk with ⟨_, h⟩ | ⟨_, h⟩ | ⟨h1, h⟩ <;> rw [h] <;> omega
  · rcases val k hk with ⟨h1, h⟩ | ⟨h1, h⟩ | ⟨h1, h⟩ <;> rcases val k' hk' with ⟨h3, h4⟩ | ⟨h3, h4⟩ | ⟨h3, h4⟩ <;> rw [h, h4] at e <;> omega
theorem Pw.set {α : Type} {R : α → α → Prop} (hR : ∀ x, R x x) {L : List α} {i : Nat} {c d : α} (h : R c d) : Pw R (L.set i c) (L.set i d) := by
  refine ⟨by simp, fun j x y hx hy => ?_⟩
  rw [List.getElem?_set] at hx hy
  split at hx
  · rename_i e
    rw [if_pos e] at hy
    split at hx
    · rename_i e2
      rw [if_pos e2] at hy
      cases hx
      cases hy
      exact h
    · cases hx
  · rename_i e
    rw [if_neg e, hx] at hy
    cases hy
    exact hR x
end Go.Proofs.Ve

/-
  VeDe: functions that take objects and leave them as they were: how a body ends.
-/
set_option linter.unusedVariables false
namespace Go.Proofs.Ve
open Go

mutual
theorem AC.ren_id' : ∀ (c : AC), c.ren id = c
  | .fn f caps => by rw [AC.ren, AC.renL_id' caps]
  | .ptr k off => rfl
  | .gref k => rfl
  | .mref k => rfl
  | .int k n => rfl
  | .bool b => rfl
  | .str s => rfl
  | .sl full B n cells => rfl
  | .nilp => rfl
  | .any => rfl
  | .cptr cells => rfl
theorem AC.renL_id' : ∀ (l : List AC), AC.renL id l = l
  | [] => rfl
  | c :: r => by rw [AC.renL, AC.ren_id' c, AC.renL_id' r]
end
mutual
theorem AV.ren_id' : ∀ (c : AV), c.ren id = c
  | .undef => rfl
  | .one c => by rw [AV.ren, AC.ren_id' c]
  | .agg cs => by rw [AV.ren, AC.renL_id' cs]
  | .tup vs => by rw [AV.ren, AV.renL_id' vs]
theorem AV.renL_id' : ∀ (l : List AV), AV.renL id l = l
  | [] => rfl
  | c :: r => by rw [AV.renL, AV.ren_id' c, AV.renL_id' r]
end
mutual
theorem AC.lt_of_lt0 (m : Nat) : ∀ (c : AC), c.lt 0 = true → c.lt m = true
  | .fn f caps, h => by rw [AC.lt] at h ⊢; exact AC.ltL_of_lt0 m caps h
  | .ptr k off, h => by simp [AC.lt] at h
  | .gref k, h => by simp [AC.lt] at h
  | .mref k, h => by simp [AC.lt] at h
  | .int k n, _ => rfl
  | .bool b, _ => rfl
  | .str s, _ => rfl
  | .sl full B n cells, _ => rfl
  | .nilp, _ => rfl
  | .any, _ => rfl
  | .cptr cells, _ => rfl
theorem AC.ltL_of_lt0 (m : Nat) : ∀ (l : List AC), AC.ltL 0 l = true → AC.ltL m l = true
  | [], _ => rfl
  | c :: r, h => by
    simp only [AC.ltL, Bool.and_eq_true] at h ⊢
    exact ⟨AC.lt_of_lt0 m c h.1, AC.ltL_of_lt0 m r h.2⟩
end
mutual
theorem AV.lt_of_lt0 (m : Nat) : ∀ (c : AV), c.lt 0 = true → c.lt m = true
  | .undef, _ => rfl
  | .one c, h => by rw [AV.lt] at h ⊢; exact AC.lt_of_lt0 m c h
  | .agg cs, h => by rw [AV.lt] at h ⊢; exact AC.ltL_of_lt0 m cs h
  | .tup vs, h => by rw [AV.lt] at h ⊢; exact AV.ltL_of_lt0 m vs h
theorem AV.ltL_of_lt0 (m : Nat) : ∀ (l : List AV), AV.ltL 0 l = true → AV.ltL m l = true
  | [], _ => rfl
  | c :: r, h => by
    simp only [AV.ltL, Bool.and_eq_true] at h ⊢
    exact ⟨AV.lt_of_lt0 m c h.1, AV.ltL_of_lt0 m r h.2⟩
end
theorem Ob.ren_id' (o : Ob) : o.ren id = o := by
  unfold Ob.ren
  rw [AC.renL_id']

/-- The first objects are these, from number k on. -/
def sameO (A : AS) (n : Nat) : Nat → List Ob → Prop
  | _, [] => True
  | k, o :: r => (A.ob k = some o ∧ o.lt n = true) ∧ sameO A n (k + 1) r
theorem sameO_get {A : AS} {n : Nat} : ∀ {l : List Ob} {j : Nat}, sameO A n j l → ∀ (k : Nat) o, l[k]? = some o → A.ob (j + k) = some o ∧ o.lt n = true
  | [], _, _, k, o, h => by simp at h
  | x :: r, j, h, 0, o, e => by
    simp at e
    subst e
    exact h.1
  | x :: r, j, h, k + 1, o, e => by
    have := sameO_get h.2 k o (by simpa using e)
    rw [show j + (k + 1) = j + 1 + k by omega]
    exact this

theorem retX_obs {A : AS} {L : Lay} {rs : List ResultVar} {n : Nat} {obs : List Ob} {post : AV → Prop} (hn : n = obs.length) (hnp : A.np = n) (hnx : n ≤ A.nx) (ho : sameO A n 0 obs) (h : optX (resV L A rs) fun r => req (r.lt 0) (post r)) :
    retX L rs n (fun r obs' news => obs' = obs ∧ news = [] ∧ r.lt 0 = true ∧ post r) A := by
  obtain ⟨r, hr, h⟩ := optX_spec h
  obtain ⟨h1, h⟩ := req_spec h
  have hlt : ∀ m, r.lt m = true := fun m => AV.lt_of_lt0 m r h1
  refine retX_of ⟨r, obs, [], id, ⟨rfl, rfl, h1, h⟩, hn.symm, by rw [AV.ren_of_lt _ h1]; exact hr, hlt _, ?_⟩
  have hx : (A.left n (obs ++ [])).nx = n := by simp [AS.left, hn]
  exact
    { sz := rfl
      np := ⟨hnp.symm, by rw [hx]; exact Nat.le_refl _, fun k hk => rfl⟩
      lt := fun k hk => by rw [hx] at hk; exact Nat.lt_of_lt_of_le hk hnx
      inj := fun k k' _ _ e => e
      sl := fun t => .inl rfl
      ob := fun k o h => by
        have h : (obs ++ [])[k]? = some o := h
        rw [List.append_nil] at h
        have hk : k < obs.length := by
          rcases Nat.lt_or_ge k obs.length with h' | h'
          · exact h'
          · rw [List.getElem?_eq_none h'] at h; cases h
        obtain ⟨h2, h3⟩ := sameO_get ho k o h
        rw [Nat.zero_add] at h2
        rw [hx]
        exact ⟨by omega, by rw [Ob.ren_id']; exact h2, h3⟩ }

theorem ospec_x {P : Program} {E : Env} (hE : E.Ok P) (hm : P.follows .mixedOrders = true) {f : FuncId} {fn : Func} {c : Code} {args : List AV} {obs : List Ob} {post : AV → Prop} (hf : P.funcs[f]? = some fn) (hb : fn.body = some c) (nt : Nat) (hn : fn.ntmps = nt) (rs : List ResultVar) (hr : fn.results.toList = rs)
    (hok : codeOk (args.length + (nt - args.length)) c = true) (h : xcode P E c (AS.enter args obs nt) (endX E.L rs obs.length (fun r obs' news => obs' = obs ∧ news = [] ∧ r.lt 0 = true ∧ post r))) : OSpec P f args obs post :=
  fspec_x hE hm hf hb nt hn rs hr hok h

/-- The first n objects are passed, in their order. -/
def posN (n id : Nat) : Option Nat := if id < n then some id else none
theorem passedN {A : AS} {args : List AV} {obs : List Ob} (hl : AV.ltL obs.length args = true) (hnx : obs.length ≤ A.nx) (ho : sameO A obs.length 0 obs) : Passed A args args obs id (posN obs.length) where
  arg := by
    have : AV.renL id args = args := AV.renL_id' args
    rw [AV.renL_map] at this
    exact this.symm
  lt := fun x hx => by
    rw [AV.ltL_all] at hl
    exact List.all_eq_true.1 hl x hx
  nx := fun k hk => Nat.lt_of_lt_of_le hk hnx
  pos := fun i k => by
    unfold posN
    split
    · simp; omega
    · simp; omega
  ob := fun k o h => by
    obtain ⟨h1, h2⟩ := sameO_get ho k o h
    rw [Nat.zero_add] at h1
    exact ⟨by rw [Ob.ren_id']; exact h1, h2⟩
/-- One object is passed, which stands at number i. -/
theorem passed1 {A : AS} {args : List AV} {o : Ob} (i : Nat) (hl : AV.ltL 1 args = true) (hi : i < A.nx) (ho : A.ob i = some (o.ren (fun _ => i))) (hlt : o.lt 1 = true) : Passed A (args.map (·.ren (fun _ => i))) args [o] (fun _ => i) (fun j => if j = i then some 0 else none) where
  arg := rfl
  lt := fun x hx => by
    rw [AV.ltL_all] at hl
    exact List.all_eq_true.1 hl x hx
  nx := fun k hk => hi
  pos := fun j k => by
    constructor
    · intro h
      by_cases e : j = i
      · rw [if_pos e] at h
        cases h
        exact ⟨Nat.zero_lt_one, e.symm⟩
      · rw [if_neg e] at h; cases h
    · rintro ⟨h, e⟩
      have : k = 0 := by simp at h; exact h
      subst this
      exact if_pos e.symm
  ob := fun k o' h => by
    cases k with
    | zero => cases h; exact ⟨ho, hlt⟩
    | succ k => simp at h
end Go.Proofs.Ve

/-
  VeDf: functions that hand back a new object; states turned ahead of a drawn region.
-/
set_option linter.unusedVariables false
namespace Go.Proofs.Ve
open Go

theorem drawnX_tr {P : Program} {ops : Array Oper} {n : Nat} {l : Array Bool} {A A1 : AS} {K : AS → Prop} (T : Tr A A1) (hz : A1.sz = A.sz) (h : drawnX P ops n l A1 K) : drawnX P ops n l A K := ⟨fun hd Q G0 w0 G a w R Ex hQ hp => by
  have h1 := h.get (by rw [hz]; exact hd)
  rw [hz] at h1
  obtain ⟨G1, R1, E1⟩ := T G a w R
  exact h1 Q G0 w0 G1 a w R1 (Ex.trans E1) hQ hp⟩

/-- A function of values that hands back one new object: the result speaks of it as object 0. -/
def NSpec (P : Program) (f : FuncId) (args : List AV) (r0 : AV) (o : Ob) : Prop := FSpec P f args [] (fun r obs' news => obs' = [] ∧ r = r0 ∧ news = [o])

theorem back_new {A : AS} {o : Ob} (ho : ∀ ρ, o.ren ρ = o) : A.back id 0 (fun _ => none) [] [o] = A.newAt A.nx o := by
  have e : A.back id 0 (fun _ => none) [] [o] = { A with nx := A.nx + 1, ob := (A.back id 0 (fun _ => none) [] [o]).ob } := rfl
  have e2 : A.newAt A.nx o = { A with nx := A.nx + 1, ob := fupd A.ob A.nx (some o) } := rfl
  rw [e, e2]
  have key : ∀ i, (A.back id 0 (fun _ => none) [] [o]).ob i = fupd A.ob A.nx (some o) i := fun i => by
    unfold AS.back
    simp only
    by_cases h : i < A.nx
    · rw [if_pos h, fupd_ne _ (by omega)]
    · rw [if_neg h]
      by_cases h2 : i = A.nx
      · subst h2
        rw [fupd_same, Nat.sub_self]
        simp [ho]
      · rw [fupd_ne _ h2, List.getElem?_eq_none (by simp; omega)]
  rw [funext key]

theorem callX_new {P : Program} {A : AS} {o : Oper} {K : AS → Prop} {fv : Operand} {xs : Array Operand} {ts : Array TypeId} {f : FuncId} {caps : List AC} {args : List AV} {r0 : AV} {ob : Ob} (hS : NSpec P f args r0 ob) (hc : callee P f) (rf : Nat → AV) (hr : ∀ n, r0.ren (cren id 0 n) = rf n) (hob : ∀ ρ, ob.ren ρ = ob)
    (ho : o.op = .call ⟨.value fv, xs, ts⟩) (hfv : A.ev fv = .one (.fn f caps)) (ha : Pw AV.Le (xs.toList.map A.ev ++ caps.map AV.one) args) (hl : AV.ltL 0 args = true) (hK : newX A ob fun n A' => K (A'.put o.dst (rf n))) : callX P o A K := ⟨by
  intro hd G a w Q R
  refine wp_callL R hd (ρ := id) (pos := fun _ => none) ho hfv hc hS ha ⟨?_, fun x hx => ?_, fun k hk => by simp at hk, fun id k => by simp, fun k o ho => by simp at ho⟩ fun r obs' news hp _ => ?_
  · rw [← AV.renL_map, AV.renL_of_lt _ hl]
  · rw [AV.ltL_all] at hl
    simpa using List.all_eq_true.1 hl x hx
  · obtain ⟨rfl, rfl, rfl⟩ := hp
    show (((A.back id 0 (fun _ => none) [] [ob]).put o.dst (r.ren (cren id 0 A.nx))).sz = A.sz) ∧ K ((A.back id 0 (fun _ => none) [] [ob]).put o.dst (r.ren (cren id 0 A.nx)))
    rw [back_new hob, hr]
    exact ⟨put_sz _ _ _, forceN_spec (k := fun n => K ((A.newAt n ob).put o.dst (rf n))) hK⟩⟩

/-- A body that ends with a new object: object id of the state. -/
theorem retX_new {A : AS} {L : Lay} {rs : List ResultVar} {r0 : AV} {o : Ob} (id : Nat) (hnp : A.np = 0) (hid : id < A.nx) (hob : A.ob id = some (o.ren (fun _ => id))) (hlt : o.lt 1 = true) (hr : resV L A rs = some (r0.ren (fun _ => id))) (hr1 : r0.lt 1 = true) :
    retX L rs 0 (fun r obs' news => obs' = [] ∧ r = r0 ∧ news = [o]) A :=
  retX_of ⟨r0, [], [o], fun _ => id, ⟨rfl, rfl, rfl⟩, rfl, hr, hr1,
    { sz := rfl
      np := ⟨hnp.symm, Nat.zero_le _, fun k hk => by cases hk⟩
      lt := fun k hk => hid
      inj := fun k k' h h' _ => by
        have z : ∀ k, ((A.left 0 ([] ++ [o])).ob k).isSome = true → k = 0 := fun k h => by
          cases k with
          | zero => rfl
          | succ k => simp [AS.left] at h
        rw [z k h, z k' h']
      sl := fun t => .inl rfl
      ob := fun k o' h => by
        cases k with
        | zero =>
          have h : some o = some o' := h
          cases h
          exact ⟨Nat.zero_lt_one, hob, hlt⟩
        | succ k => simp [AS.left] at h }⟩

theorem nspec_x {P : Program} {E : Env} (hE : E.Ok P) (hm : P.follows .mixedOrders = true) {f : FuncId} {fn : Func} {c : Code} {args : List AV} {r0 : AV} {o : Ob} (hf : P.funcs[f]? = some fn) (hb : fn.body = some c) (nt : Nat) (hn : fn.ntmps = nt) (rs : List ResultVar) (hr : fn.results.toList = rs)
    (hok : codeOk (args.length + (nt - args.length)) c = true) (h : xcode P E c (AS.enter args [] nt) (endX E.L rs 0 (fun r obs' news => obs' = [] ∧ r = r0 ∧ news = [o]))) : NSpec P f args r0 o :=
  fspec_x hE hm hf hb nt hn rs hr hok h
end Go.Proofs.Ve

/-
  VeDg: an object lent to a function of values: while the call runs nobody writes it.
-/
set_option linter.unusedVariables false
namespace Go.Proofs.Ve
open Go

/-- Nothing that was there has turned. -/
structure Grown (w w' : World) : Prop where
  heap : ∀ b, b < w.heap.size → w'.heap[b]? = w.heap[b]?
  size : w.heap.size ≤ w'.heap.size
  os : w'.os = w.os
  tape : w'.tape = w.tape
  output : w'.output = w.output

section
variable {P : Program} {G : Gh} {A : AS} {a : Act} {w w' : World} {o : Oper} {K : AS → Prop}

theorem Rel.grown (R : Rel G A a w) (h : Grown w w') : Rel G A a w' ∧ Ext G w G w' := by
  have hA : Adv G A.nx w G A.nx w' := ⟨fun b j hF => ⟨hF, cell_of_block (h.heap b (R.fown b j hF).2)⟩, fun _ _ => rfl, fun _ _ => rfl, Nat.le_refl _⟩
  refine ⟨?_, ?_⟩
  · exact
      { defers := R.defers
        size := R.size
        slots := fun t => (R.slots t).adv hA
        obs := fun id o ho => ⟨(R.obs id o ho).1, (R.obs id o ho).2.of_heap hA (R.obs id o ho).1 fun k => ⟨k, h.heap _ (R.own _ _ k)⟩⟩
        fown := fun b j hF => ⟨(R.fown b j hF).1, Nat.lt_of_lt_of_le (R.fown b j hF).2 h.size⟩
        own := fun b id ho => Nat.lt_of_lt_of_le (R.own b id ho) h.size
        N := R.N }
  · exact ⟨hA.F, fun b hb _ => h.heap b hb, fun b hb ho => ho, fun b j hF => .inl hF, h.size, h.os, h.tape, h.output, rfl, fun _ _ => ⟨rfl, rfl⟩⟩

def AV.plain : AV → Bool
  | .one (.int _ _) | .one (.bool _) | .one (.str _) => true
  | _ => false
theorem RepAV.plain {G G' : Gh} {nx nx' : Nat} {w w' : World} {r : AV} {v : Value} (h : RepAV G nx w r v) (hp : r.plain = true) : RepAV G' nx' w' r v := by
  cases h with
  | undef => cases hp
  | agg => cases hp
  | tup => cases hp
  | one h =>
    rename_i c
    cases c <;> try (exact absurd hp Bool.false_ne_true)
    · cases h with
      | deep h => cases h; exact .one (.deep (.int _ _))
    · cases h with
      | deep h => cases h; exact .one (.deep (.bool _))
    · cases h with
      | deep h => cases h; exact .one (.deep (.str _))

/-- A function of values that gives a plain result is called while A1 (a state of the same frame, in which objects are immutable) stands in for A. -/
theorem callX_lend {A1 : AS} {fv : Operand} {xs : Array Operand} {ts : Array TypeId} {f : FuncId} {caps : List AC} {args : List AV} {post : AV → Prop} (T : Tr A A1) (hS : PSpec P f args post) (hc : callee P f) (hpl : ∀ r, post r → r.plain = true)
    (ho : o.op = .call ⟨.value fv, xs, ts⟩) (hfv : A1.ev fv = .one (.fn f caps)) (ha : Pw AV.Le (xs.toList.map A1.ev ++ caps.map AV.one) args) (hl : AV.ltL 0 args = true) (hK : ∀ r, post r → K (A.put o.dst r)) : callX P o A K := ⟨by
  intro hd G a w Q R
  obtain ⟨G1, R1, E1⟩ := T G a w R
  obtain ⟨fn, hf1, hf2, hf3⟩ := hc
  have hfr := R1.ev fv
  rw [hfv] at hfr
  obtain ⟨cvs, hval, hpw⟩ := inv_fn hfr
  have hvs : Pw (RepAV G1 A1.nx w) (xs.toList.map A1.ev ++ caps.map .one) (xs.toList.map a.eval ++ cvs) := by
    refine Pw.append ⟨by simp, fun j x y hx hy => ?_⟩ ⟨by simpa using hpw.1, fun j x y hx hy => ?_⟩
    · rw [List.getElem?_map] at hx hy
      cases hq : xs.toList[j]? with
      | none => rw [hq] at hx; cases hx
      | some q => rw [hq] at hx hy; cases hx; cases hy; exact R1.ev q
    · rw [List.getElem?_map] at hx
      obtain ⟨c, hc, rfl⟩ := Option.map_eq_some_iff.1 hx
      exact .one (hpw.2 j c y hc hy)
  let G0 : Gh := { adr := G1.adr, hdr := G1.hdr, own := fun _ => none, F := G1.F, N := 0 }
  have N : Named G0 0 G1 A1.nx id := ⟨fun k hk => absurd hk (Nat.not_lt_zero _), fun _ _ => rfl, fun _ _ => rfl⟩
  have hvs2 : Pw (RepAV G0 0 w) args (xs.toList.map a.eval ++ cvs) := by
    refine ⟨ha.1.symm.trans hvs.1, fun j x y hx hy => ?_⟩
    have hj : j < (xs.toList.map A1.ev ++ caps.map AV.one).length := by
      rw [ha.1]
      rcases Nat.lt_or_ge j args.length with h' | h'
      · exact h'
      · rw [List.getElem?_eq_none h'] at hx; cases hx
    have h1 := ha.2 j _ x (List.getElem?_eq_getElem hj) hx _ _ _ _ (hvs.2 j _ y (List.getElem?_eq_getElem hj) hy)
    have h2 : x.lt 0 = true := by
      rw [AV.ltL_all] at hl
      exact List.all_eq_true.1 hl x (List.mem_of_getElem? hx)
    exact h1.unren N (fun _ _ h => h) x (AV.ren_id' x).symm h2
  have hcall := hS G0 w _ rfl hvs2 (fun k o h => by simp at h) (fun b j h => ⟨rfl, (R1.fown b j h).2⟩) (fun b k h => by cases h)
  unfold Oper.wp
  have hrun : (execOp a.eval o).run P w = .ok (.enter f (xs.toList.map a.eval ++ cvs).toArray) w := by
    have e : ((xs.toList.map a.eval ++ cvs).toArray : Array Value) = xs.map a.eval ++ cvs.toArray := by
      apply Array.ext'
      simp
    rw [e]
    have hf3' : ¬ fn.name = "runtime.NumGoroutine" := by simpa using hf3
    have hf2' : ¬ fn.body = none := by intro e; rw [e] at hf2; cases hf2
    simp [execOp, ho, resolve, hval, Deferred.ofValue, invoke, callFunc, hf1, hf2', hf3']
  rw [hrun]
  refine hcall.mono fun e w' h => ?_
  obtain ⟨G', v, r, obs', news, hpost, rfl, hlen, hrep, _, E, _, _⟩ := h
  obtain ⟨rfl, rfl, _, hp⟩ := hpost
  obtain ⟨R', E'⟩ := R.grown ⟨fun b hb => E.blk b hb rfl, E.size, E.os, E.tape, E.output⟩
  exact ⟨G, _, ⟨put_sz _ _ _, hK r hp⟩, R'.put hd (hrep.plain (hpl r hp)), E'⟩⟩
end
end Go.Proofs.Ve

/-
  VeDh: a state turned where a loop ends.
-/
set_option linter.unusedVariables false
namespace Go.Proofs.Ve
open Go

theorem loopX_out {P : Program} {c : Code} {A : AS} {Q : AX → AS → Prop} (h : loopX P c A (fun x A' => ∃ A1, Tr A' A1 ∧ A1.sz = A'.sz ∧ Q x A1)) : loopX P c A Q := ⟨fun hok => SWP.tr ((h.get hok).mono fun x A' k => by
  obtain ⟨hz, A1, T, hz1, hq⟩ := k
  exact ⟨A1, T, hz1.trans hz, hq⟩)⟩
end Go.Proofs.Ve

/-
  VeDi: out of a contract by value, what a call does to the world.
-/
set_option linter.unusedVariables false
namespace Go.Proofs.Ve
open Go Go.RowKit

def Gh.none : Gh := { adr := fun _ => 0, hdr := fun _ => undef, own := fun _ => Option.none, F := fun _ _ => False, N := 0 }
/-- A call that takes plain values and gives true turns nothing that was there. -/
theorem calls_true {P : Program} {f : FuncId} {args : List AV} {vs : List Value} {w : World} (h : PSpec P f args (fun r => r = .one (.bool true))) (ha : Pw (RepAV Gh.none 0 w) args vs) :
    Calls P f vs.toArray w fun e w' => e = .returned (.bool true) ∧ Below w.heap.size w w' := by
  refine (h Gh.none w vs rfl ha (fun k o h => by simp at h) (fun b j h => h.elim) (fun b k h => by cases h)).mono fun e w' h => ?_
  obtain ⟨G', v, r, obs', news, ⟨rfl, rfl, _, rfl⟩, rfl, _, hr, _, E, _, _⟩ := h
  have hv := inv_bool hr
  subst hv
  exact ⟨rfl, E.os, E.tape, E.output, E.size, fun k hk => E.blk k hk rfl⟩
end Go.Proofs.Ve

/-
  VeDj: functions that take an object, turn it, and give a value.
-/
set_option linter.unusedVariables false
namespace Go.Proofs.Ve
open Go

/-- A function that takes object 0 (ob), turns it into ob', and gives r. -/
def MSpec (P : Program) (f : FuncId) (args : List AV) (ob ob' : Ob) (r : AV) : Prop := FSpec P f args [ob] (fun x obs' news => obs' = [ob'] ∧ news = [] ∧ x = r)

theorem back_upd {A : AS} {i : Nat} {o : Ob} (hi : i < A.nx) (ho : ∀ ρ, o.ren ρ = o) : A.back (fun _ => i) 1 (fun j => if j = i then some 0 else none) [o] [] = A.upd i o := by
  have e : A.back (fun _ => i) 1 (fun j => if j = i then some 0 else none) [o] [] = { A with ob := (A.back (fun _ => i) 1 (fun j => if j = i then some 0 else none) [o] []).ob } := rfl
  have e2 : A.upd i o = { A with ob := fupd A.ob i (some o) } := rfl
  rw [e, e2]
  have key : ∀ j, (A.back (fun _ => i) 1 (fun j => if j = i then some 0 else none) [o] []).ob j = fupd A.ob i (some o) j := fun j => by
    unfold AS.back
    simp only
    by_cases h : j = i
    · subst h
      rw [fupd_same, if_pos hi, if_pos rfl]
      simp [ho]
    · rw [fupd_ne _ h, if_neg h]
      by_cases h2 : j < A.nx
      · rw [if_pos h2]
      · rw [if_neg h2]
        simp
  rw [funext key]

theorem callX_mut {P : Program} {A : AS} {o : Oper} {K : AS → Prop} {fv : Operand} {xs : Array Operand} {ts : Array TypeId} {f : FuncId} {caps : List AC} {args avs : List AV} {ob ob' : Ob} {r : AV} (i : Nat) (hS : MSpec P f args ob ob' r) (hc : callee P f) (ho : o.op = .call ⟨.value fv, xs, ts⟩)
    (hfv : A.ev fv = .one (.fn f caps)) (havs : avs = args.map (·.ren (fun _ => i))) (ha : Pw AV.Le (xs.toList.map A.ev ++ caps.map AV.one) avs) (hl : AV.ltL 1 args = true) (hi : i < A.nx) (hob : A.ob i = some (ob.ren (fun _ => i))) (hlt : ob.lt 1 = true) (hd : ∀ ρ, ob'.ren ρ = ob') (hr : r.lt 0 = true)
    (hK : K ((A.upd i ob').put o.dst r)) : callX P o A K := ⟨by
  intro hd' G a w Q R
  subst havs
  refine wp_callL R hd' (ρ := fun _ => i) (pos := fun j => if j = i then some 0 else none) ho hfv hc hS ha (passed1 i hl hi hob hlt) fun r' obs' news hp _ => ?_
  obtain ⟨rfl, rfl, rfl⟩ := hp
  rw [AV.ren_of_lt _ hr]
  show (((A.back (fun _ => i) 1 (fun j => if j = i then some 0 else none) [ob'] []).put o.dst r').sz = A.sz) ∧ K ((A.back (fun _ => i) 1 (fun j => if j = i then some 0 else none) [ob'] []).put o.dst r')
  rw [back_upd hi hd]
  exact ⟨put_sz _ _ _, hK⟩⟩

/-- A body ends: object 0 is ob' (by then), the result is r. -/
theorem retX_mut {A : AS} {L : Lay} {rs : List ResultVar} {n : Nat} {ob' o1 : Ob} {r r1 : AV} (hn : n = 1) (hnp : A.np = 1) (hnx : 1 ≤ A.nx) (hob : A.ob 0 = some o1) (hr : resV L A rs = some r1) (hlt : o1.lt 1 = true) (hr0 : r1.lt 0 = true) (he : o1 = ob') (hre : r1 = r) :
    retX L rs n (fun x obs' news => obs' = [ob'] ∧ news = [] ∧ x = r) A := by
  subst he hre hn
  refine retX_of ⟨r1, [o1], [], id, ⟨rfl, rfl, rfl⟩, rfl, by rw [AV.ren_of_lt _ hr0]; exact hr, AV.lt_of_lt0 _ r1 hr0, ?_⟩
  exact
    { sz := rfl
      np := ⟨hnp.symm, Nat.le_refl _, fun k hk => rfl⟩
      lt := fun k hk => Nat.lt_of_lt_of_le hk hnx
      inj := fun k k' _ _ e => e
      sl := fun t => .inl rfl
      ob := fun k o h => by
        cases k with
        | zero =>
          have h : some o1 = some o := h
          cases h
          exact ⟨Nat.zero_lt_one, by rw [Ob.ren_id']; exact hob, hlt⟩
        | succ k => simp [AS.left] at h }

theorem mspec_x {P : Program} {E : Env} (hE : E.Ok P) (hm : P.follows .mixedOrders = true) {f : FuncId} {fn : Func} {c : Code} {args : List AV} {ob ob' : Ob} {r : AV} (hf : P.funcs[f]? = some fn) (hb : fn.body = some c) (nt : Nat) (hn : fn.ntmps = nt) (rs : List ResultVar) (hr : fn.results.toList = rs)
    (hok : codeOk (args.length + (nt - args.length)) c = true) (h : xcode P E c (AS.enter args [ob] nt) (endX E.L rs 1 (fun x obs' news => obs' = [ob'] ∧ news = [] ∧ x = r))) : MSpec P f args ob ob' r :=
  fspec_x hE hm hf hb nt hn rs hr hok h
end Go.Proofs.Ve

/-
  VeDk: functions that turn an object and give a value that leads to it.
-/
set_option linter.unusedVariables false
namespace Go.Proofs.Ve
open Go

theorem callX_mut1 {P : Program} {A : AS} {o : Oper} {K : AS → Prop} {fv : Operand} {xs : Array Operand} {ts : Array TypeId} {f : FuncId} {caps : List AC} {args avs : List AV} {ob ob' : Ob} {r : AV} (i : Nat) (r' : AV) (hS : MSpec P f args ob ob' r) (hc : callee P f) (ho : o.op = .call ⟨.value fv, xs, ts⟩)
    (hfv : A.ev fv = .one (.fn f caps)) (havs : avs = args.map (·.ren (fun _ => i))) (ha : Pw AV.Le (xs.toList.map A.ev ++ caps.map AV.one) avs) (hl : AV.ltL 1 args = true) (hi : i < A.nx) (hob : A.ob i = some (ob.ren (fun _ => i))) (hlt : ob.lt 1 = true) (hd : ∀ ρ, ob'.ren ρ = ob') (hr : ∀ nx, r.ren (cren (fun _ => i) 1 nx) = r')
    (hK : K ((A.upd i ob').put o.dst r')) : callX P o A K := ⟨by
  intro hd' G a w Q R
  subst havs
  refine wp_callL R hd' (ρ := fun _ => i) (pos := fun j => if j = i then some 0 else none) ho hfv hc hS ha (passed1 i hl hi hob hlt) fun x obs' news hp _ => ?_
  obtain ⟨rfl, rfl, rfl⟩ := hp
  show (((A.back (fun _ => i) 1 (fun j => if j = i then some 0 else none) [ob'] []).put o.dst (x.ren (cren (fun _ => i) 1 A.nx))).sz = A.sz) ∧ K ((A.back (fun _ => i) 1 (fun j => if j = i then some 0 else none) [ob'] []).put o.dst (x.ren (cren (fun _ => i) 1 A.nx)))
  rw [hr, back_upd hi hd]
  exact ⟨put_sz _ _ _, hK⟩⟩

theorem retX_mut1 {A : AS} {L : Lay} {rs : List ResultVar} {n : Nat} {ob' o1 : Ob} {r r1 : AV} (hn : n = 1) (hnp : A.np = 1) (hnx : 1 ≤ A.nx) (hob : A.ob 0 = some o1) (hr : resV L A rs = some r1) (hlt : o1.lt 1 = true) (hr0 : r1.lt 1 = true) (he : o1 = ob') (hre : r1 = r) :
    retX L rs n (fun x obs' news => obs' = [ob'] ∧ news = [] ∧ x = r) A := by
  subst he hre hn
  refine retX_of ⟨r1, [o1], [], id, ⟨rfl, rfl, rfl⟩, rfl, by rw [AV.ren_id']; exact hr, hr0, ?_⟩
  exact
    { sz := rfl
      np := ⟨hnp.symm, Nat.le_refl _, fun k hk => rfl⟩
      lt := fun k hk => Nat.lt_of_lt_of_le hk hnx
      inj := fun k k' _ _ e => e
      sl := fun t => .inl rfl
      ob := fun k o h => by
        cases k with
        | zero =>
          have h : some o1 = some o := h
          cases h
          exact ⟨Nat.zero_lt_one, by rw [Ob.ren_id']; exact hob, hlt⟩
        | succ k => simp [AS.left] at h }
end Go.Proofs.Ve

/-
  VeDl: an empty slice that is nil stands for an object of its own; a slice of the first elements of an object of one's own.
-/
set_option linter.unusedVariables false
set_option linter.unusedSimpArgs false
namespace Go.Proofs.Ve
open Go
section
variable {P : Program} {A : AS} {o : Oper} {K : AS → Prop}

theorem nil_val {F : Nat → Nat → Prop} {w : World} {v : Value} (h : RepD F w (.sl true 0 0 []) v) : v = .slice none 0 0 := by
  cases h with
  | sl full B n cells a c us hl hn hf ha hB hz h0 hr =>
    have e := hz rfl rfl
    have c0 := hf rfl
    subst e c0
    rfl

/-- A slot that holds nil: it stands for an empty object of its own. -/
theorem Tr.nilSlot (t : Nat) (T : OT) (s B : Nat) (h0 : 0 < s) (ht : A.sl t = .one (.sl true 0 0 [])) :
    Tr A { A.new ⟨T, s, B, []⟩ with sl := fupd A.sl t (.one (.gref A.nx)) } := fun G a w R => by
  obtain ⟨R2, E2, V2⟩ := R.newNil (ob := ⟨T, s, B, []⟩) h0 rfl
  refine ⟨_, { R2 with slots := fun u => ?_ }, E2⟩
  show RepAV _ _ _ (fupd A.sl t (.one (.gref A.nx)) u) _
  by_cases e : u = t
  · subst e
    rw [fupd_same]
    have hs := R.slots u
    rw [ht] at hs
    generalize a.tmps.getD u undef = v at hs ⊢
    cases hs with
    | one hs =>
      cases hs with
      | deep hs =>
        have := nil_val hs
        subst this
        exact .one (.gref A.nx (Nat.lt_succ_self _) none 0 0 (fupd_same _ _ _))
  · rw [fupd_ne _ e]
    exact R2.slots u

/-- A cell that holds nil. -/
theorem Tr.nilCell (i j : Nat) (T : OT) (s B : Nat) (h0 : 0 < s) {oi : Ob} (hi : A.ob i = some oi) (hj : oi.cells[j]? = some (.sl true 0 0 [])) :
    Tr A ((A.new ⟨T, s, B, []⟩).upd i { oi with cells := oi.cells.set j (.gref A.nx) }) := fun G a w R => by
  have hin := (R.obs i oi hi).1
  obtain ⟨R2, E2, V2⟩ := R.newNil (ob := ⟨T, s, B, []⟩) h0 rfl
  refine ⟨_, { R2 with obs := fun k ok hk => ?_ }, E2⟩
  have hk : fupd (A.new ⟨T, s, B, []⟩).ob i (some { oi with cells := oi.cells.set j (.gref A.nx) }) k = some ok := hk
  by_cases e : k = i
  · subst e
    rw [fupd_same] at hk
    cases hk
    obtain ⟨h1, vs, hp, hc⟩ := R2.obs k oi (show fupd A.ob A.nx _ k = some oi by rw [fupd_ne _ (by omega)]; exact hi)
    refine ⟨h1, vs, ?_, hc⟩
    refine ⟨by rw [List.length_set]; exact hp.1, fun q x y hx hy => ?_⟩
    by_cases eq : j = q
    · subst eq
      have hx : (oi.cells.set j (.gref A.nx))[j]? = some x := hx
      have hlt : j < oi.cells.length := by
        rcases Nat.lt_or_ge j oi.cells.length with h' | h'
        · exact h'
        · rw [List.getElem?_eq_none h'] at hj; cases hj
      rw [List.getElem?_set_self hlt] at hx
      cases hx
      have hv := hp.2 j _ y hj hy
      cases hv with
      | deep hv =>
        have := nil_val hv
        subst this
        exact .gref A.nx (Nat.lt_succ_self _) none 0 0 (fupd_same _ _ _)
    · have hx : (oi.cells.set j (.gref A.nx))[q]? = some x := hx
      rw [List.getElem?_set_ne eq] at hx
      exact hp.2 q x y hx hy
  · rw [fupd_ne _ e] at hk
    exact R2.obs k ok hk

theorem addr_add0 (g : Nat) : (Addr.add ⟨g, 0, none⟩ 0) = ⟨g, 0, none⟩ := rfl

/-- 'x[:h]' of an object of one's own: a new object stands for the first elements, the old one is forgotten. -/
theorem callX_cut {E : Env} (hE : E.Ok P) {T : Nat} {i j : TI} {x y : Operand} {id : Nat} {ob : Ob} {k : IntKind} {h : Int} (ho : o.op = .slice T x none (some y) none) (hi1 : E.L T = some i) (hs : i.isl = true) (hj : E.L i.elem = some j)
    (hx : A.ev x = .one (.gref id)) (hob : A.ob id = some ob) (h0 : 0 < ob.s) (hsz : ob.s = j.size) (hne : ob.cells ≠ []) (hy : A.ev y = .one (.int k h)) (h1 : 0 ≤ h) (h2 : h * ob.s ≤ ob.cells.length)
    (hK : K (((A.kill id).new { ob with cells := ob.cells.take (h.toNat * ob.s) }).put o.dst (.one (.gref A.nx)))) : callX P o A K := ⟨fun hd G a w Q R => by
  obtain ⟨f, h3, h4⟩ := size_info (hE.L _ _ hj)
  have hu := elem_info (hE.L T i hi1) hs
  have hev := R.ev x
  rw [hx] at hev
  obtain ⟨hid, ad0, n0, c0, hh0, hval⟩ := inv_gref hev
  have hyv := R.ev y
  rw [hy] at hyv
  have hyv := inv_int hyv
  obtain ⟨_, vs, hp, hc⟩ := R.obs id ob hob
  rcases hc with ⟨z0, _⟩ | ⟨z0, _⟩ | ⟨z0, n, hrow, hB, hg⟩
  · omega
  · omega
  have hrow0 := hrow
  rw [hh0] at hrow
  rcases hrow.2 with ⟨e1, e2⟩ | ⟨g, cap, cur, e1, _, hh, hnc, hm, hcs, htake⟩
  · exfalso
    have h5 := hrow.1
    have h6 := hp.1
    rw [e2, Nat.zero_mul] at h5
    exact hne (List.eq_nil_of_length_eq_zero (by omega))
  · cases e1
    obtain ⟨H, rfl⟩ : ∃ H : Nat, h = H := ⟨h.toNat, by omega⟩
    have hHn : H ≤ n0 := by
      have e5 := hrow.1
      have e6 := hp.1
      have e7 : H * ob.s ≤ n0 * ob.s := by
        have : ((H * ob.s : Nat) : Int) ≤ (ob.cells.length : Int) := by push_cast; exact h2
        omega
      exact Nat.le_of_mul_le_mul_right e7 z0
    have hgo := hg g (by rw [hh0]; rfl)
    have hcap : c0 ≠ 0 := fun e => by
      have h5 := hrow.1
      have h6 := hp.1
      have : n0 = 0 := by omega
      rw [this, Nat.zero_mul] at h5
      exact hne (List.eq_nil_of_length_eq_zero (by omega))
    obtain ⟨R2, E2, V2⟩ := R.newObj (w' := w) (g := g) (v := .slice (some ⟨g, 0, none⟩) H c0) (o := { ob with cells := ob.cells.take (H * ob.s) }) id (.inr hgo.2) (Array.getElem?_eq_some_iff.1 hh).1 (fun _ _ _ _ => rfl) (Nat.le_refl _) rfl rfl rfl (by
      refine ⟨vs.take (H * ob.s), (hp.take _).imp fun _ _ q => q.adv (Adv.new fun _ _ _ => rfl), .inr (.inr ⟨z0, H, ?_, Nat.le_trans (Nat.mul_le_mul_right _ hHn) hB, fun g' hg' => ?_⟩)⟩
      · show World.ownsRow w 0 ob.T.id ob.s (fupd G.hdr A.nx _ A.nx) H _
        rw [fupd_same]
        have hl : (vs.take (H * ob.s)).length = H * ob.s := by
          rw [List.length_take, hrow.1]
          exact Nat.min_eq_left (Nat.mul_le_mul_right _ hHn)
        refine ⟨hl, .inr ⟨g, c0, cur, rfl, Nat.zero_le _, hh, by omega, hm, hcs, ?_⟩⟩
        rw [← htake, List.take_take, Nat.min_eq_left (Nat.mul_le_mul_right _ hHn)]
      · have hg' : (fupd G.hdr A.nx (Value.slice (some ⟨g, 0, none⟩) H c0) A.nx).ownBlock = some g' := hg'
        rw [fupd_same] at hg'
        simp [Value.ownBlock] at hg'
        subst hg'
        exact ⟨(fupd_same _ _ _).symm, fupd_same _ _ _⟩)
    refine Oper.wp_mono (fun a w p => p.ext E2) (wp_value (A := (A.kill id).new { ob with cells := ob.cells.take (H * ob.s) }) (v := .slice (some ⟨g, 0, none⟩) H c0) R2 hd ?_ (.one (.gref A.nx (Nat.lt_succ_self _) _ _ _ (fupd_same _ _ _))) ⟨put_sz _ _ _, hK⟩)
    have hb : (Instr.sliceBounds true n0 c0 (Option.map a.eval none) (Option.map a.eval (some y)) none).run P w = .ok (0, H, c0) w := by
      simp [Instr.sliceBounds, hyv, run_sliceBound, show (H : Int) ≤ c0 by omega]
    simp [execOp, ho, Instr.sliceAt, Instr.slice, run_underlying hu, hval, Instr.sliceBounds, hyv, run_sliceBound, sizeOf, typeInfo, h3, h4, hcap, addr_add0, show (H : Int) ≤ c0 by omega]⟩
end
end Go.Proofs.Ve

/-
  VeDm: contracts with three new objects; an empty object of its own, out of nothing.
-/
set_option linter.unusedVariables false
set_option linter.unusedSimpArgs false
namespace Go.Proofs.Ve
open Go

theorem Tr.newNil {A : AS} (T : OT) (s B : Nat) (h0 : 0 < s) : Tr A (A.new ⟨T, s, B, []⟩) := fun G a w R => by
  obtain ⟨R2, E2, _⟩ := R.newNil (ob := ⟨T, s, B, []⟩) h0 rfl
  exact ⟨_, R2, E2⟩

def NSpec3 (P : Program) (f : FuncId) (args : List AV) (r0 : AV) (o0 o1 o2 : Ob) : Prop := FSpec P f args [] (fun r obs' news => obs' = [] ∧ r = r0 ∧ news = [o0, o1, o2])

def rho3 (i0 i1 i2 : Nat) : Nat → Nat
  | 0 => i0
  | 1 => i1
  | _ => i2

def AS.new3 (A : AS) (n : Nat) (a b c : Ob) : AS := { A with nx := n + 3, ob := fupd (fupd (fupd A.ob n (some a)) (n + 1) (some b)) (n + 2) (some c) }

theorem callX_new3 {P : Program} {A : AS} {o : Oper} {K : AS → Prop} {fv : Operand} {xs : Array Operand} {ts : Array TypeId} {f : FuncId} {caps : List AC} {args : List AV} {r0 : AV} {o0 o1 o2 : Ob} (hS : NSpec3 P f args r0 o0 o1 o2) (hc : callee P f)
    (rf : Nat → AV) (f0 f1 f2 : Nat → Ob) (hr : ∀ n, r0.ren (cren id 0 n) = rf n) (h0 : ∀ n, o0.ren (cren id 0 n) = f0 n) (h1 : ∀ n, o1.ren (cren id 0 n) = f1 n) (h2 : ∀ n, o2.ren (cren id 0 n) = f2 n)
    (ho : o.op = .call ⟨.value fv, xs, ts⟩) (hfv : A.ev fv = .one (.fn f caps)) (ha : Pw AV.Le (xs.toList.map A.ev ++ caps.map AV.one) args) (hl : AV.ltL 0 args = true)
    (hK : forceN A.nx fun n => K ((A.new3 n (f0 n) (f1 n) (f2 n)).put o.dst (rf n))) : callX P o A K := ⟨by
  intro hd G a w Q R
  refine wp_callL R hd (ρ := id) (pos := fun _ => none) ho hfv hc hS ha ⟨?_, fun x hx => ?_, fun k hk => by simp at hk, fun id k => by simp, fun k o ho => by simp at ho⟩ fun r obs' news hp _ => ?_
  · rw [← AV.renL_map, AV.renL_of_lt _ hl]
  · rw [AV.ltL_all] at hl
    simpa using List.all_eq_true.1 hl x hx
  · obtain ⟨rfl, rfl, rfl⟩ := hp
    have e : A.back id 0 (fun _ => none) [] [o0, o1, o2] = A.new3 A.nx (f0 A.nx) (f1 A.nx) (f2 A.nx) := by
      have e1 : A.back id 0 (fun _ => none) [] [o0, o1, o2] = { A with nx := A.nx + 3, ob := (A.back id 0 (fun _ => none) [] [o0, o1, o2]).ob } := rfl
      rw [e1]
      unfold AS.new3
      have key : ∀ i, (A.back id 0 (fun _ => none) [] [o0, o1, o2]).ob i = fupd (fupd (fupd A.ob A.nx (some (f0 A.nx))) (A.nx + 1) (some (f1 A.nx))) (A.nx + 2) (some (f2 A.nx)) i := fun i => by
        unfold AS.back
        simp only
        by_cases h : i < A.nx
        · rw [if_pos h, fupd_ne _ (by omega), fupd_ne _ (by omega), fupd_ne _ (by omega)]
        · rw [if_neg h]
          by_cases g2 : i = A.nx + 2
          · subst g2
            rw [fupd_same, show A.nx + 2 - A.nx = 2 by omega]
            simp [h2]
          · rw [fupd_ne _ g2]
            by_cases g1 : i = A.nx + 1
            · subst g1
              rw [fupd_same, show A.nx + 1 - A.nx = 1 by omega]
              simp [h1]
            · rw [fupd_ne _ g1]
              by_cases g0 : i = A.nx
              · subst g0
                rw [fupd_same, Nat.sub_self]
                simp [h0]
              · rw [fupd_ne _ g0, List.getElem?_eq_none (by simp; omega)]
      rw [funext key]
    show (((A.back id 0 (fun _ => none) [] [o0, o1, o2]).put o.dst (r.ren (cren id 0 A.nx))).sz = A.sz) ∧ K ((A.back id 0 (fun _ => none) [] [o0, o1, o2]).put o.dst (r.ren (cren id 0 A.nx)))
    rw [e, hr]
    exact ⟨put_sz _ _ _, forceN_spec (k := fun n => K ((A.new3 n (f0 n) (f1 n) (f2 n)).put o.dst (rf n))) hK⟩⟩

theorem retX_new3 {A : AS} {L : Lay} {rs : List ResultVar} {r0 : AV} {o0 o1 o2 : Ob} (i0 i1 i2 : Nat) (hnp : A.np = 0) (hi : i0 < A.nx ∧ i1 < A.nx ∧ i2 < A.nx) (hne : i0 ≠ i1 ∧ i0 ≠ i2 ∧ i1 ≠ i2)
    (h0 : A.ob i0 = some (o0.ren (rho3 i0 i1 i2))) (h1 : A.ob i1 = some (o1.ren (rho3 i0 i1 i2))) (h2 : A.ob i2 = some (o2.ren (rho3 i0 i1 i2))) (hl : o0.lt 3 = true ∧ o1.lt 3 = true ∧ o2.lt 3 = true)
    (hr : resV L A rs = some (r0.ren (rho3 i0 i1 i2))) (hr1 : r0.lt 3 = true) :
    retX L rs 0 (fun r obs' news => obs' = [] ∧ r = r0 ∧ news = [o0, o1, o2]) A :=
  retX_of ⟨r0, [], [o0, o1, o2], rho3 i0 i1 i2, ⟨rfl, rfl, rfl⟩, rfl, hr, hr1,
    { sz := rfl
      np := ⟨hnp.symm, Nat.zero_le _, fun k hk => by cases hk⟩
      lt := fun k hk => by
        match k with
        | 0 => exact hi.1
        | 1 => exact hi.2.1
        | _ + 2 => exact hi.2.2
      inj := fun k k' h h' e => by
        have z : ∀ k, ((A.left 0 ([] ++ [o0, o1, o2])).ob k).isSome = true → k = 0 ∨ k = 1 ∨ k = 2 := fun k h => by
          match k with
          | 0 => exact .inl rfl
          | 1 => exact .inr (.inl rfl)
          | 2 => exact .inr (.inr rfl)
          | _ + 3 => simp [AS.left] at h
        rcases z k h with rfl | rfl | rfl <;> rcases z k' h' with rfl | rfl | rfl <;> first | rfl | (exfalso; simp only [rho3] at e; omega)
      sl := fun t => .inl rfl
      ob := fun k o' h => by
        match k with
        | 0 =>
          have h : some o0 = some o' := h
          cases h
          exact ⟨by show 0 < 3; decide, h0, hl.1⟩
        | 1 =>
          have h : some o1 = some o' := h
          cases h
          exact ⟨by show 1 < 3; decide, h1, hl.2.1⟩
        | 2 =>
          have h : some o2 = some o' := h
          cases h
          exact ⟨by show 2 < 3; decide, h2, hl.2.2⟩
        | _ + 3 => simp [AS.left] at h }⟩

theorem nspec3_x {P : Program} {E : Env} (hE : E.Ok P) (hm : P.follows .mixedOrders = true) {f : FuncId} {fn : Func} {c : Code} {args : List AV} {r0 : AV} {o0 o1 o2 : Ob} (hf : P.funcs[f]? = some fn) (hb : fn.body = some c) (nt : Nat) (hn : fn.ntmps = nt) (rs : List ResultVar) (hr : fn.results.toList = rs)
    (hok : codeOk (args.length + (nt - args.length)) c = true) (h : xcode P E c (AS.enter args [] nt) (endX E.L rs 0 (fun r obs' news => obs' = [] ∧ r = r0 ∧ news = [o0, o1, o2]))) : NSpec3 P f args r0 o0 o1 o2 :=
  fspec_x hE hm hf hb nt hn rs hr hok h

theorem set_snoc_ne {α : Type} (X : List α) (y g : α) (i : Nat) (h : i ≠ X.length) : X.set i g ++ [y] = (X ++ [y]).set i g := by
  rcases Nat.lt_or_ge i X.length with h1 | h1
  · rw [List.set_append_left _ _ h1]
  · rw [List.set_eq_of_length_le h1, List.set_eq_of_length_le (by simp; omega)]
theorem set_snoc_eq {α : Type} (X : List α) (y g : α) (i : Nat) (h : i = X.length) : X.set i g ++ [g] = (X ++ [y]).set i g := by
  subst h
  rw [List.set_eq_of_length_le (Nat.le_refl _), List.set_append_right _ _ (Nat.le_refl _), Nat.sub_self]
  rfl
theorem set_snoc_eq' {α : Type} (X : List α) (y g g' : α) (i : Nat) (h : i = X.length) : X.set i g ++ [g'] = (X ++ [y]).set i g' := by
  subst h
  rw [List.set_eq_of_length_le (Nat.le_refl _), List.set_append_right _ _ (Nat.le_refl _), Nat.sub_self]
  rfl

/-- Objects are given other numbers, as a list tells. -/
def mvL : List (Nat × Nat) → Nat → Nat
  | [], k => k
  | x :: r, k => bif Nat.beq k x.1 then x.2 else mvL r k
def okMv (L : List (Nat × Nat)) (np nx N : Nat) : Bool :=
  (List.range nx).all fun k => decide (mvL L k < N) && (decide (np ≤ k) || decide (mvL L k = k)) && (List.range nx).all fun k' => !decide (mvL L k = mvL L k') || decide (k = k')
theorem Tr.ofML {A : AS} (L : List (Nat × Nat)) (N : Nat) {sz np nx : Nat} {sl : List (Nat × AV)} {ob : List (Nat × Ob)} (h : okMv L np nx N = true) (hN : N ≤ A.nx) (hsz : sz = A.sz) (hnp : np = A.np) (hle : np ≤ nx)
    (hs : slX A (mvL L) nx sl) (ho : obX A (mvL L) nx ob) : Tr A (AS.of sz np nx sl ob) := by
  have val : ∀ k, k < nx → mvL L k < N ∧ (np ≤ k ∨ mvL L k = k) ∧ ∀ k', k' < nx → mvL L k = mvL L k' → k = k' := fun k hk => by
    have h1 := List.all_eq_true.1 h k (List.mem_range.2 hk)
    simp only [Bool.and_eq_true, Bool.or_eq_true, decide_eq_true_eq] at h1
    refine ⟨h1.1.1, h1.1.2, fun k' hk' e => ?_⟩
    have h2 := List.all_eq_true.1 h1.2 k' (List.mem_range.2 hk')
    simp only [Bool.or_eq_true, Bool.not_eq_true', decide_eq_false_iff_not, decide_eq_true_eq] at h2
    rcases h2 with h2 | h2
    · exact absurd e h2
    · exact h2
  refine Tr.of (mvL L) hsz hnp hle (fun k hk => ?_) (fun k hk => Nat.lt_of_lt_of_le (val k hk).1 hN) (fun k k' hk hk' e => (val k hk).2.2 k' hk' e) hs ho
  rcases (val k (Nat.lt_of_lt_of_le hk hle)).2.1 with h2 | h2
  · omega
  · exact h2
end Go.Proofs.Ve

/-
  VeDn: arguments that are there when a call begins: out of how they read, what they stand for.
-/
set_option linter.unusedVariables false
namespace Go.Proofs.Ve
open Go Go.RowKit

/-- The memory that was there. -/
def GhOld (w : World) : Gh := { adr := fun _ => 0, hdr := fun _ => undef, own := fun _ => Option.none, F := fun b _ => b < w.heap.size, N := 0 }
/-- A call that gives true turns nothing that was there. -/
theorem calls_true_in {P : Program} {f : FuncId} {args : List AV} {vs : List Value} {w : World} (h : PSpec P f args (fun r => r = .one (.bool true))) (ha : Pw (RepAV (GhOld w) 0 w) args vs) :
    Calls P f vs.toArray w fun e w' => e = .returned (.bool true) ∧ Below w.heap.size w w' := by
  refine (h (GhOld w) w vs rfl ha (fun k o h => by simp at h) (fun b j h => ⟨rfl, h⟩) (fun b k h => by cases h)).mono fun e w' h => ?_
  obtain ⟨G', v, r, obs', news, ⟨rfl, rfl, _, rfl⟩, rfl, _, hr, _, E, _, _⟩ := h
  have hv := inv_bool hr
  subst hv
  exact ⟨rfl, E.os, E.tape, E.output, E.size, fun k hk => E.blk k hk rfl⟩

/-- All that a reading weighs lies within the reach. -/
def Fit {H : Type} (P : Program) (t : TypeId) (d : DataW H) : Prop := ∀ n ∈ d.weights P t, n ≤ reachBytes
theorem weightsAll_mem {H : Type} {P : Program} {e : TypeId} : ∀ {ds : List (DataW H)} {d : DataW H}, d ∈ ds → ∀ n ∈ d.weights P e, n ∈ DataW.weightsAll P e ds
  | d0 :: ds, d, h, n, hn => by
    simp only [DataW.weightsAll, List.mem_append]
    rcases List.mem_cons.1 h with rfl | h
    · exact .inl hn
    · exact .inr (weightsAll_mem h n hn)

theorem list_choose {α : Type} : ∀ {n : Nat} {p : Nat → α → Prop}, (∀ i, i < n → ∃ x, p i x) → ∃ l : List α, l.length = n ∧ ∀ (i : Nat) x, l[i]? = some x → p i x
  | 0, p, h => ⟨[], rfl, fun i x h => by simp at h⟩
  | n + 1, p, h => by
    obtain ⟨l, hl, hp⟩ := list_choose (n := n) (p := p) (fun i hi => h i (by omega))
    obtain ⟨x, hx⟩ := h n (by omega)
    refine ⟨l ++ [x], by simp [hl], fun i y hy => ?_⟩
    rw [List.getElem?_append] at hy
    split at hy
    · exact hp i y hy
    · have : i = n := by
        rcases Nat.lt_or_ge (i - l.length) 1 with h1 | h1
        · omega
        · rw [List.getElem?_eq_none (by simpa using h1)] at hy; cases hy
      subst this
      rw [hl, Nat.sub_self] at hy
      simp at hy
      subst hy
      exact hx

theorem flat_at {α β : Type} {g : α → List β} {s : Nat} (hs : 0 < s) : ∀ (l : List α), (∀ a ∈ l, (g a).length = s) → ∀ (j : Nat) (y : β), (l.flatMap g)[j]? = some y → ∃ a, l[j / s]? = some a ∧ (g a)[j % s]? = some y
  | [], _, j, y, h => by simp at h
  | a :: l, hl, j, y, h => by
    have ha := hl a (List.mem_cons_self ..)
    rw [List.flatMap_cons, List.getElem?_append] at h
    split at h
    · rename_i hj
      rw [ha] at hj
      rw [Nat.div_eq_of_lt hj, Nat.mod_eq_of_lt hj]
      exact ⟨a, rfl, h⟩
    · rename_i hj
      rw [ha] at hj h
      obtain ⟨b, h1, h2⟩ := flat_at hs l (fun x hx => hl x (List.mem_cons_of_mem _ hx)) (j - s) y h
      have e : j = (j - s) + s := by omega
      refine ⟨b, ?_, ?_⟩
      · rw [e, Nat.add_div_right _ hs]; exact h1
      · rw [e, Nat.add_mod_right]; exact h2

theorem spot_none {w : World} {a : Addr} {v : Value} (h : w.cell? a = some v) : a.spot = none := by
  unfold World.cell? at h
  split at h
  · split at h
    · cases h
    · rename_i hs
      simpa using hs
  · cases h
theorem add_spot (a : Addr) (k : Nat) (h : (a.add k).spot = none) (ha : a.spot = none) : a.add k = ⟨a.block, a.off + k, none⟩ := by
  unfold Addr.add
  split
  · rename_i h0
    subst h0
    cases a
    simp_all
  · rfl
theorem cell_lt {w : World} {b o : Nat} {v : Value} (h : w.cell? ⟨b, o, none⟩ = some v) : b < w.heap.size := by
  unfold World.cell? at h
  split at h
  · rename_i hb
    exact (Array.getElem?_eq_some_iff.1 hb).1
  · cases h

section
variable {H : Type} {enc : TypeId × Value → H} {P : Program} {w : World}
/-- A slice, out of what its elements stand for. -/
theorem rep_slice {α : Type} {t e : TypeId} {s B : Nat} {f : α → List AC} {ok : α → Prop} (ht : P.underlying t = some (.slice e)) (hc : P.cellsOf e = s) (hs : 0 < s) (hB : P.bytesOf e = B) (hf : ∀ a, (f a).length = s)
    (hel : ∀ n cs x, DataW.trod enc P w 0 (fun _ => true) true n e cs = some x → Fit P e x.1 → ∃ a, ok a ∧ Pw (RepD (GhOld w).F w) (f a) cs)
    {n : Nat} {cs : List Value} {x : DataW H × List MemPlace} (h : DataW.trod enc P w 0 (fun _ => true) true n t cs = some x) (hw : Fit P t x.1) :
    ∃ (l : List α) (v : Value), cs = [v] ∧ RepD (GhOld w).F w (slC f B l) v ∧ l.length * B ≤ reachBytes ∧ ∀ a ∈ l, ok a := by
  rcases Deep.open_slice ht h with ⟨rfl, rfl⟩ | ⟨a, len, cap, m, n', D, Pl, rfl, hb, hl, hm, hmm, rfl, hx⟩
  · refine ⟨[], _, rfl, ?_, by simp, fun a h => by cases h⟩
    exact .sl false B 0 [] none 0 [] rfl (Nat.le_refl _) (fun h => by cases h) (fun _ => rfl) (by simp) (fun h => by cases h) (.inl rfl) (fun j x y h => by simp at h)
  · have hmm : m = cap := by simpa using hmm
    subst hmm
    have hw0 : (len + (m - len)) * B ≤ reachBytes := hw _ (by simp [DataW.weights, ht, hB])
    have hwe : ∀ i, i < len → Fit P e (D i) := fun i hi k hk => hw k (by
      simp only [DataW.weights, ht, List.mem_cons, List.mem_append]
      exact .inr (.inl (weightsAll_mem (d := D i) (List.mem_map.2 ⟨i, List.mem_range.2 hi, rfl⟩) k hk)))
    obtain ⟨ps, hpl, hps⟩ := list_choose (n := len) (p := fun i (q : List Value × α) => w.cells? 0 (a.add (i * s)) s = some q.1 ∧ ok q.2 ∧ Pw (RepD (GhOld w).F w) (f q.2) q.1) (fun i hi => by
      obtain ⟨cs', h1, h2⟩ := hx i (by omega)
      rw [hc] at h1
      obtain ⟨q, h3, h4⟩ := hel _ _ _ h2 (hwe i hi)
      exact ⟨(cs', q), h1, h3, h4⟩)
    have hlen : ∀ q ∈ ps, q.1.length = s := fun q hq => by
      obtain ⟨i, hi⟩ := List.mem_iff_getElem?.1 hq
      obtain ⟨h1, _, h3⟩ := hps i q hi
      exact (World.cells?_some h1).2.1
    have hle : len * B ≤ reachBytes := Nat.le_trans (Nat.mul_le_mul_right _ (by omega)) hw0
    refine ⟨ps.map (·.2), _, rfl, ?_, by rw [List.length_map, hpl]; exact hle, fun b hb => ?_⟩
    · have e : slC f B (ps.map (·.2)) = .sl false B len (ps.flatMap fun q => f q.2) := by
        unfold slC
        rw [List.length_map, hpl, List.flatMap_map]
      rw [e]
      have hat : ∀ (j : Nat) y, (ps.flatMap (·.1))[j]? = some y → a.spot = none ∧ w.cell? ⟨a.block, a.off + j, none⟩ = some y := fun j y hy => by
        obtain ⟨q, h1, h2⟩ := flat_at hs ps hlen j y hy
        obtain ⟨h3, _, _⟩ := hps _ q h1
        obtain ⟨_, h5, h6⟩ := World.cells?_some h3
        have h7 := h6 (j % s) (Nat.mod_lt _ hs)
        rw [h2, Deep.add_add] at h7
        have e1 : j / s * s + j % s = j := by rw [Nat.mul_comm]; exact Nat.div_add_mod j s
        rw [e1] at h7
        have hsp := spot_none h7
        have ha : a.spot = none := by
          -- the first cell of the first element
          have hj0 : 0 < ps.length := by
            rcases Nat.lt_or_ge 0 ps.length with h | h
            · exact h
            · have h0 := Nat.zero_le (j / s)
              rw [List.getElem?_eq_none (by omega)] at h1; cases h1
          obtain ⟨g3, _, _⟩ := hps 0 ps[0] (List.getElem?_eq_getElem hj0)
          obtain ⟨_, g5, g6⟩ := World.cells?_some g3
          have g7 := g6 0 hs
          rw [List.getElem?_eq_getElem (by omega), Nat.zero_mul] at g7
          have := spot_none g7
          simpa [Addr.add] using this
        rw [add_spot a j hsp ha] at h7
        exact ⟨ha, h7⟩
      refine .sl false B len _ (some a) m (ps.flatMap (·.1)) ?_ hl (fun h => by cases h) (fun h => by cases h) (Nat.le_trans hle (by decide)) (fun h => by cases h) ?_ fun j x y hx hy => ?_
      · rw [List.length_flatMap, List.length_flatMap]
        congr 1
        refine List.map_congr_left fun q hq => ?_
        rw [hf, hlen q hq]
      · rcases Nat.eq_zero_or_pos len with h0 | h0
        · exact .inl h0
        · refine .inr ⟨a.block, a.off, ?_, fun j y hy => ?_⟩
          · have hj0 : 0 < ps.length := by omega
            obtain ⟨g3, _, _⟩ := hps 0 ps[0] (List.getElem?_eq_getElem hj0)
            obtain ⟨_, g5, g6⟩ := World.cells?_some g3
            have g7 := g6 0 hs
            rw [List.getElem?_eq_getElem (by omega), Nat.zero_mul] at g7
            have h8 := spot_none g7
            have h8 : a.spot = none := by simpa [Addr.add] using h8
            have e : a = ⟨a.block, a.off, none⟩ := by rw [← h8]
            exact congrArg some e
          · obtain ⟨_, h1⟩ := hat j y hy
            exact ⟨cell_lt h1, h1⟩
      · obtain ⟨q, h1, h2⟩ := flat_at (g := fun q : List Value × α => f q.2) hs ps (fun q _ => hf q.2) j x hx
        obtain ⟨q', h3, h4⟩ := flat_at hs ps hlen j y hy
        rw [h1] at h3
        cases h3
        exact (hps _ q h1).2.2.2 _ x y h2 h4
    · obtain ⟨q, hq, rfl⟩ := List.mem_map.1 hb
      obtain ⟨i, hi⟩ := List.mem_iff_getElem?.1 hq
      exact (hps i q hi).2.1

/-- An argument that is a slice. -/
theorem arg_slice {α : Type} {t e : TypeId} {s B : Nat} {f : α → List AC} {ok : α → Prop} (ht : P.underlying t = some (.slice e)) (hc : P.cellsOf e = s) (hs : 0 < s) (hB : P.bytesOf e = B) (hf : ∀ a, (f a).length = s)
    (hel : ∀ n cs x, DataW.trod enc P w 0 (fun _ => true) true n e cs = some x → Fit P e x.1 → ∃ a, ok a ∧ Pw (RepD (GhOld w).F w) (f a) cs)
    {r : Reach} {b0 : Nat} {v : Value} {d : DataW H} {ps : List MemPlace} (hval : Value.okWide P w r b0 t v) (h : DataW.Trod enc P w 0 (fun _ => true) true t v d ps) (hw : Fit P t d) :
    ∃ l : List α, RepD (GhOld w).F w (slC f B l) v ∧ l.length * B ≤ reachBytes ∧ ∀ a ∈ l, ok a := by
  obtain ⟨n, hn⟩ := h
  obtain ⟨l, u, hu, hr, hl, ho⟩ := rep_slice ht hc hs hB hf hel hn hw
  have e : v = u := by
    unfold Value.okWide at hval
    rw [ht] at hval
    simp only at hval
    cases v <;> simp [Value.cells, Cell.okWide, Cell.ok, ht] at hu hval ⊢ <;> assumption
  subst e
  exact ⟨l, hr, hl, ho⟩
end
end Go.Proofs.Ve

/-
  VeDo: functions that turn an object and hand back a new one.
-/
set_option linter.unusedVariables false
namespace Go.Proofs.Ve
open Go

/-- A function that takes object 0 (ob), turns it into ob', and hands back a new object (1: o). -/
def MNSpec (P : Program) (f : FuncId) (args : List AV) (ob ob' : Ob) (r0 : AV) (o : Ob) : Prop := FSpec P f args [ob] (fun x obs' news => obs' = [ob'] ∧ news = [o] ∧ x = r0)

theorem back_updnew {A : AS} {i : Nat} {ob o : Ob} (hi : i < A.nx) (hb : ∀ ρ, ob.ren ρ = ob) (ho : ∀ ρ, o.ren ρ = o) : A.back (fun _ => i) 1 (fun j => if j = i then some 0 else none) [ob] [o] = (A.upd i ob).newAt A.nx o := by
  have e : A.back (fun _ => i) 1 (fun j => if j = i then some 0 else none) [ob] [o] = { A with nx := A.nx + 1, ob := (A.back (fun _ => i) 1 (fun j => if j = i then some 0 else none) [ob] [o]).ob } := rfl
  have e2 : (A.upd i ob).newAt A.nx o = { A with nx := A.nx + 1, ob := fupd (fupd A.ob i (some ob)) A.nx (some o) } := rfl
  rw [e, e2]
  have key : ∀ j, (A.back (fun _ => i) 1 (fun j => if j = i then some 0 else none) [ob] [o]).ob j = fupd (fupd A.ob i (some ob)) A.nx (some o) j := fun j => by
    unfold AS.back
    simp only
    by_cases h2 : j < A.nx
    · rw [if_pos h2, fupd_ne _ (by omega)]
      by_cases h : j = i
      · subst h
        rw [fupd_same, if_pos rfl]
        simp [hb]
      · rw [fupd_ne _ h, if_neg h]
    · rw [if_neg h2]
      by_cases h3 : j = A.nx
      · subst h3
        rw [fupd_same, Nat.sub_self]
        simp [ho]
      · rw [fupd_ne _ h3, fupd_ne _ (by omega), List.getElem?_eq_none (by simp; omega)]
  rw [funext key]

theorem callX_mutnew {P : Program} {A : AS} {o : Oper} {K : AS → Prop} {fv : Operand} {xs : Array Operand} {ts : Array TypeId} {f : FuncId} {caps : List AC} {args avs : List AV} {ob ob' on : Ob} {r0 : AV} (i : Nat) (hS : MNSpec P f args ob ob' r0 on) (hc : callee P f) (rf : Nat → AV) (hr : ∀ n, r0.ren (cren (fun _ => i) 1 n) = rf n) (ho : o.op = .call ⟨.value fv, xs, ts⟩)
    (hfv : A.ev fv = .one (.fn f caps)) (havs : avs = args.map (·.ren (fun _ => i))) (ha : Pw AV.Le (xs.toList.map A.ev ++ caps.map AV.one) avs) (hl : AV.ltL 1 args = true) (hi : i < A.nx) (hob : A.ob i = some (ob.ren (fun _ => i))) (hlt : ob.lt 1 = true) (hd : ∀ ρ, ob'.ren ρ = ob') (hn : ∀ ρ, on.ren ρ = on)
    (hK : newX (A.upd i ob') on fun n A' => K (A'.put o.dst (rf n))) : callX P o A K := ⟨by
  intro hd' G a w Q R
  subst havs
  refine wp_callL R hd' (ρ := fun _ => i) (pos := fun j => if j = i then some 0 else none) ho hfv hc hS ha (passed1 i hl hi hob hlt) fun r' obs' news hp _ => ?_
  obtain ⟨rfl, rfl, rfl⟩ := hp
  show (((A.back (fun _ => i) 1 (fun j => if j = i then some 0 else none) [ob'] [on]).put o.dst (r'.ren (cren (fun _ => i) 1 A.nx))).sz = A.sz) ∧ K ((A.back (fun _ => i) 1 (fun j => if j = i then some 0 else none) [ob'] [on]).put o.dst (r'.ren (cren (fun _ => i) 1 A.nx)))
  rw [back_updnew hi hd hn, hr]
  exact ⟨put_sz _ _ _, forceN_spec (k := fun n => K (((A.upd i ob').newAt n on).put o.dst (rf n))) hK⟩⟩

/-- A body ends: object 0 is ob' (by then), the result leads to the new object id. -/
theorem retX_mutnew {A : AS} {L : Lay} {rs : List ResultVar} {n : Nat} {ob' o1 on o2 : Ob} {r0 : AV} (id : Nat) (hn : n = 1) (hnp : A.np = 1) (hid : 1 ≤ id ∧ id < A.nx) (hob : A.ob 0 = some o1) (hlt : o1.lt 0 = true) (hob2 : A.ob id = some o2) (hlt2 : o2.lt 0 = true) (hr : resV L A rs = some (r0.ren (fun k => if k = 1 then id else k))) (hr0 : r0.lt 2 = true) (he : o1 = ob') (he2 : o2 = on)
    (hre : ∀ (ρ : Nat → Nat) (o : Ob), o.lt 0 = true → o.ren ρ = o) (hlw : ∀ (m : Nat) (o : Ob), o.lt 0 = true → o.lt m = true) :
    retX L rs n (fun x obs' news => obs' = [ob'] ∧ news = [on] ∧ x = r0) A := by
  subst he he2 hn
  refine retX_of ⟨r0, [o1], [o2], fun k => if k = 1 then id else k, ⟨rfl, rfl, rfl⟩, rfl, hr, hr0, ?_⟩
  have hz : ∀ k, ((A.left 1 ([o1] ++ [o2])).ob k).isSome = true → k = 0 ∨ k = 1 := fun k h => by
    match k with
    | 0 => exact .inl rfl
    | 1 => exact .inr rfl
    | k + 2 => simp [AS.left] at h
  exact
    { sz := rfl
      np := ⟨hnp.symm, (by show 1 ≤ 2; decide), fun k hk => by have hk : k < 1 := hk; show (if k = 1 then id else k) = k; rw [if_neg (by omega)]⟩
      lt := fun k hk => by
        have hk : k < 2 := hk
        show (if k = 1 then id else k) < A.nx
        split <;> omega
      inj := fun k k' h h' e => by
        have e : (if k = 1 then id else k) = (if k' = 1 then id else k') := e
        rcases hz k h with rfl | rfl <;> rcases hz k' h' with rfl | rfl
        · rfl
        · rw [if_neg (by decide), if_pos rfl] at e; omega
        · rw [if_pos rfl, if_neg (by decide)] at e; omega
        · rfl
      sl := fun t => .inl rfl
      ob := fun k o h => by
        match k with
        | 0 =>
          have h : some o1 = some o := h
          cases h
          exact ⟨by show 0 < 2; decide, by rw [hre _ _ hlt]; exact hob, hlw _ _ hlt⟩
        | 1 =>
          have h : some o2 = some o := h
          cases h
          exact ⟨by show 1 < 2; decide, by rw [hre _ _ hlt2]; exact hob2, hlw _ _ hlt2⟩
        | k + 2 => simp [AS.left] at h }

theorem mnspec_x {P : Program} {E : Env} (hE : E.Ok P) (hm : P.follows .mixedOrders = true) {f : FuncId} {fn : Func} {c : Code} {args : List AV} {ob ob' o : Ob} {r0 : AV} (hf : P.funcs[f]? = some fn) (hb : fn.body = some c) (nt : Nat) (hn : fn.ntmps = nt) (rs : List ResultVar) (hr : fn.results.toList = rs)
    (hok : codeOk (args.length + (nt - args.length)) c = true) (h : xcode P E c (AS.enter args [ob] nt) (endX E.L rs 1 (fun x obs' news => obs' = [ob'] ∧ news = [o] ∧ x = r0))) : MNSpec P f args ob ob' r0 o :=
  fspec_x hE hm hf hb nt hn rs hr hok h
theorem Ob.ren_lt0 (ρ : Nat → Nat) (o : Ob) (h : o.lt 0 = true) : o.ren ρ = o := by
  cases o
  unfold Ob.ren
  congr 1
  exact AC.renL_of_lt _ h
theorem Ob.lt_lt0 (m : Nat) (o : Ob) (h : o.lt 0 = true) : o.lt m = true := by
  cases o
  exact AC.ltL_of_lt0 m _ h
end Go.Proofs.Ve

/-
  VeEr: '==' of a struct of two whole numbers and a struct of two whole numbers and a string.
-/
set_option linter.unusedVariables false
set_option linter.unusedSimpArgs false
namespace Go.Proofs.Ve
open Go
section
variable {P : Program}
theorem run_eq_iis {t : TypeId} {f0 f1 f2 : Field} {k0 k1 : IntKind} (hu : P.underlying t = some (.struct #[f0, f1, f2])) (hs : P.stoodInHeld t = false) (hn : f0.name ≠ "_" ∧ f1.name ≠ "_" ∧ f2.name ≠ "_") (ho : f0.offset = 0 ∧ f1.offset = 1 ∧ f2.offset = 2)
    (h0 : P.underlying f0.type = some (.int k0)) (h1 : P.underlying f1.type = some (.int k1)) (h2 : P.underlying f2.type = some .string) (d : Nat) (w : World) (L0 L1 : IntKind) (m0 m1 n0 n1 : Int) (s t2 : ByteArray) :
    (Op.equalIn (d + 2) t (.agg #[.int L0 m0, .int L1 m1, .string s]) (.agg #[.int L0 n0, .int L1 n1, .string t2])).run P w = .ok (m0 == n0 && (m1 == n1 && s == t2)) w := by
  have hf : P.fieldsOf t = #[f0, f1, f2] := by simp [Program.fieldsOf, hu]
  rw [run_equalIn_struct (P := P) w (d + 1) t _ _ (by rw [hf]; exact hu) hs, hf]
  simp only [Op.eqFields, if_pos hn.1, if_pos hn.2.1, if_pos hn.2.2, ho.1, ho.2.1, ho.2.2, Sem.run_bind]
  have p0 : ∀ (w : World) (x y z : Value), (part f0.type #[x, y, z] 0).run P w = .ok x w := fun w x y z => part_int h0 _ w rfl
  have p1 : ∀ (w : World) (x y z : Value), (part f1.type #[x, y, z] 1).run P w = .ok y w := fun w x y z => part_int h1 _ w rfl
  have p2 : ∀ (w : World) (x y z : Value), (part f2.type #[x, y, z] 2).run P w = .ok z w := fun w x y z => part_str h2 _ w rfl
  have q0 : ∀ (w : World) (K : IntKind) (m n : Int), (Op.equalIn (d + 1) f0.type (.int K m) (.int K n)).run P w = .ok (m == n) w := fun w K m n => eqIn_int (d := d) h0 w K m n
  have q1 : ∀ (w : World) (K : IntKind) (m n : Int), (Op.equalIn (d + 1) f1.type (.int K m) (.int K n)).run P w = .ok (m == n) w := fun w K m n => eqIn_int (d := d) h1 w K m n
  have q2 : ∀ (w : World) (m n : ByteArray), (Op.equalIn (d + 1) f2.type (.string m) (.string n)).run P w = .ok (m == n) w := fun w m n => eqIn_str (d := d) h2 w m n
  simp only [p0, q0, Result.andThen_ok]
  cases m0 == n0
  · simp
  · simp only [Bool.not_true, Bool.false_eq_true, if_false, Sem.run_bind, p1, q1, Result.andThen_ok]
    cases m1 == n1
    · simp
    · simp only [Bool.not_true, Bool.false_eq_true, if_false, Sem.run_bind, p2, q2, Result.andThen_ok]
      cases s == t2 <;> simp

theorem eqOk_iiS {t : TypeId} {e0 e1 e2 f0 f1 f2 : Field} {j0 j1 k0 k1 : IntKind} (hu : P.underlying t = some (.struct #[e0, e1, e2])) (hs : P.stoodInHeld t = false) (hn : e0.name ≠ "_" ∧ e1.name ≠ "_" ∧ e2.name ≠ "_") (ho : e0.offset = 0 ∧ e1.offset = 1 ∧ e2.offset = 2)
    (h0 : P.underlying e0.type = some (.int j0)) (h1 : P.underlying e1.type = some (.int j1)) (hp : ∀ (w : World) (a b x y z : Value), (part e2.type #[a, b, x, y, z] 2).run P w = .ok (.agg #[x, y, z]) w)
    (hu' : P.underlying e2.type = some (.struct #[f0, f1, f2])) (hs' : P.stoodInHeld e2.type = false) (hn' : f0.name ≠ "_" ∧ f1.name ≠ "_" ∧ f2.name ≠ "_") (ho' : f0.offset = 0 ∧ f1.offset = 1 ∧ f2.offset = 2)
    (h0' : P.underlying f0.type = some (.int k0)) (h1' : P.underlying f1.type = some (.int k1)) (h2' : P.underlying f2.type = some .string) (hg : P.eqGuardType P.depth t = false) (K0 K1 K2 K3 : IntKind) : EqOk P t [.int K0 0, .int K1 0, .int K2 0, .int K3 0, .str ⟨#[]⟩] := by
  refine ⟨hg, fun xs ys F F' w w0 w1 us vs b hlen hx hy hk hb => ?_⟩
  match xs, hlen with
  | [x0, x1, x2, x3, x4], hlen' =>
    clear hlen'
    cases x0 <;> try (simp [acEqs, acEq] at hk)
    cases x1 <;> try (simp [acEqs, acEq] at hk)
    cases x2 <;> try (simp [acEqs, acEq] at hk)
    cases x3 <;> try (simp [acEqs, acEq] at hk)
    cases x4 <;> try (simp [acEqs, acEq] at hk)
    rename_i L0 m0 L1 m1 L2 m2 L3 m3 s2
    match ys, hb, hy with
    | [y0, y1, y2, y3, y4], hb, hy =>
      cases y0 <;> try (simp [acEqs, acEq] at hb)
      cases y1 <;> try (simp [acEqs, acEq] at hb)
      cases y2 <;> try (simp [acEqs, acEq] at hb)
      cases y3 <;> try (simp [acEqs, acEq] at hb)
      cases y4 <;> try (simp [acEqs, acEq] at hb)
      rename_i L0' n0 L1' n1 L2' n2 L3' n3 t2
      match us, hx with
      | [u0, u1, u2, u3, u4], hx =>
        match vs, hy with
        | [v0, v1, v2, v3, v4], hy =>
          have hx0 := hx.2 0 _ _ rfl rfl
          have hx1 := hx.2 1 _ _ rfl rfl
          have hx2 := hx.2 2 _ _ rfl rfl
          have hx3 := hx.2 3 _ _ rfl rfl
          have hx4 := hx.2 4 _ _ rfl rfl
          have hy0 := hy.2 0 _ _ rfl rfl
          have hy1 := hy.2 1 _ _ rfl rfl
          have hy2 := hy.2 2 _ _ rfl rfl
          have hy3 := hy.2 3 _ _ rfl rfl
          have hy4 := hy.2 4 _ _ rfl rfl
          cases hx0; cases hx1; cases hx2; cases hx3; cases hx4; cases hy0; cases hy1; cases hy2; cases hy3; cases hy4
          have e0 : L0 = L0' := by
            by_cases e : L0 = L0'
            · exact e
            · simp [e] at hb
          have e1 : L1 = L1' := by
            by_cases e : L1 = L1'
            · exact e
            · simp [e] at hb
          have e2' : L2 = L2' := by
            by_cases e : L2 = L2'
            · exact e
            · simp [e] at hb
          have e3 : L3 = L3' := by
            by_cases e : L3 = L3'
            · exact e
            · simp [e] at hb
          subst e0 e1 e2' e3
          simp at hb
          have hf : P.fieldsOf t = #[e0, e1, e2] := by simp [Program.fieldsOf, hu]
          show (Op.equalIn (9999 + 1) t _ _).run P w = _
          rw [run_equalIn_struct (P := P) w 9999 t _ _ (by rw [hf]; exact hu) hs, hf]
          simp only [Op.eqFields, if_pos hn.1, if_pos hn.2.1, if_pos hn.2.2, ho.1, ho.2.1, ho.2.2, Sem.run_bind]
          have p0 : ∀ (w : World) (x y z a b : Value), (part e0.type #[x, y, z, a, b] 0).run P w = .ok x w := fun w x y z a b => part_int h0 _ w rfl
          have p1 : ∀ (w : World) (x y z a b : Value), (part e1.type #[x, y, z, a, b] 1).run P w = .ok y w := fun w x y z a b => part_int h1 _ w rfl
          have q0 : ∀ (w : World) (K : IntKind) (m n : Int), (Op.equalIn 9999 e0.type (.int K m) (.int K n)).run P w = .ok (m == n) w := fun w K m n => eqIn_int (d := 9998) h0 w K m n
          have q1 : ∀ (w : World) (K : IntKind) (m n : Int), (Op.equalIn 9999 e1.type (.int K m) (.int K n)).run P w = .ok (m == n) w := fun w K m n => eqIn_int (d := 9998) h1 w K m n
          have q2 := run_eq_iis hu' hs' hn' ho' h0' h1' h2' 9997
          rw [← hb]
          simp only [p0, q0, Result.andThen_ok]
          cases m0 == n0
          · simp
          · simp only [Bool.not_true, Bool.false_eq_true, if_false, Sem.run_bind, p1, q1, Result.andThen_ok]
            cases m1 == n1
            · simp
            · simp only [Bool.not_true, Bool.false_eq_true, if_false, Sem.run_bind, hp, q2, Result.andThen_ok]
              cases m2 == n2 <;> cases m3 == n3 <;> cases s2 == t2 <;> simp
        | [], hy => have := hy.1; simp at this
        | [_], hy => have := hy.1; simp at this
        | [_, _], hy => have := hy.1; simp at this
        | [_, _, _], hy => have := hy.1; simp at this
        | [_, _, _, _], hy => have := hy.1; simp at this
        | _ :: _ :: _ :: _ :: _ :: _ :: _, hy => have := hy.1; simp at this
      | [], hx => have := hx.1; simp at this
      | [_], hx => have := hx.1; simp at this
      | [_, _], hx => have := hx.1; simp at this
      | [_, _, _], hx => have := hx.1; simp at this
      | [_, _, _, _], hx => have := hx.1; simp at this
      | _ :: _ :: _ :: _ :: _ :: _ :: _, hx => have := hx.1; simp at this
    | [], hb, _ => simp [acEqs] at hb
    | [_], hb, _ => simp [acEqs] at hb
    | [_, _], hb, _ => simp [acEqs] at hb
    | [_, _, _], hb, _ => simp [acEqs] at hb
    | [_, _, _, _], hb, _ => simp [acEqs] at hb
    | _ :: _ :: _ :: _ :: _ :: _ :: _, hb, _ => simp [acEqs] at hb
end
end Go.Proofs.Ve

/-
  VeDp: the commonest steps, with what is checked by looking left out of the text.
-/
set_option linter.unusedVariables false
namespace Go.Proofs.Ve
open Go

theorem tid {A : AS} {sz np nx : Nat} {sl : List (Nat × AV)} {ob : List (Nat × Ob)} (ho : obX A id nx ob := by repeat (first | exact trivial | refine ⟨⟨rfl, rfl, by decide⟩, ?_⟩)) (hs : slX A id nx sl := by repeat (first | exact trivial | refine ⟨⟨rfl, rfl⟩, ?_⟩))
    (hsz : sz = A.sz := by rfl) (hnp : np = A.np := by rfl) (hle : np ≤ nx := by decide) (hlt : nx ≤ A.nx := by exact Nat.le_of_ble_eq_true rfl) : Tr A (AS.of sz np nx sl ob) := Tr.ofId hsz hnp hle hlt hs ho
theorem tmv {A : AS} (a b : Nat) {sz np : Nat} {sl : List (Nat × AV)} {ob : List (Nat × Ob)} (ho : obX A (mv a b) (a + 1) ob := by repeat (first | exact trivial | refine ⟨⟨rfl, rfl, by decide⟩, ?_⟩)) (hs : slX A (mv a b) (a + 1) sl := by repeat (first | exact trivial | refine ⟨⟨rfl, rfl⟩, ?_⟩))
    (hsz : sz = A.sz := by rfl) (hnp : np = A.np := by rfl) (hle : np ≤ a := by decide) (hab : a ≤ b := by decide) (hb : b < A.nx := by exact Nat.le_of_ble_eq_true rfl) : Tr A (AS.of sz np (a + 1) sl ob) := Tr.ofMv a b hsz hnp hle hab hb hs ho
theorem tml {A : AS} (L : List (Nat × Nat)) (N : Nat) {sz np nx : Nat} {sl : List (Nat × AV)} {ob : List (Nat × Ob)} (ho : obX A (mvL L) nx ob := by repeat (first | exact trivial | refine ⟨⟨rfl, rfl, by decide⟩, ?_⟩)) (hs : slX A (mvL L) nx sl := by repeat (first | exact trivial | refine ⟨⟨rfl, rfl⟩, ?_⟩))
    (hsz : sz = A.sz := by rfl) (hnp : np = A.np := by rfl) (h : okMv L np nx N = true := by decide) (hN : N ≤ A.nx := by exact Nat.le_of_ble_eq_true rfl) (hle : np ≤ nx := by decide) : Tr A (AS.of sz np nx sl ob) := Tr.ofML L N h hN hsz hnp hle hs ho
section
variable {P : Program} {A : AS} {o : Oper} {K : AS → Prop}
theorem cle {fv : Operand} {xs : Array Operand} {ts : Array TypeId} {f : FuncId} {caps : List AC} {args : List AV} {post : AV → Prop} (hS : PSpec P f args post) (hc : callee P f) (hK : ∀ r, r.lt 0 = true → post r → K (A.put o.dst r)) (ho : o.op = .call ⟨.value fv, xs, ts⟩ := by rfl) (hfv : A.ev fv = .one (.fn f caps) := by rfl)
    (ha : Pw AV.Le (xs.toList.map A.ev ++ caps.map AV.one) args := by repeat (first | exact Pw.nil | refine Pw.cons (AV.Le.refl _) ?_)) (hl : AV.ltL 0 args = true := by rfl) : callX P o A K := callX_le hS hc ho hfv ha hl hK
theorem cm {fv : Operand} {xs : Array Operand} {ts : Array TypeId} {f : FuncId} {caps : List AC} {args avs : List AV} {ob ob' : Ob} {r : AV} (hS : MSpec P f args ob ob' r) (hc : callee P f) (hK : K ((A.upd 0 ob').put o.dst r)) (ho : o.op = .call ⟨.value fv, xs, ts⟩ := by rfl)
    (hfv : A.ev fv = .one (.fn f caps) := by rfl) (havs : avs = args.map (·.ren (fun _ => 0)) := by rfl) (ha : Pw AV.Le (xs.toList.map A.ev ++ caps.map AV.one) avs := by repeat (first | exact Pw.nil | refine Pw.cons (AV.Le.refl _) ?_)) (hl : AV.ltL 1 args = true := by rfl) (hi : 0 < A.nx := by exact Nat.le_of_ble_eq_true rfl)
    (hob : A.ob 0 = some (ob.ren (fun _ => 0)) := by rfl) (hlt : ob.lt 1 = true := by rfl) (hd : ∀ ρ, ob'.ren ρ = ob' := by exact fun _ => rfl) (hr : r.lt 0 = true := by rfl) : callX P o A K := callX_mut 0 hS hc ho hfv havs ha hl hi hob hlt hd hr hK
/-- Steps i, i+1, .. (n of them), then p. -/
def tks : Nat → Nat → Plan → Plan
  | _, 0, p => p
  | i, n + 1, p => .take i (tks (i + 1) n p)
/-- n yeses, but for l. -/
def lst (n : Nat) (l : List Nat) : Array Bool := ((List.range n).map fun i => !l.contains i).toArray
theorem tfz (T : OT) (s B : Nat) (cells : List AC) (id n : Nat) (hob : A.ob id = some ⟨T, s, B, cells⟩ := by rfl) (h0 : 0 < s := by decide) (hn : cells.length = n * s := by rfl) (hd : cells.all (·.deep) = true := by rfl) : Tr A (A.frz id (.sl false B n cells)) := Tr.frz' id n hob h0 hn hd
theorem rtm {L : Lay} {rs : List ResultVar} {n : Nat} {ob' o1 : Ob} {r r1 : AV} (hre : r1 = r) (hn : n = 1 := by rfl) (hnp : A.np = 1 := by rfl) (hnx : 1 ≤ A.nx := by exact Nat.le_of_ble_eq_true rfl) (hob : A.ob 0 = some o1 := by rfl) (hr : resV L A rs = some r1 := by rfl) (hlt : o1.lt 1 = true := by rfl) (hr0 : r1.lt 0 = true := by rfl) (he : o1 = ob' := by rfl) :
    retX L rs n (fun x obs' news => obs' = [ob'] ∧ news = [] ∧ x = r) A := retX_mut hn hnp hnx hob hr hlt hr0 he hre
end
end Go.Proofs.Ve

/-
  VeDq: functions that take several objects and turn the first.
-/
set_option linter.unusedVariables false
namespace Go.Proofs.Ve
open Go

/-- A function that takes the objects obs, and turns the first into o0. -/
def GSpec (P : Program) (f : FuncId) (args : List AV) (obs : List Ob) (o0 : Ob) (r : AV) : Prop := FSpec P f args obs (fun x obs' news => obs' = obs.set 0 o0 ∧ news = [] ∧ x = r)

theorem back_first {A : AS} {avs args : List AV} {obs : List Ob} {o0 : Ob} {ρ : Nat → Nat} {pos : Nat → Option Nat} (hP : Passed A avs args obs ρ pos) (h0 : 0 < obs.length) (hd : ∀ ρ, o0.ren ρ = o0) : A.back ρ obs.length pos (obs.set 0 o0) [] = A.upd (ρ 0) o0 := by
  have e : A.back ρ obs.length pos (obs.set 0 o0) [] = { A with ob := (A.back ρ obs.length pos (obs.set 0 o0) []).ob } := rfl
  have e2 : A.upd (ρ 0) o0 = { A with ob := fupd A.ob (ρ 0) (some o0) } := rfl
  rw [e, e2]
  have key : ∀ j, (A.back ρ obs.length pos (obs.set 0 o0) []).ob j = fupd A.ob (ρ 0) (some o0) j := fun j => by
    unfold AS.back
    simp only
    by_cases h : j = ρ 0
    · subst h
      have hp : pos (ρ 0) = some 0 := (hP.pos (ρ 0) 0).2 ⟨h0, rfl⟩
      rw [fupd_same, if_pos (hP.nx 0 h0), hp]
      simp [h0, hd]
    · rw [fupd_ne _ h]
      by_cases h2 : j < A.nx
      · rw [if_pos h2]
        cases hp : pos j with
        | none => rfl
        | some k =>
          obtain ⟨hk, hr⟩ := (hP.pos j k).1 hp
          have hk0 : k ≠ 0 := by rintro rfl; exact h hr.symm
          obtain ⟨o, ho⟩ : ∃ o, obs[k]? = some o := ⟨_, List.getElem?_eq_getElem hk⟩
          obtain ⟨h3, h4⟩ := hP.ob k o ho
          simp only
          rw [List.getElem?_set_ne (by omega), ho, ← hr, h3]
          show some (o.ren _) = some (o.ren ρ)
          exact congrArg some (Ob.ren_congr (n := obs.length) (fun i hi => by unfold cren; rw [if_pos hi]) h4)
      · rw [if_neg h2]
        simp
  rw [funext key]
theorem callX_g {P : Program} {A : AS} {o : Oper} {K : AS → Prop} {fv : Operand} {xs : Array Operand} {ts : Array TypeId} {f : FuncId} {caps : List AC} {avs args : List AV} {obs : List Ob} {o0 : Ob} {r : AV} (hS : GSpec P f args obs o0 r) (hc : callee P f) (ρ : Nat → Nat) (pos : Nat → Option Nat)
    (ho : o.op = .call ⟨.value fv, xs, ts⟩) (hfv : A.ev fv = .one (.fn f caps)) (ha : Pw AV.Le (xs.toList.map A.ev ++ caps.map AV.one) avs) (hP : Passed A avs args obs ρ pos) (h0 : 0 < obs.length) (hd : ∀ ρ, o0.ren ρ = o0) (hr : r.lt 0 = true) (hK : K ((A.upd (ρ 0) o0).put o.dst r)) : callX P o A K := ⟨by
  intro hd' G a w Q R
  refine wp_callL R hd' (ρ := ρ) (pos := pos) ho hfv hc hS ha hP fun x obs' news hp _ => ?_
  obtain ⟨rfl, rfl, rfl⟩ := hp
  rw [AV.ren_of_lt _ hr, back_first hP h0 hd]
  exact ⟨put_sz _ _ _, hK⟩⟩
theorem retX_g {A : AS} {L : Lay} {rs : List ResultVar} {n : Nat} {obs obs2 : List Ob} {o0 : Ob} {r r1 : AV} (hn : n = obs.length) (hnp : A.np = n) (hnx : n ≤ A.nx) (ho : sameO A n 0 obs2) (hr : resV L A rs = some r1) (hr0 : r1.lt 0 = true) (he : obs2 = obs.set 0 o0) (hre : r1 = r) :
    retX L rs n (fun x obs' news => obs' = obs.set 0 o0 ∧ news = [] ∧ x = r) A := by
  subst hre he
  have hl : (obs.set 0 o0).length = n := by rw [List.length_set, hn]
  refine retX_of ⟨r1, obs.set 0 o0, [], id, ⟨rfl, rfl, rfl⟩, hl, by rw [AV.ren_id']; exact hr, AV.lt_of_lt0 _ r1 hr0, ?_⟩
  exact
    { sz := rfl
      np := ⟨hnp.symm, (by show n ≤ ((obs.set 0 o0) ++ []).length; rw [List.append_nil, hl]; exact Nat.le_refl _), fun k hk => rfl⟩
      lt := fun k hk => by
        have hk : k < ((obs.set 0 o0) ++ []).length := hk
        rw [List.append_nil, hl] at hk
        exact Nat.lt_of_lt_of_le hk hnx
      inj := fun k k' _ _ e => e
      sl := fun t => .inl rfl
      ob := fun k o h => by
        have h : ((obs.set 0 o0) ++ [])[k]? = some o := h
        rw [List.append_nil] at h
        obtain ⟨h1, h2⟩ := sameO_get ho k o h
        have hk : k < (obs.set 0 o0).length := by
          rcases Nat.lt_or_ge k (obs.set 0 o0).length with hh | hh
          · exact hh
          · rw [List.getElem?_eq_none hh] at h; cases h
        refine ⟨by show k < ((obs.set 0 o0) ++ []).length; rw [List.append_nil]; exact hk, by rw [Ob.ren_id']; simpa using h1, ?_⟩
        show o.lt ((obs.set 0 o0) ++ []).length = true
        rw [List.append_nil, hl]
        exact h2 }
theorem gspec_x {P : Program} {E : Env} (hE : E.Ok P) (hm : P.follows .mixedOrders = true) {f : FuncId} {fn : Func} {c : Code} {args : List AV} {obs : List Ob} {o0 : Ob} {r : AV} (hf : P.funcs[f]? = some fn) (hb : fn.body = some c) (nt : Nat) (hn : fn.ntmps = nt) (rs : List ResultVar) (hr : fn.results.toList = rs)
    (hok : codeOk (args.length + (nt - args.length)) c = true) (h : xcode P E c (AS.enter args obs nt) (endX E.L rs obs.length (fun x obs' news => obs' = obs.set 0 o0 ∧ news = [] ∧ x = r))) : GSpec P f args obs o0 r :=
  fspec_x hE hm hf hb nt hn rs hr hok h

def rhoL (ids : List Nat) (k : Nat) : Nat := ids.getD k 0
def posL (ids : List Nat) (id : Nat) : Option Nat := ids.findIdx? (· == id)
theorem passedL {A : AS} {args : List AV} {obs : List Ob} (ids : List Nat) (hlen : ids.length = obs.length) (hnd : ids.Nodup) (hl : AV.ltL obs.length args = true) (hnx : ∀ i ∈ ids, i < A.nx)
    (hob : ∀ (k : Nat) o, obs[k]? = some o → A.ob (rhoL ids k) = some (o.ren (rhoL ids)) ∧ o.lt obs.length = true) : Passed A (args.map (·.ren (rhoL ids))) args obs (rhoL ids) (posL ids) where
  arg := rfl
  lt := fun x hx => by
    rw [AV.ltL_all] at hl
    exact List.all_eq_true.1 hl x hx
  nx := fun k hk => by
    have hk : k < ids.length := by rw [hlen]; exact hk
    unfold rhoL
    rw [List.getD_eq_getElem?_getD, List.getElem?_eq_getElem hk]
    exact hnx _ (List.getElem_mem hk)
  pos := fun j k => by
    unfold posL
    rw [List.findIdx?_eq_some_iff_getElem]
    constructor
    · rintro ⟨h, h1, _⟩
      refine ⟨by rw [← hlen]; exact h, ?_⟩
      unfold rhoL
      rw [List.getD_eq_getElem?_getD, List.getElem?_eq_getElem h]
      simpa using h1
    · rintro ⟨h, e⟩
      have h : k < ids.length := by rw [hlen]; exact h
      have e2 : ids[k] = j := by
        unfold rhoL at e
        rw [List.getD_eq_getElem?_getD, List.getElem?_eq_getElem h] at e
        exact e
      refine ⟨h, by simpa using e2, fun i hi => ?_⟩
      intro e3
      have e3 : ids[i] = j := by simpa using e3
      exact absurd (e3.trans e2.symm) (List.pairwise_iff_getElem.1 hnd i k (by omega) h hi)
  ob := hob
/-- The same for objects that the kernel looks up. -/
def lookL (A : AS) (ids : List Nat) (n : Nat) : Nat → List Ob → Prop
  | _, [] => True
  | k, o :: r => (A.ob (rhoL ids k) = some (o.ren (rhoL ids)) ∧ o.lt n = true) ∧ lookL A ids n (k + 1) r
theorem lookL_get {A : AS} {ids : List Nat} {n : Nat} : ∀ {l : List Ob} {j : Nat}, lookL A ids n j l → ∀ (k : Nat) o, l[k]? = some o → A.ob (rhoL ids (j + k)) = some (o.ren (rhoL ids)) ∧ o.lt n = true
  | a :: l, j, h, 0, o, ho => by
    have ho : some a = some o := ho
    cases ho
    exact h.1
  | a :: l, j, h, k + 1, o, ho => by
    have := lookL_get h.2 k o (by simpa using ho)
    rw [show j + (k + 1) = j + 1 + k by omega]
    exact this
theorem passedA {A : AS} {args : List AV} {obs : List Ob} (ids : List Nat) (ho : lookL A ids obs.length 0 obs) (hl : AV.ltL obs.length args = true := by rfl) (hnx : (ids.all fun i => Nat.blt i A.nx) = true := by rfl) (hlen : ids.length = obs.length := by rfl) (hnd : ids.Nodup := by decide) : Passed A (args.map (·.ren (rhoL ids))) args obs (rhoL ids) (posL ids) :=
  passedL ids hlen hnd hl (fun i hi => by simpa using List.all_eq_true.1 hnx i hi) fun k o h => by
    have := lookL_get ho k o h
    simpa using this
end Go.Proofs.Ve
