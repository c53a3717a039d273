/-
  VeOne: joined by wip/tools/merge.py out of VeA VeB VeC VeD VeE VeF VeG VeH VeI VeJ VeK.
-/
import Derived.Calls
import Derived.OrdersHeld
import Derived.LoopN
import Derived.Laws.AppendOwn
import Derived.Laws.MakeOwn
import Derived.Laws.CopyRow
import Derived.RowKit3
import Derived.Laws.Concat
import Derived.Laws.Rows
import Derived.Maps.AppendAt
import Derived.ArgAppend
import Derived.Great.BuildSlice
/-
  VeA: abstract values for the walk: what a slot, a cell, an object of the call's own stands for; how they read in memory; that this lives on.
-/
set_option linter.unusedVariables false
set_option linter.unusedSimpArgs false
namespace Go.Proofs.Ve
open Go

/-- The abstract content of one cell. -/
inductive AC where
  | int (k : IntKind) (n : Int)
  | bool (b : Bool)
  | str (s : ByteArray)
  | sl (full : Bool) (B n : Nat) (cells : List AC)
  | nilp
  | any
  | ptr (id off : Nat)
  | cptr (cells : List AC)
  | gref (id : Nat)
  | mref (id : Nat)
  | fn (f : FuncId) (caps : List AC)

/-- The abstract content of a slot. -/
inductive AV where
  | undef
  | one (c : AC)
  | agg (cs : List AC)
  | tup (vs : List AV)

def AV.cells : AV → List AC
  | .one c => [c]
  | .agg cs => cs
  | _ => []

/-- Two lists, member by member. -/
def Pw {α β : Type} (R : α → β → Prop) (xs : List α) (ys : List β) : Prop :=
  xs.length = ys.length ∧ ∀ (j : Nat) x y, xs[j]? = some x → ys[j]? = some y → R x y

theorem Pw.imp {α β : Type} {R S : α → β → Prop} {xs : List α} {ys : List β} (h : Pw R xs ys) (i : ∀ x y, R x y → S x y) : Pw S xs ys :=
  ⟨h.1, fun j x y a b => i _ _ (h.2 j x y a b)⟩
theorem Pw.nil {α β : Type} {R : α → β → Prop} : Pw R [] ([] : List β) := ⟨rfl, fun j x y h => by simp at h⟩
theorem Pw.cons {α β : Type} {R : α → β → Prop} {x : α} {y : β} {xs : List α} {ys : List β} (h : R x y) (t : Pw R xs ys) : Pw R (x :: xs) (y :: ys) := by
  refine ⟨by simp [t.1], fun j a b ha hb => ?_⟩
  cases j with
  | zero => simp at ha hb; subst ha hb; exact h
  | succ j => simp at ha hb; exact t.2 j a b ha hb
theorem Pw.head {α β : Type} {R : α → β → Prop} {x : α} {y : β} {xs : List α} {ys : List β} (h : Pw R (x :: xs) (y :: ys)) : R x y := h.2 0 x y rfl rfl
theorem Pw.tail {α β : Type} {R : α → β → Prop} {x : α} {y : β} {xs : List α} {ys : List β} (h : Pw R (x :: xs) (y :: ys)) : Pw R xs ys :=
  ⟨by have := h.1; simpa using this, fun j a b ha hb => h.2 (j + 1) a b (by simpa using ha) (by simpa using hb)⟩
theorem Pw.append {α β : Type} {R : α → β → Prop} {xs xs' : List α} {ys ys' : List β} (h : Pw R xs ys) (t : Pw R xs' ys') : Pw R (xs ++ xs') (ys ++ ys') := by
  refine ⟨by simp [h.1, t.1], fun j a b ha hb => ?_⟩
  rw [List.getElem?_append] at ha hb
  rw [← h.1] at hb
  split at ha
  · rename_i hj; rw [if_pos hj] at hb; exact h.2 j a b ha hb
  · rename_i hj; rw [if_neg hj] at hb; exact t.2 _ a b ha hb
theorem Pw.take {α β : Type} {R : α → β → Prop} {xs : List α} {ys : List β} (h : Pw R xs ys) (n : Nat) : Pw R (xs.take n) (ys.take n) := by
  refine ⟨by simp [h.1], fun j a b ha hb => ?_⟩
  rw [List.getElem?_take] at ha hb
  split at ha
  · rename_i hj; rw [if_pos hj] at hb; exact h.2 j a b ha hb
  · simp at ha
theorem Pw.drop {α β : Type} {R : α → β → Prop} {xs : List α} {ys : List β} (h : Pw R xs ys) (n : Nat) : Pw R (xs.drop n) (ys.drop n) := by
  refine ⟨by simp [h.1], fun j a b ha hb => ?_⟩
  rw [List.getElem?_drop] at ha hb
  exact h.2 _ a b ha hb
theorem Pw.get {α β : Type} {R : α → β → Prop} {xs : List α} {ys : List β} (h : Pw R xs ys) {j : Nat} {x : α} (hx : xs[j]? = some x) : ∃ y, ys[j]? = some y ∧ R x y := by
  have hj : j < ys.length := by
    rw [← h.1]
    rcases Nat.lt_or_ge j xs.length with h' | h'
    · exact h'
    · rw [List.getElem?_eq_none h'] at hx; cases hx
  exact ⟨ys[j], List.getElem?_eq_getElem hj, h.2 j _ _ hx (List.getElem?_eq_getElem hj)⟩

/-- An immutable thing, read through cells of F. -/
inductive RepD (F : Nat → Nat → Prop) (w : World) : AC → Value → Prop
  | int (k : IntKind) (n : Int) : RepD F w (.int k n) (.int k n)
  | bool (b : Bool) : RepD F w (.bool b) (.bool b)
  | str (s : ByteArray) : RepD F w (.str s) (.string s)
  | nilp : RepD F w .nilp (.pointer none)
  | any (v : Value) (h1 : v.oneCell' = true) (h2 : v.cells = #[v]) : RepD F w .any v
  | fn (f : FuncId) : RepD F w (.fn f []) (.func (.func f) #[] #[])
  | sl (full : Bool) (B n : Nat) (cells : List AC) (a : Option Addr) (c : Nat) (us : List Value)
      (hl : cells.length = us.length) (hn : n ≤ c) (hf : full = true → c = n) (ha : a = none → c = 0) (hB : n * B ≤ 140737488355328) (hz : full = true → B = 0 → a = none)
      (h0 : n = 0 ∨ ∃ b o, a = some ⟨b, o, none⟩ ∧ ∀ (j : Nat) y, us[j]? = some y → F b (o + j) ∧ w.cell? ⟨b, o + j, none⟩ = some y)
      (hr : ∀ (j : Nat) x y, cells[j]? = some x → us[j]? = some y → RepD F w x y) : RepD F w (.sl full B n cells) (.slice a n c)

theorem RepD.adv {F F' : Nat → Nat → Prop} {w w' : World} (hF : ∀ b o, F b o → F' b o ∧ w'.cell? ⟨b, o, none⟩ = w.cell? ⟨b, o, none⟩) {x : AC} {v : Value} (h : RepD F w x v) : RepD F' w' x v := by
  induction h with
  | int k n => exact .int k n
  | bool b => exact .bool b
  | str s => exact .str s
  | nilp => exact .nilp
  | any v h1 h2 => exact .any v h1 h2
  | fn f => exact .fn f
  | sl full B n cells a c us hl hn hf ha hB hz h0 hr ih =>
    refine .sl full B n cells a c us hl hn hf ha hB hz ?_ ih
    rcases h0 with h0 | ⟨b, o, e, h⟩
    · exact .inl h0
    · refine .inr ⟨b, o, e, fun j y hy => ?_⟩
      obtain ⟨h1, h2⟩ := h j y hy
      exact ⟨(hF _ _ h1).1, (hF _ _ h1).2.trans h2⟩

theorem RepD.one {F : Nat → Nat → Prop} {w : World} {x : AC} {v : Value} (h : RepD F w x v) : v.oneCell' = true := by cases h <;> first | rfl | assumption
theorem RepD.cells {F : Nat → Nat → Prop} {w : World} {x : AC} {v : Value} (h : RepD F w x v) : v.cells = #[v] := by cases h <;> first | rfl | assumption

/-- Ghosts: the block of an object, a slice object's header, who owns a block, which cells are immutable. -/
structure Gh where
  adr : Nat → Nat
  hdr : Nat → Value
  own : Nat → Option Nat
  F : Nat → Nat → Prop
  N : Nat

inductive RepV (G : Gh) (nx : Nat) (w : World) : AC → Value → Prop
  | deep {x : AC} {v : Value} (h : RepD G.F w x v) : RepV G nx w x v
  | ptr (id off : Nat) (h : id < nx) : RepV G nx w (.ptr id off) (.pointer (some ⟨G.adr id, off, none⟩))
  | cptr (cells : List AC) (b o : Nat) (us : List Value) (hl : Pw (RepD G.F w) cells us) (h : ∀ (j : Nat) y, us[j]? = some y → G.F b (o + j) ∧ w.cell? ⟨b, o + j, none⟩ = some y) :
      RepV G nx w (.cptr cells) (.pointer (some ⟨b, o, none⟩))
  | gref (id : Nat) (h : id < nx) (a : Option Addr) (n c : Nat) (e : G.hdr id = .slice a n c) : RepV G nx w (.gref id) (.slice a n c)
  | mref (id : Nat) (h : id < nx) : RepV G nx w (.mref id) (.map (some (G.adr id)))
  | fn (f : FuncId) (caps : List AC) (vs : List Value) (hl : caps.length = vs.length) (h : ∀ (j : Nat) x y, caps[j]? = some x → vs[j]? = some y → RepV G nx w x y) :
      RepV G nx w (.fn f caps) (.func (.func f) #[] vs.toArray)

/-- G', w' stand behind G, w: what was known of old things still holds. -/
structure Adv (G : Gh) (nx : Nat) (w : World) (G' : Gh) (nx' : Nat) (w' : World) : Prop where
  F : ∀ b o, G.F b o → G'.F b o ∧ w'.cell? ⟨b, o, none⟩ = w.cell? ⟨b, o, none⟩
  adr : ∀ id, id < nx → G'.adr id = G.adr id
  hdr : ∀ id, id < nx → G'.hdr id = G.hdr id
  nx : nx ≤ nx'

theorem Adv.refl (G : Gh) (nx : Nat) (w : World) : Adv G nx w G nx w := ⟨fun _ _ h => ⟨h, rfl⟩, fun _ _ => rfl, fun _ _ => rfl, Nat.le_refl _⟩

theorem RepV.adv {G G' : Gh} {nx nx' : Nat} {w w' : World} (A : Adv G nx w G' nx' w') {x : AC} {v : Value} (h : RepV G nx w x v) : RepV G' nx' w' x v := by
  induction h with
  | deep h => exact .deep (h.adv A.F)
  | ptr id off h => rw [← A.adr id h]; exact .ptr id off (Nat.lt_of_lt_of_le h A.nx)
  | cptr cells b o us hl h =>
    refine .cptr cells b o us (hl.imp fun _ _ k => k.adv A.F) fun j y hy => ?_
    obtain ⟨h1, h2⟩ := h j y hy
    exact ⟨(A.F _ _ h1).1, (A.F _ _ h1).2.trans h2⟩
  | gref id h a n c e => exact .gref id (Nat.lt_of_lt_of_le h A.nx) a n c ((A.hdr id h).trans e)
  | mref id h => rw [← A.adr id h]; exact .mref id (Nat.lt_of_lt_of_le h A.nx)
  | fn f caps vs hl h ih => exact .fn f caps vs hl ih

theorem RepV.one {G : Gh} {nx : Nat} {w : World} {x : AC} {v : Value} (h : RepV G nx w x v) : v.oneCell' = true := by
  cases h with
  | deep h => exact h.one
  | _ => rfl
theorem RepV.cells {G : Gh} {nx : Nat} {w : World} {x : AC} {v : Value} (h : RepV G nx w x v) : v.cells = #[v] := by
  cases h with
  | deep h => exact h.cells
  | _ => rfl

inductive RepAV (G : Gh) (nx : Nat) (w : World) : AV → Value → Prop
  | undef (v : Value) : RepAV G nx w .undef v
  | one {x : AC} {v : Value} (h : RepV G nx w x v) : RepAV G nx w (.one x) v
  | agg {cs : List AC} {vs : List Value} (h : Pw (RepV G nx w) cs vs) : RepAV G nx w (.agg cs) (.agg vs.toArray)
  | tup {xs : List AV} {vs : List Value} (hl : xs.length = vs.length) (h : ∀ (j : Nat) x y, xs[j]? = some x → vs[j]? = some y → RepAV G nx w x y) : RepAV G nx w (.tup xs) (.tuple vs.toArray)

theorem RepAV.adv {G G' : Gh} {nx nx' : Nat} {w w' : World} (A : Adv G nx w G' nx' w') {x : AV} {v : Value} (h : RepAV G nx w x v) : RepAV G' nx' w' x v := by
  induction h with
  | undef v => exact .undef v
  | one h => exact .one (h.adv A)
  | agg h => exact .agg (h.imp fun _ _ k => k.adv A)
  | tup hl h ih => exact .tup hl ih

/-- What kind of block an object is: cells of a type; a map that has these keys, each with 'true'; an iterator over a string. -/
inductive OT where
  | ty (t : TypeId)
  | keys (l : List ByteArray)
  | iter (s : ByteArray) (pos : Nat)
instance : Coe TypeId OT := ⟨OT.ty⟩
instance (n : Nat) : OfNat OT n := ⟨OT.ty n⟩
def OT.id : OT → TypeId
  | .ty t => t
  | _ => 0
@[simp] theorem OT.id_ty (t : TypeId) : (OT.ty t).id = t := rfl
def keyEs : List ByteArray → Nat → List MapEntry
  | [], _ => []
  | k :: r, n => { key := .string k, val := .bool true, born := n } :: keyEs r (n + 1)
/-- The block itself, where it is not of cells. -/
def OT.obj : OT → Option Obj
  | .ty _ => none
  | .keys l => some (.map (keyEs l 0).toArray l.length)
  | .iter s p => some (.stringIter s p)
@[simp] theorem OT.obj_ty (t : TypeId) : (OT.ty t).obj = none := rfl

/-- An object of the call's own: a variable in memory (s = 0), or a row of a slice (s cells each element). -/
structure Ob where
  T : OT
  s : Nat
  B : Nat
  cells : List AC

def RepO (G : Gh) (nx : Nat) (w : World) (id : Nat) (o : Ob) : Prop :=
  ∃ vs : List Value, Pw (RepV G nx w) o.cells vs ∧
    ((o.s = 0 ∧ o.T.obj = none ∧ G.own (G.adr id) = some id ∧ w.heap[G.adr id]? = some (.cells vs.toArray o.T.id (0, 0))) ∨
     (o.s = 0 ∧ vs = [] ∧ ∃ x, o.T.obj = some x ∧ G.own (G.adr id) = some id ∧ w.heap[G.adr id]? = some x) ∨
     (0 < o.s ∧ ∃ n, w.ownsRow 0 o.T.id o.s (G.hdr id) n vs ∧ n * o.B ≤ 140737488355328 ∧ ∀ g, (G.hdr id).ownBlock = some g → g = G.adr id ∧ G.own g = some id))

/-- The abstract state of a frame. -/
structure AS where
  sz : Nat
  np : Nat
  nx : Nat
  sl : Nat → AV
  ob : Nat → Option Ob

structure Rel (G : Gh) (A : AS) (a : Act) (w : World) : Prop where
  defers : a.defers = []
  size : a.tmps.size = A.sz
  slots : ∀ t, RepAV G A.nx w (A.sl t) (a.tmps.getD t undef)
  obs : ∀ id o, A.ob id = some o → id < A.nx ∧ RepO G A.nx w id o
  fown : ∀ b j, G.F b j → G.own b = none ∧ b < w.heap.size
  own : ∀ b id, G.own b = some id → b < w.heap.size
  N : G.N = A.np ∧ A.np ≤ A.nx

/-- What a stretch of the run may do to memory. -/
structure Ext (G : Gh) (w : World) (G' : Gh) (w' : World) : Prop where
  F : ∀ b o, G.F b o → G'.F b o ∧ w'.cell? ⟨b, o, none⟩ = w.cell? ⟨b, o, none⟩
  blk : ∀ b, b < w.heap.size → G.own b = none → w'.heap[b]? = w.heap[b]?
  own : ∀ b, b < w.heap.size → G.own b = none → G'.own b = none
  Fn : ∀ b o, G'.F b o → G.F b o ∨ w.heap.size ≤ b ∨ G.own b ≠ none
  size : w.heap.size ≤ w'.heap.size
  os : w'.os = w.os
  tape : w'.tape = w.tape
  output : w'.output = w.output
  N : G'.N = G.N
  keep : ∀ k, k < G.N → G'.adr k = G.adr k ∧ G'.hdr k = G.hdr k

theorem Ext.refl (G : Gh) (w : World) : Ext G w G w := ⟨fun _ _ h => ⟨h, rfl⟩, fun _ _ _ => rfl, fun _ _ h => h, fun _ _ h => .inl h, Nat.le_refl _, rfl, rfl, rfl, rfl, fun _ _ => ⟨rfl, rfl⟩⟩
theorem Ext.trans {G G1 G2 : Gh} {w w1 w2 : World} (h : Ext G w G1 w1) (k : Ext G1 w1 G2 w2) : Ext G w G2 w2 where
  F b o hf := ⟨(k.F _ _ (h.F _ _ hf).1).1, (k.F _ _ (h.F _ _ hf).1).2.trans (h.F _ _ hf).2⟩
  blk b hb ho := (k.blk b (Nat.lt_of_lt_of_le hb h.size) (h.own b hb ho)).trans (h.blk b hb ho)
  own b hb ho := k.own b (Nat.lt_of_lt_of_le hb h.size) (h.own b hb ho)
  Fn b o hf := by
    rcases k.Fn b o hf with h1 | h1 | h1
    · exact h.Fn b o h1
    · exact .inr (.inl (Nat.le_trans h.size h1))
    · rcases Nat.lt_or_ge b w.heap.size with h2 | h2
      · refine .inr (.inr fun h3 => h1 (h.own b h2 h3))
      · exact .inr (.inl h2)
  size := Nat.le_trans h.size k.size
  os := k.os.trans h.os
  tape := k.tape.trans h.tape
  output := k.output.trans h.output
  N := k.N.trans h.N
  keep q hq := ⟨(k.keep q (by rw [h.N]; exact hq)).1.trans (h.keep q hq).1, (k.keep q (by rw [h.N]; exact hq)).2.trans (h.keep q hq).2⟩

def AS.set (A : AS) (d : Nat) (v : AV) : AS := { A with sl := fun t => if t = d then v else A.sl t }
def AS.put (A : AS) : Option Tmp → AV → AS
  | some d, v => A.set d v
  | none, _ => A
@[simp] theorem AS.sz_set (A : AS) (d : Nat) (v : AV) : (A.set d v).sz = A.sz := rfl
@[simp] theorem AS.np_set (A : AS) (d : Nat) (v : AV) : (A.set d v).np = A.np := rfl
@[simp] theorem AS.nx_set (A : AS) (d : Nat) (v : AV) : (A.set d v).nx = A.nx := rfl
@[simp] theorem AS.ob_set (A : AS) (d : Nat) (v : AV) : (A.set d v).ob = A.ob := rfl
theorem AS.sl_set (A : AS) (d : Nat) (v : AV) (t : Nat) : (A.set d v).sl t = if t = d then v else A.sl t := rfl

theorem Act.tmps_put (a : Act) (d : Nat) (v : Value) (t : Nat) : (a.put (some d) v).tmps.getD t Go.undef = if t = d ∧ d < a.tmps.size then v else a.tmps.getD t Go.undef := by
  simp only [Act.put, Array.getD_eq_getD_getElem?, Array.getElem?_setIfInBounds]
  by_cases h : d = t
  · subst h
    by_cases h2 : d < a.tmps.size
    · simp [h2]
    · simp [h2]
  · have h' : ¬ t = d := fun e => h e.symm
    simp [h, h']

/-- A slot takes a value; the world stands. -/
theorem Rel.set {G : Gh} {A : AS} {a : Act} {w : World} (R : Rel G A a w) {d : Nat} {x : AV} {v : Value} (hd : d < A.sz) (h : RepAV G A.nx w x v) : Rel G (A.set d x) (a.put (some d) v) w where
  defers := R.defers
  size := by simp [Act.put, R.size]
  slots t := by
    rw [Act.tmps_put, AS.sl_set]
    by_cases e : t = d
    · rw [if_pos e, if_pos ⟨e, by rw [R.size]; exact hd⟩]; exact h
    · rw [if_neg e, if_neg (fun k => e k.1)]; exact R.slots t
  obs := R.obs
  fown := R.fown
  own := R.own
  N := R.N

/-- Whatever a slot holds, it may be forgotten. -/
theorem Rel.forget {G : Gh} {A : AS} {a : Act} {w : World} (R : Rel G A a w) (d : Nat) (v : Value) : Rel G (A.set d .undef) (a.put (some d) v) w where
  defers := R.defers
  size := by simp [Act.put, R.size]
  slots t := by
    rw [Act.tmps_put, AS.sl_set]
    by_cases e : t = d
    · rw [if_pos e]; exact .undef _
    · rw [if_neg e, if_neg (fun k => e k.1)]; exact R.slots t
  obs := R.obs
  fown := R.fown
  own := R.own
  N := R.N

theorem Rel.put {G : Gh} {A : AS} {a : Act} {w : World} (R : Rel G A a w) {d : Option Tmp} {x : AV} {v : Value} (hd : ∀ t, d = some t → t < A.sz) (h : RepAV G A.nx w x v) : Rel G (A.put d x) (a.put d v) w := by
  cases d with
  | none => exact R
  | some d => exact R.set (hd d rfl) h
theorem Rel.putUndef {G : Gh} {A : AS} {a : Act} {w : World} (R : Rel G A a w) (d : Option Tmp) (v : Value) : Rel G (A.put d .undef) (a.put d v) w := by
  cases d with
  | none => exact R
  | some d => exact R.forget d v

/-- A world in which only orders were drawn is as good. -/
theorem RepO.of_heap {G : Gh} {nx : Nat} {w w' : World} {id : Nat} {o : Ob} (h : RepO G nx w id o) {G' : Gh} {nx' : Nat} (A : Adv G nx w G' nx' w') (hid : id < nx)
    (hb : G.own (G.adr id) = some id → G'.own (G.adr id) = some id ∧ w'.heap[G.adr id]? = w.heap[G.adr id]?) : RepO G' nx' w' id o := by
  obtain ⟨vs, hp, hc⟩ := h
  refine ⟨vs, hp.imp fun _ _ k => k.adv A, ?_⟩
  rcases hc with ⟨h0, ht, ho, hh⟩ | ⟨h0, hv, x, ht, ho, hh⟩ | ⟨h0, n, hr, hB, hg⟩
  · refine .inl ⟨h0, ht, ?_, ?_⟩
    · rw [A.adr id hid]; exact (hb ho).1
    · rw [A.adr id hid, (hb ho).2]; exact hh
  · refine .inr (.inl ⟨h0, hv, x, ht, ?_, ?_⟩)
    · rw [A.adr id hid]; exact (hb ho).1
    · rw [A.adr id hid, (hb ho).2]; exact hh
  · refine .inr (.inr ⟨h0, n, ?_, hB, ?_⟩)
    · rw [A.hdr id hid]
      refine ⟨hr.1, ?_⟩
      rcases hr.2 with h1 | ⟨g, cap, cur, e, hb0, hh, rest⟩
      · exact .inl h1
      · have := hg g (by rw [e]; rfl)
        refine .inr ⟨g, cap, cur, e, hb0, ?_, rest⟩
        rw [← hh, this.1]
        exact (hb (this.1 ▸ this.2)).2
    · intro g hgg
      rw [A.hdr id hid] at hgg
      have := hg g hgg
      rw [A.adr id hid]
      refine ⟨this.1, ?_⟩
      rw [this.1]
      exact (hb (this.1 ▸ this.2)).1

theorem Adv.drew (G : Gh) (nx : Nat) (w : World) : Adv G nx w G nx w.drew := ⟨fun _ _ h => ⟨h, rfl⟩, fun _ _ => rfl, fun _ _ => rfl, Nat.le_refl _⟩
theorem Rel.drew {G : Gh} {A : AS} {a : Act} {w : World} (R : Rel G A a w) : Rel G A a w.drew where
  defers := R.defers
  size := R.size
  slots t := (R.slots t).adv (Adv.drew G A.nx w)
  obs id o h := ⟨(R.obs id o h).1, (R.obs id o h).2.of_heap (Adv.drew G A.nx w) (R.obs id o h).1 (fun k => ⟨k, rfl⟩)⟩
  fown := R.fown
  own := R.own
  N := R.N
theorem Ext.drew (G : Gh) (w : World) : Ext G w G w.drew := ⟨fun _ _ h => ⟨h, rfl⟩, fun _ _ _ => rfl, fun _ _ h => h, fun _ _ h => .inl h, Nat.le_refl _, rfl, rfl, rfl, rfl, fun _ _ => ⟨rfl, rfl⟩⟩

end Go.Proofs.Ve

/-
  VeB: operations that only compute: what they leave in their slot, abstractly.
-/
set_option linter.unusedVariables false
set_option linter.unusedSimpArgs false
namespace Go.Proofs.Ve
open Go

/-- What is known of a type. -/
structure TI where
  agg : Bool
  size : Nat
  bytes : Nat
  elem : Nat
  isl : Bool
  str : Bool
  ik : Option IntKind
  bl : Bool
  flds : List (Nat × Nat)
  zero : List AC
  eqk : List AC

/-- A constant cell, abstractly. -/
def kval : Value → Option AC
  | .int k n => some (.int k n)
  | .bool b => some (.bool b)
  | .string s => some (.str s)
  | .slice none 0 0 => some (.sl true 0 0 [])
  | .pointer none => some .nilp
  | .nilFunc => some .any
  | .func (.func f) first captured => if first.size = 0 ∧ captured.size = 0 then some (.fn f []) else none
  | _ => none

theorem kval_rep {F : Nat → Nat → Prop} {w : World} {v : Value} {x : AC} (h : kval v = some x) : RepD F w x v := by
  unfold kval at h
  split at h
  case h_1 => cases h; exact .int _ _
  case h_2 => cases h; exact .bool _
  case h_3 => cases h; exact .str _
  case h_4 =>
    cases h
    exact .sl true 0 0 [] none 0 [] rfl (Nat.le_refl _) (fun _ => rfl) (fun _ => rfl) (by omega) (fun _ _ => rfl) (.inl rfl) (fun j x y h => by simp at h)
  case h_5 => cases h; exact .nilp
  case h_6 => cases h; exact .any _ rfl rfl
  case h_7 =>
    split at h
    · rename_i f first captured hh
      cases h
      rw [Array.size_eq_zero_iff, Array.size_eq_zero_iff] at hh
      rw [hh.1, hh.2]
      exact .fn f
    · cases h
  case h_8 => cases h

def AV.ofVal : Value → AV
  | .agg cs => match cs.toList.mapM kval with
    | some l => .agg l
    | none => .undef
  | v => match kval v with
    | some x => .one x
    | none => .undef

theorem mapM_pw {F : Nat → Nat → Prop} {w : World} : ∀ (vs : List Value) (l : List AC), vs.mapM kval = some l → Pw (RepD F w) l vs
  | [], l, h => by simp at h; subst h; exact .nil
  | v :: vs, l, h => by
    simp only [List.mapM_cons, Option.bind_eq_bind, Option.pure_def] at h
    cases hv : kval v with
    | none => simp [hv] at h
    | some x =>
      cases hr : vs.mapM kval with
      | none => simp [hv, hr] at h
      | some r =>
        simp [hv, hr] at h
        subst h
        exact .cons (kval_rep hv) (mapM_pw vs r hr)

theorem ofVal_rep (G : Gh) (nx : Nat) (w : World) (v : Value) : RepAV G nx w (AV.ofVal v) v := by
  unfold AV.ofVal
  split
  · rename_i cs
    split
    · rename_i l h
      have : cs = cs.toList.toArray := by simp
      rw [this]
      exact .agg ((mapM_pw (F := G.F) (w := w) _ _ h).imp fun _ _ k => .deep k)
    · exact .undef _
  · split
    · rename_i x h
      exact .one (.deep (kval_rep h))
    · exact .undef _

structure TI.Ok (P : Program) (t : Nat) (i : TI) : Prop where
  info : ∃ f d, P.info? t = some f ∧ P.underlying t = some d ∧ f.size = i.size ∧ f.bytes = i.bytes ∧ (d matches .struct _ | .array _ _) = i.agg ∧
    (i.isl = true → d = .slice i.elem) ∧ (i.str = true → d = .string) ∧ (∀ k, i.ik = some k → d = .int k) ∧
    (i.flds ≠ [] → ∃ fs, d = .struct fs ∧ fs.toList.map (fun x => (x.offset, x.type)) = i.flds) ∧
    (i.zero ≠ [] → ∃ z, f.zero = some z ∧ z.cells.toList.mapM kval = some i.zero) ∧ (i.bl = true → d = .bool)

/-- The types that a function's operations name. -/
abbrev Lay := Nat → Option TI
def Lay.Ok (P : Program) (L : Lay) : Prop := ∀ t i, L t = some i → i.Ok P t

def AS.ev (A : AS) : Operand → AV
  | .tmp t => A.sl t
  | .const v => AV.ofVal v
  | .func f => .one (.fn f [])
  | .global _ => .undef

theorem Rel.ev {G : Gh} {A : AS} {a : Act} {w : World} (R : Rel G A a w) (x : Operand) : RepAV G A.nx w (A.ev x) (a.eval x) := by
  cases x with
  | tmp t => exact R.slots t
  | const v => exact ofVal_rep G A.nx w v
  | global g => exact .undef _
  | func f => exact .one (.deep (.fn f))

/-- What a step leaves: some state that K takes. -/
def Post (K : AS → Prop) (G : Gh) (w : World) : Act → World → Prop := fun a' w' => ∃ G' A', K A' ∧ Rel G' A' a' w' ∧ Ext G w G' w'

theorem Post.mono {K K' : AS → Prop} {G : Gh} {w : World} (h : ∀ A, K A → K' A) {a : Act} {w' : World} (p : Post K G w a w') : Post K' G w a w' :=
  let ⟨G', A', k, r, e⟩ := p; ⟨G', A', h _ k, r, e⟩

section
variable {P : Program} {G : Gh} {A : AS} {a : Act} {w : World} {o : Oper} {K : AS → Prop} {Q : Exit → Act → World → Prop}

/-- An operation that leaves a value and does nothing else. -/
theorem wp_value (R : Rel G A a w) (hd : ∀ t, o.dst = some t → t < A.sz) {v : Value} (hr : (execOp a.eval o).run P w = .ok (.value v) w) {x : AV} (hx : RepAV G A.nx w x v) (hK : K (A.put o.dst x)) :
    o.wp P a w (Post K G w) Q := by
  unfold Oper.wp
  rw [hr]
  exact ⟨G, _, hK, R.put hd hx, Ext.refl _ _⟩

theorem wp_move (R : Rel G A a w) (hd : ∀ t, o.dst = some t → t < A.sz) {x : Operand} (ho : o.op = .move x) (hK : K (A.put o.dst (A.ev x))) : o.wp P a w (Post K G w) Q :=
  wp_value R hd (v := a.eval x) (by simp [execOp, ho]) (R.ev x) hK
theorem wp_assign (R : Rel G A a w) (hd : ∀ t, o.dst = some t → t < A.sz) {x : Operand} (ho : o.op = .assign x) (hK : K (A.put o.dst (A.ev x))) : o.wp P a w (Post K G w) Q :=
  wp_value R hd (v := a.eval x) (by simp [execOp, ho]) (R.ev x) hK

theorem inv_bool {nx : Nat} {b : Bool} {v : Value} (h : RepAV G nx w (.one (.bool b)) v) : v = .bool b := by
  cases h with
  | one h =>
    cases h with
    | deep h => cases h; rfl
theorem inv_int {nx : Nat} {k : IntKind} {n : Int} {v : Value} (h : RepAV G nx w (.one (.int k n)) v) : v = .int k n := by
  cases h with
  | one h =>
    cases h with
    | deep h => cases h; rfl
theorem inv_str {nx : Nat} {s : ByteArray} {v : Value} (h : RepAV G nx w (.one (.str s)) v) : v = .string s := by
  cases h with
  | one h =>
    cases h with
    | deep h => cases h; rfl
theorem inv_nilp {nx : Nat} {v : Value} (h : RepAV G nx w (.one .nilp) v) : v = .pointer none := by
  cases h with
  | one h =>
    cases h with
    | deep h => cases h; rfl
theorem inv_ptr {nx : Nat} {id off : Nat} {v : Value} (h : RepAV G nx w (.one (.ptr id off)) v) : id < nx ∧ v = .pointer (some ⟨G.adr id, off, none⟩) := by
  cases h with
  | one h =>
    cases h with
    | deep h => cases h
    | ptr _ _ h => exact ⟨h, rfl⟩
theorem inv_cptr {nx : Nat} {cells : List AC} {v : Value} (h : RepAV G nx w (.one (.cptr cells)) v) :
    ∃ b o us, v = .pointer (some ⟨b, o, none⟩) ∧ Pw (RepD G.F w) cells us ∧ ∀ (j : Nat) y, us[j]? = some y → G.F b (o + j) ∧ w.cell? ⟨b, o + j, none⟩ = some y := by
  cases h with
  | one h =>
    cases h with
    | deep h => cases h
    | cptr _ b o us hl h => exact ⟨b, o, us, rfl, hl, h⟩
theorem inv_gref {nx : Nat} {id : Nat} {v : Value} (h : RepAV G nx w (.one (.gref id)) v) : id < nx ∧ ∃ a n c, G.hdr id = .slice a n c ∧ v = .slice a n c := by
  cases h with
  | one h =>
    cases h with
    | deep h => cases h
    | gref _ h a n c e => exact ⟨h, a, n, c, e, rfl⟩
theorem inv_sl {nx : Nat} {full : Bool} {B n : Nat} {cells : List AC} {v : Value} (h : RepAV G nx w (.one (.sl full B n cells)) v) :
    ∃ ad c us, v = .slice ad n c ∧ Pw (RepD G.F w) cells us ∧ n ≤ c ∧ (full = true → c = n) ∧ (ad = none → c = 0) ∧ n * B ≤ 140737488355328 ∧
      (n = 0 ∨ ∃ b o, ad = some ⟨b, o, none⟩ ∧ ∀ (j : Nat) y, us[j]? = some y → G.F b (o + j) ∧ w.cell? ⟨b, o + j, none⟩ = some y) ∧ (full = true → B = 0 → ad = none) := by
  cases h with
  | one h =>
    cases h with
    | deep h =>
      cases h with
      | sl _ _ _ _ ad c us hl hn hf ha hB hz h0 hr => exact ⟨ad, c, us, rfl, ⟨hl, hr⟩, hn, hf, ha, hB, h0, hz⟩
theorem inv_agg {nx : Nat} {cs : List AC} {v : Value} (h : RepAV G nx w (.agg cs) v) : ∃ vs : List Value, v = .agg vs.toArray ∧ Pw (RepV G nx w) cs vs := by
  cases h with
  | agg h => exact ⟨_, rfl, h⟩
theorem inv_tup {nx : Nat} {xs : List AV} {v : Value} (h : RepAV G nx w (.tup xs) v) : ∃ vs : List Value, v = .tuple vs.toArray ∧ Pw (RepAV G nx w) xs vs := by
  cases h with
  | tup hl h => exact ⟨_, rfl, hl, h⟩
theorem inv_fn {nx : Nat} {f : FuncId} {caps : List AC} {v : Value} (h : RepAV G nx w (.one (.fn f caps)) v) : ∃ vs : List Value, v = .func (.func f) #[] vs.toArray ∧ Pw (RepV G nx w) caps vs := by
  cases h with
  | one h =>
    cases h with
    | deep h => cases h; exact ⟨[], rfl, .nil⟩
    | fn _ _ vs hl h => exact ⟨vs, rfl, hl, h⟩

theorem wp_pick (R : Rel G A a w) (hd : ∀ t, o.dst = some t → t < A.sz) {c x y : Operand} {b : Bool} (ho : o.op = .pick c x y) (hc : A.ev c = .one (.bool b)) (hK : K (A.put o.dst (if b = true then A.ev x else A.ev y))) : o.wp P a w (Post K G w) Q := by
  have h := R.ev c
  rw [hc] at h
  have h' := inv_bool h
  refine wp_value R hd (v := if b = true then a.eval x else a.eval y) (x := if b = true then A.ev x else A.ev y) (by cases b <;> simp [execOp, ho, h', asBool]) ?_ hK
  split
  · exact R.ev x
  · exact R.ev y

/-- Whole numbers: arithmetic, comparisons. -/
def bopI : BinOp → IntKind → Int → Int → Option AC
  | .add, k, x, y => some (.int k (k.wrap (x + y)))
  | .sub, k, x, y => some (.int k (k.wrap (x - y)))
  | .mul, k, x, y => some (.int k (k.wrap (x * y)))
  | .quo, k, x, y => if y = 0 then none else some (.int k (k.wrap (x.tdiv y)))
  | .rem, k, x, y => if y = 0 then none else some (.int k (x.tmod y))
  | .eql, _, x, y => some (.bool (x == y))
  | .neq, _, x, y => some (.bool (x != y))
  | .lss, _, x, y => some (.bool (decide (x < y)))
  | .leq, _, x, y => some (.bool (decide (x ≤ y)))
  | .gtr, _, x, y => some (.bool (decide (x > y)))
  | .geq, _, x, y => some (.bool (decide (x ≥ y)))
  | .and, k, x, y => some (.int k (k.wrap (BitVec.ofInt k.bits x &&& BitVec.ofInt k.bits y).toNat))
  | .or, k, x, y => some (.int k (k.wrap (BitVec.ofInt k.bits x ||| BitVec.ofInt k.bits y).toNat))
  | .xor, k, x, y => some (.int k (k.wrap (BitVec.ofInt k.bits x ^^^ BitVec.ofInt k.bits y).toNat))
  | _, _, _, _ => none
def bopS : BinOp → ByteArray → ByteArray → Option AC
  | .eql, x, y => some (.bool (x.toList == y.toList))
  | .neq, x, y => some (.bool (!(x.toList == y.toList)))
  | .lss, x, y => some (.bool (Op.bytesLess x.toList y.toList))
  | .leq, x, y => some (.bool (Op.bytesLess x.toList y.toList || x.toList == y.toList))
  | .gtr, x, y => some (.bool (!(Op.bytesLess x.toList y.toList || x.toList == y.toList)))
  | .geq, x, y => some (.bool (!(Op.bytesLess x.toList y.toList)))
  | .add, x, y => if ((x.size + y.size : Nat) : Int) > 9223372036854775807 then none else some (.str (x ++ y))
  | _, _, _ => none

theorem run_eqGuard_int (op : BinOp) (t : TypeId) (x y : Operand) (k k' : IntKind) (m n : Int) : (eqGuard op t x y (.int k m) (.int k' n)).run P w = .ok () w := by
  cases op <;> rfl
theorem run_eqGuard_bool (op : BinOp) (t : TypeId) (x y : Operand) (m n : Bool) : (eqGuard op t x y (.bool m) (.bool n)).run P w = .ok () w := by
  cases op <;> rfl
theorem run_eqGuard_str (op : BinOp) (t : TypeId) (x y : Operand) (m n : ByteArray) : (eqGuard op t x y (.string m) (.string n)).run P w = .ok () w := by
  cases op <;> rfl
theorem run_bopI {op : BinOp} (hs : op ≠ .shl ∧ op ≠ .shr) (t : TypeId) {k : IntKind} {m n : Int} {x : AC} (h : bopI op k m n = some x) : ∃ v, (binOp op t (.int k m) (.int k n)).run P w = .ok v w ∧ RepD G.F w x v := by
  cases op <;> simp [bopI] at h
  case add => subst h; exact ⟨.int k _, by simp [binOp, Op.intArith], .int _ _⟩
  case sub => subst h; exact ⟨.int k _, by simp [binOp, Op.intArith], .int _ _⟩
  case mul => subst h; exact ⟨.int k _, by simp [binOp, Op.intArith], .int _ _⟩
  case quo => obtain ⟨h1, h2⟩ := h; subst h2; exact ⟨.int k _, by simp [binOp, Op.intDiv, h1], .int _ _⟩
  case rem => obtain ⟨h1, h2⟩ := h; subst h2; exact ⟨.int k _, by simp [binOp, Op.intDiv, h1], .int _ _⟩
  case and => subst h; exact ⟨.int k _, by simp [binOp, Op.intBits], .int _ _⟩
  case or => subst h; exact ⟨.int k _, by simp [binOp, Op.intBits], .int _ _⟩
  case xor => subst h; exact ⟨.int k _, by simp [binOp, Op.intBits], .int _ _⟩
  case eql => subst h; exact ⟨.bool _, by simp [binOp, Op.intCmp], .bool _⟩
  case neq => subst h; exact ⟨.bool _, by simp [binOp, Op.intCmp], .bool _⟩
  case lss => subst h; exact ⟨.bool _, by simp [binOp, Op.intCmp], .bool _⟩
  case leq => subst h; exact ⟨.bool _, by simp [binOp, Op.intCmp], .bool _⟩
  case gtr => subst h; exact ⟨.bool _, by simp [binOp, Op.intCmp], .bool _⟩
  case geq => subst h; exact ⟨.bool _, by simp [binOp, Op.intCmp], .bool _⟩

theorem run_bopS {op : BinOp} (t : TypeId) {m n : ByteArray} {x : AC} (h : bopS op m n = some x) : ∃ v, (binOp op t (.string m) (.string n)).run P w = .ok v w ∧ RepD G.F w x v := by
  by_cases hop : op = .add
  · subst hop
    by_cases hle : ((m.size + n.size : Nat) : Int) > 9223372036854775807
    · simp only [bopS, if_pos hle] at h
      cases h
    · simp only [bopS, if_neg hle] at h
      cases h
      have := run_string_add_sum (P := P) w m n (by omega)
      exact ⟨_, by simpa [binOp] using this, .str _⟩
  · cases op <;> first
      | exact (hop rfl).elim
      | (simp only [bopS, Option.some.injEq] at h; subst h; exact ⟨_, rfl, .bool _⟩)
      | simp [bopS] at h

theorem wp_bopI (R : Rel G A a w) (hd : ∀ t, o.dst = some t → t < A.sz) {op : BinOp} {t u : TypeId} {x y : Operand} (ho : o.op = .binOp op t x y u) {k : IntKind} {m n : Int} (hx : A.ev x = .one (.int k m)) (hy : A.ev y = .one (.int k n))
    (hs : op ≠ .shl ∧ op ≠ .shr) {r : AC} (hr : bopI op k m n = some r) (hK : K (A.put o.dst (.one r))) : o.wp P a w (Post K G w) Q := by
  have h1 := R.ev x; rw [hx] at h1; have h1 := inv_int h1
  have h2 := R.ev y; rw [hy] at h2; have h2 := inv_int h2
  obtain ⟨v, hv, hrep⟩ := run_bopI (P := P) (G := G) (w := w) hs t hr
  exact wp_value R hd (v := v) (by simp [execOp, ho, h1, h2, run_eqGuard_int, hv]) (.one (.deep hrep)) hK

theorem wp_bopS (R : Rel G A a w) (hd : ∀ t, o.dst = some t → t < A.sz) {op : BinOp} {t u : TypeId} {x y : Operand} (ho : o.op = .binOp op t x y u) {m n : ByteArray} (hx : A.ev x = .one (.str m)) (hy : A.ev y = .one (.str n))
    {r : AC} (hr : bopS op m n = some r) (hK : K (A.put o.dst (.one r))) : o.wp P a w (Post K G w) Q := by
  have h1 := R.ev x; rw [hx] at h1; have h1 := inv_str h1
  have h2 := R.ev y; rw [hy] at h2; have h2 := inv_str h2
  obtain ⟨v, hv, hrep⟩ := run_bopS (P := P) (G := G) (w := w) t hr
  exact wp_value R hd (v := v) (by simp [execOp, ho, h1, h2, run_eqGuard_str, hv]) (.one (.deep hrep)) hK

end
end Go.Proofs.Ve

/-
  VeC: objects: how a new one comes to be, how one is read and written; the operations on memory.
-/
set_option linter.unusedVariables false
set_option linter.unusedSimpArgs false
namespace Go.Proofs.Ve
open Go

def fupd {β : Type} (f : Nat → β) (i : Nat) (v : β) : Nat → β := fun j => if j = i then v else f j
theorem fupd_same {β : Type} (f : Nat → β) (i : Nat) (v : β) : fupd f i v i = v := by simp [fupd]
theorem fupd_ne {β : Type} (f : Nat → β) {i j : Nat} (h : j ≠ i) (v : β) : fupd f i v j = f j := by simp [fupd, h]

/-- A new object takes the next number; 'gone' is an object that it takes the place of. -/
def AS.new (A : AS) (o : Ob) : AS := { A with nx := A.nx + 1, ob := fupd A.ob A.nx (some o) }
def AS.kill (A : AS) (id : Nat) : AS := { A with ob := fupd A.ob id none }
def AS.upd (A : AS) (id : Nat) (o : Ob) : AS := { A with ob := fupd A.ob id (some o) }

def Gh.new (G : Gh) (nx g : Nat) (v : Value) : Gh := { adr := fupd G.adr nx g, hdr := fupd G.hdr nx v, own := fupd G.own g (some nx), F := G.F, N := G.N }

section
variable {P : Program} {G : Gh} {A : AS} {a : Act} {w w' : World}

theorem Adv.new {nx g : Nat} {v : Value} (hF : ∀ b o, G.F b o → w'.cell? ⟨b, o, none⟩ = w.cell? ⟨b, o, none⟩) : Adv G nx w (G.new nx g v) (nx + 1) w' :=
  ⟨fun b o h => ⟨h, hF b o h⟩, fun id h => fupd_ne _ (by omega) _, fun id h => fupd_ne _ (by omega) _, by omega⟩

theorem cell_of_block {w w' : World} {b o : Nat} (h : w'.heap[b]? = w.heap[b]?) : w'.cell? ⟨b, o, none⟩ = w.cell? ⟨b, o, none⟩ := by simp [World.cell?, h]

/-- A new object: at a new block, or at the block of an object that it takes the place of ('gone' goes in either case). -/
theorem Rel.newObj (R : Rel G A a w) {g : Nat} {v : Value} {o : Ob} (gone : Nat)
    (hg : w.heap.size ≤ g ∨ G.own g = some gone) (hg2 : g < w'.heap.size) (hk : ∀ b, b < w.heap.size → b ≠ g → G.own b ≠ some gone → w'.heap[b]? = w.heap[b]?)
    (hsize : w.heap.size ≤ w'.heap.size) (hos : w'.os = w.os) (htape : w'.tape = w.tape) (hout : w'.output = w.output)
    (hnew : RepO (G.new A.nx g v) (A.nx + 1) w' A.nx o) :
    Rel (G.new A.nx g v) ((A.kill gone).new o) a w' ∧ Ext G w (G.new A.nx g v) w' ∧ Adv G A.nx w (G.new A.nx g v) (A.nx + 1) w' := by
  have hF : ∀ b j, G.F b j → b ≠ g ∧ b < w.heap.size := fun b j h => by
    obtain ⟨h1, h2⟩ := R.fown b j h
    refine ⟨fun e => ?_, h2⟩
    subst e
    rcases hg with hg | hg
    · omega
    · rw [h1] at hg; cases hg
  have hFc : ∀ b j, G.F b j → w'.cell? ⟨b, j, none⟩ = w.cell? ⟨b, j, none⟩ := fun b j h => cell_of_block (hk b (hF b j h).2 (hF b j h).1 (by rw [(R.fown b j h).1]; simp))
  have hA : Adv G A.nx w (G.new A.nx g v) (A.nx + 1) w' := Adv.new hFc
  have hold : ∀ id o', A.ob id = some o' → id ≠ gone → RepO (G.new A.nx g v) (A.nx + 1) w' id o' := fun id o' h hid => by
    obtain ⟨h1, h2⟩ := R.obs id o' h
    refine h2.of_heap hA h1 fun ho => ?_
    have hne : G.adr id ≠ g := fun e => by
      have hlt := R.own _ _ ho
      rcases hg with hg | hg
      · omega
      · rw [e, hg] at ho
        cases ho
        exact hid rfl
    exact ⟨(fupd_ne _ hne _).trans ho, hk _ (R.own _ _ ho) hne (by rw [ho]; intro e; cases e; exact hid rfl)⟩
  refine ⟨?_, ?_, hA⟩
  · exact
      { defers := R.defers
        size := R.size
        slots := fun t => (R.slots t).adv hA
        obs := fun id o' h => by
          have h : fupd (fupd A.ob gone none) A.nx (some o) id = some o' := h
          by_cases e : id = A.nx
          · subst e; rw [fupd_same] at h; cases h; exact ⟨Nat.lt_succ_self _, hnew⟩
          · rw [fupd_ne _ e] at h
            by_cases e2 : id = gone
            · subst e2; rw [fupd_same] at h; cases h
            · rw [fupd_ne _ e2] at h
              exact ⟨Nat.lt_succ_of_lt (R.obs id o' h).1, hold id o' h e2⟩
        fown := fun b j h => ⟨(fupd_ne _ (hF b j h).1 _).trans (R.fown b j h).1, Nat.lt_of_lt_of_le (hF b j h).2 hsize⟩
        own := fun b id h => by
          by_cases e : b = g
          · subst e; exact hg2
          · have : G.own b = some id := by rw [← h]; exact (fupd_ne _ e _).symm
            exact Nat.lt_of_lt_of_le (R.own b id this) hsize
        N := ⟨R.N.1, Nat.le_succ_of_le R.N.2⟩ }
  · have hne : ∀ b, b < w.heap.size → G.own b = none → b ≠ g := fun b hb ho e => by
      subst e
      rcases hg with hg | hg
      · omega
      · rw [ho] at hg; cases hg
    exact ⟨fun b j h => ⟨h, hFc b j h⟩, fun b hb ho => hk b hb (hne b hb ho) (by rw [ho]; simp), fun b hb ho => (fupd_ne _ (hne b hb ho) _).trans ho, fun b j h => .inl h, hsize, hos, htape, hout, rfl, fun k hk => ⟨fupd_ne _ (by have := R.N; omega) _, fupd_ne _ (by have := R.N; omega) _⟩⟩

/-- A new object at a new block. -/
theorem Rel.allocObj (R : Rel G A a w) (o : Ob) (v : Value) (x : Obj)
    (hnew : RepO (G.new A.nx w.heap.size v) (A.nx + 1) (w.alloc x) A.nx o) :
    Rel (G.new A.nx w.heap.size v) (A.new o) a (w.alloc x) ∧ Ext G w (G.new A.nx w.heap.size v) (w.alloc x) ∧
      Adv G A.nx w (G.new A.nx w.heap.size v) (A.nx + 1) (w.alloc x) := by
  have h := R.newObj (g := w.heap.size) (v := v) (o := o) (w' := w.alloc x) A.nx (.inl (Nat.le_refl _)) (by simp) (fun b hb _ _ => heap_alloc_old w _ b hb) (by simp) rfl rfl rfl hnew
  have hn : A.ob A.nx = none := by
    cases hc : A.ob A.nx with
    | none => rfl
    | some o' => have := (R.obs _ _ hc).1; omega
  have e : A.kill A.nx = A := by
    unfold AS.kill
    have : fupd A.ob A.nx none = A.ob := by
      funext j
      by_cases h : j = A.nx
      · subst h; rw [fupd_same, hn]
      · exact fupd_ne _ h _
    rw [this]
  rw [e] at h
  exact h

/-- A plain new object at a new block. -/
theorem Rel.alloc (R : Rel G A a w) (o : Ob) (v : Value) (cs : Array Value)
    (hnew : RepO (G.new A.nx w.heap.size v) (A.nx + 1) (w.alloc (.cells cs o.T.id)) A.nx o) :
    Rel (G.new A.nx w.heap.size v) (A.new o) a (w.alloc (.cells cs o.T.id)) ∧ Ext G w (G.new A.nx w.heap.size v) (w.alloc (.cells cs o.T.id)) ∧
      Adv G A.nx w (G.new A.nx w.heap.size v) (A.nx + 1) (w.alloc (.cells cs o.T.id)) := R.allocObj o v _ hnew

theorem adv_alloc (R : Rel G A a w) (v : Value) (ob : Obj) : Adv G A.nx w (G.new A.nx w.heap.size v) (A.nx + 1) (w.alloc ob) :=
  Adv.new fun b j h => cell_of_block (heap_alloc_old w _ b (R.fown b j h).2)

theorem repO_box (R : Rel G A a w) (T : TypeId) {cs : List AC} {vs : List Value} (hp : Pw (RepV G A.nx w) cs vs) :
    RepO (G.new A.nx w.heap.size undef) (A.nx + 1) (w.alloc (.cells vs.toArray T)) A.nx ⟨T, 0, 0, cs⟩ := by
  refine ⟨vs, hp.imp fun _ _ k => k.adv (adv_alloc R _ _), .inl ⟨rfl, rfl, ?_, ?_⟩⟩
  · show fupd G.own w.heap.size (some A.nx) (fupd G.adr A.nx w.heap.size A.nx) = some A.nx
    rw [fupd_same, fupd_same]
  · show (w.alloc _).heap[fupd G.adr A.nx w.heap.size A.nx]? = _
    rw [fupd_same]
    exact heap_alloc_new w _

theorem repO_row (R : Rel G A a w) (T : TypeId) (s B n : Nat) (hs : 0 < s) (hB : n * B ≤ 140737488355328) (hn : n ≤ maxLen) {cs : List AC} {vs : List Value} (hp : Pw (RepV G A.nx w) cs vs) (hl : vs.length = n * s) :
    RepO (G.new A.nx w.heap.size (.slice (some ⟨w.heap.size, 0, none⟩) n n)) (A.nx + 1) (w.alloc (.cells vs.toArray T)) A.nx ⟨T, s, B, cs⟩ := by
  refine ⟨vs, hp.imp fun _ _ k => k.adv (adv_alloc R _ _), .inr (.inr ⟨hs, n, ?_, hB, ?_⟩)⟩
  · show World.ownsRow _ 0 T s (fupd G.hdr A.nx _ A.nx) n vs
    rw [fupd_same]
    refine ⟨hl, .inr ⟨w.heap.size, n, vs.toArray, rfl, Nat.zero_le _, heap_alloc_new w _, Nat.le_refl _, hn, by simp [hl], ?_⟩⟩
    simp [← hl]
  · intro g h
    have h : (fupd G.hdr A.nx (Value.slice (some ⟨w.heap.size, 0, none⟩) n n) A.nx).ownBlock = some g := h
    rw [fupd_same] at h
    simp [Value.ownBlock] at h
    subst h
    exact ⟨(fupd_same _ _ _).symm, fupd_same _ _ _⟩

/-- An object's cells, as they lie in memory. -/
theorem RepO.open {nx id : Nat} {o : Ob} (h : RepO G nx w id o) :
    ∃ vs : List Value, Pw (RepV G nx w) o.cells vs ∧ (∀ (j : Nat) v, vs[j]? = some v → w.cell? ⟨G.adr id, j, none⟩ = some v) ∧
      (vs = [] ∨ ∃ cur, w.heap[G.adr id]? = some (.cells cur o.T.id (0, 0)) ∧ vs.length ≤ cur.size ∧ cur.toList.take vs.length = vs ∧ G.own (G.adr id) = some id) := by
  obtain ⟨vs, hp, hc⟩ := h
  refine ⟨vs, hp, ?_⟩
  rcases hc with ⟨h0, _, ho, hh⟩ | ⟨h0, hv, x, _, ho, hh⟩ | ⟨h0, n, hr, hB, hg⟩
  · refine ⟨fun j v hv => by simpa [World.cell?, hh] using hv, .inr ⟨_, hh, by simp, by simp, ho⟩⟩
  · subst hv
    exact ⟨fun j v hv => by simp at hv, .inl rfl⟩
  · rcases hr.2 with ⟨e1, e2⟩ | ⟨g, cap, cur, e, _, hh, hnc, _, hcs, htake⟩
    · have : vs = [] := List.eq_nil_of_length_eq_zero (by rw [hr.1, e2]; simp)
      subst this
      exact ⟨fun j v hv => by simp at hv, .inl rfl⟩
    · obtain ⟨e1, e2⟩ := hg g (by rw [e]; rfl)
      subst e1
      refine ⟨fun j v hv => ?_, .inr ⟨cur, hh, ?_, ?_, e2⟩⟩
      · rw [← htake, List.getElem?_take] at hv
        split at hv
        · simpa [World.cell?, hh] using hv
        · cases hv
      · rw [hr.1, hcs]; exact Nat.mul_le_mul_right _ hnc
      · rw [hr.1]; exact htake

end
end Go.Proofs.Ve

/-
  VeD: operations on memory: variables, fields, elements.
-/
set_option linter.unusedVariables false
set_option linter.unusedSimpArgs false
namespace Go.Proofs.Ve
open Go

/-- xs laid over l from place o on. -/
def setR {α : Type} (l : List α) (o : Nat) (xs : List α) : List α := l.take o ++ xs ++ l.drop (o + xs.length)

theorem setR_length {α : Type} (l : List α) (o : Nat) (xs : List α) (h : o + xs.length ≤ l.length) : (setR l o xs).length = l.length := by
  simp [setR]; omega
theorem Pw.setR {α β : Type} {R : α → β → Prop} {xs xs' : List α} {ys ys' : List β} (h : Pw R xs ys) (t : Pw R xs' ys') (o : Nat) : Pw R (setR xs o xs') (setR ys o ys') := by
  unfold Ve.setR
  rw [t.1]
  exact ((h.take o).append t).append (h.drop _)

def AV.isVal : AV → Bool
  | .one _ | .agg _ => true
  | _ => false

section
variable {P : Program} {G : Gh} {A : AS} {a : Act} {w : World} {o : Oper} {K : AS → Prop} {Q : Exit → Act → World → Prop} {L : Lay}

theorem RepAV.cells {nx : Nat} {x : AV} {v : Value} (h : RepAV G nx w x v) (hv : x.isVal = true) : Pw (RepV G nx w) x.cells v.cells.toList := by
  cases h with
  | undef => cases hv
  | one h => rw [h.cells]; exact .cons h .nil
  | agg h => simpa [AV.cells, Value.cells] using h
  | tup => cases hv

theorem zero_pw {t : Nat} {i : TI} (hi : i.Ok P t) (hz : i.zero ≠ []) : ∃ f z, P.info? t = some f ∧ f.zero = some z ∧ f.size = i.size ∧ f.bytes = i.bytes ∧ ∀ (F : Nat → Nat → Prop) (w : World), Pw (RepD F w) i.zero z.cells.toList := by
  obtain ⟨f, d, h1, h2, h3, h4, h5, h6, h6s, h6k, h7, h8, h9⟩ := hi.info
  obtain ⟨z, hz1, hz2⟩ := h8 hz
  exact ⟨f, z, h1, hz1, h3, h4, fun F w => mapM_pw _ _ hz2⟩

/-- The slot takes the address of a new variable. -/
theorem wp_newVar (R : Rel G A a w) (hd : ∀ t, o.dst = some t → t < A.sz) (T : Nat) {cs : List AC} {v : Value} (hp : Pw (RepV G A.nx w) cs v.cells.toList)
    (hr : (execOp a.eval o).run P w = .ok (.value (.pointer (some ⟨w.heap.size, 0, none⟩))) (w.alloc (.cells v.cells T)))
    (hK : K ((A.new ⟨T, 0, 0, cs⟩).put o.dst (.one (.ptr A.nx 0)))) : o.wp P a w (Post K G w) Q := by
  unfold Oper.wp
  rw [hr]
  have hb := repO_box (G := G) (A := A) (a := a) R T hp
  have e : v.cells.toList.toArray = v.cells := by simp
  rw [e] at hb
  obtain ⟨h1, h2, h3⟩ := R.alloc ⟨T, 0, 0, cs⟩ undef v.cells hb
  refine ⟨_, _, hK, h1.put hd (.one ?_), h2⟩
  have := RepV.ptr (G := G.new A.nx w.heap.size undef) (w := w.alloc (.cells v.cells T)) (nx := A.nx + 1) A.nx 0 (Nat.lt_succ_self _)
  have e2 : (G.new A.nx w.heap.size undef).adr A.nx = w.heap.size := fupd_same _ _ _
  rw [e2] at this
  exact this

theorem wp_alloc (hL : L.Ok P) (R : Rel G A a w) (hd : ∀ t, o.dst = some t → t < A.sz) {T : TypeId} {i : TI} (hi : L T = some i) (hz : i.zero ≠ []) (ho : o.op = .alloc T)
    (hK : K ((A.new ⟨T, 0, 0, i.zero⟩).put o.dst (.one (.ptr A.nx 0)))) : o.wp P a w (Post K G w) Q := by
  obtain ⟨f, z, h1, h2, h3, h4, h5⟩ := zero_pw (hL T i hi) hz
  refine wp_newVar R hd T (v := z) ((h5 G.F w).imp fun _ _ k => .deep k) ?_ hK
  simp [execOp, ho, Instr.alloc, zeroValue, typeInfo, h1, h2, newVar, newRow]

theorem wp_box (R : Rel G A a w) (hd : ∀ t, o.dst = some t → t < A.sz) {T : TypeId} {x : Operand} (hv : (A.ev x).isVal = true) (ho : o.op = .box T x)
    (hK : K ((A.new ⟨T, 0, 0, (A.ev x).cells⟩).put o.dst (.one (.ptr A.nx 0)))) : o.wp P a w (Post K G w) Q := by
  refine wp_newVar R hd T (v := a.eval x) ((R.ev x).cells hv) ?_ hK
  simp [execOp, ho, Instr.box, newVar, newRow]

/-! ### fields and elements -/
theorem add_at (b o n : Nat) : (⟨b, o, none⟩ : Addr).add n = ⟨b, o + n, none⟩ := by
  unfold Addr.add
  split <;> simp_all

theorem fld_info {t f off ty : Nat} {i : TI} (hi : i.Ok P t) (hf : i.flds[f]? = some (off, ty)) : ∃ fs fd, P.underlying t = some (.struct fs) ∧ fs[f]? = some fd ∧ fd.offset = off ∧ fd.type = ty := by
  obtain ⟨fi, d, h1, h2, h3, h4, h5, h6, h6s, h6k, h7, h8, h9⟩ := hi.info
  obtain ⟨fs, e, h⟩ := h7 (by intro e; rw [e] at hf; simp at hf)
  rw [← h, List.getElem?_map] at hf
  cases hx : fs.toList[f]? with
  | none => rw [hx] at hf; cases hf
  | some fd =>
    rw [hx] at hf
    simp only [Option.map_some, Option.some.injEq, Prod.mk.injEq] at hf
    exact ⟨fs, fd, by rw [h2, e], by simpa using hx, hf.1, hf.2⟩

theorem size_info {t : Nat} {i : TI} (hi : i.Ok P t) : ∃ f, P.info? t = some f ∧ f.size = i.size := by
  obtain ⟨f, d, h1, h2, h3, _⟩ := hi.info
  exact ⟨f, h1, h3⟩
theorem under_info {t : Nat} {i : TI} (hi : i.Ok P t) : ∃ d, P.underlying t = some d ∧ ((d matches .struct _ | .array _ _) = i.agg) := by
  obtain ⟨f, d, h1, h2, h3, h4, h5, _⟩ := hi.info
  exact ⟨d, h2, h5⟩
theorem elem_info {t : Nat} {i : TI} (hi : i.Ok P t) (hs : i.isl = true) : P.underlying t = some (.slice i.elem) := by
  obtain ⟨f, d, h1, h2, h3, h4, h5, h6, _⟩ := hi.info
  rw [h2, h6 hs]

theorem str_info {t : Nat} {i : TI} (hi : i.Ok P t) (hs : i.str = true) : P.underlying t = some .string := by
  obtain ⟨f, d, h1, h2, h3, h4, h5, h6, h6s, _⟩ := hi.info
  rw [h2, h6s hs]
theorem ik_info {t : Nat} {i : TI} (hi : i.Ok P t) {k : IntKind} (hs : i.ik = some k) : P.underlying t = some (.int k) := by
  obtain ⟨f, d, h1, h2, h3, h4, h5, h6, h6s, h6k, _⟩ := hi.info
  rw [h2, h6k k hs]

theorem bl_info {t : Nat} {i : TI} (hi : i.Ok P t) (hs : i.bl = true) : P.underlying t = some .bool := by
  obtain ⟨f, d, h1, h2, h3, h4, h5, h6, h6s, h6k, h7, h8, h9⟩ := hi.info
  rw [h2, h9 hs]

theorem run_fieldAt (hL : L.Ok P) {S f off ty : Nat} {i j : TI} (hi : L S = some i) (hf : i.flds[f]? = some (off, ty)) (hj : L ty = some j) (hz : j.size ≠ 0) (b p : Nat) :
    (Instr.fieldAt S (.pointer (some ⟨b, p, none⟩)) f).run P w = .ok (.pointer (some ⟨b, p + off, none⟩)) w := by
  obtain ⟨fs, fd, h1, h2, h3, h4⟩ := fld_info (hL S i hi) hf
  obtain ⟨fi, h5, h6⟩ := size_info (hL ty j hj)
  subst h3 h4
  simp [Instr.fieldAt, run_underlying h1, h2, Instr.sureAddr, fieldPlace, sizeOf, typeInfo, h5, h6, hz, add_at]

theorem wp_fieldAddr (hL : L.Ok P) (R : Rel G A a w) (hd : ∀ t, o.dst = some t → t < A.sz) {S f off ty id p : Nat} {i j : TI} {x : Operand} (hi : L S = some i) (hf : i.flds[f]? = some (off, ty)) (hj : L ty = some j) (hz : j.size ≠ 0)
    (ho : o.op = .fieldAddr S x f) (hx : A.ev x = .one (.ptr id p)) (hK : K (A.put o.dst (.one (.ptr id (p + off))))) : o.wp P a w (Post K G w) Q := by
  have h := R.ev x
  rw [hx] at h
  obtain ⟨hid, hv⟩ := inv_ptr h
  exact wp_value R hd (by simp [execOp, ho, hv, run_fieldAt hL hi hf hj hz]) (.one (.ptr id (p + off) hid)) hK

theorem cptr_drop {nx : Nat} {cells : List AC} {b p : Nat} {us : List Value} (hp : Pw (RepD G.F w) cells us) (h : ∀ (j : Nat) y, us[j]? = some y → G.F b (p + j) ∧ w.cell? ⟨b, p + j, none⟩ = some y) (n : Nat) :
    RepV G nx w (.cptr (cells.drop n)) (.pointer (some ⟨b, p + n, none⟩)) :=
  .cptr _ b (p + n) (us.drop n) (hp.drop n) fun j y hy => by
    rw [List.getElem?_drop] at hy
    have := h _ y hy
    rwa [← Nat.add_assoc] at this

theorem wp_fieldAddrC (hL : L.Ok P) (R : Rel G A a w) (hd : ∀ t, o.dst = some t → t < A.sz) {S f off ty : Nat} {cells : List AC} {i j : TI} {x : Operand} (hi : L S = some i) (hf : i.flds[f]? = some (off, ty)) (hj : L ty = some j) (hz : j.size ≠ 0)
    (ho : o.op = .fieldAddr S x f) (hx : A.ev x = .one (.cptr cells)) (hK : K (A.put o.dst (.one (.cptr (cells.drop off))))) : o.wp P a w (Post K G w) Q := by
  have h := R.ev x
  rw [hx] at h
  obtain ⟨b, p, us, hv, hp, hc⟩ := inv_cptr h
  exact wp_value R hd (by simp [execOp, ho, hv, run_fieldAt hL hi hf hj hz]) (.one (cptr_drop hp hc off)) hK

/-- A value of a type out of its cells. -/
def valOf (i : TI) (cs : List AC) : Option AV := if cs.length = i.size then (if i.agg = true then some (.agg cs) else match cs with | [c] => some (.one c) | _ => none) else none

theorem run_loadVar (hL : L.Ok P) {T : Nat} {i : TI} (hi : L T = some i) {b p : Nat} {cs : List AC} {us : List Value} {nx : Nat} (hp : Pw (RepV G nx w) cs us) (hc : ∀ (j : Nat) y, us[j]? = some y → w.cell? ⟨b, p + j, none⟩ = some y)
    {x : AV} (hx : valOf i cs = some x) : ∃ v, (loadVar T ⟨b, p, none⟩).run P w = .ok v w ∧ RepAV G nx w x v := by
  obtain ⟨f, h1, h2⟩ := size_info (hL T i hi)
  obtain ⟨d, h3, h4⟩ := under_info (hL T i hi)
  unfold valOf at hx
  split at hx
  · rename_i hlen
    have hlen2 : us.length = f.size := by rw [← hp.1, hlen, h2]
    have hl := run_loadCells_list (P := P) w ⟨b, p, none⟩ us (fun j v hv => by rw [add_at]; exact hc j v hv)
    rw [hlen2] at hl
    split at hx
    · rename_i hagg
      cases hx
      refine ⟨.agg us.toArray, ?_, .agg hp⟩
      rw [hagg] at h4
      simp [loadVar, isAgg, run_underlying h3, sizeOf, typeInfo, h1, hl]
      cases d <;> simp at h4 ⊢ <;> simp [hl]
    · rename_i hagg
      have hagg : i.agg = false := by simpa using hagg
      rw [hagg] at h4
      split at hx
      · rename_i c
        cases hx
        match us, hp, hc with
        | [u], hp, hc =>
          have hu := hc 0 u rfl
          refine ⟨u, ?_, .one hp.head⟩
          cases d <;> simp at h4 <;> simp [loadVar, isAgg, run_underlying h3, load, Sem.run, show w.cell? ⟨b, p, none⟩ = some u from hu]
        | [], hp, hc => have := hp.1; simp at this
        | _ :: _ :: _, hp, hc => have := hp.1; simp at this
      · cases hx
  · cases hx

theorem wp_load (hL : L.Ok P) (R : Rel G A a w) (hd : ∀ t, o.dst = some t → t < A.sz) {T id p : Nat} {i : TI} {ad : Operand} {ob : Ob} (hi : L T = some i) (ho : o.op = .load T ad) (hx : A.ev ad = .one (.ptr id p)) (hob : A.ob id = some ob)
    {x : AV} (hv : valOf i ((ob.cells.drop p).take i.size) = some x) (hK : K (A.put o.dst x)) : o.wp P a w (Post K G w) Q := by
  have h := R.ev ad
  rw [hx] at h
  obtain ⟨hid, hval⟩ := inv_ptr h
  obtain ⟨vs, hp, hc, _⟩ := (R.obs id ob hob).2.open
  obtain ⟨v, hr, hrep⟩ := run_loadVar (P := P) (G := G) (w := w) hL hi (b := G.adr id) (p := p) ((hp.drop p).take i.size) (fun j y hy => by
    rw [List.getElem?_take] at hy
    split at hy
    · rw [List.getElem?_drop] at hy; exact hc _ y hy
    · cases hy) hv
  exact wp_value R hd (by simp [execOp, ho, Instr.loadAt, Instr.sureAddr, hval, hr]) hrep hK

theorem wp_loadC (hL : L.Ok P) (R : Rel G A a w) (hd : ∀ t, o.dst = some t → t < A.sz) {T : Nat} {i : TI} {ad : Operand} {cells : List AC} (hi : L T = some i) (ho : o.op = .load T ad) (hx : A.ev ad = .one (.cptr cells))
    {x : AV} (hv : valOf i (cells.take i.size) = some x) (hK : K (A.put o.dst x)) : o.wp P a w (Post K G w) Q := by
  have h := R.ev ad
  rw [hx] at h
  obtain ⟨b, p, us, hval, hp, hc⟩ := inv_cptr h
  obtain ⟨v, hr, hrep⟩ := run_loadVar (P := P) (G := G) (w := w) hL hi (b := b) (p := p) (nx := A.nx) ((hp.imp fun _ _ k => RepV.deep k).take i.size) (fun j y hy => by
    rw [List.getElem?_take] at hy
    split at hy
    · exact (hc _ y hy).2
    · cases hy) hv
  exact wp_value R hd (by simp [execOp, ho, Instr.loadAt, Instr.sureAddr, hval, hr]) hrep hK

theorem run_indexAt (hL : L.Ok P) {T : Nat} {i j : TI} (hi : L T = some i) (hs : i.isl = true) (hj : L i.elem = some j) {b p n c : Nat} {k : IntKind} {q : Int} (h0 : 0 ≤ q) (h1 : q < n) :
    (Instr.indexAt T (.slice (some ⟨b, p, none⟩) n c) (.int k q)).run P w = .ok (.pointer (some ⟨b, p + q.toNat * j.size, none⟩)) w := by
  obtain ⟨f, h2, h3⟩ := size_info (hL _ _ hj)
  simp [Instr.indexAt, asIntOf, run_underlying (elem_info (hL T i hi) hs), h0, h1, sizeOf, typeInfo, h2, h3, add_at]

theorem wp_indexAddr (hL : L.Ok P) (R : Rel G A a w) (hd : ∀ t, o.dst = some t → t < A.sz) {T : Nat} {i j : TI} {x ix : Operand} {full : Bool} {B n : Nat} {cells : List AC} {k : IntKind} {q : Int}
    (hi : L T = some i) (hs : i.isl = true) (hj : L i.elem = some j) (ho : o.op = .indexAddr T x ix) (hx : A.ev x = .one (.sl full B n cells)) (hix : A.ev ix = .one (.int k q)) (h0 : 0 ≤ q) (h1 : q < n)
    (hK : K (A.put o.dst (.one (.cptr (cells.drop (q.toNat * j.size)))))) : o.wp P a w (Post K G w) Q := by
  have h := R.ev x
  rw [hx] at h
  obtain ⟨ad, c, us, hval, hp, hn, hf, ha, hB, hcell, hzz⟩ := inv_sl h
  have h' := R.ev ix
  rw [hix] at h'
  have h' := inv_int h'
  rcases hcell with hnil | ⟨b, p, e, hc⟩
  · omega
  · cases e
    exact wp_value R hd (by simp [execOp, ho, hval, h', run_indexAt hL hi hs hj h0 h1]) (.one (cptr_drop hp hc _)) hK

/-- The place of an element of a slice object. -/
theorem wp_indexAddrG (hL : L.Ok P) (R : Rel G A a w) (hd : ∀ t, o.dst = some t → t < A.sz) {T : Nat} {i j : TI} {x ix : Operand} {id : Nat} {ob : Ob} {k : IntKind} {q : Int}
    (hi : L T = some i) (hs : i.isl = true) (hj : L i.elem = some j) (ho : o.op = .indexAddr T x ix) (hx : A.ev x = .one (.gref id)) (hob : A.ob id = some ob) (hsz : ob.s = j.size) (hz : j.size ≠ 0) (hix : A.ev ix = .one (.int k q)) (h0 : 0 ≤ q) (h1 : q.toNat * j.size < ob.cells.length)
    (hK : K (A.put o.dst (.one (.ptr id (q.toNat * j.size))))) : o.wp P a w (Post K G w) Q := by
  have h := R.ev x
  rw [hx] at h
  obtain ⟨hid, ad, n, c, hh, hval⟩ := inv_gref h
  have h' := R.ev ix
  rw [hix] at h'
  have h' := inv_int h'
  obtain ⟨_, vs, hp, hc⟩ := R.obs id ob hob
  rcases hc with ⟨h2, _⟩ | ⟨h2, _⟩ | ⟨h2, m, hr, hB, hg⟩
  · exact absurd (hsz.symm.trans h2) hz
  · exact absurd (hsz.symm.trans h2) hz
  · have hlen : ob.cells.length = m * ob.s := by rw [hp.1, hr.1]
    rcases hr.2 with ⟨_, e⟩ | ⟨g, cap, cur, e, _⟩
    · rw [hlen, e] at h1; simp at h1
    · obtain ⟨e1, e2⟩ := hg g (by rw [e]; rfl)
      rw [hh] at e
      cases e
      subst e1
      have hq : q < (n : Int) := by
        rw [hlen, hsz] at h1
        have := Nat.lt_of_mul_lt_mul_right h1
        omega
      refine wp_value R hd (v := .pointer (some ⟨G.adr id, 0 + q.toNat * j.size, none⟩)) (by simp [execOp, ho, hval, h', run_indexAt hL hi hs hj h0 hq]) ?_ hK
      rw [Nat.zero_add]
      exact .one (.ptr id _ hid)

end
end Go.Proofs.Ve

/-
  VeE: stores; values built; slices made and cut; lengths.
-/
set_option linter.unusedVariables false
set_option linter.unusedSimpArgs false
namespace Go.Proofs.Ve
open Go

section
variable {P : Program} {G : Gh} {A : AS} {a : Act} {w w' : World} {o : Oper} {K : AS → Prop} {Q : Exit → Act → World → Prop} {L : Lay}

/-- An object's cells turn; all else stands. -/
theorem Rel.updObj (R : Rel G A a w) {id : Nat} {ob ob' : Ob} (hob : A.ob id = some ob) (hown : G.own (G.adr id) = some id) (hk : ∀ b, b ≠ G.adr id → w'.heap[b]? = w.heap[b]?)
    (hsize : w'.heap.size = w.heap.size) (hos : w'.os = w.os) (htape : w'.tape = w.tape) (hout : w'.output = w.output) (hnew : Adv G A.nx w G A.nx w' → RepO G A.nx w' id ob') :
    Rel G (A.upd id ob') a w' ∧ Ext G w G w' := by
  have hF : ∀ b j, G.F b j → b ≠ G.adr id := fun b j h e => by
    have := (R.fown b j h).1
    rw [e, hown] at this
    cases this
  have hA : Adv G A.nx w G A.nx w' := ⟨fun b j h => ⟨h, cell_of_block (hk b (hF b j h))⟩, fun _ _ => rfl, fun _ _ => rfl, Nat.le_refl _⟩
  refine ⟨?_, ?_⟩
  · exact
      { defers := R.defers
        size := R.size
        slots := fun t => (R.slots t).adv hA
        obs := fun id' o' h => by
          have h : fupd A.ob id (some ob') id' = some o' := h
          by_cases e : id' = id
          · subst e; rw [fupd_same] at h; cases h; exact ⟨(R.obs _ _ hob).1, hnew hA⟩
          · rw [fupd_ne _ e] at h
            obtain ⟨h1, h2⟩ := R.obs id' o' h
            refine ⟨h1, h2.of_heap hA h1 fun ho => ⟨ho, hk _ fun e2 => ?_⟩⟩
            rw [e2, hown] at ho
            cases ho
            exact e rfl
        fown := fun b j h => by rw [hsize]; exact R.fown b j h
        own := fun b id h => by rw [hsize]; exact R.own b id h
        N := R.N }
  · exact ⟨fun b j h => ⟨h, cell_of_block (hk b (hF b j h))⟩, fun b hb ho => hk b (fun e => (by rw [e, hown] at ho; cases ho)), fun b hb ho => ho, fun b j h => .inl h, by omega, hos, htape, hout, rfl, fun _ _ => ⟨rfl, rfl⟩⟩

theorem toArray_setR (vs xs : List Value) (p : Nat) : (vs.toArray.toList.take p ++ xs ++ vs.toArray.toList.drop (p + xs.length)).toArray = (setR vs p xs).toArray := by simp [setR]

theorem take_setR (cur vs xs : List Value) (p n : Nat) (hn : n = vs.length) (ht : cur.take n = vs) (hp : p + xs.length ≤ vs.length) (hc : vs.length ≤ cur.length) :
    (cur.take p ++ xs ++ cur.drop (p + xs.length)).take n = setR vs p xs := by
  subst hn
  have e : cur = vs ++ cur.drop vs.length := by
    have := List.take_append_drop vs.length cur
    rw [ht] at this
    exact this.symm
  rw [e]
  unfold setR
  have h1 : (vs ++ cur.drop vs.length).take p = vs.take p := by rw [List.take_append_of_le_length (by omega)]
  have h2 : (vs ++ cur.drop vs.length).drop (p + xs.length) = vs.drop (p + xs.length) ++ cur.drop vs.length := by rw [List.drop_append_of_le_length (by omega)]
  rw [h1, h2, ← List.append_assoc]
  exact List.take_left' (by simp; omega)

theorem heap_setRow_same {w : World} {g : Nat} {cur : Array Value} {t : TypeId} {fr : Nat × Nat} (h : w.heap[g]? = some (.cells cur t fr)) (cs : Array Value) : (w.setRow g cs).heap[g]? = some (.cells cs t fr) := setRow_heap w g cur cs t fr h
theorem heap_setRow_other (w : World) (g b : Nat) (cs : Array Value) (h : b ≠ g) : (w.setRow g cs).heap[b]? = w.heap[b]? := by
  simp [World.setRow, Array.getElem?_modify, Ne.symm h]

/-- The object behind a store. -/
theorem repO_setR {nx id : Nat} {ob : Ob} (h : RepO G nx w id ob) {p : Nat} {cs : List AC} {xs : List Value} (hx : Pw (RepV G nx w) cs xs) (hp : p + cs.length ≤ ob.cells.length) (hpos : cs ≠ []) :
    ∃ cur, w.heap[G.adr id]? = some (.cells cur ob.T.id (0, 0)) ∧ p + xs.length ≤ cur.size ∧ G.own (G.adr id) = some id ∧
      (Adv G nx w G nx (w.setRow (G.adr id) (cur.toList.take p ++ xs ++ cur.toList.drop (p + xs.length)).toArray) →
        RepO G nx (w.setRow (G.adr id) (cur.toList.take p ++ xs ++ cur.toList.drop (p + xs.length)).toArray) id { ob with cells := setR ob.cells p cs }) := by
  obtain ⟨vs, hv, hc⟩ := h
  have hlen : p + xs.length ≤ vs.length := by rw [← hv.1, ← hx.1]; exact hp
  have hpos' : 0 < cs.length := by cases cs with | nil => exact absurd rfl hpos | cons => simp
  rcases hc with ⟨h0, ht, ho, hh⟩ | ⟨h0, hvs, _⟩ | ⟨h0, n, hr, hB, hg⟩
  · refine ⟨vs.toArray, hh, by simpa using hlen, ho, fun hA => ?_⟩
    rw [toArray_setR]
    exact ⟨setR vs p xs, (hv.setR hx p).imp fun _ _ k => by rw [toArray_setR] at hA; exact k.adv hA, .inl ⟨h0, ht, ho, heap_setRow_same hh _⟩⟩
  · have hl := hx.1; rw [hvs] at hlen; simp only [List.length_nil] at hlen; omega
  · rcases hr.2 with ⟨e1, e2⟩ | ⟨g, cap, cur, e, hb, hh, hnc, hm, hcs, htake⟩
    · rw [hv.1, hr.1, e2] at hp; simp at hp; exact absurd hp.2 hpos
    · obtain ⟨e1, e2⟩ := hg g (by rw [e]; rfl)
      subst e1
      have hle : vs.length ≤ cur.size := by rw [hr.1, hcs]; exact Nat.mul_le_mul_right _ hnc
      refine ⟨cur, hh, by omega, e2, fun hA => ?_⟩
      refine ⟨setR vs p xs, (hv.setR hx p).imp fun _ _ k => k.adv hA, .inr (.inr ⟨h0, n, ⟨by rw [setR_length _ _ _ hlen]; exact hr.1, .inr ⟨G.adr id, cap, _, e, hb, heap_setRow_same hh _, hnc, hm, ?_, ?_⟩⟩, hB, hg⟩)⟩
      · simp only [List.size_toArray, List.length_append, List.length_take, List.length_drop, Array.length_toList]
        rw [hcs] at hle ⊢
        omega
      · show (cur.toList.take p ++ xs ++ cur.toList.drop (p + xs.length)).take (n * ob.s) = _
        exact take_setR _ vs xs p _ hr.1.symm (by rw [← htake]) hlen (by simpa using hle)

theorem wp_store (hL : L.Ok P) (R : Rel G A a w) {T id p : Nat} {i : TI} {ad x : Operand} {ob : Ob} (hi : L T = some i) (ho : o.op = .store T ad x) (hx : A.ev ad = .one (.ptr id p)) (hob : A.ob id = some ob)
    (hv : (A.ev x).isVal = true) (hz : (A.ev x).cells.length = i.size) (hz0 : i.size ≠ 0) (hp : p + i.size ≤ ob.cells.length) (hK : K ((A.upd id { ob with cells := setR ob.cells p (A.ev x).cells }).put o.dst .undef)) : o.wp P a w (Post K G w) Q := by
  have h := R.ev ad
  rw [hx] at h
  obtain ⟨hid, hval⟩ := inv_ptr h
  have hc := (R.ev x).cells hv
  have hne : (A.ev x).cells ≠ [] := by intro e; rw [e] at hz; simp at hz; omega
  obtain ⟨cur, h1, h2, h3, h4⟩ := repO_setR (p := p) (R.obs id ob hob).2 hc (by omega) hne
  obtain ⟨f, h5, h6⟩ := size_info (hL T i hi)
  have hst := run_storeCells_at P (G.adr id) p ob.T.id (a.eval x).cells.toList 0 cur w h1 (by simpa using h2) (fun v hv => by
    obtain ⟨j, hj⟩ := List.getElem?_of_mem hv
    have hjl : j < (A.ev x).cells.length := by
      rw [hc.1]
      rcases Nat.lt_or_ge j (a.eval x).cells.toList.length with h' | h'
      · exact h'
      · rw [List.getElem?_eq_none h'] at hj; cases hj
    exact (hc.2 j _ v (List.getElem?_eq_getElem hjl) hj).one)
  simp only [Nat.add_zero] at hst
  have hsz : (a.eval x).cells.size = f.size := by
    have := hc.1
    rw [hz] at this
    simpa [h6] using this.symm
  unfold Oper.wp
  have hrun : (execOp a.eval o).run P w = .ok .skip (w.setRow (G.adr id) (cur.toList.take p ++ (a.eval x).cells.toList ++ cur.toList.drop (p + (a.eval x).cells.toList.length)).toArray) := by
    simp [execOp, ho, Instr.storeAt, Instr.sureAddr, hval, storeVar, sizeOf, typeInfo, h5, hsz]
    simp at hst
    simp [hst, hsz]
  rw [hrun]
  obtain ⟨r1, r2⟩ := R.updObj hob h3 (fun b hb => heap_setRow_other _ _ _ _ hb) (by simp [World.setRow]) rfl rfl rfl h4
  exact ⟨G, _, hK, r1.putUndef _ _, r2⟩

theorem wp_nilCheck (R : Rel G A a w) (hd : ∀ t, o.dst = some t → t < A.sz) {x : Operand} {id p : Nat} (ho : o.op = .nilCheck x) (hx : A.ev x = .one (.ptr id p)) (hK : K (A.put o.dst (.one (.ptr id p)))) : o.wp P a w (Post K G w) Q := by
  have h := R.ev x
  rw [hx] at h
  obtain ⟨hid, hval⟩ := inv_ptr h
  exact wp_value R hd (by simp [execOp, ho, hval]) (.one (.ptr id p hid)) hK

theorem wp_extract (R : Rel G A a w) (hd : ∀ t, o.dst = some t → t < A.sz) {x : Operand} {j : Nat} {vs : List AV} {v : AV} (ho : o.op = .extract x j) (hx : A.ev x = .tup vs) (hj : vs[j]? = some v) (hK : K (A.put o.dst v)) : o.wp P a w (Post K G w) Q := by
  have h := R.ev x
  rw [hx] at h
  obtain ⟨us, hval, hp⟩ := inv_tup h
  obtain ⟨u, hu, hr⟩ := hp.get hj
  exact wp_value R hd (by simp [execOp, ho, hval, Instr.extract, hu]) hr hK

theorem wp_not (R : Rel G A a w) (hd : ∀ t, o.dst = some t → t < A.sz) {x : Operand} {t : TypeId} {b : Bool} (ho : o.op = .unOp .not t x) (hx : A.ev x = .one (.bool b)) (hK : K (A.put o.dst (.one (.bool (!b))))) : o.wp P a w (Post K G w) Q := by
  have h := R.ev x
  rw [hx] at h
  exact wp_value R hd (by simp [execOp, ho, inv_bool h, Op.unary]) (.one (.deep (.bool _))) hK
theorem wp_neg (R : Rel G A a w) (hd : ∀ t, o.dst = some t → t < A.sz) {x : Operand} {t : TypeId} {k : IntKind} {n : Int} (ho : o.op = .unOp .neg t x) (hx : A.ev x = .one (.int k n)) (hK : K (A.put o.dst (.one (.int k (k.wrap (0 - n)))))) : o.wp P a w (Post K G w) Q := by
  have h := R.ev x
  rw [hx] at h
  exact wp_value R hd (v := .int k (k.wrap (0 - n))) (by simp [execOp, ho, inv_int h, Op.unary, Op.intArith]) (.one (.deep (.int _ _))) hK

theorem wp_convI (hL : L.Ok P) (R : Rel G A a w) (hd : ∀ t, o.dst = some t → t < A.sz) {x : Operand} {s d : TypeId} {i j : TI} {k k' : IntKind} {n : Int} (ho : o.op = .convert s d x) (hx : A.ev x = .one (.int k n))
    (hi : L s = some i) (hj : L d = some j) (hk : j.ik = some k') (hK : K (A.put o.dst (.one (.int k' (k'.wrap n))))) : o.wp P a w (Post K G w) Q := by
  have h := R.ev x
  rw [hx] at h
  obtain ⟨ds, hsu, _⟩ := under_info (hL s i hi)
  refine wp_value R hd (v := .int k' (k'.wrap n)) ?_ (.one (.deep (.int _ _))) hK
  simp [execOp, ho, inv_int h, convert, run_underlying hsu, run_underlying (ik_info (hL d j hj) hk), Conv.intToInt]

theorem wp_makeFunc (R : Rel G A a w) (hd : ∀ t, o.dst = some t → t < A.sz) {f : FuncId} {caps : Array Operand} {cs : List AC} (ho : o.op = .makeFunc (.func f) #[] caps) (hc : caps.toList.map A.ev = cs.map .one) (hK : K (A.put o.dst (.one (.fn f cs)))) : o.wp P a w (Post K G w) Q := by
  refine wp_value R hd (v := .func (.func f) #[] (caps.toList.map a.eval).toArray) (by simp [execOp, ho, Instr.makeFunc]; rw [← Array.toList_map]) (.one (.fn f cs _ ?_ ?_)) hK
  · have := congrArg List.length hc
    simp at this
    simp [this]
  · intro j x y hx hy
    rw [List.getElem?_map] at hy
    have h2 : (caps.toList.map A.ev)[j]? = some (.one x) := by rw [hc, List.getElem?_map, hx]; rfl
    rw [List.getElem?_map] at h2
    cases hq : caps.toList[j]? with
    | none => rw [hq] at hy; cases hy
    | some q =>
      rw [hq] at hy h2
      simp at hy h2
      subst hy
      have h3 := R.ev q
      rw [h2] at h3
      cases h3 with
      | one h => exact h

end
end Go.Proofs.Ve

/-
  VeF: slices: lengths, cuts, append; an object that is let go as an immutable thing.
-/
set_option linter.unusedVariables false
set_option linter.unusedSimpArgs false
namespace Go.Proofs.Ve
open Go

section
variable {P : Program} {G : Gh} {A : AS} {a : Act} {w w' : World} {o : Oper} {K : AS → Prop} {Q : Exit → Act → World → Prop} {L : Lay}

theorem exec_builtin {b : Builtin} {args : Array Operand} {ts : Array TypeId} {v : Value} {w' : World} (ho : o.op = .call ⟨.builtin b, args, ts⟩) (h : ∀ cs, (builtin b ts o.type cs (args.map a.eval)).run P w = .ok (.value v) w') :
    (execOp a.eval o).run P w = .ok (.value v) w' := by
  simp [execOp, ho, resolve, invoke, h]

theorem wp_lenStr (hL : L.Ok P) (R : Rel G A a w) (hd : ∀ t, o.dst = some t → t < A.sz) {x : Operand} {T : Nat} {i : TI} {s : ByteArray} (ho : o.op = .call ⟨.builtin .len, #[x], #[T]⟩) (hi : L T = some i) (hs : i.str = true) (hx : A.ev x = .one (.str s))
    (hK : K (A.put o.dst (.one (.int .i64 s.size)))) : o.wp P a w (Post K G w) Q := by
  have h := R.ev x
  rw [hx] at h
  exact wp_value R hd (v := .int .i64 s.size) (exec_builtin ho (fun cs => by simp [builtin, Builtin.len_, run_underlying (str_info (hL T i hi) hs), inv_str h, goInt])) (.one (.deep (.int _ _))) hK
theorem wp_lenSl (hL : L.Ok P) (R : Rel G A a w) (hd : ∀ t, o.dst = some t → t < A.sz) {x : Operand} {T : Nat} {i : TI} {full : Bool} {B n : Nat} {cells : List AC} (ho : o.op = .call ⟨.builtin .len, #[x], #[T]⟩) (hi : L T = some i) (hs : i.isl = true) (hx : A.ev x = .one (.sl full B n cells))
    (hK : K (A.put o.dst (.one (.int .i64 n)))) : o.wp P a w (Post K G w) Q := by
  have h := R.ev x
  rw [hx] at h
  obtain ⟨ad, c, us, hval, _⟩ := inv_sl h
  exact wp_value R hd (v := .int .i64 n) (exec_builtin ho (fun cs => by simp [builtin, Builtin.len_, run_underlying (elem_info (hL T i hi) hs), hval, goInt])) (.one (.deep (.int _ _))) hK
theorem wp_lenG (hL : L.Ok P) (R : Rel G A a w) (hd : ∀ t, o.dst = some t → t < A.sz) {x : Operand} {T : Nat} {i : TI} {id n : Nat} {ob : Ob} (ho : o.op = .call ⟨.builtin .len, #[x], #[T]⟩) (hi : L T = some i) (hs : i.isl = true) (hx : A.ev x = .one (.gref id)) (hob : A.ob id = some ob) (h0 : 0 < ob.s) (hn : ob.cells.length = n * ob.s)
    (hK : K (A.put o.dst (.one (.int .i64 n)))) : o.wp P a w (Post K G w) Q := by
  have h := R.ev x
  rw [hx] at h
  obtain ⟨hid, ad, m, c, hh, hval⟩ := inv_gref h
  obtain ⟨_, vs, hp, hc⟩ := R.obs id ob hob
  have e : m = n := by
    rcases hc with ⟨h2, _⟩ | ⟨h2, _⟩ | ⟨h2, q, hr, _⟩
    · omega
    · omega
    · have e1 : n = q := by
        have h3 := hp.1
        rw [hn, hr.1] at h3
        exact Nat.eq_of_mul_eq_mul_right h0 h3
      rcases hr.2 with ⟨e2, e3⟩ | ⟨g, cap, cur, e2, _⟩ <;> rw [hh] at e2 <;> cases e2 <;> omega
  subst e
  exact wp_value R hd (v := .int .i64 m) (exec_builtin ho (fun cs => by simp [builtin, Builtin.len_, run_underlying (elem_info (hL T i hi) hs), hval, goInt])) (.one (.deep (.int _ _))) hK

theorem wp_min (R : Rel G A a w) (hd : ∀ t, o.dst = some t → t < A.sz) {x y : Operand} {ts : Array TypeId} {k k' : IntKind} {m n : Int} (ho : o.op = .call ⟨.builtin .min, #[x, y], ts⟩) (hx : A.ev x = .one (.int k m)) (hy : A.ev y = .one (.int k' n))
    (hK : K (A.put o.dst (.one (.int k (if n < m then n else m))))) : o.wp P a w (Post K G w) Q := by
  have h1 := R.ev x; rw [hx] at h1
  have h2 := R.ev y; rw [hy] at h2
  exact wp_value R hd (v := .int k (if n < m then n else m)) (exec_builtin ho (fun cs => by simp [builtin, Builtin.min_, Builtin.min2, inv_int h1, inv_int h2])) (.one (.deep (.int _ _))) hK
theorem wp_max (R : Rel G A a w) (hd : ∀ t, o.dst = some t → t < A.sz) {x y : Operand} {ts : Array TypeId} {k k' : IntKind} {m n : Int} (ho : o.op = .call ⟨.builtin .max, #[x, y], ts⟩) (hx : A.ev x = .one (.int k m)) (hy : A.ev y = .one (.int k' n))
    (hK : K (A.put o.dst (.one (.int k (if n > m then n else m))))) : o.wp P a w (Post K G w) Q := by
  have h1 := R.ev x; rw [hx] at h1
  have h2 := R.ev y; rw [hy] at h2
  exact wp_value R hd (v := .int k (if n > m then n else m)) (exec_builtin ho (fun cs => by simp [builtin, Builtin.max_, Builtin.max2, inv_int h1, inv_int h2])) (.one (.deep (.int _ _))) hK

theorem wp_indexStr (hL : L.Ok P) (R : Rel G A a w) (hd : ∀ t, o.dst = some t → t < A.sz) {T : Nat} {i : TI} {x ix : Operand} {s : ByteArray} {k : IntKind} {q : Int} (hi : L T = some i) (hs : i.str = true)
    (ho : o.op = .index T x ix) (hx : A.ev x = .one (.str s)) (hix : A.ev ix = .one (.int k q)) {b : UInt8} (h0 : 0 ≤ q) (hb : s.data.toList[q.toNat]? = some b)
    (hK : K (A.put o.dst (.one (.int .u8 b.toNat)))) : o.wp P a w (Post K G w) Q := by
  have h1 := R.ev x; rw [hx] at h1
  have h2 := R.ev ix; rw [hix] at h2
  have hb' : s[q.toNat]? = some b := by
    rw [Array.getElem?_toList] at hb
    obtain ⟨hlt, e⟩ := Array.getElem?_eq_some_iff.1 hb
    have hlt' : q.toNat < s.size := hlt
    rw [getElem?_pos s q.toNat hlt']
    exact congrArg some e
  exact wp_value R hd (v := .int .u8 b.toNat) (by simp [execOp, ho, Instr.index, asIntOf, inv_int h2, inv_str h1, run_underlying (str_info (hL T i hi) hs), h0, hb']) (.one (.deep (.int _ _))) hK

end
end Go.Proofs.Ve

/-
  VeG: append; freezing.
-/
set_option linter.unusedVariables false
set_option linter.unusedSimpArgs false
namespace Go.Proofs.Ve
open Go

def AC.deep : AC → Bool
  | .int _ _ | .bool _ | .str _ | .sl _ _ _ _ | .nilp | .any => true
  | _ => false
def AC.sub (c : AC) (id : Nat) (x : AC) : AC :=
  match c with
  | .gref i => if i = id then x else .gref i
  | c => c
def AV.sub (id : Nat) (x : AC) : AV → AV
  | .one c => .one (c.sub id x)
  | .agg cs => .agg (cs.map (·.sub id x))
  | v => v
/-- Object 'id' is let go: wherever it stood, the immutable x stands. -/
def AS.frz (A : AS) (id : Nat) (x : AC) : AS :=
  { A with sl := fun t => (A.sl t).sub id x, ob := fun i => if i = id then none else (A.ob i).map fun o => { o with cells := o.cells.map (·.sub id x) } }

def Gh.frz (G : Gh) (id len : Nat) : Gh :=
  { G with own := fun b => if G.own b = some id then none else G.own b, F := fun b j => G.F b j ∨ (b = G.adr id ∧ G.own b = some id ∧ j < len) }

/-- A new slice object that is nil: no block. -/
def Gh.newNil (G : Gh) (nx : Nat) : Gh := { G with hdr := fupd G.hdr nx (.slice none 0 0) }

section
variable {P : Program} {G : Gh} {A : AS} {a : Act} {w w' : World} {o : Oper} {K : AS → Prop} {Q : Exit → Act → World → Prop} {L : Lay}

theorem RepV.toD {nx : Nat} {x : AC} {v : Value} (h : RepV G nx w x v) (hd : x.deep = true) : RepD G.F w x v := by
  cases h with
  | deep h => exact h
  | _ => cases hd

theorem Adv.frz (G : Gh) (nx : Nat) (w : World) (id len : Nat) : Adv G nx w (G.frz id len) nx w := ⟨fun b j h => ⟨.inl h, rfl⟩, fun _ _ => rfl, fun _ _ => rfl, Nat.le_refl _⟩

theorem RepV.sub {nx id : Nat} {x c : AC} {v : Value} {G' : Gh} (hA : Adv G nx w G' nx w) (hx : RepD G'.F w x (G.hdr id)) (h : RepV G nx w c v) : RepV G' nx w (c.sub id x) v := by
  have hh := h.adv hA
  cases h with
  | gref i hi ad n cp e =>
    show RepV G' nx w (if i = id then x else .gref i) _
    split
    · rename_i e2; subst e2; rw [e] at hx; exact .deep hx
    · exact hh
  | deep h => cases h <;> exact hh
  | _ => exact hh

theorem RepAV.sub {nx id : Nat} {x : AC} {c : AV} {v : Value} {G' : Gh} (hA : Adv G nx w G' nx w) (hx : RepD G'.F w x (G.hdr id)) (h : RepAV G nx w c v) : RepAV G' nx w (c.sub id x) v := by
  have hh := h.adv hA
  cases h with
  | undef => exact hh
  | one h => exact .one (h.sub hA hx)
  | agg h =>
    refine .agg ⟨by rw [List.length_map]; exact h.1, fun j p q hp hq => ?_⟩
    rw [List.getElem?_map] at hp
    obtain ⟨c, hc, rfl⟩ := Option.map_eq_some_iff.1 hp
    exact (h.2 j c q hc hq).sub hA hx
  | tup => exact hh

/-- A slice object becomes an immutable slice. -/
theorem Rel.freeze (R : Rel G A a w) {id n : Nat} {ob : Ob} (hob : A.ob id = some ob) (h0 : 0 < ob.s) (hn : ob.cells.length = n * ob.s) (hdeep : ∀ c ∈ ob.cells, c.deep = true) :
    Rel (G.frz id ob.cells.length) (A.frz id (.sl false ob.B n ob.cells)) a w ∧ Ext G w (G.frz id ob.cells.length) w := by
  obtain ⟨hid, vs, hp, hc⟩ := R.obs id ob hob
  have hA := Adv.frz G A.nx w id ob.cells.length
  have hx : RepD (G.frz id ob.cells.length).F w (.sl false ob.B n ob.cells) (G.hdr id) := by
    rcases hc with ⟨h2, _⟩ | ⟨h2, _⟩ | ⟨h2, q, hr, hB, hg⟩
    · omega
    · omega
    · have e : q = n := by
        have h3 := hp.1
        rw [hn, hr.1] at h3
        exact (Nat.eq_of_mul_eq_mul_right h0 h3).symm
      subst e
      have hpd : ∀ (j : Nat) x y, ob.cells[j]? = some x → vs[j]? = some y → RepD (G.frz id ob.cells.length).F w x y := fun j x y hx hy =>
        ((hp.2 j x y hx hy).adv hA).toD (hdeep x (List.mem_of_getElem? hx))
      rcases hr.2 with ⟨e1, e2⟩ | ⟨g, cap, cur, e1, _, hh, hnc, hm, hcs, htake⟩
      · rw [e1, e2]
        exact .sl false ob.B 0 ob.cells none 0 vs hp.1 (Nat.le_refl _) (fun e => by cases e) (fun _ => rfl) (by omega) (fun e => by cases e) (.inl rfl) hpd
      · obtain ⟨e3, e4⟩ := hg g (by rw [e1]; rfl)
        rw [e1]
        refine .sl false ob.B q ob.cells _ cap vs hp.1 hnc (fun e => by cases e) (fun e => by cases e) hB (fun e => by cases e) (.inr ⟨g, 0, rfl, fun j y hy => ⟨.inr ⟨e3, e4, ?_⟩, ?_⟩⟩) hpd
        · rw [hp.1]
          rcases Nat.lt_or_ge j vs.length with h' | h'
          · simpa using h'
          · rw [List.getElem?_eq_none h'] at hy; cases hy
        · rw [← htake, List.getElem?_take] at hy
          split at hy
          · simpa [World.cell?, hh] using hy
          · cases hy
  have hown : ∀ b i, i ≠ id → G.own b = some i → (G.frz id ob.cells.length).own b = some i := fun b i hi h => by
    show (if G.own b = some id then none else G.own b) = some i
    rw [if_neg (fun e => hi (by rw [h] at e; cases e; rfl))]
    exact h
  refine ⟨?_, ?_⟩
  · exact
      { defers := R.defers
        size := R.size
        slots := fun t => (R.slots t).sub hA hx
        obs := fun i o' h => by
          have h : (if i = id then none else (A.ob i).map fun o => { o with cells := o.cells.map (·.sub id (.sl false ob.B n ob.cells)) }) = some o' := h
          split at h
          · cases h
          · rename_i hne
            obtain ⟨o1, ho1, rfl⟩ := Option.map_eq_some_iff.1 h
            obtain ⟨h1, vs1, hp1, hc1⟩ := R.obs i o1 ho1
            refine ⟨h1, vs1, ⟨by rw [List.length_map]; exact hp1.1, fun j p q hpj hq => ?_⟩, ?_⟩
            · rw [List.getElem?_map] at hpj
              obtain ⟨c, hc, rfl⟩ := Option.map_eq_some_iff.1 hpj
              exact (hp1.2 j c q hc hq).sub hA hx
            · rcases hc1 with ⟨z0, zt, z1, z2⟩ | ⟨z0, zv, x, zt, z1, z2⟩ | ⟨z0, m, zr, zB, zg⟩
              · exact .inl ⟨z0, zt, hown _ _ hne z1, z2⟩
              · exact .inr (.inl ⟨z0, zv, x, zt, hown _ _ hne z1, z2⟩)
              · refine .inr <| .inr ⟨z0, m, zr, zB, fun g hgg => ⟨(zg g hgg).1, hown _ _ hne (zg g hgg).2⟩⟩
        fown := fun b j h => by
          rcases h with h | ⟨h1, h2, h3⟩
          · have := R.fown b j h
            refine ⟨?_, this.2⟩
            show (if G.own b = some id then none else G.own b) = none
            rw [this.1]; simp
          · refine ⟨?_, R.own _ _ h2⟩
            show (if G.own b = some id then none else G.own b) = none
            rw [if_pos h2]
        own := fun b i h => by
          have h : (if G.own b = some id then none else G.own b) = some i := h
          split at h
          · cases h
          · exact R.own b i h
        N := R.N }
  · refine ⟨fun b j h => ⟨.inl h, rfl⟩, fun _ _ _ => rfl, fun b hb h => ?_, fun b j h => ?_, Nat.le_refl _, rfl, rfl, rfl, rfl, fun _ _ => ⟨rfl, rfl⟩⟩
    · show (if G.own b = some id then none else G.own b) = none
      rw [h]; simp
    · rcases h with h | ⟨h1, h2, h3⟩
      · exact .inl h
      · exact .inr (.inr (by rw [h2]; simp))

theorem Rel.newNil (R : Rel G A a w) {ob : Ob} (h0 : 0 < ob.s) (hc : ob.cells = []) : Rel (G.newNil A.nx) (A.new ob) a w ∧ Ext G w (G.newNil A.nx) w ∧ Adv G A.nx w (G.newNil A.nx) (A.nx + 1) w := by
  have hA : Adv G A.nx w (G.newNil A.nx) (A.nx + 1) w := ⟨fun _ _ h => ⟨h, rfl⟩, fun _ _ => rfl, fun id h => fupd_ne _ (by omega) _, by omega⟩
  refine ⟨?_, ⟨fun _ _ h => ⟨h, rfl⟩, fun _ _ _ => rfl, fun _ _ h => h, fun _ _ h => .inl h, Nat.le_refl _, rfl, rfl, rfl, rfl, fun k hk => ⟨rfl, fupd_ne _ (by have := R.N; omega) _⟩⟩, hA⟩
  exact
    { defers := R.defers
      size := R.size
      slots := fun t => (R.slots t).adv hA
      obs := fun i o' h => by
        have h : fupd A.ob A.nx (some ob) i = some o' := h
        by_cases e : i = A.nx
        · subst e
          rw [fupd_same] at h
          cases h
          refine ⟨Nat.lt_succ_self _, [], by rw [hc]; exact .nil, .inr (.inr ⟨h0, 0, ?_, by omega, fun g hg => ?_⟩)⟩
          · show World.ownsRow w 0 ob.T.id ob.s (fupd G.hdr A.nx _ A.nx) 0 []
            rw [fupd_same]
            exact ⟨by simp, .inl ⟨rfl, rfl⟩⟩
          · have hg : (fupd G.hdr A.nx (Value.slice none 0 0) A.nx).ownBlock = some g := hg
            rw [fupd_same] at hg
            cases hg
        · rw [fupd_ne _ e] at h
          obtain ⟨h1, h2⟩ := R.obs i o' h
          exact ⟨Nat.lt_succ_of_lt h1, h2.of_heap hA h1 fun ho => ⟨ho, rfl⟩⟩
      fown := R.fown
      own := R.own
      N := ⟨R.N.1, Nat.le_succ_of_le R.N.2⟩ }

/-- What is appended, as it lies in memory: m elements. -/
structure Src (G : Gh) (nx : Nat) (w : World) (x : AV) (m s : Nat) (cells : List AC) : Prop where
  len : cells.length = m * s
  open_ : ∀ v, RepAV G nx w x v → ∃ ad c us, v = .slice ad m c ∧ Pw (RepV G nx w) cells us ∧ (m = 0 ∨ ∃ b p, ad = some ⟨b, p, none⟩ ∧ ∀ (j : Nat) y, us[j]? = some y → w.cell? ⟨b, p + j, none⟩ = some y)

theorem Src.sl {nx : Nat} {full : Bool} {B m s : Nat} {cells : List AC} (h : cells.length = m * s) : Src G nx w (.one (.sl full B m cells)) m s cells :=
  ⟨h, fun v hv => by
    obtain ⟨ad, c, us, e, hp, hn, hf, ha, hB, hc, hzz⟩ := inv_sl hv
    refine ⟨ad, c, us, e, hp.imp fun _ _ k => .deep k, ?_⟩
    rcases hc with hc | ⟨b, p, e2, hc⟩
    · exact .inl hc
    · exact .inr ⟨b, p, e2, fun j y hy => (hc j y hy).2⟩⟩

theorem Src.obj (R : Rel G A a w) {id m : Nat} {ob : Ob} (hob : A.ob id = some ob) (h0 : 0 < ob.s) (hn : ob.cells.length = m * ob.s) : Src G A.nx w (.one (.gref id)) m ob.s ob.cells :=
  ⟨hn, fun v hv => by
    obtain ⟨hid, ad, q, c, hh, e⟩ := inv_gref hv
    obtain ⟨_, vs, hp, hc⟩ := R.obs id ob hob
    rcases hc with ⟨h2, _⟩ | ⟨h2, _⟩ | ⟨h2, q', hr, hB, hg⟩
    · omega
    · omega
    · have e2 : q' = m := by
        have h3 := hp.1
        rw [hn, hr.1] at h3
        exact (Nat.eq_of_mul_eq_mul_right h0 h3).symm
      subst e2
      rcases hr.2 with ⟨e3, e4⟩ | ⟨g, cap, cur, e3, _, hhp, hnc, hm, hcs, htake⟩
      · rw [hh] at e3; cases e3
        exact ⟨none, 0, vs, by rw [e, e4], hp, .inl e4⟩
      · rw [hh] at e3; cases e3
        refine ⟨_, _, vs, e, hp, .inr ⟨g, 0, rfl, fun j y hy => ?_⟩⟩
        rw [← htake, List.getElem?_take] at hy
        split at hy
        · simpa [World.cell?, hhp] using hy
        · cases hy⟩

end
end Go.Proofs.Ve

/-
  VeH: append.
-/
set_option linter.unusedVariables false
set_option linter.unusedSimpArgs false
namespace Go.Proofs.Ve
open Go

section
variable {P : Program} {G : Gh} {A : AS} {a : Act} {w w' : World} {o : Oper} {K : AS → Prop} {Q : Exit → Act → World → Prop} {L : Lay}

theorem Rel.kill (R : Rel G A a w) (id : Nat) : Rel G (A.kill id) a w :=
  { defers := R.defers
    size := R.size
    slots := R.slots
    obs := fun i o' h => by
      have h : fupd A.ob id none i = some o' := h
      by_cases e : i = id
      · subst e; rw [fupd_same] at h; cases h
      · rw [fupd_ne _ e] at h; exact R.obs i o' h
    fown := R.fown
    own := R.own
    N := R.N }

/-- Behind an append: whatever value came, a new object stands for it. -/
theorem Rel.appended (R : Rel G A a w) {T : TypeId} {s B n m : Nat} {v v' : Value} {cs cs' : List AC} {vs us : List Value} (gone : Nat) (h0 : 0 < s)
    (hgone : ∀ g, v.ownBlock = some g → G.own g = some gone) (hvs : Pw (RepV G A.nx w) cs vs) (hus : Pw (RepV G A.nx w) cs' us)
    (hown : w'.ownsRow 0 T s v' (n + m) (vs ++ us)) (hgr : w.grownBy w' v.ownBlock) (hat : v'.ownBlock = v.ownBlock ∨ v'.ownBlock = some w.heap.size) (hB : (n + m) * B ≤ 140737488355328) :
    ∃ G', Rel G' ((A.kill gone).new ⟨T, s, B, cs ++ cs'⟩) a w' ∧ Ext G w G' w' ∧ Adv G A.nx w G' (A.nx + 1) w' ∧ (∃ ad l c, v' = .slice ad l c ∧ G'.hdr A.nx = .slice ad l c) := by
  rcases hown.2 with ⟨e1, e2⟩ | ⟨g, cap, cur, e1, _, hh, hnc, hm, hcs, htake⟩
  · -- nothing at all
    have hnil : vs ++ us = [] := List.eq_nil_of_length_eq_zero (by rw [hown.1, e2]; simp)
    have hnil' : cs ++ cs' = [] := List.eq_nil_of_length_eq_zero (by
      have h1 := congrArg List.length hnil
      simp only [List.length_append, List.length_nil] at h1 ⊢
      rw [hvs.1, hus.1]; exact h1)
    -- the world may have turned in v's own block: it goes with 'gone'
    have hk : ∀ b, b < w.heap.size → G.own b ≠ some gone → w'.heap[b]? = w.heap[b]? := fun b hb hne => hgr.block b hb (fun e => hne (hgone b e.symm))
    have hA0 : Adv G A.nx w G A.nx w' := ⟨fun b j h => ⟨h, cell_of_block (hk b (R.fown b j h).2 (by rw [(R.fown b j h).1]; simp))⟩, fun _ _ => rfl, fun _ _ => rfl, Nat.le_refl _⟩
    have R1 : Rel G (A.kill gone) a w' :=
      { defers := R.defers
        size := R.size
        slots := fun t => (R.slots t).adv hA0
        obs := fun i o' h => by
          have h : fupd A.ob gone none i = some o' := h
          by_cases e : i = gone
          · subst e; rw [fupd_same] at h; cases h
          · rw [fupd_ne _ e] at h
            obtain ⟨h1, h2⟩ := R.obs i o' h
            exact ⟨h1, h2.of_heap hA0 h1 fun ho => ⟨ho, hk _ (R.own _ _ ho) (by rw [ho]; intro e3; cases e3; exact e rfl)⟩⟩
        fown := fun b j h => ⟨(R.fown b j h).1, Nat.lt_of_lt_of_le (R.fown b j h).2 hgr.size⟩
        own := fun b i h => Nat.lt_of_lt_of_le (R.own b i h) hgr.size
        N := R.N }
    have E1 : Ext G w G w' := ⟨fun b j h => ⟨h, (hA0.F b j h).2⟩, fun b hb ho => hk b hb (by rw [ho]; simp), fun _ _ h => h, fun _ _ h => .inl h, hgr.size, hgr.os, hgr.tape, hgr.output, rfl, fun _ _ => ⟨rfl, rfl⟩⟩
    obtain ⟨r1, r2, r3⟩ := R1.newNil (ob := ⟨T, s, B, cs ++ cs'⟩) h0 hnil'
    refine ⟨_, r1, E1.trans r2, ⟨fun b j h => ⟨(r3.F b j h).1, (hA0.F b j h).2⟩, r3.adr, r3.hdr, r3.nx⟩, none, 0, 0, e1, ?_⟩
    exact fupd_same _ _ _
  · have hg : w.heap.size ≤ g ∨ G.own g = some gone := by
      rcases hat with hat | hat
      · exact .inr (hgone g (by rw [← hat, e1]; rfl))
      · rw [e1] at hat; simp [Value.ownBlock] at hat; exact .inl (by omega)
    have hg2 : g < w'.heap.size := (Array.getElem?_eq_some_iff.1 hh).1
    have hk : ∀ b, b < w.heap.size → b ≠ g → G.own b ≠ some gone → w'.heap[b]? = w.heap[b]? := fun b hb _ hne => hgr.block b hb (fun e => hne (hgone b e.symm))
    have hF : ∀ b j, G.F b j → w'.cell? ⟨b, j, none⟩ = w.cell? ⟨b, j, none⟩ := fun b j h => by
      have := R.fown b j h
      exact cell_of_block (hgr.block b this.2 (fun e => by rw [hgone b e.symm] at this; cases this.1))
    have hA : Adv G A.nx w (G.new A.nx g v') (A.nx + 1) w' := Adv.new hF
    obtain ⟨r1, r2, r3⟩ := R.newObj (g := g) (v := v') (o := ⟨T, s, B, cs ++ cs'⟩) gone hg hg2 hk hgr.size hgr.os hgr.tape hgr.output (by
      refine ⟨vs ++ us, (hvs.append hus).imp fun _ _ k => k.adv hA, .inr (.inr ⟨h0, n + m, ?_, hB, fun g' hg' => ?_⟩)⟩
      · show World.ownsRow w' 0 T s (fupd G.hdr A.nx v' A.nx) (n + m) (vs ++ us)
        rw [fupd_same]; exact hown
      · have hg' : (fupd G.hdr A.nx v' A.nx).ownBlock = some g' := hg'
        rw [fupd_same, e1] at hg'
        simp [Value.ownBlock] at hg'
        subst hg'
        exact ⟨(fupd_same _ _ _).symm, fupd_same _ _ _⟩)
    exact ⟨_, r1, r2, r3, _, _, _, e1, by show fupd G.hdr A.nx v' A.nx = _; rw [fupd_same]; exact e1⟩

theorem zero_size {t : Nat} {i : TI} (hi : i.Ok P t) (hz : i.zero.length = i.size) (h0 : i.size ≠ 0) : ∃ f z, P.info? t = some f ∧ f.zero = some z ∧ f.size = i.size ∧ f.bytes = i.bytes ∧ z.cells.size = i.size := by
  obtain ⟨f, z, h1, h2, h3, h4, h5⟩ := zero_pw hi (by intro e; rw [e] at hz; simp at hz; exact h0 hz.symm)
  refine ⟨f, z, h1, h2, h3, h4, ?_⟩
  have := (h5 (fun _ _ => False) { heap := #[], tape := fun _ _ => 0, drawn := 0, os := default, output := #[] }).1
  rw [hz] at this
  simpa using this.symm

/-- append to a row that is owned (or to nil). -/
theorem run_appendOwn (hL : L.Ok P) {T : Nat} {i j : TI} (hi : L T = some i) (hs : i.isl = true) (hj : L i.elem = some j) (h0 : j.size ≠ 0) (hz : j.zero.length = j.size)
    {v : Value} {n m : Nat} {vs : List Value} (hown : w.ownsRow 0 i.elem j.size v n vs) {x : AV} {cs : List AC} (hsrc : Src G A.nx w x m j.size cs) {u : Value} (hu : RepAV G A.nx w x u)
    (hn : n + m ≤ maxLen) (hB : (n + m) * j.bytes ≤ 140737488355328) (ty : TypeId) :
    ∃ v' w' us, (Builtin.append_ #[T, T] ty #[v, u]).run P w = .ok v' w' ∧ Pw (RepV G A.nx w) cs us ∧ w'.ownsRow 0 i.elem j.size v' (n + m) (vs ++ us) ∧ w.grownBy w' v.ownBlock ∧ (v'.ownBlock = v.ownBlock ∨ v'.ownBlock = some w.heap.size) := by
  obtain ⟨f, z, h1, h2, h3, h4, h5⟩ := zero_size (hL _ _ hj) hz h0
  obtain ⟨ad, c, us, e, hp, hc⟩ := hsrc.open_ u hu
  subst e
  have hul : us.length = m * j.size := by rw [← hp.1]; exact hsrc.len
  have h1c : ∀ y ∈ us, y.oneCell' = true := fun y hy => by
    obtain ⟨q, hq⟩ := List.getElem?_of_mem hy
    have hql : q < cs.length := by
      rw [hp.1]
      rcases Nat.lt_or_ge q us.length with h' | h'
      · exact h'
      · rw [List.getElem?_eq_none h'] at hq; cases hq
    exact (hp.2 q _ y (List.getElem?_eq_getElem hql) hq).one
  cases ad with
  | none =>
    have hm : m = 0 := by
      rcases hc with hc | ⟨b, p, e, _⟩
      · exact hc
      · cases e
    subst hm
    have hus : us = [] := List.eq_nil_of_length_eq_zero (by rw [hul]; simp)
    subst hus
    refine ⟨v, w, [], ?_, hp, by simpa using hown, ⟨rfl, rfl, rfl, Nat.le_refl _, fun _ _ _ => rfl⟩, .inl rfl⟩
    have hu := elem_info (hL T i hi) hs
    rcases hown.2 with ⟨rfl, rfl⟩ | ⟨g, cap, cur, rfl, _, _, hnc, _⟩
    · simp [Builtin.append_, run_underlying hu, sizeOf, typeInfo, h1, Builtin.lenOf, Builtin.firstCells]
    · simp [Builtin.append_, run_underlying hu, sizeOf, typeInfo, h1, Builtin.lenOf, Builtin.firstCells, hnc, storeCells]
  | some ad =>
    have hcell : ∀ (q : Nat) y, us[q]? = some y → w.cell? (ad.add q) = some y := fun q y hy => by
      rcases hc with hc | ⟨b, p, e, hc⟩
      · subst hc
        have hus : us = [] := List.eq_nil_of_length_eq_zero (by rw [hul]; simp)
        subst hus
        simp at hy
      · cases e
        rw [add_at]
        exact hc q y hy
    obtain ⟨v', w', hr, r1, r2, _, r4⟩ := run_append_own_at (P := P) w 0 T ty i.elem f z j.size j.bytes (elem_info (hL T i hi) hs) h1 h2 h3 h4 h5 (by omega) v n vs hown ad m c us hul hcell h1c hn hB (Nat.zero_le _)
    exact ⟨v', w', us, hr, hp, r1, r2, r4⟩

/-- 'append(x, y...)', x an object. -/
theorem wp_appendG (hL : L.Ok P) (R : Rel G A a w) (hd : ∀ t, o.dst = some t → t < A.sz) {T : Nat} {i j : TI} {x y : Operand} {id n m : Nat} {ob : Ob} {cs : List AC} (ho : o.op = .call ⟨.builtin .append, #[x, y], #[T, T]⟩)
    (hi : L T = some i) (hs : i.isl = true) (hj : L i.elem = some j) (h0 : j.size ≠ 0) (hz : j.zero.length = j.size) (hx : A.ev x = .one (.gref id)) (hob : A.ob id = some ob) (hT : ob.T.id = i.elem) (hS : ob.s = j.size) (hBy : ob.B = j.bytes)
    (hn : ob.cells.length = n * j.size) (hsrc : Src G A.nx w (A.ev y) m j.size cs) (hB : (n + m) * j.bytes ≤ 140737488355328) (hb0 : j.bytes ≠ 0)
    (hK : K (((A.kill id).new ⟨i.elem, j.size, j.bytes, ob.cells ++ cs⟩).put o.dst (.one (.gref A.nx)))) : o.wp P a w (Post K G w) Q := by
  have h := R.ev x
  rw [hx] at h
  obtain ⟨hid, ad, q, c, hh, hval⟩ := inv_gref h
  obtain ⟨_, vs, hp, hc⟩ := R.obs id ob hob
  rcases hc with ⟨h2, _⟩ | ⟨h2, _⟩ | ⟨h2, q', hr, hB0, hg⟩
  · exact absurd (hS.symm.trans h2) h0
  · exact absurd (hS.symm.trans h2) h0
  · have e2 : q' = n := by
      have h3 := hp.1
      rw [hn, hr.1, hS] at h3
      exact (Nat.eq_of_mul_eq_mul_right (by omega) h3).symm
    subst e2
    rw [hT, hS] at hr
    have hle : q' + m ≤ maxLen := by
      have h3 : q' + m ≤ (q' + m) * j.bytes := Nat.le_mul_of_pos_right _ (by omega)
      simp only [maxLen]; omega
    obtain ⟨v', w', us, hrun, hus, r1, r2, r3⟩ := run_appendOwn (G := G) (A := A) hL hi hs hj h0 hz hr hsrc (R.ev y) hle hB o.type
    obtain ⟨G', s1, s2, s3, ad', l, c', e3, e4⟩ := R.appended (B := j.bytes) id (by omega) (fun g hgg => (hg g hgg).2) hp hus r1 r2 r3 hB
    unfold Oper.wp
    rw [exec_builtin (v := v') (w' := w') ho (fun cs => by rw [hh] at hrun; simp [builtin, hval, hrun])]
    refine ⟨G', _, hK, s1.put hd ?_, s2⟩
    rw [e3]
    exact .one (.gref A.nx (Nat.lt_succ_self _) ad' l c' e4)

theorem kill_nx (R : Rel G A a w) : A.kill A.nx = A := by
  have hn : A.ob A.nx = none := by
    cases hc : A.ob A.nx with
    | none => rfl
    | some o' => have := (R.obs _ _ hc).1; omega
  unfold AS.kill
  have : fupd A.ob A.nx none = A.ob := by
    funext j
    by_cases h : j = A.nx
    · subst h; rw [fupd_same, hn]
    · exact fupd_ne _ h _
  rw [this]

/-- 'append(nil, y...)'. -/
theorem wp_appendNil (hL : L.Ok P) (R : Rel G A a w) (hd : ∀ t, o.dst = some t → t < A.sz) {T : Nat} {i j : TI} {y : Operand} {m : Nat} {cs : List AC} (ho : o.op = .call ⟨.builtin .append, #[.const (.slice none 0 0), y], #[T, T]⟩)
    (hi : L T = some i) (hs : i.isl = true) (hj : L i.elem = some j) (h0 : j.size ≠ 0) (hz : j.zero.length = j.size) (hsrc : Src G A.nx w (A.ev y) m j.size cs) (hB : m * j.bytes ≤ 140737488355328) (hb0 : j.bytes ≠ 0)
    (hK : K ((A.new ⟨i.elem, j.size, j.bytes, cs⟩).put o.dst (.one (.gref A.nx)))) : o.wp P a w (Post K G w) Q := by
  have hle : 0 + m ≤ maxLen := by
    have h3 : m ≤ m * j.bytes := Nat.le_mul_of_pos_right _ (by omega)
    simp only [maxLen]; omega
  obtain ⟨v', w', us, hrun, hus, r1, r2, r3⟩ := run_appendOwn (G := G) (A := A) hL hi hs hj h0 hz (v := .slice none 0 0) (n := 0) (vs := []) ⟨by simp, .inl ⟨rfl, rfl⟩⟩ hsrc (R.ev y) hle (by simpa using hB) o.type
  obtain ⟨G', s1, s2, s3, ad', l, c', e3, e4⟩ := R.appended (B := j.bytes) (v := .slice none 0 0) (cs := []) (vs := []) A.nx (by omega) (fun g hgg => by cases hgg) .nil hus r1 r2 r3 (by simpa using hB)
  rw [kill_nx R] at s1
  unfold Oper.wp
  rw [exec_builtin (v := v') (w' := w') ho (fun cs => by simp [builtin, show a.eval (.const (.slice none 0 0)) = .slice none 0 0 from rfl, hrun])]
  refine ⟨G', _, hK, s1.put hd ?_, s2⟩
  rw [e3]
  exact .one (.gref A.nx (Nat.lt_succ_self _) ad' l c' e4)

/-- 'append(x, y...)', x an immutable slice without room, y not empty. -/
theorem wp_appendFull (hL : L.Ok P) (R : Rel G A a w) (hd : ∀ t, o.dst = some t → t < A.sz) {T : Nat} {i j : TI} {x y : Operand} {B n m : Nat} {cells cs : List AC} (ho : o.op = .call ⟨.builtin .append, #[x, y], #[T, T]⟩)
    (hi : L T = some i) (hs : i.isl = true) (hj : L i.elem = some j) (h0 : j.size ≠ 0) (hz : j.zero.length = j.size) (hx : A.ev x = .one (.sl true B n cells)) (hn : cells.length = n * j.size)
    (hsrc : Src G A.nx w (A.ev y) m j.size cs) (hm : 0 < m) (hB : (n + m) * j.bytes ≤ 140737488355328) (hb0 : j.bytes ≠ 0)
    (hK : K ((A.new ⟨i.elem, j.size, j.bytes, cells ++ cs⟩).put o.dst (.one (.gref A.nx)))) : o.wp P a w (Post K G w) Q := by
  have hle : n + m ≤ maxLen := by
    have h3 : n + m ≤ (n + m) * j.bytes := Nat.le_mul_of_pos_right _ (by omega)
    simp only [maxLen]; omega
  have h := R.ev x
  rw [hx] at h
  obtain ⟨ad, c, vs, hval, hp, hnc, hf, ha, hB1, hc, hzz⟩ := inv_sl h
  have hcn := hf rfl
  subst hcn
  obtain ⟨f, z, h1, h2, h3, h4, h5⟩ := zero_size (hL _ _ hj) hz h0
  obtain ⟨ad2, c2, us, e2, hp2, hc2⟩ := hsrc.open_ _ (R.ev y)
  have hul : us.length = m * j.size := by rw [← hp2.1]; exact hsrc.len
  have hvl : vs.length = c * j.size := by rw [← hp.1]; exact hn
  have h1c : ∀ y ∈ us, y.oneCell' = true := fun y hy => by
    obtain ⟨q, hq⟩ := List.getElem?_of_mem hy
    have hql : q < cs.length := by
      rw [hp2.1]
      rcases Nat.lt_or_ge q us.length with h' | h'
      · exact h'
      · rw [List.getElem?_eq_none h'] at hq; cases hq
    exact (hp2.2 q _ y (List.getElem?_eq_getElem hql) hq).one
  rcases hc2 with hc2 | ⟨b2, p2, e3, hc2⟩
  · omega
  · subst e3
    have hcell2 : ∀ (q : Nat) y, us[q]? = some y → w.cell? ((⟨b2, p2, none⟩ : Addr).add q) = some y := fun q y hy => by rw [add_at]; exact hc2 q y hy
    have key : ∃ v' w', (Builtin.append_ #[T, T] o.type #[.slice ad c c, .slice (some ⟨b2, p2, none⟩) m c2]).run P w = .ok v' w' ∧ w'.ownsRow w.heap.size i.elem j.size v' (c + m) (vs ++ us) ∧ w.grownBy w' none := by
      cases ad with
      | none =>
        have hc0 := ha rfl
        subst hc0
        have hvn : vs = [] := List.eq_nil_of_length_eq_zero (by rw [hvl]; simp)
        subst hvn
        obtain ⟨v', w', hr, r1, r2, _⟩ := run_append_own (P := P) w w.heap.size T o.type i.elem f z j.size j.bytes (elem_info (hL T i hi) hs) h1 h2 h3 h4 h5 (by omega) (.slice none 0 0) 0 [] (World.ownsRow_nil w _ i.elem j.size) ⟨b2, p2, none⟩ m c2 us hul hcell2 h1c hle hB (Nat.le_refl _)
        exact ⟨v', w', hr, r1, r2⟩
      | some ad =>
        refine run_append_arg_grows (P := P) w T o.type i.elem f z j.size j.bytes (elem_info (hL T i hi) hs) h1 h2 h3 h4 h5 (by omega) ad c c vs hvl ?_ ⟨b2, p2, none⟩ m c2 us hul hcell2 (by omega) hle hB
        intro q y hy
        rcases hc with hc | ⟨b, p, e, hc⟩
        · subst hc
          have hvn : vs = [] := List.eq_nil_of_length_eq_zero (by rw [hvl]; simp)
          subst hvn
          simp at hy
        · cases e
          rw [add_at]
          exact (hc q y hy).2
    obtain ⟨v', w', hrun, r1, r2⟩ := key
    have r1' : w'.ownsRow 0 i.elem j.size v' (c + m) (vs ++ us) := by
      refine ⟨r1.1, ?_⟩
      rcases r1.2 with h' | ⟨g, cap, cur, e, hb, rest⟩
      · exact .inl h'
      · exact .inr ⟨g, cap, cur, e, Nat.zero_le _, rest⟩
    -- it lies in a new block: as if nil had been appended to
    have hat : v'.ownBlock = (Value.slice none 0 0).ownBlock ∨ ∃ g, v'.ownBlock = some g ∧ w.heap.size ≤ g := by
      rcases r1.2 with ⟨e, h'⟩ | ⟨g, cap, cur, e, hb, rest⟩
      · omega
      · exact .inr ⟨g, by rw [e]; rfl, hb⟩
    rcases r1'.2 with ⟨e, h'⟩ | ⟨g, cap, cur, e, _, hh, hnc', hm', hcs, htake⟩
    · omega
    · have hgs : w.heap.size ≤ g := by
        rcases hat with hat | ⟨g', hat, hle'⟩
        · rw [e] at hat; cases hat
        · rw [e] at hat; simp [Value.ownBlock] at hat; omega
      have hF : ∀ b q, G.F b q → w'.cell? ⟨b, q, none⟩ = w.cell? ⟨b, q, none⟩ := fun b q hq => cell_of_block (r2.block b (R.fown b q hq).2 (by simp))
      have hA : Adv G A.nx w (G.new A.nx g v') (A.nx + 1) w' := Adv.new hF
      obtain ⟨s1, s2, s3⟩ := R.newObj (g := g) (v := v') (o := ⟨i.elem, j.size, j.bytes, cells ++ cs⟩) A.nx (.inl hgs) (Array.getElem?_eq_some_iff.1 hh).1 (fun b hb _ _ => r2.block b hb (by simp)) r2.size r2.os r2.tape r2.output (by
        refine ⟨vs ++ us, ((hp.imp fun _ _ k => RepV.deep (nx := A.nx) k).append hp2).imp fun _ _ k => k.adv hA, .inr (.inr ⟨by show 0 < j.size; omega, c + m, ?_, hB, fun g' hg' => ?_⟩)⟩
        · show World.ownsRow w' 0 i.elem j.size (fupd G.hdr A.nx v' A.nx) (c + m) (vs ++ us)
          rw [fupd_same]; exact r1'
        · have hg' : (fupd G.hdr A.nx v' A.nx).ownBlock = some g' := hg'
          rw [fupd_same, e] at hg'
          simp [Value.ownBlock] at hg'
          subst hg'
          exact ⟨(fupd_same _ _ _).symm, fupd_same _ _ _⟩)
      rw [kill_nx R] at s1
      unfold Oper.wp
      rw [exec_builtin (v := v') (w' := w') ho (fun cs => by simp [builtin, hval, e2, hrun])]
      refine ⟨_, _, hK, s1.put hd ?_, s2⟩
      subst e
      exact .one (.gref A.nx (Nat.lt_succ_self _) _ _ _ (fupd_same _ _ _))

end
end Go.Proofs.Ve

/-
  VeI: cuts; copy; make; values and slices built.
-/
set_option linter.unusedVariables false
set_option linter.unusedSimpArgs false
namespace Go.Proofs.Ve
open Go

/-- A bound of a cut: a number, or the default. -/
def AV.asInt : AV → Option Int
  | .one (.int _ q) => some q
  | _ => none
def bnd (A : AS) : Option Operand → Int → Option Int
  | none, d => some d
  | some x, _ => (A.ev x).asInt

/-- A struct or a slice out of its parts: place i is (offset, size). -/
def afill (place : Nat → Option (Nat × Nat)) (cells : List AC) : List (Nat × AV) → Option (List AC)
  | [] => some cells
  | (i, x) :: rest => match place i with
    | none => none
    | some (off, size) => if x.isVal = true ∧ x.cells.length = size ∧ off + size ≤ cells.length then afill place (setR cells off x.cells) rest else none

section
variable {P : Program} {G : Gh} {A : AS} {a : Act} {w w' : World} {o : Oper} {K : AS → Prop} {Q : Exit → Act → World → Prop} {L : Lay}

theorem bnd_ev (R : Rel G A a w) {x : Operand} {d q : Int} (h : bnd A (some x) d = some q) : ∃ k, a.eval x = .int k q := by
  have h : (A.ev x).asInt = some q := h
  have hr := R.ev x
  unfold AV.asInt at h
  split at h
  · rename_i k q' e
    rw [e] at hr
    cases h
    exact ⟨_, inv_int hr⟩
  · cases h

theorem run_sliceBound {k : IntKind} {q : Int} {y : Nat} (code : BoundsCode) (h0 : 0 ≤ q) (h1 : q ≤ y) : (Instr.sliceBound (.int k q) y code).run P w = .ok q.toNat w := by
  simp [Instr.sliceBound, asIntOf, h0, h1]

theorem run_sliceBounds (R : Rel G A a w) {n c : Nat} {lo hi : Option Operand} {l h : Int} (hl : bnd A lo 0 = some l) (hh : bnd A hi n = some h) (h0 : 0 ≤ l) (h1 : l ≤ h) (h2 : h ≤ c) :
    (Instr.sliceBounds true n c (lo.map a.eval) (hi.map a.eval) none).run P w = .ok (l.toNat, h.toNat, c) w := by
  cases lo with
  | none =>
    simp [bnd] at hl; subst hl
    cases hi with
    | none => simp [bnd] at hh; subst hh; simp [Instr.sliceBounds]
    | some y =>
      obtain ⟨k, e⟩ := bnd_ev R hh
      simp [Instr.sliceBounds, e, run_sliceBound _ (by omega : 0 ≤ h) h2]
  | some x =>
    obtain ⟨k, e⟩ := bnd_ev R hl
    cases hi with
    | none =>
      simp [bnd] at hh; subst hh
      simp [Instr.sliceBounds, e, run_sliceBound _ h0 h1]
    | some y =>
      obtain ⟨k2, e2⟩ := bnd_ev R hh
      have hlt : l ≤ ((h.toNat : Nat) : Int) := by omega
      simp [Instr.sliceBounds, e, e2, run_sliceBound _ (by omega : 0 ≤ h) h2, run_sliceBound _ h0 hlt]

/-- The part of an immutable slice from element l to h. -/
theorem repD_cut {F : Nat → Nat → Prop} {ad : Option Addr} {c n s B l h m : Nat} {cells : List AC} {us : List Value} (hp : Pw (RepD F w) cells us) (hn : cells.length = n * s)
    (ha : ad = none → c = 0) (hB : n * B ≤ 140737488355328) (hc : n = 0 ∨ ∃ b o, ad = some ⟨b, o, none⟩ ∧ ∀ (j : Nat) y, us[j]? = some y → F b (o + j) ∧ w.cell? ⟨b, o + j, none⟩ = some y)
    (h1 : l ≤ h) (h2 : h ≤ n) (h3 : n ≤ c) (hm : m ≤ c) (hhm : h ≤ m) (full : Bool) (hf : full = true → m = h) (hz : full = true → B = 0 → ad = none) :
    RepD F w (.sl full B (h - l) ((cells.drop (l * s)).take ((h - l) * s))) (.slice (if m = l then ad else ad.map (·.add (l * s))) (h - l) (m - l)) := by
  refine .sl full B (h - l) _ _ _ ((us.drop (l * s)).take ((h - l) * s)) ((hp.drop _).take _).1 (by omega) (fun e => by have := hf e; omega) (fun e => ?_) (Nat.le_trans (Nat.mul_le_mul_right _ (by omega)) hB) (fun e eb => by rw [hz e eb]; simp) ?_ ((hp.drop _).take _).2
  · split at e
    · rename_i hml; omega
    · cases ad with
      | none => have := ha rfl; omega
      | some x => cases e
  · by_cases hlh : h - l = 0
    · exact .inl hlh
    · rcases hc with hc | ⟨b, p, e, hc⟩
      · omega
      · refine .inr ⟨b, p + l * s, ?_, fun j y hy => ?_⟩
        · rw [if_neg (by omega), e]; simp [add_at]
        · rw [List.getElem?_take] at hy
          split at hy
          · rw [List.getElem?_drop] at hy
            have := hc _ y hy
            rwa [← Nat.add_assoc] at this
          · cases hy

theorem wp_slice (hL : L.Ok P) (R : Rel G A a w) (hd : ∀ t, o.dst = some t → t < A.sz) {T : Nat} {i j : TI} {x : Operand} {lo hi : Option Operand} {full : Bool} {B n : Nat} {cells : List AC} {l h : Int}
    (hi1 : L T = some i) (hs : i.isl = true) (hj : L i.elem = some j) (ho : o.op = .slice T x lo hi none) (hx : A.ev x = .one (.sl full B n cells)) (hlen : cells.length = n * j.size)
    (hl : bnd A lo 0 = some l) (hh : bnd A hi n = some h) (h0 : 0 ≤ l) (h1 : l ≤ h) (h2 : h ≤ n)
    (hK : K (A.put o.dst (.one (.sl (full && decide (h = n)) B (h.toNat - l.toNat) ((cells.drop (l.toNat * j.size)).take ((h.toNat - l.toNat) * j.size)))))) : o.wp P a w (Post K G w) Q := by
  have hr := R.ev x
  rw [hx] at hr
  obtain ⟨ad, c, us, hval, hp, hnc, hf, ha, hB, hcell, hzz⟩ := inv_sl hr
  obtain ⟨f, h3, h4⟩ := size_info (hL _ _ hj)
  refine wp_value R hd (v := .slice (if c = l.toNat then ad else ad.map (·.add (l.toNat * j.size))) (h.toNat - l.toNat) (c - l.toNat)) ?_ (.one (.deep (repD_cut hp hlen ha hB hcell (by omega) (by omega) hnc (Nat.le_refl c) (by omega) _ (fun e => ?_) (fun e eb => by simp at e; exact hzz e.1 eb)))) hK
  · have hu := elem_info (hL T i hi1) hs
    simp [execOp, ho, Instr.sliceAt, Instr.slice, run_underlying hu, hval, run_sliceBounds R hl hh h0 h1 (by omega : h ≤ c), sizeOf, typeInfo, h3, h4]
  · simp at e
    have := hf e.1
    omega

/-- 'x[l:h:m]' with m = h. -/
theorem wp_slice3 (hL : L.Ok P) (R : Rel G A a w) (hd : ∀ t, o.dst = some t → t < A.sz) {T : Nat} {i j : TI} {x y z : Operand} {full : Bool} {B n : Nat} {cells : List AC} {h : Int}
    (hi1 : L T = some i) (hs : i.isl = true) (hj : L i.elem = some j) (ho : o.op = .slice T x none (some y) (some z)) (hx : A.ev x = .one (.sl full B n cells)) (hlen : cells.length = n * j.size)
    (hh : bnd A (some y) n = some h) (hm : bnd A (some z) n = some h) (h0 : 0 ≤ h) (h2 : h ≤ n) (hB0 : B ≠ 0)
    (hK : K (A.put o.dst (.one (.sl true B h.toNat (cells.take (h.toNat * j.size)))))) : o.wp P a w (Post K G w) Q := by
  have hr := R.ev x
  rw [hx] at hr
  obtain ⟨ad, c, us, hval, hp, hnc, hf, ha, hB, hcell, hzz⟩ := inv_sl hr
  obtain ⟨f, h3, h4⟩ := size_info (hL _ _ hj)
  obtain ⟨k, e1⟩ := bnd_ev R hh
  obtain ⟨k2, e2⟩ := bnd_ev R hm
  have hcut := repD_cut (l := 0) (h := h.toNat) (m := h.toNat) hp hlen ha hB hcell (by omega) (by omega) hnc (by omega) (Nat.le_refl _) true (fun _ => rfl) (fun _ eb => absurd eb hB0)
  simp only [Nat.zero_mul, List.drop_zero, Nat.sub_zero] at hcut
  refine wp_value R hd (v := .slice (if h.toNat = 0 then ad else ad.map (·.add 0)) h.toNat h.toNat) ?_ (.one (.deep hcut)) hK
  have hu := elem_info (hL T i hi1) hs
  have hb1 : (Instr.sliceBound (.int k2 h) c .slice3Acap).run P w = .ok h.toNat w := run_sliceBound _ h0 (by omega)
  have hb2 : (Instr.sliceBound (.int k h) h.toNat .slice3B).run P w = .ok h.toNat w := run_sliceBound _ h0 (by omega)
  simp [execOp, ho, Instr.sliceAt, Instr.slice, run_underlying hu, hval, Instr.sliceBounds, e1, e2, hb1, hb2, sizeOf, typeInfo, h3, h4]

theorem wp_sliceStr (hL : L.Ok P) (R : Rel G A a w) (hd : ∀ t, o.dst = some t → t < A.sz) {T : Nat} {i : TI} {x : Operand} {lo hi : Option Operand} {s : ByteArray} {l h : Int}
    (hi1 : L T = some i) (hs : i.str = true) (ho : o.op = .slice T x lo hi none) (hx : A.ev x = .one (.str s))
    (hl : bnd A lo 0 = some l) (hh : bnd A hi s.size = some h) (h0 : 0 ≤ l) (h1 : l ≤ h) (h2 : h ≤ s.size)
    (hK : K (A.put o.dst (.one (.str (s.extract l.toNat h.toNat))))) : o.wp P a w (Post K G w) Q := by
  have hr := R.ev x
  rw [hx] at hr
  refine wp_value R hd (v := .string (s.extract l.toNat h.toNat)) ?_ (.one (.deep (.str _))) hK
  have hu := str_info (hL T i hi1) hs
  have hb : (Instr.sliceBounds false s.size s.size (lo.map a.eval) (hi.map a.eval) none).run P w = .ok (l.toNat, h.toNat, s.size) w := by
    cases lo with
    | none =>
      simp [bnd] at hl; subst hl
      cases hi with
      | none => simp [bnd] at hh; subst hh; simp [Instr.sliceBounds]
      | some y =>
        obtain ⟨k, e⟩ := bnd_ev R hh
        simp [Instr.sliceBounds, e, run_sliceBound _ (by omega : 0 ≤ h) h2]
    | some x =>
      obtain ⟨k, e⟩ := bnd_ev R hl
      cases hi with
      | none =>
        simp [bnd] at hh; subst hh
        simp [Instr.sliceBounds, e, run_sliceBound _ h0 h1]
      | some y =>
        obtain ⟨k2, e2⟩ := bnd_ev R hh
        have hlt : l ≤ ((h.toNat : Nat) : Int) := by omega
        simp [Instr.sliceBounds, e, e2, run_sliceBound _ (by omega : 0 ≤ h) h2, run_sliceBound _ h0 hlt]
  simp [execOp, ho, Instr.sliceAt, Instr.slice, run_underlying hu, inv_str hr, hb]

end
end Go.Proofs.Ve

/-
  VeJ: values and slices built; make; copy.
-/
set_option linter.unusedVariables false
set_option linter.unusedSimpArgs false
namespace Go.Proofs.Ve
open Go

section
variable {P : Program} {G : Gh} {A : AS} {a : Act} {w w' : World} {o : Oper} {K : AS → Prop} {Q : Exit → Act → World → Prop} {L : Lay}

theorem foldl_setR (off : Nat) : ∀ (xs : List Value) (k : Nat) (cs : Array Value), off + k + xs.length ≤ cs.size →
    ((xs.zipIdx k).foldl (fun cs (x : Value × Nat) => cs.setIfInBounds (off + x.2) x.1) cs).toList = setR cs.toList (off + k) xs
  | [], k, cs, h => by simp [setR]
  | x :: xs, k, cs, h => by
    simp only [List.zipIdx_cons, List.foldl_cons]
    have ih := foldl_setR off xs (k + 1) (cs.setIfInBounds (off + k) x) (by simp at h ⊢; omega)
    rw [ih]
    have e := list_seg_step cs.toList (off + k) x xs (by simp at h ⊢; omega)
    simp only [setR, Array.toList_setIfInBounds, List.length_cons]
    rw [show off + (k + 1) = off + k + 1 by omega]
    exact e

theorem fill_afill {nx : Nat} {place : Nat → Option (Nat × Nat)} : ∀ (ps : List (Nat × AV)) (vs : List (Nat × Value)) (cs : List AC) (us : Array Value) (out : List AC),
    Pw (fun p q => p.1 = q.1 ∧ RepAV G nx w p.2 q.2) ps vs → Pw (RepV G nx w) cs us.toList → afill place cs ps = some out →
    ∃ us', Instr.fill place us vs = some us' ∧ Pw (RepV G nx w) out us'.toList
  | [], vs, cs, us, out, hp, hc, h => by
    have : vs = [] := List.eq_nil_of_length_eq_zero (by have := hp.1; simpa using this.symm)
    subst this
    simp only [afill, Option.some.injEq] at h
    subst h
    exact ⟨us, rfl, hc⟩
  | (i, x) :: ps, vs, cs, us, out, hp, hc, h => by
    cases vs with
    | nil => have := hp.1; simp at this
    | cons v vs =>
      obtain ⟨i', v⟩ := v
      obtain ⟨e, hx⟩ := hp.head
      simp only at e hx
      subst e
      unfold afill at h
      unfold Instr.fill
      cases hpl : place i with
      | none => rw [hpl] at h; cases h
      | some os =>
        obtain ⟨off, size⟩ := os
        rw [hpl] at h
        simp only at h ⊢
        split at h
        · rename_i hcond
          obtain ⟨h1, h2, h3⟩ := hcond
          have hxc := hx.cells h1
          have hsz : v.cells.size = size := by have := hxc.1; rw [h2] at this; simpa using this.symm
          have hus : cs.length = us.size := by simpa using hc.1
          have hno : ¬ ((decide (v.cells.size ≠ size) || decide (off + v.cells.size > us.size)) = true) := by simp; omega
          rw [if_neg hno]
          refine fill_afill ps vs _ _ out hp.tail ?_ h
          have e2 : (v.cells.zipIdx.foldl (fun cs (x : Value × Nat) => cs.setIfInBounds (off + x.2) x.1) us).toList = setR us.toList off v.cells.toList := by
            have := foldl_setR off v.cells.toList 0 us (by simp; omega)
            rw [Nat.add_zero] at this
            rw [← this, ← Array.foldl_toList, Array.toList_zipIdx]
          rw [e2]
          exact hc.setR hxc off
        · cases h

/-- The parts of a literal, evaluated. -/
def evParts (A : AS) (ps : Array (Nat × Operand)) : List (Nat × AV) := ps.toList.map fun p => (p.1, A.ev p.2)

theorem evParts_pw (R : Rel G A a w) (ps : Array (Nat × Operand)) : Pw (fun (p : Nat × AV) (q : Nat × Value) => p.1 = q.1 ∧ RepAV G A.nx w p.2 q.2) (evParts A ps) (ps.map fun (i, x) => (i, a.eval x)).toList := by
  refine ⟨by simp [evParts], fun j p q hp hq => ?_⟩
  simp only [evParts, List.getElem?_map, Array.toList_map] at hp hq
  cases hx : ps.toList[j]? with
  | none => rw [hx] at hp; cases hp
  | some y =>
    rw [hx] at hp hq
    simp at hp hq
    subst hp hq
    exact ⟨rfl, R.ev y.2⟩

/-- The fields' places: offsets and sizes. -/
def places (L : Lay) (i : TI) (k : Nat) : Option (Nat × Nat) := match i.flds[k]? with
  | some (off, ty) => match L ty with
    | some j => some (off, j.size)
    | none => none
  | none => none

theorem mapM_places (hL : L.Ok P) : ∀ (fs : List Field), (∀ x ∈ fs, (L x.type).isSome = true) →
    fs.mapM (fun f => (P.info? f.type).map fun i => (f.offset, i.size)) = some (fs.map fun x => (x.offset, ((L x.type).map (·.size)).getD 0))
  | [], _ => by simp
  | x :: fs, h => by
    have hx := h x (by simp)
    cases hj : L x.type with
    | none => rw [hj] at hx; cases hx
    | some j =>
      obtain ⟨f, h1, h2⟩ := size_info (hL _ _ hj)
      have ih := mapM_places hL fs (fun y hy => h y (by simp [hy]))
      simp [List.mapM_cons, h1, h2, ih, hj]

theorem wp_build (hL : L.Ok P) (R : Rel G A a w) (hd : ∀ t, o.dst = some t → t < A.sz) {T : Nat} {i : TI} {ps : Array (Nat × Operand)} {cs : List AC} (hi : L T = some i) (hz : i.zero ≠ []) (hf : i.flds ≠ []) (hfl : ∀ x ∈ i.flds, (L x.2).isSome = true) (ho : o.op = .build T ps)
    (hcs : afill (places L i) i.zero (evParts A ps) = some cs) (hK : K (A.put o.dst (.agg cs))) : o.wp P a w (Post K G w) Q := by
  obtain ⟨f, d, h1, h2, h3, h4, h5, h6, h6s, h6k, h7, h8, h9⟩ := (hL T i hi).info
  obtain ⟨fs, e1, e2⟩ := h7 hf
  obtain ⟨z, e3, e4⟩ := h8 hz
  subst e1
  have hmem : ∀ x ∈ fs.toList, (L x.type).isSome = true := fun x hx => hfl (x.offset, x.type) (by rw [← e2]; exact List.mem_map.2 ⟨x, hx, rfl⟩)
  have hpl : ((fs.toList.map fun x => (x.offset, ((L x.type).map (·.size)).getD 0)).toArray[·]? : Nat → Option (Nat × Nat)) = places L i := by
    funext k
    unfold places
    rw [← e2]
    simp only [List.getElem?_toArray, List.getElem?_map]
    cases hx : fs.toList[k]? with
    | none => rfl
    | some x =>
      have := hmem x (List.mem_of_getElem? hx)
      cases hj : L x.type with
      | none => rw [hj] at this; cases this
      | some j => simp [hj]
  obtain ⟨us', hfill, hpw⟩ := fill_afill (G := G) (w := w) (nx := A.nx) (place := places L i) _ _ i.zero z.cells cs (evParts_pw R ps) ((mapM_pw (F := G.F) (w := w) _ _ e4).imp fun _ _ k => .deep k) hcs
  have hr := run_build (P := P) w T (ps.map fun (i, x) => (i, a.eval x)) us' (by
    unfold Program.built
    rw [h1, h2]
    simp only
    rw [e3, mapM_places hL _ hmem]
    simp only
    rw [hpl]
    exact hfill)
  have e5 : us' = us'.toList.toArray := by simp
  rw [e5] at hr
  exact wp_value R hd (v := .agg us'.toList.toArray) (by simp only [execOp, ho, Sem.run_bind, hr, Result.andThen_ok]; rfl) (.agg hpw) hK

theorem made_zero {z : Array Value} {s : Nat} (hs : z.size = s) (h0 : s ≠ 0) : ∀ n : Nat, (madeCells z (n * s)).toList = (List.replicate n z.toList).flatten
  | 0 => by simp [madeCells]
  | n + 1 => by
    have ih := made_zero hs h0 n
    rw [List.replicate_succ', List.flatten_append, ← ih]
    have e : (n + 1) * s = n * s + s := by rw [Nat.add_mul, Nat.one_mul]
    rw [e]
    apply List.ext_getElem?
    intro k
    simp only [madeCells, Array.toList_map, Array.toList_range, List.getElem?_append, List.length_map, List.length_range, List.getElem?_map, List.flatten_cons, List.flatten_nil, List.append_nil]
    by_cases hk : k < n * s
    · rw [if_pos hk, List.getElem?_range (by omega), List.getElem?_range hk]
    · rw [if_neg hk]
      by_cases hk2 : k < n * s + s
      · rw [List.getElem?_range hk2]
        have e2 : k % z.size = k - n * s := by
          rw [hs]
          have : k = (k - n * s) + s * n := by rw [Nat.mul_comm s n]; omega
          rw [this, Nat.add_mul_mod_self_left, Nat.mod_eq_of_lt (by omega)]
          rw [Nat.mul_comm s n]; omega
        have hlt : k - n * s < z.size := by omega
        simp [e2, hlt]
      · rw [List.getElem?_eq_none (by simp; omega), List.getElem?_eq_none (by simp; omega)]
        rfl

theorem zeros_pw {t : Nat} {i : TI} (hi : i.Ok P t) (hz : i.zero.length = i.size) (h0 : i.size ≠ 0) : ∃ f z, P.info? t = some f ∧ f.zero = some z ∧ f.size = i.size ∧ f.bytes = i.bytes ∧
    ∀ (F : Nat → Nat → Prop) (w : World) (n : Nat), Pw (RepD F w) (List.replicate n i.zero).flatten (madeCells z.cells (n * i.size)).toList := by
  obtain ⟨f, z, h1, h2, h3, h4, h5⟩ := zero_pw hi (by intro e; rw [e] at hz; simp at hz; exact h0 hz.symm)
  refine ⟨f, z, h1, h2, h3, h4, fun F w n => ?_⟩
  have hsz : z.cells.size = i.size := by have := (h5 F w).1; rw [hz] at this; simpa using this.symm
  rw [made_zero hsz h0]
  induction n with
  | zero => exact .nil
  | succ n ih =>
    rw [List.replicate_succ, List.replicate_succ, List.flatten_cons, List.flatten_cons]
    exact (h5 F w).append ih

/-- The slot takes a new slice. -/
theorem wp_newRow (R : Rel G A a w) (hd : ∀ t, o.dst = some t → t < A.sz) (T s B n : Nat) (hs : 0 < s) (hB : n * B ≤ 140737488355328) (hb0 : B ≠ 0) {cs : List AC} {us : Array Value} (hp : Pw (RepV G A.nx w) cs us.toList) (hl : us.size = n * s)
    (hr : (execOp a.eval o).run P w = .ok (.value (.slice (some ⟨w.heap.size, 0, none⟩) n n)) (w.alloc (.cells us T)))
    (hK : K ((A.new ⟨T, s, B, cs⟩).put o.dst (.one (.gref A.nx)))) : o.wp P a w (Post K G w) Q := by
  have hle : n ≤ maxLen := by
    have h3 : n ≤ n * B := Nat.le_mul_of_pos_right _ (by omega)
    simp only [maxLen]; omega
  unfold Oper.wp
  rw [hr]
  have hb := repO_row (G := G) (A := A) (a := a) R T s B n hs hB hle hp (by simpa using hl)
  have e : us.toList.toArray = us := by simp
  rw [e] at hb
  obtain ⟨h1, h2, h3⟩ := R.alloc ⟨T, s, B, cs⟩ _ us hb
  exact ⟨_, _, hK, h1.put hd (.one (.gref A.nx (Nat.lt_succ_self _) _ _ _ (fupd_same _ _ _))), h2⟩

theorem wp_buildSlice (hL : L.Ok P) (R : Rel G A a w) (hd : ∀ t, o.dst = some t → t < A.sz) {T n : Nat} {i j : TI} {ps : Array (Nat × Operand)} {cs : List AC} (hi : L T = some i) (hs : i.isl = true) (hj : L i.elem = some j) (h0 : j.size ≠ 0) (hz : j.zero.length = j.size)
    (ho : o.op = .buildSlice T n ps) (hn : n ≠ 0) (hsm : n * j.size ≤ 16777216) (hB : n * j.bytes ≤ 140737488355328) (hb0 : j.bytes ≠ 0) (hcs : afill (fun k => some (k * j.size, j.size)) (List.replicate n j.zero).flatten (evParts A ps) = some cs)
    (hlen : cs.length = n * j.size) (hK : K ((A.new ⟨i.elem, j.size, j.bytes, cs⟩).put o.dst (.one (.gref A.nx)))) : o.wp P a w (Post K G w) Q := by
  obtain ⟨f, z, h1, h2, h3, h4, h5⟩ := zeros_pw (hL _ _ hj) hz h0
  obtain ⟨us', hfill, hpw⟩ := fill_afill (G := G) (w := w) (nx := A.nx) _ _ _ (madeCells z.cells (n * j.size)) cs (evParts_pw R ps) ((h5 G.F w n).imp fun _ _ k => .deep k) hcs
  have hsz : us'.size = n * j.size := by have := hpw.1; rw [hlen] at this; simpa using this.symm
  refine wp_newRow R hd i.elem j.size j.bytes n (by omega) hB hb0 hpw hsz ?_ hK
  have hr := run_buildSlice (P := P) w T i.elem n (ps.map fun (i, x) => (i, a.eval x)) us' f z (elem_info (hL T i hi) hs) h1 h2 (by rw [h3]; omega) (by rw [h3]; exact Nat.mul_ne_zero hn h0) (by rw [h3]; exact hfill)
  simp only [execOp, ho, Sem.run_bind, hr, Result.andThen_ok]
  rfl

theorem wp_makeSlice (hL : L.Ok P) (R : Rel G A a w) (hd : ∀ t, o.dst = some t → t < A.sz) {T : Nat} {i j : TI} {x y : Operand} {k k' : IntKind} {m : Int} (hi : L T = some i) (hs : i.isl = true) (hj : L i.elem = some j) (h0 : j.size ≠ 0) (hz : j.zero.length = j.size)
    (ho : o.op = .makeSlice T x y) (hx : A.ev x = .one (.int k m)) (hy : A.ev y = .one (.int k' m)) (hm : 0 ≤ m) (hB : m.toNat * j.bytes ≤ 140737488355328) (hb0 : j.bytes ≠ 0)
    (hK : K ((A.new ⟨i.elem, j.size, j.bytes, (List.replicate m.toNat j.zero).flatten⟩).put o.dst (.one (.gref A.nx)))) : o.wp P a w (Post K G w) Q := by
  obtain ⟨f, z, h1, h2, h3, h4, h5⟩ := zeros_pw (hL _ _ hj) hz h0
  have e1 := R.ev x; rw [hx] at e1
  have e2 := R.ev y; rw [hy] at e2
  refine wp_newRow R hd i.elem j.size j.bytes m.toNat (by omega) hB hb0 ((h5 G.F w m.toNat).imp fun _ _ k => .deep k) (size_madeCells _ _) ?_ hK
  have hle : m.toNat ≤ m.toNat * j.bytes := Nat.le_mul_of_pos_right _ (by omega)
  have hbb : (f.bytes : Int) * m ≤ 281474976710656 := by
    rw [h4]
    have e3 : ((m.toNat * j.bytes : Nat) : Int) = (j.bytes : Int) * m := by
      rw [Int.natCast_mul, Int.mul_comm, Int.toNat_of_nonneg hm]
    omega
  have hr := run_make (P := P) w T i.elem f z (elem_info (hL T i hi) hs) h1 h2 k k' m m hm (Int.le_refl _) hbb (by omega)
  rw [h3] at hr
  simp only [execOp, ho, inv_int e1, inv_int e2, Sem.run_bind, hr, Result.andThen_ok]
  rfl

theorem wp_field (hL : L.Ok P) (R : Rel G A a w) (hd : ∀ t, o.dst = some t → t < A.sz) {S f off ty : Nat} {i j : TI} {x : Operand} {cs : List AC} {v : AV} (hi : L S = some i) (hf : i.flds[f]? = some (off, ty)) (hj : L ty = some j)
    (ho : o.op = .field S x f) (hx : A.ev x = .agg cs) (hv : valOf j ((cs.drop off).take j.size) = some v) (hK : K (A.put o.dst v)) : o.wp P a w (Post K G w) Q := by
  obtain ⟨fs, fd, h1, h2, h3, h4⟩ := fld_info (hL S i hi) hf
  obtain ⟨fi, h5, h6⟩ := size_info (hL ty j hj)
  obtain ⟨d, h7, h8⟩ := under_info (hL ty j hj)
  subst h3 h4
  have hr := R.ev x
  rw [hx] at hr
  obtain ⟨vs, hval, hp⟩ := inv_agg hr
  have hpc := (hp.drop fd.offset).take j.size
  unfold valOf at hv
  split at hv
  · rename_i hlen
    split at hv
    · rename_i hagg
      cases hv
      refine wp_value R hd (v := .agg ((vs.drop fd.offset).take j.size).toArray) ?_ (.agg hpc) hK
      rw [hagg] at h8
      have e : vs.toArray.extract fd.offset (fd.offset + j.size) = ((vs.drop fd.offset).take j.size).toArray := by
        simp [List.extract_eq_take_drop]
      cases d <;> simp at h8 <;> simp [execOp, ho, hval, Instr.field, run_underlying h1, h2, part, isAgg, run_underlying h7, asAgg, sizeOf, typeInfo, h5, h6] <;> simp at e <;> simp [e]
    · rename_i hagg
      have hagg : j.agg = false := by simpa using hagg
      rw [hagg] at h8
      split at hv
      · rename_i c hc
        cases hv
        rw [hc] at hlen hpc
        have hsz : j.size = 1 := by simpa using hlen.symm
        rw [hsz] at hpc hc
        match hq : (vs.drop fd.offset).take 1, hpc with
        | [u], hpc =>
          have hu : vs[fd.offset]? = some u := by
            have : ((vs.drop fd.offset).take 1)[0]? = some u := by rw [hq]; rfl
            simpa using this
          refine wp_value R hd (v := u) ?_ (.one hpc.head) hK
          cases d <;> simp at h8 <;> simp [execOp, ho, hval, Instr.field, run_underlying h1, h2, part, isAgg, run_underlying h7, asAgg, hu]
        | [], hpc => have := hpc.1; simp at this
        | _ :: _ :: _, hpc => have := hpc.1; simp at this
      · cases hv
  · cases hv

end
end Go.Proofs.Ve

/-
  VeK: copy.
-/
set_option linter.unusedVariables false
set_option linter.unusedSimpArgs false
namespace Go.Proofs.Ve
open Go

section
variable {P : Program} {G : Gh} {A : AS} {a : Act} {w w' : World} {o : Oper} {K : AS → Prop} {Q : Exit → Act → World → Prop} {L : Lay}

theorem setR_nil {α : Type} (l : List α) (p : Nat) : setR l p [] = l := by simp [setR]

theorem upd_self {id : Nat} {ob : Ob} (h : A.ob id = some ob) : A.upd id ob = A := by
  have : fupd A.ob id (some ob) = A.ob := by
    funext j
    by_cases e : j = id
    · subst e; rw [fupd_same, h]
    · exact fupd_ne _ e _
  unfold AS.upd
  rw [this]

/-- 'copy(x, y)', x an object. -/
theorem wp_copy (hL : L.Ok P) (R : Rel G A a w) (hd : ∀ t, o.dst = some t → t < A.sz) {T : Nat} {i j : TI} {x y : Operand} {id n m : Nat} {ob : Ob} {cs : List AC} (ho : o.op = .call ⟨.builtin .copy, #[x, y], #[T, T]⟩)
    (hi : L T = some i) (hs : i.isl = true) (hj : L i.elem = some j) (h0 : j.size ≠ 0) (hx : A.ev x = .one (.gref id)) (hob : A.ob id = some ob) (hS : ob.s = j.size)
    (hn : ob.cells.length = n * j.size) (hsrc : Src G A.nx w (A.ev y) m j.size cs)
    (hK : K ((A.upd id { ob with cells := setR ob.cells 0 (cs.take (min m n * j.size)) }).put o.dst (.one (.int .i64 (min m n : Nat))))) : o.wp P a w (Post K G w) Q := by
  obtain ⟨f, hf1, hf2⟩ := size_info (hL _ _ hj)
  have h := R.ev x
  rw [hx] at h
  obtain ⟨hid, ad, q, c, hh, hval⟩ := inv_gref h
  obtain ⟨ad2, c2, us, e2, hp2, hc2⟩ := hsrc.open_ _ (R.ev y)
  have hRO := (R.obs id ob hob).2
  have hRO2 := hRO
  obtain ⟨vs, hp, hc⟩ := hRO
  rcases hc with ⟨h2, _⟩ | ⟨h2, _⟩ | ⟨h2, q', hr, hB0, hg⟩
  · exact absurd (hS.symm.trans h2) h0
  · exact absurd (hS.symm.trans h2) h0
  · have e1 : q' = n := by
      have h3 := hp.1
      rw [hn, hr.1, hS] at h3
      exact (Nat.eq_of_mul_eq_mul_right (by omega) h3).symm
    subst e1
    have hq : q = q' := by
      rcases hr.2 with ⟨e3, e4⟩ | ⟨g, cap, cur, e3, _⟩ <;> rw [hh] at e3 <;> cases e3 <;> omega
    subst hq
    have hul : us.length = m * j.size := by rw [← hp2.1]; exact hsrc.len
    by_cases hz : min m q = 0
    · -- nothing is copied
      have hrun : (Builtin.copy_ #[T, T] o.type #[.slice ad q c, .slice ad2 m c2]).run P w = .ok (goInt 0) w := by
        have hu := elem_info (hL T i hi) hs
        have hm : Nat.min m q = 0 := hz
        cases ad <;> cases ad2 <;> simp [Builtin.copy_, run_underlying hu, Builtin.lenOf, hm, Builtin.firstCells, sizeOf, typeInfo, hf1, loadCells, loadCellsFrom, storeCells]
      rw [hz] at hK
      simp only [Nat.zero_mul, List.take_zero, setR_nil] at hK
      have e5 : ({ ob with cells := ob.cells } : Ob) = ob := rfl
      rw [e5, upd_self hob] at hK
      refine wp_value R hd (v := .int .i64 0) (exec_builtin ho (fun cs => by simp [builtin, hval, e2, hrun, goInt])) (.one (.deep (.int _ _))) hK
    · have hm0 : m ≠ 0 := by omega
      rcases hc2 with hc2 | ⟨b2, p2, e3, hc2⟩
      · omega
      · subst e3
        have hlen : (us.take (min m q * j.size)).length = min m q * f.size := by
          rw [List.length_take, hul, hf2]
          have : min m q * j.size ≤ m * j.size := Nat.mul_le_mul_right _ (Nat.min_le_left _ _)
          omega
        have hcs : (cs.take (min m q * j.size)).length = min m q * j.size := by
          rw [List.length_take, hsrc.len]
          have : min m q * j.size ≤ m * j.size := Nat.mul_le_mul_right _ (Nat.min_le_left _ _)
          omega
        have hpos : 0 < min m q * j.size := Nat.mul_pos (by omega) (by omega)
        have hle : min m q * j.size ≤ ob.cells.length := by rw [hn]; exact Nat.mul_le_mul_right _ (Nat.min_le_right _ _)
        obtain ⟨cur, s1, s2, s3, s4⟩ := repO_setR (p := 0) hRO2 (hp2.take (min m q * j.size)) (by omega) (by intro e; rw [e] at hcs; simp at hcs; omega)
        have hload := run_loadCells_list (P := P) w ⟨b2, p2, none⟩ (us.take (min m q * j.size)) (fun k v hv => by
          rw [add_at]
          rw [List.getElem?_take] at hv
          split at hv
          · exact hc2 k v hv
          · cases hv)
        rw [hlen] at hload
        have hst := run_storeCells_at P (G.adr id) 0 ob.T.id (us.take (min m q * j.size)) 0 cur w s1 (by simpa using s2) (fun v hv => by
          obtain ⟨k, hk⟩ := List.getElem?_of_mem hv
          have hk' := hk
          rw [List.getElem?_take] at hk'
          split at hk'
          · have hkl : k < cs.length := by
              rw [hp2.1]
              rcases Nat.lt_or_ge k us.length with h' | h'
              · exact h'
              · rw [List.getElem?_eq_none h'] at hk'; cases hk'
            exact (hp2.2 k _ v (List.getElem?_eq_getElem hkl) hk').one
          · cases hk')
        simp only [Nat.add_zero] at hst
        -- the header lies at the object's own block
        have had : ad = some ⟨G.adr id, 0, none⟩ := by
          rcases hr.2 with ⟨e5, e6⟩ | ⟨g, cap, cur', e5, _⟩
          · omega
          · have := (hg g (by rw [e5]; rfl)).1
            subst this
            rw [hh] at e5; cases e5; rfl
        subst had
        have hrun : (Builtin.copy_ #[T, T] o.type #[.slice (some ⟨G.adr id, 0, none⟩) q c, .slice (some ⟨b2, p2, none⟩) m c2]).run P w =
            .ok (goInt (min m q : Nat)) (w.setRow (G.adr id) (cur.toList.take 0 ++ us.take (min m q * j.size) ++ cur.toList.drop (0 + (us.take (min m q * j.size)).length)).toArray) := by
          have hu := elem_info (hL T i hi) hs
          have hmm : Nat.min m q = min m q := rfl
          simp [Builtin.copy_, run_underlying hu, Builtin.lenOf, hmm, Builtin.firstCells, sizeOf, typeInfo, hf1, hload]
          simp at hst
          simp [hst]
        obtain ⟨r1, r2⟩ := R.updObj hob s3 (fun b hb => heap_setRow_other _ _ _ _ hb) (by simp [World.setRow]) rfl rfl rfl s4
        unfold Oper.wp
        rw [exec_builtin ho (fun cs => by simp only [builtin, hval, e2, List.map_toArray, List.map_cons, List.map_nil, Sem.run_bind, hrun, Result.andThen_ok]; rfl)]
        exact ⟨G, _, hK, r1.put hd (.one (.deep (.int _ _))), r2⟩

end
end Go.Proofs.Ve
