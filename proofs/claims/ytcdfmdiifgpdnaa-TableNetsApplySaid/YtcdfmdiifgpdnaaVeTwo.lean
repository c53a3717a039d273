/-
  VeTwo: joined by wip/tools/merge.py out of VeL VeM VeN VeO VeP VePs VePt VeQ VeMp VeR VeS VeT.
-/
import Derived.Laws.Cover3
import Derived.Lib.OthersKept
import Derived.WideMake
import Derived.Test.YtcdfmdiifgpdnaaVeOne
/-
  VeL: forgetting and renaming.
-/
set_option linter.unusedVariables false
set_option linter.unusedSimpArgs false
namespace Go.Proofs.Ve
open Go

/-! ### renaming objects -/
mutual
def AC.ren (ρ : Nat → Nat) : AC → AC
  | .ptr k off => .ptr (ρ k) off
  | .gref k => .gref (ρ k)
  | .mref k => .mref (ρ k)
  | .fn f caps => .fn f (AC.renL ρ caps)
  | .int k n => .int k n
  | .bool b => .bool b
  | .str s => .str s
  | .sl full B n cells => .sl full B n cells
  | .nilp => .nilp
  | .any => .any
  | .cptr cells => .cptr cells
def AC.renL (ρ : Nat → Nat) : List AC → List AC
  | [] => []
  | c :: r => c.ren ρ :: AC.renL ρ r
end
mutual
/-- Its references are below n. -/
def AC.lt (n : Nat) : AC → Bool
  | .ptr k _ => decide (k < n)
  | .gref k => decide (k < n)
  | .mref k => decide (k < n)
  | .fn _ caps => AC.ltL n caps
  | .int _ _ | .bool _ | .str _ | .sl _ _ _ _ | .nilp | .any | .cptr _ => true
def AC.ltL (n : Nat) : List AC → Bool
  | [] => true
  | c :: r => c.lt n && AC.ltL n r
end
mutual
def AV.ren (ρ : Nat → Nat) : AV → AV
  | .one c => .one (c.ren ρ)
  | .agg cs => .agg (AC.renL ρ cs)
  | .tup vs => .tup (AV.renL ρ vs)
  | .undef => .undef
def AV.renL (ρ : Nat → Nat) : List AV → List AV
  | [] => []
  | c :: r => c.ren ρ :: AV.renL ρ r
end
mutual
def AV.lt (n : Nat) : AV → Bool
  | .one c => c.lt n
  | .agg cs => AC.ltL n cs
  | .tup vs => AV.ltL n vs
  | .undef => true
def AV.ltL (n : Nat) : List AV → Bool
  | [] => true
  | c :: r => c.lt n && AV.ltL n r
end
theorem AC.renL_map (ρ : Nat → Nat) : ∀ l : List AC, AC.renL ρ l = l.map (·.ren ρ)
  | [] => rfl
  | c :: r => by rw [AC.renL, AC.renL_map ρ r]; rfl
theorem AV.renL_map (ρ : Nat → Nat) : ∀ l : List AV, AV.renL ρ l = l.map (·.ren ρ)
  | [] => rfl
  | c :: r => by rw [AV.renL, AV.renL_map ρ r]; rfl
theorem AC.ltL_all (n : Nat) : ∀ l : List AC, AC.ltL n l = l.all (·.lt n)
  | [] => rfl
  | c :: r => by rw [AC.ltL, AC.ltL_all n r]; rfl
theorem AV.ltL_all (n : Nat) : ∀ l : List AV, AV.ltL n l = l.all (·.lt n)
  | [] => rfl
  | c :: r => by rw [AV.ltL, AV.ltL_all n r]; rfl
def Ob.ren (ρ : Nat → Nat) (o : Ob) : Ob := { o with cells := AC.renL ρ o.cells }
def Ob.lt (n : Nat) (o : Ob) : Bool := AC.ltL n o.cells

/-- What G1 says of its objects below n1, G2 says of those that ρ names. -/
structure Named (G1 : Gh) (n1 : Nat) (G2 : Gh) (n2 : Nat) (ρ : Nat → Nat) : Prop where
  lt : ∀ k, k < n1 → ρ k < n2
  adr : ∀ k, k < n1 → G2.adr (ρ k) = G1.adr k
  hdr : ∀ k, k < n1 → G2.hdr (ρ k) = G1.hdr k

section
variable {P : Program} {G G1 G2 : Gh} {A : AS} {a : Act} {w w' : World} {n1 n2 : Nat} {ρ : Nat → Nat}

theorem RepD.sameF {F F' : Nat → Nat → Prop} (h : ∀ b j, F b j → F' b j) {x : AC} {v : Value} (r : RepD F w x v) : RepD F' w x v := r.adv fun b o k => ⟨h b o k, rfl⟩

theorem ren_deep {F : Nat → Nat → Prop} {x : AC} {v : Value} (h : RepD F w x v) : x.ren ρ = x := by
  cases h <;> simp [AC.ren, AC.renL]

theorem RepV.ren (N : Named G1 n1 G2 n2 ρ) (hF : ∀ b j, G1.F b j → G2.F b j) {x : AC} {v : Value} (h : RepV G1 n1 w x v) : RepV G2 n2 w (x.ren ρ) v := by
  induction h with
  | deep h => rw [ren_deep h]; exact .deep (h.sameF hF)
  | ptr k off hk =>
    have := RepV.ptr (G := G2) (nx := n2) (w := w) (ρ k) off (N.lt k hk)
    rw [N.adr k hk] at this
    exact this
  | cptr cells b o us hl hc => exact .cptr cells b o us (hl.imp fun _ _ k => k.sameF hF) fun j y hy => ⟨hF _ _ (hc j y hy).1, (hc j y hy).2⟩
  | gref k hk ad n c e => exact .gref (ρ k) (N.lt k hk) ad n c ((N.hdr k hk).trans e)
  | mref k hk =>
    have := RepV.mref (G := G2) (nx := n2) (w := w) (ρ k) (N.lt k hk)
    rw [N.adr k hk] at this
    exact this
  | fn f caps vs hl hr ih =>
    rw [AC.ren, AC.renL_map]
    refine .fn f _ vs (by simpa using hl) fun j x y hx hy => ?_
    rw [List.getElem?_map] at hx
    obtain ⟨c, hc, rfl⟩ := Option.map_eq_some_iff.1 hx
    exact ih j c y hc hy

theorem Pw.renV (N : Named G1 n1 G2 n2 ρ) (hF : ∀ b j, G1.F b j → G2.F b j) {cs : List AC} {vs : List Value} (h : Pw (RepV G1 n1 w) cs vs) : Pw (RepV G2 n2 w) (AC.renL ρ cs) vs := by
  rw [AC.renL_map]
  refine ⟨by simpa using h.1, fun j x y hx hy => ?_⟩
  rw [List.getElem?_map] at hx
  obtain ⟨c, hc, rfl⟩ := Option.map_eq_some_iff.1 hx
  exact (h.2 j c y hc hy).ren N hF

theorem RepAV.ren (N : Named G1 n1 G2 n2 ρ) (hF : ∀ b j, G1.F b j → G2.F b j) {x : AV} {v : Value} (h : RepAV G1 n1 w x v) : RepAV G2 n2 w (x.ren ρ) v := by
  induction h with
  | undef v => exact .undef v
  | one h => exact .one (h.ren N hF)
  | agg h => exact .agg (h.renV N hF)
  | tup hl hr ih =>
    rw [AV.ren, AV.renL_map]
    refine .tup (by simpa using hl) fun j x y hx hy => ?_
    rw [List.getElem?_map] at hx
    obtain ⟨c, hc, rfl⟩ := Option.map_eq_some_iff.1 hx
    exact ih j c y hc hy

/-- The other way: what reads under the new names read under the old ones, if its references are below n1. -/
theorem RepV.unren (N : Named G1 n1 G2 n2 ρ) (hF : ∀ b j, G2.F b j → G1.F b j) {y : AC} {v : Value} (h : RepV G2 n2 w y v) : ∀ x : AC, y = x.ren ρ → x.lt n1 = true → RepV G1 n1 w x v := by
  induction h with
  | deep h =>
    intro x e hx
    have e2 : x.ren ρ = x := by
      cases h <;> cases x <;> simp [AC.ren] at e ⊢
      case fn f f2 caps => cases caps with
        | nil => rfl
        | cons c r => simp [AC.renL] at e
    rw [← e2, ← e]
    exact .deep (h.sameF hF)
  | ptr k off hk =>
    intro x e hx
    cases x <;> simp [AC.ren] at e
    case ptr k' off' =>
      obtain ⟨rfl, rfl⟩ := e
      have hk' : k' < n1 := by simpa [AC.lt] using hx
      have := RepV.ptr (G := G1) (nx := n1) (w := w) k' off hk'
      rw [N.adr k' hk']
      exact this
  | cptr cells b o us hl hc =>
    intro x e hx
    cases x <;> simp [AC.ren] at e
    subst e
    exact .cptr _ b o us (hl.imp fun _ _ k => k.sameF hF) fun j y hy => ⟨hF _ _ (hc j y hy).1, (hc j y hy).2⟩
  | gref k hk ad n c e0 =>
    intro x e hx
    cases x <;> simp [AC.ren] at e
    case gref k' =>
      subst e
      have hk' : k' < n1 := by simpa [AC.lt] using hx
      exact .gref k' hk' ad n c ((N.hdr k' hk').symm.trans e0)
  | mref k hk =>
    intro x e hx
    cases x <;> simp [AC.ren] at e
    case mref k' =>
      subst e
      have hk' : k' < n1 := by simpa [AC.lt] using hx
      have := RepV.mref (G := G1) (nx := n1) (w := w) k' hk'
      rw [N.adr k' hk']
      exact this
  | fn f caps vs hl hr ih =>
    intro x e hx
    cases x <;> simp [AC.ren] at e
    case fn f' caps' =>
      obtain ⟨rfl, e⟩ := e
      rw [AC.renL_map] at e
      subst e
      have hx' : ∀ c ∈ caps', c.lt n1 = true := by
        have : AC.ltL n1 caps' = true := by simpa [AC.lt] using hx
        rw [AC.ltL_all] at this
        simpa using this
      refine .fn f caps' vs (by simpa using hl) fun j x y hx hy => ?_
      exact ih j (x.ren ρ) y (by rw [List.getElem?_map, hx]; rfl) hy x rfl (hx' x (List.mem_of_getElem? hx))

theorem Pw.unrenV (N : Named G1 n1 G2 n2 ρ) (hF : ∀ b j, G2.F b j → G1.F b j) {cs : List AC} {vs : List Value} (h : Pw (RepV G2 n2 w) (AC.renL ρ cs) vs) (hlt : AC.ltL n1 cs = true) : Pw (RepV G1 n1 w) cs vs := by
  rw [AC.renL_map] at h
  rw [AC.ltL_all] at hlt
  refine ⟨by simpa using h.1, fun j x y hx hy => ?_⟩
  exact (h.2 j (x.ren ρ) y (by rw [List.getElem?_map, hx]; rfl) hy).unren N hF x rfl (List.all_eq_true.1 hlt x (List.mem_of_getElem? hx))

theorem RepAV.unren (N : Named G1 n1 G2 n2 ρ) (hF : ∀ b j, G2.F b j → G1.F b j) {y : AV} {v : Value} (h : RepAV G2 n2 w y v) : ∀ x : AV, y = x.ren ρ → x.lt n1 = true → RepAV G1 n1 w x v := by
  induction h with
  | undef v =>
    intro x e hx
    cases x <;> simp [AV.ren] at e
    exact .undef v
  | one h =>
    intro x e hx
    cases x <;> simp [AV.ren] at e
    subst e
    exact .one (h.unren N hF _ rfl hx)
  | agg h =>
    intro x e hx
    cases x <;> simp [AV.ren] at e
    subst e
    exact .agg (h.unrenV N hF hx)
  | tup hl hr ih =>
    intro x e hx
    cases x <;> simp [AV.ren] at e
    rename_i xs
    rw [AV.renL_map] at e
    subst e
    have hx' : ∀ c ∈ xs, c.lt n1 = true := by
      have : AV.ltL n1 xs = true := by simpa [AV.lt] using hx
      rw [AV.ltL_all] at this
      simpa using this
    refine .tup (by simpa using hl) fun j x y hx hy => ?_
    exact ih j (x.ren ρ) y (by rw [List.getElem?_map, hx]; rfl) hy x rfl (hx' x (List.mem_of_getElem? hx))

/-- A state is forgotten down to A', whose objects are those that ρ names. -/
structure Wk (A A' : AS) (ρ : Nat → Nat) : Prop where
  sz : A'.sz = A.sz
  np : A'.np = A.np ∧ A'.np ≤ A'.nx ∧ ∀ k, k < A'.np → ρ k = k
  lt : ∀ k, k < A'.nx → ρ k < A.nx
  inj : ∀ k k', (A'.ob k).isSome = true → (A'.ob k').isSome = true → ρ k = ρ k' → k = k'
  sl : ∀ t, A'.sl t = .undef ∨ (A.sl t = (A'.sl t).ren ρ ∧ (A'.sl t).lt A'.nx = true)
  ob : ∀ k o, A'.ob k = some o → k < A'.nx ∧ A.ob (ρ k) = some (o.ren ρ) ∧ o.lt A'.nx = true

open Classical in
noncomputable def Gh.un (G : Gh) (ρ : Nat → Nat) (live : Nat → Bool) : Gh :=
  { adr := fun k => G.adr (ρ k), hdr := fun k => G.hdr (ρ k), F := G.F, N := G.N,
    own := fun b => if h : ∃ k, live k = true ∧ G.own b = some (ρ k) then some (Classical.choose h) else none }

open Classical in
theorem own_un {live : Nat → Bool} (hinj : ∀ k k', live k = true → live k' = true → ρ k = ρ k' → k = k') {k b : Nat} (hk : live k = true) (h : G.own b = some (ρ k)) : (G.un ρ live).own b = some k := by
  show (if h : ∃ k, live k = true ∧ G.own b = some (ρ k) then some (Classical.choose h) else none) = some k
  have hex : ∃ k, live k = true ∧ G.own b = some (ρ k) := ⟨k, hk, h⟩
  rw [dif_pos hex]
  obtain ⟨h1, h2⟩ := Classical.choose_spec hex
  have h3 := h.symm.trans h2
  exact congrArg some (hinj _ _ h1 hk (Option.some.inj h3).symm)
open Classical in
theorem own_un_some {live : Nat → Bool} {k b : Nat} (h : (G.un ρ live).own b = some k) : live k = true ∧ G.own b = some (ρ k) := by
  have h : (if h : ∃ k, live k = true ∧ G.own b = some (ρ k) then some (Classical.choose h) else none) = some k := h
  split at h
  · rename_i hex
    have := Classical.choose_spec hex
    cases h
    exact this
  · cases h
theorem own_un_none {live : Nat → Bool} {b : Nat} (h : G.own b = none) : (G.un ρ live).own b = none := by
  cases hc : (G.un ρ live).own b with
  | none => rfl
  | some k => have := (own_un_some hc).2; rw [h] at this; cases this

theorem RepO.unren (N : Named G1 n1 G2 n2 ρ) (hF : ∀ b j, G2.F b j → G1.F b j) {k : Nat} {o : Ob} (hk : k < n1) (h : RepO G2 n2 w (ρ k) (o.ren ρ)) (hlt : o.lt n1 = true) (hown : ∀ b, G2.own b = some (ρ k) → G1.own b = some k) : RepO G1 n1 w k o := by
  obtain ⟨vs, hp, hc⟩ := h
  refine ⟨vs, hp.unrenV N hF hlt, ?_⟩
  rcases hc with ⟨h0, ht, h1, h2⟩ | ⟨h0, hv, x, ht, h1, h2⟩ | ⟨h0, n, hr, hB, hg⟩
  · rw [N.adr k hk] at h1 h2
    exact .inl ⟨h0, ht, hown _ h1, h2⟩
  · rw [N.adr k hk] at h1 h2
    exact .inr (.inl ⟨h0, hv, x, ht, hown _ h1, h2⟩)
  · rw [N.hdr k hk] at hr hg
    rw [N.adr k hk] at hg
    exact .inr (.inr ⟨h0, n, hr, hB, fun g hgg => ⟨(hg g hgg).1, hown _ (hg g hgg).2⟩⟩)

theorem Rel.wk_un (R : Rel G A a w) {A' : AS} (W : Wk A A' ρ) : Rel (G.un ρ (fun k => (A'.ob k).isSome)) A' a w := by
  have N : Named (G.un ρ (fun k => (A'.ob k).isSome)) A'.nx G A.nx ρ := ⟨W.lt, fun _ _ => rfl, fun _ _ => rfl⟩
  exact
    { defers := R.defers
      size := by rw [W.sz]; exact R.size
      slots := fun t => by
        rcases W.sl t with h | ⟨h, hlt⟩
        · rw [h]; exact .undef _
        · have := R.slots t
          rw [h] at this
          exact this.unren N (fun _ _ h => h) _ rfl hlt
      obs := fun k o h => by
        obtain ⟨h1, h2, h3⟩ := W.ob k o h
        refine ⟨h1, (R.obs _ _ h2).2.unren N (fun _ _ h => h) h1 h3 fun b hb => own_un (fun k k' a b => W.inj k k' a b) (by rw [h]; rfl) hb⟩
      fown := fun b j h => ⟨own_un_none (R.fown b j h).1, (R.fown b j h).2⟩
      own := fun b k h => R.own b _ (own_un_some h).2
      N := ⟨R.N.1.trans W.np.1.symm, W.np.2.1⟩ }
theorem Rel.ext_un (R : Rel G A a w) {A' : AS} (W : Wk A A' ρ) : Ext G w (G.un ρ (fun k => (A'.ob k).isSome)) w :=
  ⟨fun _ _ h => ⟨h, rfl⟩, fun _ _ _ => rfl, fun b hb h => own_un_none h, fun _ _ h => .inl h, Nat.le_refl _, rfl, rfl, rfl, rfl, fun k hk => by
      have e : ρ k = k := W.np.2.2 k (by rw [W.np.1, ← R.N.1]; exact hk)
      exact ⟨by show G.adr (ρ k) = G.adr k; rw [e], by show G.hdr (ρ k) = G.hdr k; rw [e]⟩⟩
theorem Rel.wk (R : Rel G A a w) {A' : AS} (W : Wk A A' ρ) : ∃ G', Rel G' A' a w ∧ Ext G w G' w := ⟨_, R.wk_un W, R.ext_un W⟩

end
end Go.Proofs.Ve

/-
  VeM: code: the rules for its parts; regions in the text's order; functions and calls.
-/
set_option linter.unusedVariables false
set_option linter.unusedSimpArgs false
namespace Go.Proofs.Ve
open Go

inductive AX where
  | normal
  | exit (id : Nat)
  | ret

def QX (Q : AX → AS → Prop) (G : Gh) (w : World) : Exit → Act → World → Prop
  | .normal, a, w' => Post (Q .normal) G w a w'
  | .exit i, a, w' => Post (Q (.exit i)) G w a w'
  | .ret, a, w' => Post (Q .ret) G w a w'
  | _, _, _ => False

def SWP (P : Program) (c : Code) (A : AS) (Q : AX → AS → Prop) : Prop := ∀ G a w, Rel G A a w → c.wp P (QX Q G w) a w

theorem Post.ext {K : AS → Prop} {G G' : Gh} {w w' w'' : World} {a : Act} (E : Ext G w G' w') (h : Post K G' w' a w'') : Post K G w a w'' :=
  let ⟨G2, A2, k, r, e⟩ := h; ⟨G2, A2, k, r, E.trans e⟩
theorem QX.ext {Q : AX → AS → Prop} {G G' : Gh} {w w' w'' : World} {a : Act} {e : Exit} (E : Ext G w G' w') (h : QX Q G' w' e a w'') : QX Q G w e a w'' := by
  cases e <;> first | exact Post.ext E h | exact h.elim
theorem QX.mono {Q Q' : AX → AS → Prop} {G : Gh} {w w' : World} {a : Act} {e : Exit} (hq : ∀ x A, Q x A → Q' x A) (h : QX Q G w e a w') : QX Q' G w e a w' := by
  cases e <;> first | exact Post.mono (hq _) h | exact h.elim

section
variable {P : Program} {A : AS} {Q : AX → AS → Prop}

theorem SWP.mono {c : Code} {Q' : AX → AS → Prop} (h : SWP P c A Q) (hq : ∀ x A, Q x A → Q' x A) : SWP P c A Q' :=
  fun G a w R => wp_mono (h G a w R) fun _ _ _ k => k.mono hq

def thenQ (K : AS → Prop) (Q : AX → AS → Prop) : AX → AS → Prop
  | .normal, A => K A
  | x, A => Q x A

theorem swp_seq {x y : Code} (h : SWP P x A (thenQ (fun A' => SWP P y A' Q) Q)) : SWP P (.seq x y) A Q := fun G a w R => by
  refine wp_seq (wp_mono (h G a w R) fun e a' w' k => ?_)
  cases e with
  | normal =>
    obtain ⟨G', A', k1, r, E⟩ := k
    exact wp_mono (k1 G' a' w' r) fun _ _ _ k2 => k2.ext E
  | exit i => exact k
  | ret => exact k
  | goto l => exact k.elim
  | panic c => exact k.elim
  | outgrown => exact k.elim

theorem swp_skip (h : Q .normal A) : SWP P .skip A Q := fun G a w R => wp_skip ⟨G, A, h, R, Ext.refl _ _⟩
theorem swp_exit {i : Nat} (h : Q (.exit i) A) : SWP P (.exit i) A Q := fun G a w R => wp_exit ⟨G, A, h, R, Ext.refl _ _⟩
theorem swp_ret (h : Q .ret A) : SWP P .ret A Q := fun G a w R => wp_ret ⟨G, A, h, R, Ext.refl _ _⟩
theorem swp_cond {c : Operand} {x y : Code} {b : Bool} (hc : A.ev c = .one (.bool b)) (h1 : b = true → SWP P x A Q) (h2 : b = false → SWP P y A Q) : SWP P (.cond c x y) A Q := fun G a w R => by
  have hv := R.ev c
  rw [hc] at hv
  exact wp_cond_split (inv_bool hv) (fun e => h1 e G a w R) (fun e => h2 e G a w R)

def blockQ (i : Nat) (Q : AX → AS → Prop) : AX → AS → Prop
  | .exit j, A => if j = i then Q .normal A else Q (.exit j) A
  | x, A => Q x A
theorem swp_block {i : Nat} {c : Code} (h : SWP P c A (blockQ i Q)) : SWP P (.block i c) A Q := fun G a w R => by
  refine wp_block (wp_mono (h G a w R) fun e a' w' k => ?_)
  cases e with
  | normal => exact k
  | exit j =>
    obtain ⟨G', A', k1, r, E⟩ := k
    show if j = i then _ else _
    have k1 : if j = i then Q .normal A' else Q (.exit j) A' := k1
    by_cases e : j = i
    · rw [if_pos e] at k1 ⊢; exact ⟨G', A', k1, r, E⟩
    · rw [if_neg e] at k1 ⊢; exact ⟨G', A', k1, r, E⟩
  | ret => exact k
  | goto l => exact k.elim
  | panic c => exact k.elim
  | outgrown => exact k.elim

theorem swp_wk {c : Code} {A' : AS} {ρ : Nat → Nat} (W : Wk A A' ρ) (h : SWP P c A' Q) : SWP P c A Q := fun G a w R => by
  obtain ⟨G', r, E⟩ := R.wk W
  exact wp_mono (h G' a w r) fun _ _ _ k => k.ext E

/-- A loop: σ is what is carried round; C says the state at the head; μ goes down. -/
theorem swp_loop {σ : Type} (C : σ → AS) (I : σ → Prop) (μ : σ → Nat) (s0 : σ) (ρ : Nat → Nat) (h0 : Wk A (C s0) ρ) (hI : I s0) {c : Code}
    (h : ∀ s, I s → SWP P c (C s) (thenQ (fun A' => ∃ s' ρ', I s' ∧ μ s' < μ s ∧ Wk A' (C s') ρ') Q)) : SWP P (.loop c) A Q := fun G a w R => by
  have key : ∀ (n : Nat) (s : σ), I s → μ s < n → ∀ G a w, Rel G (C s) a w → Code.rounds P c (QX Q G w) n a w := by
    intro n
    induction n with
    | zero => intro s _ hn; omega
    | succ n ih =>
      intro s hs hn G a w R
      rw [rounds_succ]
      refine wp_mono (h s hs G a w R) fun e a' w' k => ?_
      cases e with
      | normal =>
        obtain ⟨G', A', ⟨s', ρ', hs', hμ, W⟩, r, E⟩ := k
        obtain ⟨G2, r2, E2⟩ := r.wk W
        have := ih s' hs' (by omega) G2 a' w' r2
        have mono : ∀ (m : Nat) (a : Act) (w1 : World), Code.rounds P c (QX Q G2 w') m a w1 → Code.rounds P c (QX Q G w) m a w1 := by
          intro m
          induction m with
          | zero => intro a w1 h; exact h
          | succ m ihm =>
            intro a w1 h
            rw [rounds_succ] at h ⊢
            refine wp_mono h fun e a w2 k => ?_
            cases e with
            | normal => exact ihm a w2 k
            | exit i => exact QX.ext (e := .exit i) (E.trans E2) k
            | ret => exact QX.ext (e := .ret) (E.trans E2) k
            | goto l => exact k.elim
            | panic c => exact k.elim
            | outgrown => exact k.elim
        exact mono n a' w' this
      | exit i => exact k
      | ret => exact k
      | goto l => exact k.elim
      | panic c => exact k.elim
      | outgrown => exact k.elim
  obtain ⟨G', r, E⟩ := R.wk h0
  have h1 := wp_loop_rounds _ (key (μ s0 + 1) s0 hI (Nat.lt_succ_self _) G' a w r)
  exact wp_mono h1 fun _ _ _ k => k.ext E

/-! ### regions in the text's order -/
def dstsOk (sz : Nat) (ops : List Oper) : Bool := ops.all fun o => match o.dst with | some d => decide (d < sz) | none => true

theorem repUndef (G : Gh) (nx : Nat) (w : World) : RepAV G nx w (.tup []) undef := .tup (vs := []) rfl (fun j x y h => by simp at h)
/-- Is the operation carried out? (what its guard says) -/
def gdv (all : Array Oper) (o : Oper) (A : AS) : Option Bool :=
  match o.guard with
  | none => some true
  | some (j, want) => match (all[j]?).bind (·.dst) with
    | some d => match A.sl d with
      | .one (.bool b) => some (b == want)
      | .tup [] => some false
      | _ => none
    | none => none

theorem gdv_wanted {G : Gh} {a : Act} {w : World} (R : Rel G A a w) {all : Array Oper} {o : Oper} {b : Bool} (h : gdv all o A = some b) : Region.wanted o (yielded all a.tmps) = b := by
  unfold gdv at h
  unfold Region.wanted
  cases hg : o.guard with
  | none => rw [hg] at h; simpa using h
  | some jw =>
    obtain ⟨j, want⟩ := jw
    rw [hg] at h
    simp only at h ⊢
    cases hd : (all[j]?).bind (·.dst) with
    | none => rw [hd] at h; cases h
    | some d =>
      rw [hd] at h
      simp only at h
      split at h
      · rename_i c hc
        have hv := R.slots d
        rw [hc] at hv
        have hv := inv_bool hv
        have hlt : d < a.tmps.size := by
          rcases Nat.lt_or_ge d a.tmps.size with h' | h'
          · exact h'
          · simp [Array.getD_eq_getD_getElem?, Array.getElem?_eq_none h', undef] at hv
        have hq : a.tmps[d]? = some (.bool c) := by
          rw [Array.getD_eq_getD_getElem?, Array.getElem?_eq_getElem hlt] at hv
          rw [Array.getElem?_eq_getElem hlt]
          simpa using hv
        have hy : yielded all a.tmps j = some c := by
          unfold yielded
          rw [hd]
          simp [hq]
        rw [hy]
        simp only [Option.some.injEq] at h
        rw [← h]
        cases c <;> cases want <;> rfl
      · rename_i hc
        have hv := R.slots d
        rw [hc] at hv
        have hval : a.tmps.getD d undef = undef := by
          generalize a.tmps.getD d undef = v at hv
          cases hv with
          | @tup _ vs hl _ =>
            have : vs = [] := List.eq_nil_of_length_eq_zero hl.symm
            subst this
            rfl
        have hy : yielded all a.tmps j = none := by
          unfold yielded
          rw [hd]
          simp only [Option.bind_some]
          rcases Nat.lt_or_ge d a.tmps.size with h' | h'
          · rw [Array.getD_eq_getD_getElem?, Array.getElem?_eq_getElem h'] at hval
            rw [Array.getElem?_eq_getElem h']
            have hval : a.tmps[d] = undef := by simpa using hval
            rw [hval]
            rfl
          · rw [Array.getElem?_eq_none h']
        rw [hy]
        simp only [Option.some.injEq] at h
        rw [← h]
        rfl
      · cases h

/-- An operation's rule: what must hold that K holds behind it. -/
abbrev ORule := Oper → AS → (AS → Prop) → Prop
def ORule.Sound (P : Program) (W : ORule) : Prop :=
  ∀ (o : Oper) (A : AS) (K : AS → Prop), W o A K → (∀ t, o.dst = some t → t < A.sz) → ∀ G a w Q, Rel G A a w → o.wp P a w (Post K G w) Q

def rwp (W : ORule) (all : Array Oper) : List Oper → AS → (AS → Prop) → Prop
  | [], A, K => K A
  | o :: rest, A, K => (gdv all o A).isSome = true ∧ (gdv all o A = some true → W o A (fun A' => A'.sz = A.sz ∧ rwp W all rest A' K)) ∧ (gdv all o A = some false → rwp W all rest (A.put o.dst (.tup [])) K)

theorem rwp_sound {W : ORule} (hW : W.Sound P) {all : Array Oper} {Qm : Exit → Act → World → Prop} {sz : Nat} {K : AS → Prop} {G0 : Gh} {w0 : World} (hQ : ∀ a w, Post K G0 w0 a w → Qm .normal a w) :
    ∀ (rest : List Oper) (k : Nat) (A : AS) (G : Gh) (a : Act) (w : World), (∀ j, rest[j]? = all[k + j]?) → k + rest.length = all.size → dstsOk sz rest = true → A.sz = sz → Rel G A a w → Ext G0 w0 G w → rwp W all rest A K →
      wpOps P all Qm (List.range' k rest.length) a w
  | [], k, A, G, a, w, _, _, _, _, R, E, h => hQ a w ⟨G, A, h, R, E⟩
  | o :: rest, k, A, G, a, w, hidx, hlen, hd, hsz, R, E, h => by
    have ho : all[k]? = some o := by have := hidx 0; rw [Nat.add_zero] at this; rw [← this]; simp
    have hidx' : ∀ j, rest[j]? = all[k + 1 + j]? := fun j => by rw [show k + 1 + j = k + (j + 1) by omega, ← hidx (j + 1)]; simp
    have hd1 : ∀ t, o.dst = some t → t < A.sz := fun t ht => by
      simp only [dstsOk, List.all_cons, Bool.and_eq_true] at hd
      have := hd.1
      rw [ht] at this
      rw [hsz]
      simpa using this
    have hd2 : dstsOk sz rest = true := by
      simp only [dstsOk, List.all_cons, Bool.and_eq_true] at hd
      exact hd.2
    obtain ⟨h1, h2, h3⟩ := h
    rw [List.length_cons, List.range'_succ, wpOps_cons]
    unfold wpOp
    rw [ho]
    simp only
    cases hg : gdv all o A with
    | none => rw [hg] at h1; cases h1
    | some b =>
      rw [gdv_wanted R hg]
      cases b with
      | true =>
        simp only [if_true]
        refine .inl (Oper.wp_mono (fun a' w' k => ?_) (hW o A _ (h2 hg) hd1 G a w Qm R))
        obtain ⟨G', A', ⟨hz, k1⟩, r, E'⟩ := k
        exact rwp_sound hW hQ rest (k + 1) A' G' a' w' hidx' (by simp at hlen; omega) hd2 (hz.trans hsz) r (E.trans E') k1
      | false =>
        simp only [Bool.false_eq_true, if_false]
        refine rwp_sound hW hQ rest (k + 1) _ G _ w hidx' (by simp at hlen; omega) hd2 ?_ (R.put hd1 (repUndef G A.nx w)) E (h3 hg)
        cases o.dst <;> exact hsz

theorem swp_region {W : ORule} (hW : W.Sound P) {id : Nat} {ops : Array Oper} (hd : dstsOk A.sz ops.toList = true) (h : rwp W ops ops.toList A (Q .normal)) : SWP P (.region id ops false) A Q := fun G a w R => by
  refine wp_region ?_
  have := rwp_sound (P := P) hW (all := ops) (Qm := QX Q G w) (K := Q .normal) (G0 := G) (w0 := w) (fun a w k => k) ops.toList 0 A G a w (fun j => by simp) (by simp) hd rfl R (Ext.refl _ _) h
  rw [List.range_eq_range']
  simpa using this

end
end Go.Proofs.Ve

/-
  VeN: functions and calls.
-/
set_option linter.unusedVariables false
set_option linter.unusedSimpArgs false
namespace Go.Proofs.Ve
open Go

/-- What a call leaves: a result, the objects that were passed, new ones that the result leads to. -/
def FPost (post : AV → List Ob → List Ob → Prop) (n : Nat) (G : Gh) (w : World) : Ending → World → Prop := fun e w' =>
  ∃ G' v r obs' news, post r obs' news ∧ e = .returned v ∧ obs'.length = n ∧ RepAV G' (n + news.length) w' r v ∧
    (∀ (k : Nat) o, (obs' ++ news)[k]? = some o → RepO G' (n + news.length) w' k o) ∧ Ext G w G' w' ∧
    (∀ b j, G'.F b j → G'.own b = none ∧ b < w'.heap.size) ∧ (∀ b k, G'.own b = some k → b < w'.heap.size)

def FSpec (P : Program) (f : FuncId) (args : List AV) (obs : List Ob) (post : AV → List Ob → List Ob → Prop) : Prop :=
  ∀ (G : Gh) (w : World) (vs : List Value), G.N = obs.length → Pw (RepAV G obs.length w) args vs → (∀ (k : Nat) o, obs[k]? = some o → RepO G obs.length w k o) →
    (∀ b j, G.F b j → G.own b = none ∧ b < w.heap.size) → (∀ b k, G.own b = some k → b < w.heap.size) → Calls P f vs.toArray w (FPost post obs.length G w)

def resOne (L : Lay) (A : AS) : ResultVar → Option AV
  | .tmp t => some (A.sl t)
  | .cell t T => match A.sl t with
    | .one (.ptr id p) => match A.ob id with
      | some ob => match L T with
        | some i => valOf i ((ob.cells.drop p).take i.size)
        | none => none
      | none => none
    | _ => none
def resAll (L : Lay) (A : AS) : List ResultVar → Option (List AV)
  | [] => some []
  | x :: r => match resOne L A x, resAll L A r with
    | some v, some l => some (v :: l)
    | _, _ => none
def resV (L : Lay) (A : AS) (rs : List ResultVar) : Option AV := match resAll L A rs with
  | some [v] => some v
  | some l => some (.tup l)
  | none => none

/-- The state in which a body begins. -/
def AS.enter (args : List AV) (obs : List Ob) (ntmps : Nat) : AS := { sz := args.length + (ntmps - args.length), np := obs.length, nx := obs.length, sl := fun t => args.getD t .undef, ob := fun k => obs[k]? }
/-- What is left of a state when the frame goes. -/
def AS.left (A : AS) (n : Nat) (obs : List Ob) : AS := { sz := A.sz, np := n, nx := obs.length, sl := fun _ => .undef, ob := fun k => obs[k]? }

def RetOk (L : Lay) (rs : List ResultVar) (n : Nat) (post : AV → List Ob → List Ob → Prop) (A : AS) : Prop :=
  ∃ r obs' news ρ, post r obs' news ∧ obs'.length = n ∧ resV L A rs = some (r.ren ρ) ∧ r.lt (n + news.length) = true ∧ Wk A (A.left n (obs' ++ news)) ρ

section
variable {P : Program} {L : Lay} {A : AS} {G : Gh} {a : Act} {w : World}

theorem run_resOne (hL : L.Ok P) (R : Rel G A a w) {x : ResultVar} {r : AV} (h : resOne L A x = some r) : ∃ v, (match x with
    | .tmp t => pure (a.tmps.getD t undef)
    | .cell t T => do loadVar T (← asAddr (a.tmps.getD t undef)) : Sem Value).run P w = .ok v w ∧ RepAV G A.nx w r v := by
  cases x with
  | tmp t =>
    simp only [resOne, Option.some.injEq] at h
    subst h
    exact ⟨_, by simp, R.slots t⟩
  | cell t T =>
    unfold resOne at h
    simp only at h
    split at h
    · rename_i id p hx
      split at h
      · rename_i ob hob
        split at h
        · rename_i i hi
          have hs := R.slots t
          rw [hx] at hs
          obtain ⟨hid, hval⟩ := inv_ptr hs
          obtain ⟨vs, hp, hc, _⟩ := (R.obs id ob hob).2.open
          obtain ⟨v, hr, hrep⟩ := run_loadVar (P := P) (G := G) (w := w) hL hi (b := G.adr id) (p := p) ((hp.drop p).take i.size) (fun j y hy => by
            rw [List.getElem?_take] at hy
            split at hy
            · rw [List.getElem?_drop] at hy; exact hc _ y hy
            · cases hy) h
          exact ⟨v, by simp [hval, asAddr, hr], hrep⟩
        · cases h
      · cases h
    · cases h

theorem run_resAll (hL : L.Ok P) (R : Rel G A a w) : ∀ (rs : List ResultVar) (l : List AV), resAll L A rs = some l → ∃ vs : List Value,
    (rs.mapM (fun | .tmp t => pure (a.tmps.getD t undef) | .cell t T => do loadVar T (← asAddr (a.tmps.getD t undef)) : ResultVar → Sem Value)).run P w = .ok vs w ∧ Pw (RepAV G A.nx w) l vs
  | [], l, h => by simp [resAll] at h; subst h; exact ⟨[], by simp, .nil⟩
  | x :: rs, l, h => by
    unfold resAll at h
    split at h
    · rename_i v l' h1 h2
      cases h
      obtain ⟨u, hu, hrep⟩ := run_resOne hL R h1
      obtain ⟨us, hus, hpw⟩ := run_resAll hL R rs l' h2
      refine ⟨u :: us, ?_, .cons hrep hpw⟩
      simp only [List.mapM_cons, Sem.run_bind]
      rw [hu]
      simp only [Result.andThen_ok, Sem.run_bind]
      rw [hus]
      simp
    · cases h

theorem run_results (hL : L.Ok P) (R : Rel G A a w) {fn : Func} {r : AV} (h : resV L A fn.results.toList = some r) : ∃ v, (results fn a.tmps).run P w = .ok v w ∧ RepAV G A.nx w r v := by
  unfold resV at h
  cases hr : resAll L A fn.results.toList with
  | none => rw [hr] at h; cases h
  | some l =>
    rw [hr] at h
    obtain ⟨vs, h1, h2⟩ := run_resAll hL R _ l hr
    have hrun : (results fn a.tmps).run P w = .ok (if h : vs.toArray.size = 1 then vs.toArray[0] else .tuple vs.toArray) w := by
      unfold results
      simp only [Sem.run_bind, Array.mapM_eq_mapM_toList]
      have e : ∀ (f : ResultVar → Sem Value), (List.toArray <$> fn.results.toList.mapM f).run P w = ((fn.results.toList.mapM f).run P w).andThen fun l w => .ok l.toArray w := fun f => by simp
      rw [e]
      erw [h1]
      simp
    refine ⟨_, hrun, ?_⟩
    match l, vs, h2, h with
    | [v], [u], h2, h =>
      simp only [Option.some.injEq] at h
      subst h
      exact h2.head
    | [], [], h2, h =>
      simp only [Option.some.injEq] at h
      subst h
      exact .tup h2.1 h2.2
    | x :: y :: l, u :: v :: us, h2, h =>
      simp only [Option.some.injEq] at h
      subst h
      exact .tup h2.1 h2.2
    | [], u :: us, h2, _ => have := h2.1; simp at this
    | [v], [], h2, _ => have := h2.1; simp at this
    | [v], u :: u2 :: us, h2, _ => have := h2.1; simp at this
    | x :: y :: l, [], h2, _ => have := h2.1; simp at this
    | x :: y :: l, [u], h2, _ => have := h2.1; simp at this

/-- A function's contract out of its body. -/
theorem fspec_of_body (hL : L.Ok P) {f : FuncId} {fn : Func} {c : Code} {args : List AV} {obs : List Ob} {post : AV → List Ob → List Ob → Prop} (hf : P.funcs[f]? = some fn) (hb : fn.body = some c)
    (h : SWP P c (AS.enter args obs fn.ntmps) (fun x A' => match x with | .exit _ => False | _ => RetOk L fn.results.toList obs.length post A')) : FSpec P f args obs post := by
  intro G w vs hN hargs hobs hF hown
  refine calls_of_wp hf hb ?_
  have R : Rel G (AS.enter args obs fn.ntmps) { tmps := vs.toArray ++ Array.replicate (fn.ntmps - vs.toArray.size) undef, defers := [] } w :=
    { defers := rfl
      size := by simp [AS.enter, hargs.1]
      slots := fun t => by
        show RepAV G obs.length w (args.getD t .undef) _
        rcases Nat.lt_or_ge t args.length with ht | ht
        · have ht2 : t < vs.length := by rw [← hargs.1]; exact ht
          have := hargs.2 t args[t] vs[t] (List.getElem?_eq_getElem ht) (List.getElem?_eq_getElem ht2)
          simpa [List.getD_eq_getElem?_getD, ht, Array.getD_eq_getD_getElem?, Array.getElem?_append, ht2] using this
        · have : args.getD t .undef = .undef := by simp [List.getD_eq_getElem?_getD, List.getElem?_eq_none ht]
          rw [this]
          exact .undef _
      obs := fun k o ho => by
        have ho : obs[k]? = some o := ho
        refine ⟨?_, hobs k o ho⟩
        show k < obs.length
        rcases Nat.lt_or_ge k obs.length with h' | h'
        · exact h'
        · rw [List.getElem?_eq_none h'] at ho
          cases ho
      fown := hF
      own := hown
      N := ⟨hN, Nat.le_refl _⟩ }
  refine wp_mono (h G _ w R) fun e a' w' k => ?_
  have key : Post (RetOk L fn.results.toList obs.length post) G w a' w' → a'.defers = [] ∧ ∃ v, (results fn a'.tmps).run P w' = .ok v w' ∧ FPost post obs.length G w (.returned v) w' := by
    rintro ⟨G', A', ⟨r, obs', news, ρ, hpost, hlen, hres, hlt, W⟩, R', E⟩
    obtain ⟨v, hv, hrep⟩ := run_results hL R' hres
    obtain ⟨G2, R2, E2⟩ := R'.wk W
    have hG2 : ∃ G2, RepAV G2 (obs'.length + news.length) w' r v ∧ Rel G2 (A'.left obs.length (obs' ++ news)) a' w' ∧ Ext G' w' G2 w' := by
      have N : Named (G'.un ρ (fun k => ((A'.left obs.length (obs' ++ news)).ob k).isSome)) (A'.left obs.length (obs' ++ news)).nx G' A'.nx ρ := ⟨W.lt, fun _ _ => rfl, fun _ _ => rfl⟩
      have hx : (A'.left obs.length (obs' ++ news)).nx = obs'.length + news.length := by simp [AS.left]
      rw [hx] at N
      refine ⟨_, hrep.unren N (fun _ _ h => h) r rfl (by rw [hlen]; exact hlt), R'.wk_un W, R'.ext_un W⟩
    obtain ⟨G2, hr2, R2, E2⟩ := hG2
    refine ⟨R'.defers, v, hv, G2, v, r, obs', news, hpost, rfl, hlen, by rw [← hlen]; exact hr2, fun k o ho => ?_, E.trans E2, R2.fown, R2.own⟩
    have := (R2.obs k o ho).2
    have hx : (A'.left obs.length (obs' ++ news)).nx = obs.length + news.length := by simp [AS.left, hlen]
    rw [hx] at this
    exact this
  cases e with
  | normal => exact key k
  | ret => exact key k
  | exit i => obtain ⟨_, _, k, _⟩ := k; exact k.elim
  | goto l => exact k.elim
  | panic c => exact k.elim
  | outgrown => exact k.elim

end
end Go.Proofs.Ve

/-
  VeO: calls by contract.
-/
set_option linter.unusedVariables false
set_option linter.unusedSimpArgs false
namespace Go.Proofs.Ve
open Go

def cren (ρ : Nat → Nat) (n nx : Nat) (k : Nat) : Nat := if k < n then ρ k else nx + (k - n)

/-- The state behind a call: pos says which passed object stands at a number. -/
def AS.back (A : AS) (ρ : Nat → Nat) (n : Nat) (pos : Nat → Option Nat) (obs' news : List Ob) : AS :=
  { A with nx := A.nx + news.length,
           ob := fun id => if id < A.nx then (match pos id with
             | some k => (obs'[k]?).map (·.ren (cren ρ n A.nx))
             | none => A.ob id) else (match news[id - A.nx]? with
             | some o => some (o.ren (cren ρ n A.nx))
             | none => A.ob id) }

structure Passed (A : AS) (avs args : List AV) (obs : List Ob) (ρ : Nat → Nat) (pos : Nat → Option Nat) : Prop where
  arg : avs = args.map (·.ren ρ)
  lt : ∀ x : AV, x ∈ args → x.lt obs.length = true
  nx : ∀ k, k < obs.length → ρ k < A.nx
  pos : ∀ id k, pos id = some k ↔ k < obs.length ∧ ρ k = id
  ob : ∀ (k : Nat) o, obs[k]? = some o → A.ob (ρ k) = some (o.ren ρ) ∧ o.lt obs.length = true

section
variable {P : Program} {L : Lay} {A : AS} {G G1 G2 : Gh} {a : Act} {w w' : World} {n1 n2 : Nat} {ρ : Nat → Nat}

theorem RepO.ren (N : Named G1 n1 G2 n2 ρ) (hF : ∀ b j, G1.F b j → G2.F b j) {k : Nat} {o : Ob} (hk : k < n1) (h : RepO G1 n1 w k o) (hown : ∀ b, G1.own b = some k → G2.own b = some (ρ k)) : RepO G2 n2 w (ρ k) (o.ren ρ) := by
  obtain ⟨vs, hp, hc⟩ := h
  refine ⟨vs, hp.renV N hF, ?_⟩
  rcases hc with ⟨h0, ht, h1, h2⟩ | ⟨h0, hv, x, ht, h1, h2⟩ | ⟨h0, n, hr, hB, hg⟩
  · refine .inl ⟨h0, ht, ?_, ?_⟩
    · rw [N.adr k hk]; exact hown _ h1
    · rw [N.adr k hk]; exact h2
  · refine .inr (.inl ⟨h0, hv, x, ht, ?_, ?_⟩)
    · rw [N.adr k hk]; exact hown _ h1
    · rw [N.adr k hk]; exact h2
  · refine .inr <| .inr ⟨h0, n, ?_, hB, fun g hgg => ?_⟩
    · rw [N.hdr k hk]; exact hr
    · rw [N.hdr k hk] at hgg
      rw [N.adr k hk]
      exact ⟨(hg g hgg).1, hown _ (hg g hgg).2⟩

/-- The caller's ghost behind the call. -/
noncomputable def Gh.back (G G2 : Gh) (ρ : Nat → Nat) (n nx m hs : Nat) : Gh :=
  { adr := fun id => if id < nx then G.adr id else G2.adr (n + (id - nx))
    hdr := fun id => if id < nx then G.hdr id else G2.hdr (n + (id - nx))
    own := fun b => match G2.own b with
      | some k => some (cren ρ n nx k)
      | none => if b < hs ∧ (G.un ρ (fun k => decide (k < n))).own b = none then G.own b else none
    F := G2.F
    N := G.N }

theorem call_sound (R : Rel G A a w) {f : FuncId} {avs args : List AV} {vs : List Value} {obs : List Ob} {pos : Nat → Option Nat} {post : AV → List Ob → List Ob → Prop}
    (hS : FSpec P f args obs post) (hP : Passed A avs args obs ρ pos) (hvs : Pw (RepAV G A.nx w) avs vs) :
    Calls P f vs.toArray w (fun e w' => ∃ G' v r obs' news, post r obs' news ∧ obs'.length = obs.length ∧ e = .returned v ∧ RepAV G' (A.nx + news.length) w' (r.ren (cren ρ obs.length A.nx)) v ∧
      Rel G' (A.back ρ obs.length pos obs' news) a w' ∧ Ext G w G' w') := by
  have hinj : ∀ k k', decide (k < obs.length) = true → decide (k' < obs.length) = true → ρ k = ρ k' → k = k' := fun k k' h1 h2 e => by
    have e1 := (hP.pos (ρ k) k).2 ⟨by simpa using h1, rfl⟩
    have e2 := (hP.pos (ρ k) k').2 ⟨by simpa using h2, e.symm⟩
    rw [e1] at e2
    exact Option.some.inj e2
  have N0 : Named { G.un ρ (fun k => decide (k < obs.length)) with N := obs.length } obs.length G A.nx ρ := ⟨hP.nx, fun _ _ => rfl, fun _ _ => rfl⟩
  refine (hS { G.un ρ (fun k => decide (k < obs.length)) with N := obs.length } w vs rfl ?_ ?_ (fun b j h => ⟨own_un_none (R.fown b j h).1, (R.fown b j h).2⟩) (fun b k h => R.own b _ (own_un_some (G := G) (ρ := ρ) (live := fun k => decide (k < obs.length)) h).2)).mono ?_
  · have hvs' := hvs
    rw [hP.arg] at hvs'
    refine ⟨by simpa using hvs'.1, fun j x y hx hy => ?_⟩
    exact (hvs'.2 j (x.ren ρ) y (by rw [List.getElem?_map, hx]; rfl) hy).unren N0 (fun _ _ h => h) x rfl (hP.lt x (List.mem_of_getElem? hx))
  · intro k o ho
    obtain ⟨h1, h2⟩ := hP.ob k o ho
    have hk : k < obs.length := by
      rcases Nat.lt_or_ge k obs.length with h' | h'
      · exact h'
      · rw [List.getElem?_eq_none h'] at ho; cases ho
    exact (R.obs _ _ h1).2.unren N0 (fun _ _ h => h) hk h2 fun b hb => own_un hinj (by simpa using hk) hb
  · rintro e w' ⟨G2, v, r, obs', news, hpost, rfl, hlen, hrep, hobs, E, hfown, hown⟩
    have hFn : ∀ b j, G2.F b j → G.F b j ∨ w.heap.size ≤ b ∨ (G.un ρ (fun k => decide (k < obs.length))).own b ≠ none := E.Fn
    have hG : ∀ b, b < w.heap.size → G.own b = none → G2.own b = none := fun b hb h => E.own b hb (own_un_none h)
    have N1 : Named G2 (obs.length + news.length) (G.back G2 ρ obs.length A.nx news.length w.heap.size) (A.nx + news.length) (cren ρ obs.length A.nx) := by
      refine ⟨fun k hk => ?_, fun k hk => ?_, fun k hk => ?_⟩
      · unfold cren
        split
        · rename_i h; have := hP.nx k h; omega
        · omega
      · show (if cren ρ obs.length A.nx k < A.nx then G.adr (cren ρ obs.length A.nx k) else G2.adr (obs.length + (cren ρ obs.length A.nx k - A.nx))) = G2.adr k
        by_cases h : k < obs.length
        · have e1 : cren ρ obs.length A.nx k = ρ k := if_pos h
          rw [e1, if_pos (hP.nx k h)]
          exact (E.keep k h).1.symm
        · have e1 : cren ρ obs.length A.nx k = A.nx + (k - obs.length) := if_neg h
          rw [e1, if_neg (by omega)]
          congr 1; omega
      · show (if cren ρ obs.length A.nx k < A.nx then G.hdr (cren ρ obs.length A.nx k) else G2.hdr (obs.length + (cren ρ obs.length A.nx k - A.nx))) = G2.hdr k
        by_cases h : k < obs.length
        · have e1 : cren ρ obs.length A.nx k = ρ k := if_pos h
          rw [e1, if_pos (hP.nx k h)]
          exact (E.keep k h).2.symm
        · have e1 : cren ρ obs.length A.nx k = A.nx + (k - obs.length) := if_neg h
          rw [e1, if_neg (by omega)]
          congr 1; omega
    have hown2 : ∀ b k, G2.own b = some k → (G.back G2 ρ obs.length A.nx news.length w.heap.size).own b = some (cren ρ obs.length A.nx k) := fun b k h => by
      show (match G2.own b with | some k => some (cren ρ obs.length A.nx k) | none => _) = _
      rw [h]
    have hownN : ∀ b, G2.own b = none → (G.back G2 ρ obs.length A.nx news.length w.heap.size).own b = if b < w.heap.size ∧ (G.un ρ (fun k => decide (k < obs.length))).own b = none then G.own b else none := fun b h => by
      show (match G2.own b with | some k => some (cren ρ obs.length A.nx k) | none => _) = _
      rw [h]
    have hA : Adv G A.nx w (G.back G2 ρ obs.length A.nx news.length w.heap.size) (A.nx + news.length) w' :=
      ⟨fun b j h => E.F b j h, fun id h => if_pos h, fun id h => if_pos h, by omega⟩
    refine ⟨G.back G2 ρ obs.length A.nx news.length w.heap.size, v, r, obs', news, hpost, hlen, rfl, hrep.ren N1 (fun _ _ h => h), ?_, ?_⟩
    · exact
        { defers := R.defers
          size := R.size
          slots := fun t => (R.slots t).adv hA
          obs := fun id o h => by
            have h : (if id < A.nx then (match pos id with
              | some k => (obs'[k]?).map (·.ren (cren ρ obs.length A.nx))
              | none => A.ob id) else (match news[id - A.nx]? with
              | some o => some (o.ren (cren ρ obs.length A.nx))
              | none => A.ob id)) = some o := h
            show id < A.nx + news.length ∧ RepO _ (A.nx + news.length) w' id o
            split at h
            · rename_i hlt
              refine ⟨by omega, ?_⟩
              cases hp : pos id with
              | some k =>
                rw [hp] at h
                obtain ⟨o1, ho1, rfl⟩ := Option.map_eq_some_iff.1 h
                obtain ⟨hk, hk2⟩ := (hP.pos id k).1 hp
                have hr := hobs k o1 (by rw [List.getElem?_append_left (by omega)]; exact ho1)
                have := hr.ren N1 (fun _ _ h => h) (by omega) (fun b hb => hown2 b k hb)
                have e1 : cren ρ obs.length A.nx k = id := by unfold cren; rw [if_pos hk, hk2]
                rw [e1] at this
                exact this
              | none =>
                rw [hp] at h
                obtain ⟨h1, h2⟩ := R.obs id o h
                refine h2.of_heap hA h1 fun ho => ?_
                have hb := R.own _ _ ho
                have hnone : (G.un ρ (fun k => decide (k < obs.length))).own (G.adr id) = none := by
                  cases hc : (G.un ρ (fun k => decide (k < obs.length))).own (G.adr id) with
                  | none => rfl
                  | some k =>
                    obtain ⟨h3, h4⟩ := own_un_some hc
                    rw [ho] at h4
                    have := (hP.pos id k).2 ⟨by simpa using h3, (Option.some.inj h4).symm⟩
                    rw [hp] at this; cases this
                refine ⟨?_, E.blk _ hb hnone⟩
                rw [hownN _ (E.own _ hb hnone), if_pos ⟨hb, hnone⟩]
                exact ho
            · rename_i hge
              obtain ⟨o1, ho1, rfl⟩ : ∃ o1, news[id - A.nx]? = some o1 ∧ o1.ren (cren ρ obs.length A.nx) = o := by
                cases hq : news[id - A.nx]? with
                | some o1 => rw [hq] at h; exact ⟨o1, rfl, Option.some.inj h⟩
                | none =>
                  rw [hq] at h
                  have := (R.obs id o h).1
                  omega
              have hlt : id - A.nx < news.length := by
                rcases Nat.lt_or_ge (id - A.nx) news.length with h' | h'
                · exact h'
                · rw [List.getElem?_eq_none h'] at ho1; cases ho1
              refine ⟨by omega, ?_⟩
              have hr := hobs (obs.length + (id - A.nx)) o1 (by rw [List.getElem?_append_right (by omega)]; rw [← ho1]; congr 1; omega)
              have := hr.ren N1 (fun _ _ h => h) (by omega) (fun b hb => hown2 b _ hb)
              have e1 : cren ρ obs.length A.nx (obs.length + (id - A.nx)) = id := by unfold cren; rw [if_neg (by omega)]; omega
              rw [e1] at this
              exact this
          fown := fun b j h => by
            have h1 := hfown b j h
            refine ⟨?_, h1.2⟩
            rw [hownN b h1.1]
            split
            · rename_i hc
              rcases hFn b j h with h2 | h2 | h2
              · exact (R.fown b j h2).1
              · omega
              · exact absurd hc.2 h2
            · rfl
          own := fun b id h => by
            cases hc : G2.own b with
            | some k => exact hown b k hc
            | none =>
              rw [hownN b hc] at h
              split at h
              · rename_i hh; exact Nat.lt_of_lt_of_le hh.1 E.size
              · cases h
          N := ⟨R.N.1, Nat.le_trans R.N.2 (Nat.le_add_right _ _)⟩ }
    · refine ⟨fun b j h => E.F b j h, fun b hb ho => E.blk b hb (own_un_none ho), fun b hb ho => ?_, fun b j h => ?_, E.size, E.os, E.tape, E.output, rfl, fun k hk => ?_⟩
      · rw [hownN b (hG b hb ho)]
        split
        · exact ho
        · rfl
      · rcases hFn b j h with h2 | h2 | h2
        · exact .inl h2
        · exact .inr (.inl h2)
        · exact .inr (.inr fun h3 => h2 (own_un_none h3))
      · have := R.N
        have hlt : k < A.nx := by omega
        exact ⟨if_pos hlt, if_pos hlt⟩

/-- A function that is called: it has a body, and is none of the runtime's own. -/
def callee (P : Program) (f : FuncId) : Prop := ∃ fn, P.funcs[f]? = some fn ∧ fn.body.isNone = false ∧ (fn.name == "runtime.NumGoroutine") = false

theorem wp_call (R : Rel G A a w) {o : Oper} {K : AS → Prop} {Q : Exit → Act → World → Prop} {f : FuncId} {fv : Operand} {caps : List AC} {xs : Array Operand} {ts : Array TypeId} {args : List AV} {obs : List Ob} {pos : Nat → Option Nat} {post : AV → List Ob → List Ob → Prop}
    (hd : ∀ t, o.dst = some t → t < A.sz) (ho : o.op = .call ⟨.value fv, xs, ts⟩) (hfv : A.ev fv = .one (.fn f caps)) (hc : callee P f) (hS : FSpec P f args obs post)
    (hP : Passed A (xs.toList.map A.ev ++ caps.map .one) args obs ρ pos)
    (hK : ∀ r obs' news, post r obs' news → obs'.length = obs.length → K ((A.back ρ obs.length pos obs' news).put o.dst (r.ren (cren ρ obs.length A.nx)))) : o.wp P a w (Post K G w) Q := by
  obtain ⟨fn, hf1, hf2, hf3⟩ := hc
  have hfr := R.ev fv
  rw [hfv] at hfr
  obtain ⟨cvs, hval, hpw⟩ := inv_fn hfr
  have hvs : Pw (RepAV G A.nx w) (xs.toList.map A.ev ++ caps.map .one) (xs.toList.map a.eval ++ cvs) := by
    refine Pw.append ⟨by simp, fun j x y hx hy => ?_⟩ ⟨by simpa using hpw.1, fun j x y hx hy => ?_⟩
    · rw [List.getElem?_map] at hx hy
      cases hq : xs.toList[j]? with
      | none => rw [hq] at hx; cases hx
      | some q => rw [hq] at hx hy; cases hx; cases hy; exact R.ev q
    · rw [List.getElem?_map] at hx
      obtain ⟨c, hc, rfl⟩ := Option.map_eq_some_iff.1 hx
      exact .one (hpw.2 j c y hc hy)
  have hcall := call_sound R hS hP hvs
  unfold Oper.wp
  have hrun : (execOp a.eval o).run P w = .ok (.enter f (xs.toList.map a.eval ++ cvs).toArray) w := by
    have e : ((xs.toList.map a.eval ++ cvs).toArray : Array Value) = xs.map a.eval ++ cvs.toArray := by
      apply Array.ext'
      simp
    rw [e]
    have hf3' : ¬ fn.name = "runtime.NumGoroutine" := by simpa using hf3
    have hf2' : ¬ fn.body = none := by intro e; rw [e] at hf2; cases hf2
    simp [execOp, ho, resolve, hval, Deferred.ofValue, invoke, callFunc, hf1, hf2', hf3']
  rw [hrun]
  refine hcall.mono fun e w' h => ?_
  obtain ⟨G', v, r, obs', news, hpost, hlen, rfl, hrep, R', E⟩ := h
  exact ⟨G', _, hK r obs' news hpost hlen, R'.put hd hrep, E⟩

end
end Go.Proofs.Ve

/-
  VeP: operations that only compute, as one rule: what value they leave, in whatever world.
-/
set_option linter.unusedVariables false
set_option linter.unusedSimpArgs false
namespace Go.Proofs.Ve
open Go

/-- The shape of a binary operation on whole numbers with shifts. -/
def bopX (op : BinOp) (k : IntKind) (m : Int) (n : Int) : Option AC := match op with
  | .shl => if n < 0 then none else some (.int k (k.wrap (m * 2 ^ (min n.toNat k.bits))))
  | .shr => if n < 0 then none else some (.int k (m.fdiv (2 ^ (min n.toNat k.bits))))
  | _ => none

def acEq : AC → AC → Option Bool
  | .int k m, .int k' n => if k = k' then some (m == n) else none
  | .bool a, .bool b => some (a == b)
  | .str s, .str t => some (s == t)
  | _, _ => none
def acEqs : List AC → List AC → Option Bool
  | [], [] => some true
  | x :: xs, y :: ys => match acEq x y, acEqs xs ys with
    | some b, some c => some (b && c)
    | _, _ => none
  | _, _ => none
/-- A struct type that compares cell by cell. -/
def EqOk (P : Program) (t : TypeId) (ks : List AC) : Prop :=
  P.eqGuardType P.depth t = false ∧
  ∀ (xs ys : List AC) (F F' : Nat → Nat → Prop) (w w0 w1 : World) (us vs : List Value) (b : Bool), xs.length = ks.length → Pw (RepD F w0) xs us → Pw (RepD F' w1) ys vs → acEqs xs ks ≠ none → acEqs xs ys = some b →
    (Op.equal t (.agg us.toArray) (.agg vs.toArray)).run P w = .ok b w

structure Env where
  L : Lay
  eqs : TypeId → Option (List AC)
  maps : TypeId → Bool := fun _ => false

structure Env.Ok (P : Program) (E : Env) : Prop where
  L : E.L.Ok P
  eqs : ∀ t ks, E.eqs t = some ks → EqOk P t ks
  maps : ∀ t, E.maps t = true → ∃ kt et f, P.underlying t = some (.map kt et) ∧ P.underlying kt = some .string ∧ P.info? et = some f ∧ f.zero = some (.bool false)

def pvLen (E : Env) (A : AS) (x : Operand) (T : TypeId) (k : AV → Prop) : Prop :=
  match E.L T with
    | some i => match A.ev x with
      | .one (.str s) => i.str = true ∧ k (.one (.int .i64 s.size))
      | .one (.sl _ _ n _) => i.isl = true ∧ k (.one (.int .i64 n))
      | .one (.gref id) => i.isl = true ∧ match A.ob id with
        | some ob => 0 < ob.s ∧ ∃ n : Nat, ob.cells.length = n * ob.s ∧ k (.one (.int .i64 n))
        | none => False
      | _ => False
    | none => False
def pvMin (A : AS) (x y : Operand) (k : AV → Prop) : Prop :=
  match A.ev x, A.ev y with
    | .one (.int K m), .one (.int _ n) => k (.one (.int K (if n < m then n else m)))
    | _, _ => False
def pvMax (A : AS) (x y : Operand) (k : AV → Prop) : Prop :=
  match A.ev x, A.ev y with
    | .one (.int K m), .one (.int _ n) => k (.one (.int K (if n > m then n else m)))
    | _, _ => False
def pvCall (E : Env) (c : Call) (A : AS) (k : AV → Prop) : Prop :=
  match c.callee with
  | .builtin .len => match c.args.toList, c.argTypes.toList with
    | [x], [T] => pvLen E A x T k
    | _, _ => False
  | .builtin .min => match c.args.toList with
    | [x, y] => pvMin A x y k
    | _ => False
  | .builtin .max => match c.args.toList with
    | [x, y] => pvMax A x y k
    | _ => False
  | _ => False

/-- What a computing operation leaves. -/
def pv (E : Env) (o : Oper) (A : AS) (k : AV → Prop) : Prop :=
  match o.op with
  | .move x => k (A.ev x)
  | .assign x => k (A.ev x)
  | .pick c x y => match A.ev c with
    | .one (.bool b) => k (if b = true then A.ev x else A.ev y)
    | _ => False
  | .binOp op t x y _ => match A.ev x, A.ev y with
    | .one (.int K m), .one (.int K' n) => if op = .shl ∨ op = .shr then (match bopX op K m n with
        | some r => k (.one r)
        | none => False) else (K = K' ∧ match bopI op K m n with
        | some r => k (.one r)
        | none => False)
    | .one (.str m), .one (.str n) => match bopS op m n with
        | some r => k (.one r)
        | none => False
    | .one (.bool m), .one (.bool n) => match op with
        | .eql => (E.L t).any (fun i => i.bl) = true ∧ k (.one (.bool (m == n)))
        | .neq => (E.L t).any (fun i => i.bl) = true ∧ k (.one (.bool (!(m == n))))
        | _ => False
    | .agg xs, .agg ys => match E.eqs t with
      | some ks => xs.length = ks.length ∧ (acEqs xs ks).isSome = true ∧ match acEqs xs ys with
        | some b => match op with
          | .eql => k (.one (.bool b))
          | .neq => k (.one (.bool (!b)))
          | _ => False
        | none => False
      | none => False
    | .one (.sl fu B n _), .one (.sl _ _ _ _) => y = .const (.slice none 0 0) ∧ (E.L t).any (fun i => i.isl) = true ∧ match op with
      | .eql => ∀ b : Bool, (b = true → n = 0) → ((fu && Nat.beq B 0) = true → b = true) → k (.one (.bool b))
      | .neq => ∀ b : Bool, (b = false → n = 0) → ((fu && Nat.beq B 0) = true → b = false) → k (.one (.bool b))
      | _ => False
    | .one (.gref id), .one (.sl _ _ _ _) => y = .const (.slice none 0 0) ∧ (E.L t).any (fun i => i.isl) = true ∧ match A.ob id with
      | some ob => 0 < ob.s ∧ match op with
        | .eql => ∀ b : Bool, (b = true → ob.cells = []) → k (.one (.bool b))
        | .neq => ∀ b : Bool, (b = false → ob.cells = []) → k (.one (.bool b))
        | _ => False
      | none => False
    | _, _ => False
  | .unOp op _ x => match op, A.ev x with
    | .not, .one (.bool b) => k (.one (.bool (!b)))
    | .neg, .one (.int K n) => k (.one (.int K (K.wrap (0 - n))))
    | _, _ => False
  | .convert s d x => match A.ev x, E.L s, E.L d with
    | .one (.int _ n), some _, some j => match j.ik with
      | some K => k (.one (.int K (K.wrap n)))
      | none => False
    | _, _, _ => False
  | .nilCheck x => match A.ev x with
    | .one (.ptr id p) => k (.one (.ptr id p))
    | _ => False
  | .extract x j => match A.ev x with
    | .tup vs => match vs[j]? with
      | some v => k v
      | none => False
    | _ => False
  | .makeFunc (.func f) first caps => first.size = 0 ∧ ∃ cs, caps.toList.map A.ev = cs.map .one ∧ k (.one (.fn f cs))
  | .fieldAddr S x f => match E.L S with
    | some i => match i.flds[f]? with
      | some (off, ty) => match E.L ty with
        | some j => j.size ≠ 0 ∧ match A.ev x with
          | .one (.ptr id p) => k (.one (.ptr id (p + off)))
          | .one (.cptr cells) => k (.one (.cptr (cells.drop off)))
          | _ => False
        | none => False
      | none => False
    | none => False
  | .field S x f => match E.L S with
    | some i => match i.flds[f]? with
      | some (off, ty) => match E.L ty with
        | some j => match A.ev x with
          | .agg cs => match valOf j ((cs.drop off).take j.size) with
            | some v => k v
            | none => False
          | _ => False
        | none => False
      | none => False
    | none => False
  | .indexAddr T x ix => match E.L T with
    | some i => i.isl = true ∧ match E.L i.elem with
      | some j => match A.ev x, A.ev ix with
        | .one (.sl _ _ n cells), .one (.int _ q) => 0 ≤ q ∧ q < n ∧ k (.one (.cptr ((cells.drop (q.toNat * j.size)).take j.size)))
        | .one (.gref id), .one (.int _ q) => match A.ob id with
          | some ob => ob.s = j.size ∧ j.size ≠ 0 ∧ 0 ≤ q ∧ q.toNat * j.size < ob.cells.length ∧ k (.one (.ptr id (q.toNat * j.size)))
          | none => False
        | _, _ => False
      | none => False
    | none => False
  | .index T x ix => match E.L T with
    | some i => i.str = true ∧ match A.ev x, A.ev ix with
      | .one (.str s), .one (.int _ q) => 0 ≤ q ∧ match s.data.toList[q.toNat]? with
        | some b => k (.one (.int .u8 b.toNat))
        | none => False
      | _, _ => False
    | none => False
  | .slice T x lo hi none => match E.L T with
    | some i => match A.ev x with
      | .one (.str s) => i.str = true ∧ match bnd A lo 0, bnd A hi s.size with
        | some l, some h => 0 ≤ l ∧ l ≤ h ∧ h ≤ s.size ∧ k (.one (.str (s.extract l.toNat h.toNat)))
        | _, _ => False
      | .one (.sl full B n cells) => i.isl = true ∧ match E.L i.elem with
        | some j => cells.length = n * j.size ∧ match bnd A lo 0, bnd A hi n with
          | some l, some h => 0 ≤ l ∧ l ≤ h ∧ h ≤ n ∧ k (.one (.sl (full && decide (h = n)) B (h.toNat - l.toNat) ((cells.drop (l.toNat * j.size)).take ((h.toNat - l.toNat) * j.size))))
          | _, _ => False
        | none => False
      | _ => False
    | none => False
  | .slice T x none (some y) (some z) => match E.L T with
    | some i => match A.ev x with
      | .one (.sl full B n cells) => (i.isl = true ∧ B ≠ 0) ∧ match E.L i.elem with
        | some j => cells.length = n * j.size ∧ match bnd A (some y) n, bnd A (some z) n with
          | some h, some m => m = h ∧ 0 ≤ h ∧ h ≤ n ∧ k (.one (.sl true B h.toNat (cells.take (h.toNat * j.size))))
          | _, _ => False
        | none => False
      | _ => False
    | none => False
  | .build T ps => match E.L T with
    | some i => i.zero ≠ [] ∧ i.flds ≠ [] ∧ i.flds.all (fun x => (E.L x.2).isSome) = true ∧ match afill (places E.L i) i.zero (evParts A ps) with
      | some cs => k (.agg cs)
      | none => False
    | none => False
  | .call c => pvCall E c A k
  | _ => False

end Go.Proofs.Ve

/-
  VePs: the rule for computing operations is sound.
-/
set_option linter.unusedVariables false
set_option linter.unusedSimpArgs false
namespace Go.Proofs.Ve
open Go

section
variable {P : Program} {E : Env} {A : AS} {G : Gh} {a : Act} {w : World} {o : Oper} {k : AV → Prop}

/-- A value in whatever world, and what it stands for. -/
def PV (P : Program) (o : Oper) (a : Act) (G : Gh) (nx : Nat) (w : World) (k : AV → Prop) : Prop := ∃ v x, (∀ w', (execOp a.eval o).run P w' = .ok (.value v) w') ∧ RepAV G nx w x v ∧ k x

theorem sliceBounds_any (R : Rel G A a w) {n c : Nat} {lo hi : Option Operand} {l h : Int} (hl : bnd A lo 0 = some l) (hh : bnd A hi n = some h) (h0 : 0 ≤ l) (h1 : l ≤ h) (h2 : h ≤ c) (sl : Bool) (hnc : sl = false → n = c) (w' : World) :
    (Instr.sliceBounds sl n c (lo.map a.eval) (hi.map a.eval) none).run P w' = .ok (l.toNat, h.toNat, c) w' := by
  cases lo with
  | none =>
    simp [bnd] at hl; subst hl
    cases hi with
    | none => simp [bnd] at hh; subst hh; simp [Instr.sliceBounds]
    | some y =>
      obtain ⟨k, e⟩ := bnd_ev R hh
      simp [Instr.sliceBounds, e, run_sliceBound _ (by omega : 0 ≤ h) h2]
  | some x =>
    obtain ⟨k, e⟩ := bnd_ev R hl
    cases hi with
    | none =>
      simp [bnd] at hh; subst hh
      simp [Instr.sliceBounds, e, run_sliceBound _ h0 h1]
    | some y =>
      obtain ⟨k2, e2⟩ := bnd_ev R hh
      have hlt : l ≤ ((h.toNat : Nat) : Int) := by omega
      simp [Instr.sliceBounds, e, e2, run_sliceBound _ (by omega : 0 ≤ h) h2, run_sliceBound _ h0 hlt]

theorem pv_binOp (hE : E.Ok P) (R : Rel G A a w) {op : BinOp} {t u : TypeId} {x y : Operand} (ho : o.op = .binOp op t x y u) (h : pv E o A k) : PV P o a G A.nx w k := by
  have hx := R.ev x
  have hy := R.ev y
  simp only [pv, ho] at h
  split at h
  · rename_i K m K' n e1 e2
    rw [e1] at hx; rw [e2] at hy
    have hx := inv_int hx
    have hy := inv_int hy
    split at h
    · rename_i hsh
      split at h
      · rename_i r hr
        refine ⟨match r with | .int K n => .int K n | _ => undef, .one r, fun w' => ?_, ?_, h⟩
        · rcases hsh with rfl | rfl <;> simp only [bopX] at hr <;> split at hr <;> cases hr <;> rename_i hn <;> simp [execOp, ho, hx, hy, run_eqGuard_int, binOp, Op.shift, hn]
        · rcases hsh with rfl | rfl <;> simp only [bopX] at hr <;> split at hr <;> cases hr <;> exact .one (.deep (.int _ _))
      · exact h.elim
    · rename_i hsh
      obtain ⟨rfl, h⟩ := h
      split at h
      · rename_i r hr
        have hs : op ≠ .shl ∧ op ≠ .shr := ⟨fun e => hsh (.inl e), fun e => hsh (.inr e)⟩
        obtain ⟨v, hv, hrep⟩ := run_bopI (P := P) (G := G) (w := w) hs t hr
        refine ⟨v, .one r, fun w' => ?_, .one (.deep hrep), h⟩
        obtain ⟨v', hv', hrep'⟩ := run_bopI (P := P) (G := G) (w := w') hs t hr
        have e : v' = v := by cases hrep <;> cases hrep' <;> first | rfl | (cases op <;> simp [bopI] at hr)
        subst e
        simp [execOp, ho, hx, hy, run_eqGuard_int, hv']
      · exact h.elim
  · rename_i m n e1 e2
    rw [e1] at hx; rw [e2] at hy
    have hx := inv_str hx
    have hy := inv_str hy
    split at h
    · rename_i r hr
      obtain ⟨v, hv, hrep⟩ := run_bopS (P := P) (G := G) (w := w) t hr
      refine ⟨v, .one r, fun w' => ?_, .one (.deep hrep), h⟩
      obtain ⟨v', hv', hrep'⟩ := run_bopS (P := P) (G := G) (w := w') t hr
      have e : v' = v := by
        cases hrep <;> cases hrep' <;> first
          | rfl
          | (cases op <;> simp [bopS] at hr)
      subst e
      simp [execOp, ho, hx, hy, run_eqGuard_str, hv']
    · exact h.elim
  · rename_i m n e1 e2
    rw [e1] at hx; rw [e2] at hy
    have hx := inv_bool hx
    have hy := inv_bool hy
    have key : ∀ w' : World, (E.L t).any (fun i => i.bl) = true → (Op.equal t (.bool m) (.bool n)).run P w' = .ok (m == n) w' := fun w' hb => by
      cases hi : E.L t with
      | none => rw [hi] at hb; cases hb
      | some i =>
        rw [hi] at hb
        have hu := bl_info (hE.L t i hi) (by simpa using hb)
        show (Op.equalIn (9999 + 1) t (.bool m) (.bool n)).run P w' = _
        unfold Op.equalIn
        simp [run_underlying hu]
    split at h
    · obtain ⟨hb, h⟩ := h
      exact ⟨.bool (m == n), .one (.bool (m == n)), fun w' => by simp [execOp, ho, hx, hy, run_eqGuard_bool, binOp, key w' hb], .one (.deep (.bool _)), h⟩
    · obtain ⟨hb, h⟩ := h
      exact ⟨.bool (!(m == n)), .one (.bool (!(m == n))), fun w' => by simp [execOp, ho, hx, hy, run_eqGuard_bool, binOp, key w' hb], .one (.deep (.bool _)), h⟩
    · exact h.elim
  · rename_i xs ys e1 e2
    rw [e1] at hx; rw [e2] at hy
    obtain ⟨us, hxv, hxp⟩ := inv_agg hx
    obtain ⟨vs, hyv, hyp⟩ := inv_agg hy
    split at h
    · rename_i ks hks
      obtain ⟨h1, h2, h⟩ := h
      obtain ⟨hg, heq⟩ := hE.eqs t ks hks
      split at h
      · rename_i b hb
        have deepL : ∀ (xs ys : List AC), (acEqs xs ys).isSome = true → (∀ x ∈ xs, x.deep = true) ∧ (∀ y ∈ ys, y.deep = true) := by
          intro xs
          induction xs with
          | nil => intro ys h; cases ys with
            | nil => simp
            | cons => simp [acEqs] at h
          | cons x xs ih =>
            intro ys h
            cases ys with
            | nil => simp [acEqs] at h
            | cons y ys =>
              simp only [acEqs] at h
              split at h
              · rename_i c d hc hd
                have := ih ys (by rw [hd]; rfl)
                have hxy : x.deep = true ∧ y.deep = true := by cases x <;> cases y <;> simp [acEq] at hc <;> exact ⟨rfl, rfl⟩
                simp only [List.mem_cons, forall_eq_or_imp]
                exact ⟨⟨hxy.1, this.1⟩, hxy.2, this.2⟩
              · cases h
        obtain ⟨d1, d2⟩ := deepL xs ys (by rw [hb]; rfl)
        have hxd : Pw (RepD G.F w) xs us := ⟨hxp.1, fun j x y a b => (hxp.2 j x y a b).toD (d1 x (List.mem_of_getElem? a))⟩
        have hyd : Pw (RepD G.F w) ys vs := ⟨hyp.1, fun j x y a b => (hyp.2 j x y a b).toD (d2 x (List.mem_of_getElem? a))⟩
        have hrun : ∀ w' : World, (Op.equal t (.agg us.toArray) (.agg vs.toArray)).run P w' = .ok b w' := fun w' =>
          heq xs ys G.F G.F w' w w us vs b h1 hxd hyd (by intro e; rw [e] at h2; cases h2) hb
        have hguard : ∀ (w' : World) (op : BinOp), (eqGuard op t x y (.agg us.toArray) (.agg vs.toArray)).run P w' = .ok () w' := fun w' op => by
          cases op <;> simp [eqGuard, hg]
        split at h
        · exact ⟨.bool b, .one (.bool b), fun w' => by simp [execOp, ho, hxv, hyv, hguard, binOp, hrun], .one (.deep (.bool _)), h⟩
        · exact ⟨.bool (!b), .one (.bool (!b)), fun w' => by simp [execOp, ho, hxv, hyv, hguard, binOp, hrun], .one (.deep (.bool _)), h⟩
        · exact h.elim
      · exact h.elim
    · exact h.elim
  · rename_i fu B n cells fu2 B2 n2 cells2 e1 e2
    obtain ⟨rfl, hsl, h⟩ := h
    rw [e1] at hx
    obtain ⟨ad, c, us, hval, hp, hn, hf, ha, hB, hc, hzz⟩ := inv_sl hx
    have hrun : ∀ w' : World, (Op.equal t (.slice ad n c) (.slice none 0 0)).run P w' = .ok ad.isNone w' := fun w' => by
      cases hi : E.L t with
      | none => rw [hi] at hsl; cases hsl
      | some i =>
        rw [hi] at hsl
        exact run_equal_slice_nil w' t i.elem ad n c (elem_info (hE.L t i hi) (by simpa using hsl))
    have hnil : ad.isNone = true → n = 0 := fun e => by
      cases ad with
      | none => have := ha rfl; omega
      | some => cases e
    have hnil2 : (fu && Nat.beq B 0) = true → ad.isNone = true := fun e => by
      simp only [Bool.and_eq_true] at e
      rw [hzz e.1 (Nat.eq_of_beq_eq_true e.2)]
      rfl
    split at h
    · exact ⟨.bool ad.isNone, _, fun w' => by simp [execOp, ho, hval, show a.eval (.const (.slice none 0 0)) = .slice none 0 0 from rfl, eqGuard, binOp, hrun], .one (.deep (.bool _)), h ad.isNone hnil hnil2⟩
    · exact ⟨.bool (!ad.isNone), _, fun w' => by simp [execOp, ho, hval, show a.eval (.const (.slice none 0 0)) = .slice none 0 0 from rfl, eqGuard, binOp, hrun], .one (.deep (.bool _)), h (!ad.isNone) (fun e => hnil (by simpa using e)) (fun e => by rw [hnil2 e]; rfl)⟩
    · exact h.elim
  · rename_i id fu2 B2 n2 cells2 e1 e2
    obtain ⟨rfl, hsl, h⟩ := h
    rw [e1] at hx
    obtain ⟨hid, ad, n, c, hh, hval⟩ := inv_gref hx
    split at h
    · rename_i ob hob
      obtain ⟨hs0, h⟩ := h
      have hrun : ∀ w' : World, (Op.equal t (.slice ad n c) (.slice none 0 0)).run P w' = .ok ad.isNone w' := fun w' => by
        cases hi : E.L t with
        | none => rw [hi] at hsl; cases hsl
        | some i =>
          rw [hi] at hsl
          exact run_equal_slice_nil w' t i.elem ad n c (elem_info (hE.L t i hi) (by simpa using hsl))
      have hnil : ad.isNone = true → ob.cells = [] := fun e => by
        obtain ⟨_, vs, hp, hc⟩ := R.obs id ob hob
        rcases hc with ⟨h0, _⟩ | ⟨h0, _⟩ | ⟨h0, q, hr, _⟩
        · omega
        · omega
        · rcases hr.2 with ⟨e3, e4⟩ | ⟨g, cap, cur, e3, _⟩
          · have : vs = [] := List.eq_nil_of_length_eq_zero (by rw [hr.1, e4]; simp)
            rw [this] at hp
            exact List.eq_nil_of_length_eq_zero (by simpa using hp.1)
          · rw [hh] at e3; cases e3; cases e
      split at h
      · exact ⟨.bool ad.isNone, _, fun w' => by simp [execOp, ho, hval, show a.eval (.const (.slice none 0 0)) = .slice none 0 0 from rfl, eqGuard, binOp, hrun], .one (.deep (.bool _)), h ad.isNone hnil⟩
      · exact ⟨.bool (!ad.isNone), _, fun w' => by simp [execOp, ho, hval, show a.eval (.const (.slice none 0 0)) = .slice none 0 0 from rfl, eqGuard, binOp, hrun], .one (.deep (.bool _)), h (!ad.isNone) (fun e => hnil (by simpa using e))⟩
      · exact h.elim
    · exact h.elim
  · exact h.elim

end
end Go.Proofs.Ve

/-
  VePt: the rule for computing operations is sound: the rest.
-/
set_option linter.unusedVariables false
set_option linter.unusedSimpArgs false
namespace Go.Proofs.Ve
open Go

section
variable {P : Program} {E : Env} {A : AS} {G : Gh} {a : Act} {w : World} {o : Oper} {k : AV → Prop}

theorem cptr_take {nx n : Nat} {cells : List AC} {v : Value} (h : RepV G nx w (.cptr cells) v) : RepV G nx w (.cptr (cells.take n)) v := by
  cases h with
  | deep h => cases h
  | cptr _ b o us hl h =>
    refine .cptr _ b o (us.take n) (hl.take n) fun j y hy => ?_
    rw [List.getElem?_take] at hy
    split at hy
    · exact h j y hy
    · cases hy

theorem pv_indexAddr (hE : E.Ok P) (R : Rel G A a w) {T : TypeId} {x ix : Operand} (ho : o.op = .indexAddr T x ix) (h : pv E o A k) : PV P o a G A.nx w k := by
  have hx := R.ev x
  have hix := R.ev ix
  simp only [pv, ho] at h
  split at h
  · rename_i i hi
    obtain ⟨hs, h⟩ := h
    split at h
    · rename_i j hj
      split at h
      · rename_i fu B n cells K q e1 e2
        obtain ⟨h0, h1, h⟩ := h
        rw [e1] at hx; rw [e2] at hix
        obtain ⟨ad, c, us, hval, hp, hn, hf, ha, hB, hc, hzz⟩ := inv_sl hx
        rcases hc with hc | ⟨b, p, e, hc⟩
        · omega
        · subst e
          exact ⟨_, _, fun w' => by simp [execOp, ho, hval, inv_int hix, run_indexAt hE.L hi hs hj h0 h1], .one (cptr_take (cptr_drop hp hc _)), h⟩
      · rename_i id K q e1 e2
        rw [e1] at hx; rw [e2] at hix
        split at h
        · rename_i ob hob
          obtain ⟨hsz, hz, h0, h1, h⟩ := h
          obtain ⟨hid, ad, n, c, hh, hval⟩ := inv_gref hx
          obtain ⟨_, vs, hp, hc⟩ := R.obs id ob hob
          rcases hc with ⟨h2, _⟩ | ⟨h2, _⟩ | ⟨h2, m, hr, hB, hg⟩
          · exact absurd (hsz.symm.trans h2) hz
          · exact absurd (hsz.symm.trans h2) hz
          · have hlen : ob.cells.length = m * ob.s := by rw [hp.1, hr.1]
            rcases hr.2 with ⟨_, e⟩ | ⟨g, cap, cur, e, _⟩
            · rw [hlen, e] at h1; simp at h1
            · obtain ⟨e1, e2⟩ := hg g (by rw [e]; rfl)
              rw [hh] at e
              cases e
              subst e1
              have hq : q < (n : Int) := by
                rw [hlen, hsz] at h1
                have := Nat.lt_of_mul_lt_mul_right h1
                omega
              refine ⟨.pointer (some ⟨G.adr id, 0 + q.toNat * j.size, none⟩), _, fun w' => by simp [execOp, ho, hval, inv_int hix, run_indexAt hE.L hi hs hj h0 hq], ?_, h⟩
              rw [Nat.zero_add]
              exact .one (.ptr id _ hid)
        · exact h.elim
      · exact h.elim
    · exact h.elim
  · exact h.elim

theorem pv_slice (hE : E.Ok P) (R : Rel G A a w) {T : TypeId} {x : Operand} {lo hi : Option Operand} (ho : o.op = .slice T x lo hi none) (h : pv E o A k) : PV P o a G A.nx w k := by
  have hx := R.ev x
  simp only [pv, ho] at h
  split at h
  · rename_i i hi1
    split at h
    · rename_i s e1
      rw [e1] at hx
      obtain ⟨hs, h⟩ := h
      split at h
      · rename_i l hh hl hhh
        obtain ⟨h0, h1, h2, h⟩ := h
        have hu := str_info (hE.L T i hi1) hs
        exact ⟨.string (s.extract l.toNat hh.toNat), _, fun w' => by simp [execOp, ho, Instr.sliceAt, Instr.slice, run_underlying hu, inv_str hx, sliceBounds_any R hl hhh h0 h1 h2 false (fun _ => rfl) w'], .one (.deep (.str _)), h⟩
      · exact h.elim
    · rename_i fu B n cells e1
      rw [e1] at hx
      obtain ⟨hs, h⟩ := h
      split at h
      · rename_i j hj
        obtain ⟨hlen, h⟩ := h
        split at h
        · rename_i l hh hl hhh
          obtain ⟨h0, h1, h2, h⟩ := h
          obtain ⟨ad, c, us, hval, hp, hnc, hf, ha, hB, hcell, hzz⟩ := inv_sl hx
          obtain ⟨f, h3, h4⟩ := size_info (hE.L _ _ hj)
          have hu := elem_info (hE.L T i hi1) hs
          exact ⟨.slice (if c = l.toNat then ad else ad.map (·.add (l.toNat * j.size))) (hh.toNat - l.toNat) (c - l.toNat), _,
            fun w' => by simp [execOp, ho, Instr.sliceAt, Instr.slice, run_underlying hu, hval, sliceBounds_any R hl hhh h0 h1 (by omega : hh ≤ c) true (fun e => by cases e) w', sizeOf, typeInfo, h3, h4],
            .one (.deep (repD_cut hp hlen ha hB hcell (by omega) (by omega) hnc (Nat.le_refl c) (by omega) _ (fun e => by simp at e; have := hf e.1; omega) (fun e eb => by simp at e; exact hzz e.1 eb))), h⟩
        · exact h.elim
      · exact h.elim
    · exact h.elim
  · exact h.elim

theorem pv_slice3 (hE : E.Ok P) (R : Rel G A a w) {T : TypeId} {x y z : Operand} (ho : o.op = .slice T x none (some y) (some z)) (h : pv E o A k) : PV P o a G A.nx w k := by
  have hx := R.ev x
  simp only [pv, ho] at h
  split at h
  · rename_i i hi1
    split at h
    · rename_i fu B n cells e1
      rw [e1] at hx
      obtain ⟨⟨hs, hB0⟩, h⟩ := h
      split at h
      · rename_i j hj
        obtain ⟨hlen, h⟩ := h
        split at h
        · rename_i hh m hhh hm
          obtain ⟨rfl, h0, h2, h⟩ := h
          obtain ⟨ad, c, us, hval, hp, hnc, hf, ha, hB, hcell, hzz⟩ := inv_sl hx
          obtain ⟨f, h3, h4⟩ := size_info (hE.L _ _ hj)
          have hu := elem_info (hE.L T i hi1) hs
          obtain ⟨k1, e1⟩ := bnd_ev R hhh
          obtain ⟨k2, e2⟩ := bnd_ev R hm
          have hcut := repD_cut (l := 0) (h := m.toNat) (m := m.toNat) hp hlen ha hB hcell (by omega) (by omega) hnc (by omega) (Nat.le_refl _) true (fun _ => rfl) (fun _ eb => absurd eb hB0)
          simp only [Nat.zero_mul, List.drop_zero, Nat.sub_zero] at hcut
          refine ⟨.slice (if m.toNat = 0 then ad else ad.map (·.add 0)) m.toNat m.toNat, _, fun w' => ?_, .one (.deep hcut), h⟩
          have hb1 : (Instr.sliceBound (.int k2 m) c .slice3Acap).run P w' = .ok m.toNat w' := run_sliceBound _ h0 (by omega)
          have hb2 : (Instr.sliceBound (.int k1 m) m.toNat .slice3B).run P w' = .ok m.toNat w' := run_sliceBound _ h0 (by omega)
          simp [execOp, ho, Instr.sliceAt, Instr.slice, run_underlying hu, hval, Instr.sliceBounds, e1, e2, hb1, hb2, sizeOf, typeInfo, h3, h4]
        · exact h.elim
      · exact h.elim
    · exact h.elim
  · exact h.elim

theorem pv_build (hE : E.Ok P) (R : Rel G A a w) {T : TypeId} {ps : Array (Nat × Operand)} (ho : o.op = .build T ps) (h : pv E o A k) : PV P o a G A.nx w k := by
  simp only [pv, ho] at h
  split at h
  · rename_i i hi
    obtain ⟨hz, hf, hfl, h⟩ := h
    split at h
    · rename_i cs hcs
      obtain ⟨f, d, h1, h2, h3, h4, h5, h6, h6s, h6k, h7, h8, h9⟩ := (hE.L T i hi).info
      obtain ⟨fs, e1, e2⟩ := h7 hf
      obtain ⟨z, e3, e4⟩ := h8 hz
      subst e1
      have hmem : ∀ x ∈ fs.toList, (E.L x.type).isSome = true := fun x hx => List.all_eq_true.1 hfl (x.offset, x.type) (by rw [← e2]; exact List.mem_map.2 ⟨x, hx, rfl⟩)
      have hpl : ((fs.toList.map fun x => (x.offset, ((E.L x.type).map (·.size)).getD 0)).toArray[·]? : Nat → Option (Nat × Nat)) = places E.L i := by
        funext q
        unfold places
        rw [← e2]
        simp only [List.getElem?_toArray, List.getElem?_map]
        cases hx : fs.toList[q]? with
        | none => rfl
        | some x =>
          have := hmem x (List.mem_of_getElem? hx)
          cases hj : E.L x.type with
          | none => rw [hj] at this; cases this
          | some j => simp [hj]
      obtain ⟨us', hfill, hpw⟩ := fill_afill (G := G) (w := w) (nx := A.nx) (place := places E.L i) _ _ i.zero z.cells cs (evParts_pw R ps) ((mapM_pw (F := G.F) (w := w) _ _ e4).imp fun _ _ k => .deep k) hcs
      have hr : ∀ w' : World, (Instr.build T (ps.map fun (i, x) => (i, a.eval x))).run P w' = .ok (.agg us') w' := fun w' => run_build (P := P) w' T (ps.map fun (i, x) => (i, a.eval x)) us' (by
        unfold Program.built
        rw [h1, h2]
        simp only
        rw [e3, mapM_places hE.L _ hmem]
        simp only
        rw [hpl]
        exact hfill)
      have e5 : us' = us'.toList.toArray := by simp
      rw [e5] at hr
      exact ⟨.agg us'.toList.toArray, .agg cs, fun w' => by simp only [execOp, ho, Sem.run_bind, hr, Result.andThen_ok]; rfl, .agg hpw, h⟩
    · exact h.elim
  · exact h.elim

theorem pv_field (hE : E.Ok P) (R : Rel G A a w) {S : TypeId} {x : Operand} {f : Nat} (ho : o.op = .field S x f) (h : pv E o A k) : PV P o a G A.nx w k := by
  have hr := R.ev x
  simp only [pv, ho] at h
  split at h
  · rename_i i hi
    split at h
    · rename_i off ty hf
      split at h
      · rename_i j hj
        split at h
        · rename_i cs e1
          rw [e1] at hr
          split at h
          · rename_i v hv
            obtain ⟨fs, fd, h1, h2, h3, h4⟩ := fld_info (hE.L S i hi) hf
            obtain ⟨fi, h5, h6⟩ := size_info (hE.L ty j hj)
            obtain ⟨d, h7, h8⟩ := under_info (hE.L ty j hj)
            subst h3 h4
            obtain ⟨vs, hval, hp⟩ := inv_agg hr
            have hpc := (hp.drop fd.offset).take j.size
            unfold valOf at hv
            split at hv
            · rename_i hlen
              split at hv
              · rename_i hagg
                cases hv
                refine ⟨.agg ((vs.drop fd.offset).take j.size).toArray, _, fun w' => ?_, .agg hpc, h⟩
                rw [hagg] at h8
                have e : vs.toArray.extract fd.offset (fd.offset + j.size) = ((vs.drop fd.offset).take j.size).toArray := by
                  simp [List.extract_eq_take_drop]
                cases d <;> simp at h8 <;> simp [execOp, ho, hval, Instr.field, run_underlying h1, h2, part, isAgg, run_underlying h7, asAgg, sizeOf, typeInfo, h5, h6] <;> simp at e <;> simp [e]
              · rename_i hagg
                have hagg : j.agg = false := by simpa using hagg
                rw [hagg] at h8
                split at hv
                · rename_i c hc
                  cases hv
                  rw [hc] at hlen hpc
                  have hsz : j.size = 1 := by simpa using hlen.symm
                  rw [hsz] at hpc hc
                  match hq : (vs.drop fd.offset).take 1, hpc with
                  | [u], hpc =>
                    have hu : vs[fd.offset]? = some u := by
                      have : ((vs.drop fd.offset).take 1)[0]? = some u := by rw [hq]; rfl
                      simpa using this
                    refine ⟨u, _, fun w' => ?_, .one hpc.head, h⟩
                    cases d <;> simp at h8 <;> simp [execOp, ho, hval, Instr.field, run_underlying h1, h2, part, isAgg, run_underlying h7, asAgg, hu]
                  | [], hpc => have := hpc.1; simp at this
                  | _ :: _ :: _, hpc => have := hpc.1; simp at this
                · cases hv
            · cases hv
          · exact h.elim
        · exact h.elim
      · exact h.elim
    · exact h.elim
  · exact h.elim

theorem pv_fieldAddr (hE : E.Ok P) (R : Rel G A a w) {S : TypeId} {x : Operand} {f : Nat} (ho : o.op = .fieldAddr S x f) (h : pv E o A k) : PV P o a G A.nx w k := by
  have hr := R.ev x
  simp only [pv, ho] at h
  split at h
  · rename_i i hi
    split at h
    · rename_i off ty hf
      split at h
      · rename_i j hj
        obtain ⟨hz, h⟩ := h
        split at h
        · rename_i id p e1
          rw [e1] at hr
          obtain ⟨hid, hv⟩ := inv_ptr hr
          exact ⟨_, _, fun w' => by simp [execOp, ho, hv, run_fieldAt hE.L hi hf hj hz], .one (.ptr id (p + off) hid), h⟩
        · rename_i cells e1
          rw [e1] at hr
          obtain ⟨b, p, us, hv, hp, hc⟩ := inv_cptr hr
          exact ⟨_, _, fun w' => by simp [execOp, ho, hv, run_fieldAt hE.L hi hf hj hz], .one (cptr_drop hp hc off), h⟩
        · exact h.elim
      · exact h.elim
    · exact h.elim
  · exact h.elim

theorem exec_builtinW {b : Builtin} {args : Array Operand} {ts : Array TypeId} {v : Value} (ho : o.op = .call ⟨.builtin b, args, ts⟩) (h : ∀ cs w, (builtin b ts o.type cs (args.map a.eval)).run P w = .ok (.value v) w) (w : World) :
    (execOp a.eval o).run P w = .ok (.value v) w := exec_builtin ho fun cs => h cs w

theorem pv_len (hE : E.Ok P) (R : Rel G A a w) {x : Operand} {T : TypeId} (ho : o.op = .call ⟨.builtin .len, #[x], #[T]⟩) (h : pvLen E A x T k) : PV P o a G A.nx w k := by
  have hx := R.ev x
  unfold pvLen at h
  split at h
  · rename_i i hi
    split at h
    · rename_i s e1
      rw [e1] at hx
      obtain ⟨hs, h⟩ := h
      exact ⟨.int .i64 s.size, _, exec_builtinW ho (fun cs w => by simp [builtin, Builtin.len_, run_underlying (str_info (hE.L T i hi) hs), inv_str hx, goInt]), .one (.deep (.int _ _)), h⟩
    · rename_i fu B n cells e1
      rw [e1] at hx
      obtain ⟨hs, h⟩ := h
      obtain ⟨ad, c, us, hval, _⟩ := inv_sl hx
      exact ⟨.int .i64 n, _, exec_builtinW ho (fun cs w => by simp [builtin, Builtin.len_, run_underlying (elem_info (hE.L T i hi) hs), hval, goInt]), .one (.deep (.int _ _)), h⟩
    · rename_i id e1
      rw [e1] at hx
      obtain ⟨hs, h⟩ := h
      split at h
      · rename_i ob hob
        obtain ⟨h0, n, hn, h⟩ := h
        obtain ⟨hid, ad, m, c, hh, hval⟩ := inv_gref hx
        obtain ⟨_, vs, hp, hc⟩ := R.obs id ob hob
        have e : m = n := by
          rcases hc with ⟨h2, _⟩ | ⟨h2, _⟩ | ⟨h2, q, hr, _⟩
          · omega
          · omega
          · have e1 : n = q := by
              have h3 := hp.1
              rw [hn, hr.1] at h3
              exact Nat.eq_of_mul_eq_mul_right h0 h3
            rcases hr.2 with ⟨e2, e3⟩ | ⟨g, cap, cur, e2, _⟩ <;> rw [hh] at e2 <;> cases e2 <;> omega
        subst e
        exact ⟨.int .i64 m, _, exec_builtinW ho (fun cs w => by simp [builtin, Builtin.len_, run_underlying (elem_info (hE.L T i hi) hs), hval, goInt]), .one (.deep (.int _ _)), h⟩
      · exact h.elim
    · exact h.elim
  · exact h.elim

theorem pv_makeFunc (R : Rel G A a w) {f : FuncId} {first caps : Array Operand} (ho : o.op = .makeFunc (.func f) first caps) (h : pv E o A k) : PV P o a G A.nx w k := by
  simp only [pv, ho] at h
  obtain ⟨h0, cs, hc, h⟩ := h
  have h0 : first = #[] := Array.size_eq_zero_iff.1 h0
  subst h0
  refine ⟨.func (.func f) #[] (caps.toList.map a.eval).toArray, .one (.fn f cs), fun w' => by simp [execOp, ho, Instr.makeFunc]; rw [← Array.toList_map], .one (.fn f cs _ ?_ ?_), h⟩
  · have := congrArg List.length hc
    simp at this
    simp [this]
  · intro j x y hx hy
    rw [List.getElem?_map] at hy
    have h2 : (caps.toList.map A.ev)[j]? = some (.one x) := by rw [hc, List.getElem?_map, hx]; rfl
    rw [List.getElem?_map] at h2
    cases hq : caps.toList[j]? with
    | none => rw [hq] at hy; cases hy
    | some q =>
      rw [hq] at hy h2
      simp at hy h2
      subst hy
      have h3 := R.ev q
      rw [h2] at h3
      cases h3 with
      | one h => exact h

theorem pv_sound (hE : E.Ok P) (R : Rel G A a w) (h : pv E o A k) : PV P o a G A.nx w k := by
  have h' := h
  unfold pv at h'
  split at h'
  case h_1 x ho => exact ⟨a.eval x, _, fun w' => by simp [execOp, ho], R.ev x, h'⟩
  case h_2 x ho => exact ⟨a.eval x, _, fun w' => by simp [execOp, ho], R.ev x, h'⟩
  case h_3 c x y ho =>
    have hc := R.ev c
    split at h'
    · rename_i b e
      rw [e] at hc
      have hc := inv_bool hc
      refine ⟨if b = true then a.eval x else a.eval y, _, fun w' => by cases b <;> simp [execOp, ho, hc, asBool], ?_, h'⟩
      split
      · exact R.ev x
      · exact R.ev y
    · exact h'.elim
  case h_4 op t x y u ho => exact pv_binOp hE R ho h
  case h_5 op t x ho =>
    have hx := R.ev x
    split at h'
    · rename_i b e
      rw [e] at hx
      exact ⟨.bool (!b), _, fun w' => by simp [execOp, ho, inv_bool hx, Op.unary], .one (.deep (.bool _)), h'⟩
    · rename_i K n e
      rw [e] at hx
      exact ⟨.int K (K.wrap (0 - n)), _, fun w' => by simp [execOp, ho, inv_int hx, Op.unary, Op.intArith], .one (.deep (.int _ _)), h'⟩
    · exact h'.elim
  case h_6 s d x ho =>
    have hx := R.ev x
    split at h'
    · rename_i K n i j e1 e2 e3
      rw [e1] at hx
      split at h'
      · rename_i K' hk
        obtain ⟨ds, hsu, _⟩ := under_info (hE.L s i e2)
        exact ⟨.int K' (K'.wrap n), _, fun w' => by simp [execOp, ho, inv_int hx, convert, run_underlying hsu, run_underlying (ik_info (hE.L d j e3) hk), Conv.intToInt], .one (.deep (.int _ _)), h'⟩
      · exact h'.elim
    · exact h'.elim
  case h_7 x ho =>
    have hx := R.ev x
    split at h'
    · rename_i id p e
      rw [e] at hx
      obtain ⟨hid, hval⟩ := inv_ptr hx
      exact ⟨_, _, fun w' => by simp [execOp, ho, hval], .one (.ptr id p hid), h'⟩
    · exact h'.elim
  case h_8 x j ho =>
    have hx := R.ev x
    split at h'
    · rename_i vs e
      rw [e] at hx
      split at h'
      · rename_i v hj
        obtain ⟨us, hval, hp⟩ := inv_tup hx
        obtain ⟨u, hu, hr⟩ := hp.get hj
        exact ⟨_, _, fun w' => by simp [execOp, ho, hval, Instr.extract, hu], hr, h'⟩
      · exact h'.elim
    · exact h'.elim
  case h_9 f first caps ho => exact pv_makeFunc R ho h
  case h_10 S x f ho => exact pv_fieldAddr hE R ho h
  case h_11 S x f ho => exact pv_field hE R ho h
  case h_12 T x ix ho => exact pv_indexAddr hE R ho h
  case h_13 T x ix ho =>
    have hx := R.ev x
    have hix := R.ev ix
    split at h'
    · rename_i i hi
      obtain ⟨hs, h'⟩ := h'
      split at h'
      · rename_i s K q e1 e2
        rw [e1] at hx; rw [e2] at hix
        obtain ⟨h0, h'⟩ := h'
        split at h'
        · rename_i b hb
          have hb' : s[q.toNat]? = some b := by
            rw [Array.getElem?_toList] at hb
            obtain ⟨hlt, e⟩ := Array.getElem?_eq_some_iff.1 hb
            have hlt' : q.toNat < s.size := hlt
            rw [getElem?_pos s q.toNat hlt']
            exact congrArg some e
          exact ⟨.int .u8 b.toNat, _, fun w' => by simp [execOp, ho, Instr.index, asIntOf, inv_int hix, inv_str hx, run_underlying (str_info (hE.L T i hi) hs), h0, hb'], .one (.deep (.int _ _)), h'⟩
        · exact h'.elim
      · exact h'.elim
    · exact h'.elim
  case h_14 T x lo hi ho => exact pv_slice hE R ho h
  case h_15 T x y z ho => exact pv_slice3 hE R ho h
  case h_16 T ps ho => exact pv_build hE R ho h
  case h_17 c ho =>
    obtain ⟨callee, args, ts⟩ := c
    unfold pvCall at h'
    simp only at h'
    split at h'
    · rename_i hc
      split at h'
      · rename_i x T e1 e2
        have e1 : args = #[x] := Array.ext' e1
        have e2 : ts = #[T] := Array.ext' e2
        rw [e1, e2] at ho
        exact pv_len hE R ho h'
      · exact h'.elim
    · split at h'
      · rename_i x y e1
        have e1 : args = #[x, y] := Array.ext' e1
        rw [e1] at ho
        have h1 := R.ev x
        have h2 := R.ev y
        unfold pvMin at h'
        split at h'
        · rename_i K m K' n e1 e2
          rw [e1] at h1; rw [e2] at h2
          exact ⟨.int K (if n < m then n else m), _, exec_builtinW ho (fun cs w => by simp [builtin, Builtin.min_, Builtin.min2, inv_int h1, inv_int h2]), .one (.deep (.int _ _)), h'⟩
        · exact h'.elim
      · exact h'.elim
    · split at h'
      · rename_i x y e1
        have e1 : args = #[x, y] := Array.ext' e1
        rw [e1] at ho
        have h1 := R.ev x
        have h2 := R.ev y
        unfold pvMax at h'
        split at h'
        · rename_i K m K' n e1 e2
          rw [e1] at h1; rw [e2] at h2
          exact ⟨.int K (if n > m then n else m), _, exec_builtinW ho (fun cs w => by simp [builtin, Builtin.max_, Builtin.max2, inv_int h1, inv_int h2]), .one (.deep (.int _ _)), h'⟩
        · exact h'.elim
      · exact h'.elim
    · exact h'.elim
  case h_18 => exact h'.elim

end
end Go.Proofs.Ve

/-
  VeQ: one rule for every operation that is served.
-/
set_option linter.unusedVariables false
set_option linter.unusedSimpArgs false
namespace Go.Proofs.Ve
open Go

/-- What is appended or copied. -/
def srcW (A : AS) (y : Operand) (s : Nat) (k : Nat → List AC → Prop) : Prop :=
  match A.ev y with
  | .one (.sl _ _ m cs) => cs.length = m * s ∧ k m cs
  | .one (.gref id) => match A.ob id with
    | some ob => 0 < ob.s ∧ ob.s = s ∧ ∃ m, ob.cells.length = m * s ∧ k m ob.cells
    | none => False
  | _ => False

def isNilC (x : Operand) : Bool :=
  match x with
  | .const (.slice none 0 0) => true
  | _ => false

theorem isNilC_eq {x : Operand} (h : isNilC x = true) : x = .const (.slice none 0 0) := by
  unfold isNilC at h
  split at h
  · rfl
  · cases h

def appendW (E : Env) (x y : Operand) (T : TypeId) (dst : Option Tmp) (A : AS) (K : AS → Prop) : Prop :=
  match E.L T with
  | some i => match E.L i.elem with
    | some j => (i.isl = true ∧ j.size ≠ 0 ∧ j.zero.length = j.size ∧ j.bytes ≠ 0) ∧ srcW A y j.size fun m cs =>
      if isNilC x then m * j.bytes ≤ 140737488355328 ∧ K ((A.new ⟨i.elem, j.size, j.bytes, cs⟩).put dst (.one (.gref A.nx)))
      else match A.ev x with
        | .one (.gref id) => match A.ob id with
          | some ob => ob.T.id = i.elem ∧ ob.s = j.size ∧ ob.B = j.bytes ∧ ∃ n, ob.cells.length = n * j.size ∧ (n + m) * j.bytes ≤ 140737488355328 ∧ K (((A.kill id).new ⟨i.elem, j.size, j.bytes, ob.cells ++ cs⟩).put dst (.one (.gref A.nx)))
          | none => False
        | .one (.sl full _ n cells) => (m = 0 → K (A.put dst (A.ev x))) ∧ (0 < m → full = true ∧ cells.length = n * j.size ∧ (n + m) * j.bytes ≤ 140737488355328 ∧ K ((A.new ⟨i.elem, j.size, j.bytes, cells ++ cs⟩).put dst (.one (.gref A.nx))))
        | _ => False
    | none => False
  | none => False

def copyW (E : Env) (x y : Operand) (T : TypeId) (dst : Option Tmp) (A : AS) (K : AS → Prop) : Prop :=
  match E.L T with
  | some i => match E.L i.elem with
    | some j => (i.isl = true ∧ j.size ≠ 0) ∧ srcW A y j.size fun m cs => match A.ev x with
      | .one (.gref id) => match A.ob id with
        | some ob => ob.s = j.size ∧ ∃ n, ob.cells.length = n * j.size ∧ K ((A.upd id { ob with cells := setR ob.cells 0 (cs.take (min m n * j.size)) }).put dst (.one (.int .i64 (min m n : Nat))))
        | none => False
      | _ => False
    | none => False
  | none => False

def callW (P : Program) (fv : Operand) (xs : Array Operand) (dst : Option Tmp) (A : AS) (K : AS → Prop) : Prop :=
  ∃ f caps, A.ev fv = .one (.fn f caps) ∧ callee P f ∧ ∃ args obs pos post ρ, FSpec P f args obs post ∧ Passed A (xs.toList.map A.ev ++ caps.map .one) args obs ρ pos ∧
    ∀ r obs' news, post r obs' news → obs'.length = obs.length → K ((A.back ρ obs.length pos obs' news).put dst (r.ren (cren ρ obs.length A.nx)))

def builtinW (E : Env) (o : Oper) (c : Call) (b : Builtin) (A : AS) (K : AS → Prop) : Prop :=
  match b with
  | .append => match c.args.toList, c.argTypes.toList with
    | [x, y], [T, T'] => T = T' ∧ appendW E x y T o.dst A K
    | _, _ => False
  | .copy => match c.args.toList, c.argTypes.toList with
    | [x, y], [T, T'] => T = T' ∧ copyW E x y T o.dst A K
    | _, _ => False
  | _ => pv E o A (fun v => K (A.put o.dst v))

def loadW (E : Env) (T : TypeId) (ad : Operand) (dst : Option Tmp) (A : AS) (K : AS → Prop) : Prop :=
  match E.L T with
  | some i => match A.ev ad with
    | .one (.ptr id p) => match A.ob id with
      | some ob => match valOf i ((ob.cells.drop p).take i.size) with
        | some v => K (A.put dst v)
        | none => False
      | none => False
    | .one (.cptr cells) => match valOf i (cells.take i.size) with
      | some v => K (A.put dst v)
      | none => False
    | _ => False
  | none => False

def storeW (E : Env) (T : TypeId) (ad x : Operand) (dst : Option Tmp) (A : AS) (K : AS → Prop) : Prop :=
  match E.L T with
  | some i => match A.ev ad with
    | .one (.ptr id p) => match A.ob id with
      | some ob => (A.ev x).isVal = true ∧ (A.ev x).cells.length = i.size ∧ i.size ≠ 0 ∧ p + i.size ≤ ob.cells.length ∧ K ((A.upd id { ob with cells := setR ob.cells p (A.ev x).cells }).put dst .undef)
      | none => False
    | _ => False
  | none => False

def allocW (E : Env) (T : TypeId) (dst : Option Tmp) (A : AS) (K : AS → Prop) : Prop :=
  match E.L T with
  | some i => i.zero ≠ [] ∧ K ((A.new ⟨T, 0, 0, i.zero⟩).put dst (.one (.ptr A.nx 0)))
  | none => False

def buildSliceW (E : Env) (T : TypeId) (n : Nat) (ps : Array (Nat × Operand)) (dst : Option Tmp) (A : AS) (K : AS → Prop) : Prop :=
  match E.L T with
  | some i => match E.L i.elem with
    | some j => (i.isl = true ∧ j.size ≠ 0 ∧ j.zero.length = j.size ∧ j.bytes ≠ 0 ∧ n ≠ 0 ∧ n * j.size ≤ 16777216 ∧ n * j.bytes ≤ 140737488355328) ∧
      match afill (fun k => some (k * j.size, j.size)) (List.replicate n j.zero).flatten (evParts A ps) with
      | some cs => cs.length = n * j.size ∧ K ((A.new ⟨i.elem, j.size, j.bytes, cs⟩).put dst (.one (.gref A.nx)))
      | none => False
    | none => False
  | none => False

def makeSliceW (E : Env) (T : TypeId) (x y : Operand) (dst : Option Tmp) (A : AS) (K : AS → Prop) : Prop :=
  match E.L T with
  | some i => match E.L i.elem with
    | some j => (i.isl = true ∧ j.size ≠ 0 ∧ j.zero.length = j.size ∧ j.bytes ≠ 0) ∧ match A.ev x, A.ev y with
      | .one (.int _ m), .one (.int _ m') => m = m' ∧ 0 ≤ m ∧ m.toNat * j.bytes ≤ 140737488355328 ∧ K ((A.new ⟨i.elem, j.size, j.bytes, (List.replicate m.toNat j.zero).flatten⟩).put dst (.one (.gref A.nx)))
      | _, _ => False
    | none => False
  | none => False

/-- What must hold that K holds behind an operation. -/
def owp (P : Program) (E : Env) (o : Oper) (A : AS) (K : AS → Prop) : Prop :=
  match o.op with
  | .alloc T => allocW E T o.dst A K
  | .box T x => (A.ev x).isVal = true ∧ K ((A.new ⟨T, 0, 0, (A.ev x).cells⟩).put o.dst (.one (.ptr A.nx 0)))
  | .load T ad => loadW E T ad o.dst A K
  | .store T ad x => storeW E T ad x o.dst A K
  | .buildSlice T n ps => buildSliceW E T n ps o.dst A K
  | .makeSlice T x y => makeSliceW E T x y o.dst A K
  | .call c => match c.callee with
    | .builtin b => builtinW E o c b A K
    | .value fv => callW P fv c.args o.dst A K
    | .invoke _ _ => False
  | _ => pv E o A (fun v => K (A.put o.dst v))

section
variable {P : Program} {E : Env} {A : AS} {G : Gh} {a : Act} {w : World} {o : Oper} {K : AS → Prop} {Q : Exit → Act → World → Prop}

theorem srcW_open (R : Rel G A a w) {y : Operand} {s : Nat} {k : Nat → List AC → Prop} (h : srcW A y s k) : ∃ m cs, Src G A.nx w (A.ev y) m s cs ∧ k m cs := by
  unfold srcW at h
  split at h
  · rename_i fu B m cs e
    rw [e]
    exact ⟨m, cs, Src.sl h.1, h.2⟩
  · rename_i id e
    split at h
    · rename_i ob hob
      obtain ⟨h0, h1, m, h2, h3⟩ := h
      rw [e]
      subst h1
      exact ⟨m, ob.cells, Src.obj R hob h0 h2, h3⟩
    · exact h.elim
  · exact h.elim

theorem pv_wp (hE : E.Ok P) (R : Rel G A a w) (hd : ∀ t, o.dst = some t → t < A.sz) (h : pv E o A (fun v => K (A.put o.dst v))) : o.wp P a w (Post K G w) Q := by
  obtain ⟨v, x, h1, h2, h3⟩ := pv_sound hE R h
  exact wp_value R hd (h1 w) h2 h3

/-- 'append(x, nothing...)'. -/
theorem wp_append0 (hL : E.L.Ok P) (R : Rel G A a w) (hd : ∀ t, o.dst = some t → t < A.sz) {T : Nat} {i j : TI} {x y : Operand} {full : Bool} {B n : Nat} {cells cs : List AC} (ho : o.op = .call ⟨.builtin .append, #[x, y], #[T, T]⟩)
    (hi : E.L T = some i) (hs : i.isl = true) (hj : E.L i.elem = some j) (hx : A.ev x = .one (.sl full B n cells)) (hsrc : Src G A.nx w (A.ev y) 0 j.size cs)
    (hK : K (A.put o.dst (A.ev x))) : o.wp P a w (Post K G w) Q := by
  have h := R.ev x
  have h0 := h
  rw [hx] at h
  obtain ⟨ad, c, us, hval, hp, hnc, hf, ha, hB, hc, hzz⟩ := inv_sl h
  obtain ⟨ad2, c2, us2, e2, _⟩ := hsrc.open_ _ (R.ev y)
  obtain ⟨f, h3, h4⟩ := size_info (hL _ _ hj)
  refine wp_value R hd (exec_builtin ho (fun cs => ?_)) h0 hK
  have hu := elem_info (hL T i hi) hs
  have hrun : (Builtin.append_ #[T, T] o.type #[.slice ad n c, .slice ad2 0 c2]).run P w = .ok (.slice ad n c) w := by
    cases ad <;> cases ad2 <;> simp [Builtin.append_, run_underlying hu, sizeOf, typeInfo, h3, Builtin.lenOf, Builtin.firstCells, loadCells, loadCellsFrom, hnc, storeCells]
  simp [builtin, hval, e2, hrun]

theorem owp_sound (hE : E.Ok P) (o : Oper) (A : AS) (K : AS → Prop) (h : owp P E o A K) (hd : ∀ t, o.dst = some t → t < A.sz) (G : Gh) (a : Act) (w : World) (Q : Exit → Act → World → Prop) (R : Rel G A a w) : o.wp P a w (Post K G w) Q := by
  unfold owp at h
  split at h
  · rename_i T ho
    unfold allocW at h
    split at h
    · rename_i i hi
      exact wp_alloc hE.L R hd hi h.1 ho h.2
    · exact h.elim
  · rename_i T x ho
    exact wp_box R hd h.1 ho h.2
  · rename_i T ad ho
    unfold loadW at h
    split at h
    · rename_i i hi
      split at h
      · rename_i id p e
        split at h
        · rename_i ob hob
          split at h
          · rename_i v hv
            exact wp_load hE.L R hd hi ho e hob hv h
          · exact h.elim
        · exact h.elim
      · rename_i cells e
        split at h
        · rename_i v hv
          exact wp_loadC hE.L R hd hi ho e hv h
        · exact h.elim
      · exact h.elim
    · exact h.elim
  · rename_i T ad x ho
    unfold storeW at h
    split at h
    · rename_i i hi
      split at h
      · rename_i id p e
        split at h
        · rename_i ob hob
          obtain ⟨h1, h2, h3, h4, h5⟩ := h
          exact wp_store hE.L R hi ho e hob h1 h2 h3 h4 h5
        · exact h.elim
      · exact h.elim
    · exact h.elim
  · rename_i T n ps ho
    unfold buildSliceW at h
    split at h
    · rename_i i hi
      split at h
      · rename_i j hj
        obtain ⟨⟨h1, h2, h3, h4, h5, h6, h7⟩, h⟩ := h
        split at h
        · rename_i cs hcs
          exact wp_buildSlice hE.L R hd hi h1 hj h2 h3 ho h5 h6 h7 h4 hcs h.1 h.2
        · exact h.elim
      · exact h.elim
    · exact h.elim
  · rename_i T x y ho
    unfold makeSliceW at h
    split at h
    · rename_i i hi
      split at h
      · rename_i j hj
        obtain ⟨⟨h1, h2, h3, h4⟩, h⟩ := h
        split at h
        · rename_i K1 m K2 m' e1 e2
          obtain ⟨rfl, h5, h6, h7⟩ := h
          exact wp_makeSlice hE.L R hd hi h1 hj h2 h3 ho e1 e2 h5 h6 h4 h7
        · exact h.elim
      · exact h.elim
    · exact h.elim
  · rename_i c ho
    split at h
    · rename_i b hb
      unfold builtinW at h
      obtain ⟨callee, args, ts⟩ := c
      simp only at hb
      subst hb
      split at h
      · simp only at h
        split at h
        · rename_i x y T T' e1 e2
          have e1 : args = #[x, y] := Array.ext' e1
          have e2 : ts = #[T, T'] := Array.ext' e2
          obtain ⟨rfl, h⟩ := h
          subst e1 e2
          unfold appendW at h
          split at h
          · rename_i i hi
            split at h
            · rename_i j hj
              obtain ⟨⟨h1, h2, h3, h4⟩, h⟩ := h
              obtain ⟨m, cs, hsrc, h'⟩ := srcW_open R h
              clear h
              have h := h'
              clear h'
              split at h
              · rename_i e
                rw [isNilC_eq e] at ho
                exact wp_appendNil hE.L R hd ho hi h1 hj h2 h3 hsrc h.1 h4 h.2
              · split at h
                · rename_i id e
                  split at h
                  · rename_i ob hob
                    obtain ⟨h5, h6, h7, n, h8, h9, h10⟩ := h
                    exact wp_appendG hE.L R hd ho hi h1 hj h2 h3 e hob h5 h6 h7 h8 hsrc h9 h4 h10
                  · exact h.elim
                · rename_i fu B n cells e
                  rcases Nat.eq_zero_or_pos m with hm | hm
                  · subst hm
                    exact wp_append0 hE.L R hd ho hi h1 hj e hsrc (h.1 rfl)
                  · obtain ⟨rfl, h5, h6, h7⟩ := h.2 hm
                    exact wp_appendFull hE.L R hd ho hi h1 hj h2 h3 e h5 hsrc hm h6 h4 h7
                · exact h.elim
            · exact h.elim
          · exact h.elim
        · exact h.elim
      · simp only at h
        split at h
        · rename_i x y T T' e1 e2
          have e1 : args = #[x, y] := Array.ext' e1
          have e2 : ts = #[T, T'] := Array.ext' e2
          obtain ⟨rfl, h⟩ := h
          subst e1 e2
          unfold copyW at h
          split at h
          · rename_i i hi
            split at h
            · rename_i j hj
              obtain ⟨⟨h1, h2⟩, h⟩ := h
              obtain ⟨m, cs, hsrc, h⟩ := srcW_open R h
              split at h
              · rename_i id e
                split at h
                · rename_i ob hob
                  obtain ⟨h5, n, h6, h7⟩ := h
                  exact wp_copy hE.L R hd ho hi h1 hj h2 e hob h5 h6 hsrc h7
                · exact h.elim
              · exact h.elim
            · exact h.elim
          · exact h.elim
        · exact h.elim
      · exact pv_wp hE R hd h
    · rename_i fv hfv
      obtain ⟨callee, args, ts⟩ := c
      simp only at hfv
      subst hfv
      obtain ⟨f, caps, h1, h2, args', obs, pos, post, ρ, h3, h4, h5⟩ := h
      exact wp_call R hd ho h1 h2 h3 h4 h5
    · exact h.elim
  · exact pv_wp hE R hd h

end
end Go.Proofs.Ve

/-
  VeMp: maps from strings to 'true', and iterators over strings: blocks of the call's own that are not of cells.
-/
set_option linter.unusedVariables false
set_option linter.unusedSimpArgs false
namespace Go.Proofs.Ve
open Go Go.Lib

section
variable {P : Program} {E : Env} {A : AS} {G : Gh} {a : Act} {w : World} {o : Oper} {K : AS → Prop} {Q : Exit → Act → World → Prop}

theorem repO_raw (R : Rel G A a w) (T : OT) {x : Obj} (hx : T.obj = some x) :
    RepO (G.new A.nx w.heap.size undef) (A.nx + 1) (w.alloc x) A.nx ⟨T, 0, 0, []⟩ := by
  refine ⟨[], .nil, .inr (.inl ⟨rfl, rfl, x, hx, ?_, ?_⟩)⟩
  · show fupd G.own w.heap.size (some A.nx) (fupd G.adr A.nx w.heap.size A.nx) = some A.nx
    rw [fupd_same, fupd_same]
  · show (w.alloc _).heap[fupd G.adr A.nx w.heap.size A.nx]? = _
    rw [fupd_same]
    exact heap_alloc_new w _

/-- A raw object, as it lies in memory. -/
theorem RepO.raw {nx id : Nat} {ob : Ob} {x : Obj} (h : RepO G nx w id ob) (h0 : ob.s = 0) (hx : ob.T.obj = some x) : ob.cells = [] ∧ G.own (G.adr id) = some id ∧ w.heap[G.adr id]? = some x := by
  obtain ⟨vs, hp, hc⟩ := h
  rcases hc with ⟨_, ht, _⟩ | ⟨_, hv, y, ht, ho, hh⟩ | ⟨h1, _⟩
  · rw [ht] at hx; cases hx
  · rw [ht] at hx
    cases hx
    subst hv
    exact ⟨List.eq_nil_of_length_eq_zero hp.1, ho, hh⟩
  · omega

theorem inv_mref {nx : Nat} {id : Nat} {v : Value} (h : RepAV G nx w (.one (.mref id)) v) : id < nx ∧ v = .map (some (G.adr id)) := by
  cases h with
  | one h => cases h with
    | deep h => cases h
    | mref _ h => exact ⟨h, rfl⟩

/-- A block of the call's own is written anew. -/
theorem Rel.updRaw (R : Rel G A a w) {id : Nat} {ob : Ob} {x y : Obj} {T' : OT} (hob : A.ob id = some ob) (h0 : ob.s = 0) (hx : ob.T.obj = some x) (hy : T'.obj = some y) :
    Rel G (A.upd id ⟨T', 0, 0, []⟩) a { w with heap := w.heap.setIfInBounds (G.adr id) y } ∧ Ext G w G { w with heap := w.heap.setIfInBounds (G.adr id) y } := by
  obtain ⟨_, ho, hh⟩ := (R.obs id ob hob).2.raw h0 hx
  have hlt := R.own _ _ ho
  refine R.updObj hob ho (fun b hb => by simp [Array.getElem?_setIfInBounds, Ne.symm hb]) (by simp) rfl rfl rfl fun _ => ?_
  exact ⟨[], .nil, .inr (.inl ⟨rfl, rfl, y, hy, ho, by simp [hlt]⟩)⟩

theorem wp_makeMap (R : Rel G A a w) (hd : ∀ t, o.dst = some t → t < A.sz) {T : TypeId} (ho : o.op = .makeMap T none)
    (hK : K ((A.new ⟨.keys [], 0, 0, []⟩).put o.dst (.one (.mref A.nx)))) : o.wp P a w (Post K G w) Q := by
  obtain ⟨h1, h2, h3⟩ := R.allocObj ⟨.keys [], 0, 0, []⟩ undef (.map #[] 0) (repO_raw R (.keys []) rfl)
  unfold Oper.wp
  have hr : (execOp a.eval o).run P w = .ok (.value (.map (some w.heap.size))) (w.alloc (.map #[] 0)) := by
    simp [execOp, ho, run_makeMap_plain]
  rw [hr]
  refine ⟨_, _, hK, h1.put hd (.one ?_), h2⟩
  have := RepV.mref (G := G.new A.nx w.heap.size undef) (w := w.alloc (.map #[] 0)) (nx := A.nx + 1) A.nx (Nat.lt_succ_self _)
  have e2 : (G.new A.nx w.heap.size undef).adr A.nx = w.heap.size := fupd_same _ _ _
  rw [e2] at this
  exact this

theorem wp_range (hE : E.Ok P) (R : Rel G A a w) (hd : ∀ t, o.dst = some t → t < A.sz) {T : TypeId} {i : TI} {x : Operand} {s : ByteArray} (hi : E.L T = some i) (hs : i.str = true) (ho : o.op = .range T x) (hx : A.ev x = .one (.str s))
    (hK : K ((A.new ⟨.iter s 0, 0, 0, []⟩).put o.dst (.one (.ptr A.nx 0)))) : o.wp P a w (Post K G w) Q := by
  have hv := R.ev x
  rw [hx] at hv
  have hv := inv_str hv
  obtain ⟨h1, h2, h3⟩ := R.allocObj ⟨.iter s 0, 0, 0, []⟩ undef (.stringIter s 0) (repO_raw R (.iter s 0) rfl)
  unfold Oper.wp
  have hr : (execOp a.eval o).run P w = .ok (.value (.pointer (some ⟨w.heap.size, 0, none⟩))) (w.alloc (.stringIter s 0)) := by
    have := run_range_string (P := P) w T s (str_info (hE.L T i hi) hs)
    simp [execOp, ho, hv, this, World.iter]
  rw [hr]
  refine ⟨_, _, hK, h1.put hd (.one ?_), h2⟩
  have := RepV.ptr (G := G.new A.nx w.heap.size undef) (w := w.alloc (.stringIter s 0)) (nx := A.nx + 1) A.nx 0 (Nat.lt_succ_self _)
  have e2 : (G.new A.nx w.heap.size undef).adr A.nx = w.heap.size := fupd_same _ _ _
  rw [e2] at this
  exact this

theorem wp_nextEnd (R : Rel G A a w) (hd : ∀ t, o.dst = some t → t < A.sz) {x : Operand} {id pos : Nat} {s : ByteArray} {ob : Ob} (ho : o.op = .next x true) (hx : A.ev x = .one (.ptr id 0)) (hob : A.ob id = some ob) (hs : ob.s = 0) (hT : ob.T = .iter s pos) (hp : ¬ pos < s.size)
    (hK : K (A.put o.dst (.tup [.one (.bool false)]))) : o.wp P a w (Post K G w) Q := by
  have hv := R.ev x
  rw [hx] at hv
  obtain ⟨hid, hv⟩ := inv_ptr hv
  obtain ⟨_, _, hh⟩ := (R.obs id ob hob).2.raw (x := .stringIter s pos) hs (by rw [hT]; rfl)
  refine wp_value R hd (v := .tuple #[.bool false]) ?_ (.tup (vs := [.bool false]) rfl (fun j x y h1 h2 => ?_)) hK
  · simp [execOp, ho, hv, run_next_end_at w _ s pos o.type hh hp]
  · cases j with
    | zero => simp at h1 h2; subst h1 h2; exact .one (.deep (.bool _))
    | succ j => simp at h1

theorem wp_nextOn (R : Rel G A a w) (hd : ∀ t, o.dst = some t → t < A.sz) {x : Operand} {id pos : Nat} {s : ByteArray} {ob : Ob} (ho : o.op = .next x true) (hx : A.ev x = .one (.ptr id 0)) (hob : A.ob id = some ob) (hs : ob.s = 0) (hT : ob.T = .iter s pos) (hp : pos < s.size)
    (hK : K ((A.upd id ⟨.iter s (pos + (Utf8.decode s pos).2), 0, 0, []⟩).put o.dst (.tup [.one (.bool true), .one (.int .i64 pos), .one (.int .i32 (Utf8.decode s pos).1)]))) : o.wp P a w (Post K G w) Q := by
  have hv := R.ev x
  rw [hx] at hv
  obtain ⟨hid, hv⟩ := inv_ptr hv
  have hTx : ob.T.obj = some (.stringIter s pos) := by rw [hT]; rfl
  obtain ⟨_, _, hh⟩ := (R.obs id ob hob).2.raw hs hTx
  obtain ⟨h1, h2⟩ := R.updRaw (T' := .iter s (pos + (Utf8.decode s pos).2)) (y := .stringIter s (pos + (Utf8.decode s pos).2)) hob hs hTx rfl
  unfold Oper.wp
  have hr : (execOp a.eval o).run P w = .ok (.value (.tuple #[.bool true, .int .i64 pos, .int .i32 (Utf8.decode s pos).1])) (w.iterAt (G.adr id) s (pos + (Utf8.decode s pos).2)) := by
    simp [execOp, ho, hv, run_next_any_at w _ s pos o.type hh hp]
  rw [hr]
  refine ⟨_, _, hK, h1.put hd (.tup (vs := [.bool true, .int .i64 pos, .int .i32 (Utf8.decode s pos).1]) rfl (fun j x y h1 h2 => ?_)), h2⟩
  match j, h1, h2 with
  | 0, h1, h2 => simp at h1 h2; subst h1 h2; exact .one (.deep (.bool _))
  | 1, h1, h2 => simp at h1 h2; subst h1 h2; exact .one (.deep (.int _ _))
  | 2, h1, h2 => simp at h1 h2; subst h1 h2; exact .one (.deep (.int _ _))
  | j + 3, h1, h2 => simp at h1

def hasK (k : ByteArray) (l : List ByteArray) : Bool := l.any (fun x => k == x)
theorem findNow_keys (k : ByteArray) : ∀ (l : List ByteArray) (n i : Nat), (hasK k l = false → Instr.findNow .string (.string k) (keyEs l n) i = some none) ∧ (hasK k l = true → ∃ j, Instr.findNow .string (.string k) (keyEs l n) i = some (some (j, .bool true)))
  | [], n, i => ⟨fun _ => rfl, fun h => by cases h⟩
  | x :: l, n, i => by
    obtain ⟨h1, h2⟩ := findNow_keys k l (n + 1) (i + 1)
    cases hb : (k == x) with
    | true => exact ⟨fun h => by simp [hasK, hb] at h, fun _ => ⟨i, by simp [keyEs, Instr.findNow, Instr.sameNow, hb]⟩⟩
    | false =>
      refine ⟨fun h => ?_, fun h => ?_⟩
      · have h : hasK k l = false := by simpa [hasK, hb] using h
        simp [keyEs, Instr.findNow, Instr.sameNow, hb, h1 h]
      · have h : hasK k l = true := by simpa [hasK, hb] using h
        obtain ⟨j, hj⟩ := h2 h
        exact ⟨j, by simp [keyEs, Instr.findNow, Instr.sameNow, hb, hj]⟩

theorem keyEs_append : ∀ (l : List ByteArray) (k : ByteArray) (n : Nat), keyEs (l ++ [k]) n = keyEs l n ++ [{ key := .string k, val := .bool true, born := n + l.length }]
  | [], k, n => rfl
  | x :: l, k, n => by simp [keyEs, keyEs_append l k (n + 1), Nat.add_assoc, Nat.add_comm, Nat.add_left_comm]

theorem wp_lookup (hE : E.Ok P) (R : Rel G A a w) (hd : ∀ t, o.dst = some t → t < A.sz) {T : TypeId} {x y : Operand} {id : Nat} {l : List ByteArray} {k : ByteArray} {ob : Ob} (hm : E.maps T = true) (ho : o.op = .lookup T x y false) (hx : A.ev x = .one (.mref id)) (hy : A.ev y = .one (.str k))
    (hob : A.ob id = some ob) (hs : ob.s = 0) (hT : ob.T = .keys l) (hK : K (A.put o.dst (.one (.bool (hasK k l))))) : o.wp P a w (Post K G w) Q := by
  have hv := R.ev x
  rw [hx] at hv
  obtain ⟨hid, hv⟩ := inv_mref hv
  have hu := R.ev y
  rw [hy] at hu
  have hu := inv_str hu
  obtain ⟨_, _, hh⟩ := (R.obs id ob hob).2.raw (x := .map (keyEs l 0).toArray l.length) hs (by rw [hT]; rfl)
  obtain ⟨kt, et, f, e1, e2, e3, e4⟩ := hE.maps T hm
  refine wp_value R hd (v := .bool (hasK k l)) ?_ (.one (.deep (.bool _))) hK
  have hc : ∀ b, (Instr.checkKey b 10000 kt (.string k)).run P w = .ok () w := fun b => MapKept.run_checkKey (k := .string k) e2 (by simp [MapKept.IsKey]) b 9999
  cases h : hasK k l with
  | true =>
    obtain ⟨j, hj⟩ := (findNow_keys k l 0 0).2 h
    have hf := MapKept.run_findKey (w := w) e2 hj
    simp [execOp, ho, hv, hu, Instr.lookup, run_underlying e1, MapKept.run_getObj_map hh, hc, hf, h]
  | false =>
    have hf := MapKept.run_findKey (w := w) e2 ((findNow_keys k l 0 0).1 h)
    simp [execOp, ho, hv, hu, Instr.lookup, run_underlying e1, MapKept.run_getObj_map hh, hc, hf, h, zeroValue, typeInfo, e3, e4]

theorem wp_mapUpdate (hE : E.Ok P) (R : Rel G A a w) {T : TypeId} {x y z : Operand} {id : Nat} {l : List ByteArray} {k : ByteArray} {ob : Ob} (hm : E.maps T = true) (ho : o.op = .mapUpdate T x y z) (hx : A.ev x = .one (.mref id)) (hy : A.ev y = .one (.str k)) (hz : A.ev z = .one (.bool true))
    (hob : A.ob id = some ob) (hs : ob.s = 0) (hT : ob.T = .keys l) (hk : hasK k l = false) (hK : K ((A.upd id ⟨.keys (l ++ [k]), 0, 0, []⟩).put o.dst .undef)) : o.wp P a w (Post K G w) Q := by
  have hv := R.ev x
  rw [hx] at hv
  obtain ⟨hid, hv⟩ := inv_mref hv
  have hu := R.ev y
  rw [hy] at hu
  have hu := inv_str hu
  have ht := R.ev z
  rw [hz] at ht
  have ht := inv_bool ht
  have hTx : ob.T.obj = some (.map (keyEs l 0).toArray l.length) := by rw [hT]; rfl
  obtain ⟨_, _, hh⟩ := (R.obs id ob hob).2.raw hs hTx
  obtain ⟨h1, h2⟩ := R.updRaw (T' := .keys (l ++ [k])) (y := .map (keyEs (l ++ [k]) 0).toArray (l ++ [k]).length) hob hs hTx rfl
  obtain ⟨kt, et, f, e1, e2, e3, e4⟩ := hE.maps T hm
  have hc : ∀ b, (Instr.checkKey b 10000 kt (.string k)).run P w = .ok () w := fun b => MapKept.run_checkKey (k := .string k) e2 (by simp [MapKept.IsKey]) b 9999
  have hf := MapKept.run_findKey (w := w) e2 ((findNow_keys k l 0 0).1 hk)
  unfold Oper.wp
  have hr : (execOp a.eval o).run P w = .ok .skip { w with heap := w.heap.setIfInBounds (G.adr id) (.map (keyEs (l ++ [k]) 0).toArray (l ++ [k]).length) } := by
    simp [execOp, ho, hv, hu, ht, Instr.mapUpdate, run_underlying e1, MapKept.run_getObj_map hh, hc, hf, MapKept.run_setObj_map _ hh, keyEs_append, Result.andThen]
  rw [hr]
  exact ⟨G, _, hK, h1.putUndef _ _, h2⟩

end
end Go.Proofs.Ve

/-
  VeR: regions whose order is drawn.
-/
set_option linter.unusedVariables false
set_option linter.unusedSimpArgs false
namespace Go.Proofs.Ve
open Go

/-! ### any order, up to a point -/
def stopped (L : List Nat) (l : Array Bool) : Bool := L.all fun i => l.getD i false

def wpH (P : Program) (ops : Array Oper) (Q : Exit → Act → World → Prop) (L : List Nat) (R : Nat → Array Bool → Act → World → Prop) : Nat → Array Bool → Act → World → (World → Prop) → Prop
  | 0, l, a, w, S => stopped L l = true ∧ R 0 l a w
  | n + 1, l, a, w, S => (stopped L l = true ∧ R (n + 1) l a w) ∨
    (stopped L l = false ∧ Region.ready .any ops l ≠ [] ∧ ∀ i ∈ Region.ready .any ops l, wpOp P ops Q i (fun a' w' => ∃ S' : World → Prop, (∀ x, S' x → S x) ∧ S' w' ∧ wpH P ops Q L R n (l.setIfInBounds i true) a' w' S') a w)

section
variable {P : Program} {ops : Array Oper} {Q : Exit → Act → World → Prop} {L : List Nat} {R : Nat → Array Bool → Act → World → Prop}

theorem wpAny_of_H (hR : ∀ n l a w, R n l a w → wpAny P .any ops Q n l a w) : ∀ (n : Nat) (l : Array Bool) (a : Act) (w : World) (S : World → Prop), wpH P ops Q L R n l a w S → wpAny P .any ops Q n l a w
  | 0, l, a, w, S, h => hR _ _ _ _ h.2
  | n + 1, l, a, w, S, h => by
    rcases h with h | ⟨_, h0, h⟩
    · exact hR _ _ _ _ h.2
    · exact ⟨fun e => absurd e h0, fun i hi => wpOp_mono (fun a' w' ⟨S', _, _, h'⟩ => wpAny_of_H hR n _ a' w' S' h') (h i hi)⟩

/-- Whatever is listed has all that it waits for listed. -/
def Closed (ops : Array Oper) (l : Array Bool) : Prop := ∀ k ok, ops[k]? = some ok → l.getD k false = true → ∀ e ∈ ok.after, Region.binds .any e = true → l.getD e.on false = true
def OutOk (ops : Array Oper) (L : List Nat) (l : Array Bool) : Prop := (∀ k, k < ops.size → k ∉ L → l.getD k true = false) ∧ Closed ops l
/-- Operation k waits for i, directly or through others. -/
inductive Waits (ops : Array Oper) (i : Nat) : Nat → Prop
  | here {k : Nat} {ok : Oper} {e : Edge} (hk : ops[k]? = some ok) (he : e ∈ ok.after) (hb : Region.binds .any e = true) (hi : e.on = i) : Waits ops i k
  | on {k : Nat} {ok : Oper} {e : Edge} (hk : ops[k]? = some ok) (he : e ∈ ok.after) (hb : Region.binds .any e = true) (h : Waits ops i e.on) : Waits ops i k
def Outside (ops : Array Oper) (L : List Nat) : Prop :=
  ∀ k ok, ops[k]? = some ok → k ∉ L → (∀ i ∈ L, Waits ops i k) ∨ (∃ e ∈ ok.after, Region.binds .any e = true ∧ e.on ∉ L ∧ e.on < ops.size)

theorem Waits.listed {l : Array Bool} (hc : Closed ops l) {i k : Nat} (h : Waits ops i k) : l.getD k false = true → l.getD i false = true := by
  induction h with
  | here hk he hb hi => exact fun hl => by subst hi; exact hc _ _ hk hl _ he hb
  | on hk he hb h ih => exact fun hl => ih (hc _ _ hk hl _ he hb)
theorem Waits.ready {l : Array Bool} (hc : Closed ops l) {i k : Nat} (h : Waits ops i k) (hr : k ∈ Region.ready .any ops l) : l.getD i false = true := by
  obtain ⟨_, o, ho, hall⟩ := mem_ready.1 hr
  cases h with
  | here hk he hb hi => rw [hk] at ho; cases ho; subst hi; exact hall _ he hb
  | on hk he hb h => rw [hk] at ho; cases ho; exact h.listed hc (hall _ he hb)
theorem Closed.set {l : Array Bool} (hc : Closed ops l) {i : Nat} (hr : i ∈ Region.ready .any ops l) : Closed ops (l.setIfInBounds i true) := fun k ok hk hl e he hb => by
  by_cases h : i = k
  · subst h
    obtain ⟨_, o, ho, hall⟩ := mem_ready.1 hr
    rw [hk] at ho
    cases ho
    exact getD_set_true (hall e he hb)
  · rw [getD_set_ne false h] at hl
    exact getD_set_true (hc k ok hk hl e he hb)

theorem stopped_get {l : Array Bool} (h : stopped L l = true) {i : Nat} (hi : i ∈ L) : l.getD i false = true := by
  unfold stopped at h
  rw [List.all_eq_true] at h
  exact h i hi

theorem getD_flip {l : Array Bool} {i : Nat} (h : l.getD i true = false) : l.getD i false = false := by
  rcases Nat.lt_or_ge i l.size with h' | h'
  · simp [h'] at h ⊢; exact h
  · simp [Array.getElem?_eq_none h'] at h

theorem outOk_set {l : Array Bool} {i : Nat} (h : OutOk ops L l) (hi : i ∈ L) (hr : i ∈ Region.ready .any ops l) : OutOk ops L (l.setIfInBounds i true) := ⟨fun k hk hkL => by
  rw [getD_set_ne true (fun (e : i = k) => hkL (by rw [← e]; exact hi))]
  exact h.1 k hk hkL, h.2.set hr⟩

theorem ready_in (hout : Outside ops L) {l : Array Bool} (ho : OutOk ops L l) {i : Nat} (hiL : i ∈ L) (hi : l.getD i true = false) {j : Nat} (hj : j ∈ Region.ready .any ops l) : j ∈ L := by
  obtain ⟨hun, o, hoj, hall⟩ := mem_ready.1 hj
  by_cases h : j ∈ L
  · exact h
  · exfalso
    rcases hout j o hoj h with h1 | ⟨e, he, hb, h2, h3⟩
    · have := (h1 i hiL).ready ho.2 hj
      rw [getD_flip hi] at this
      cases this
    · have := hall e he hb
      rw [getD_flip (ho.1 e.on h3 h2)] at this
      cases this

theorem yields_less {S S' : World → Prop} (h : ∀ x, S' x → S x) {o : Oper} {v : Value} {a : Act} (y : YieldsIf P ops S o v a) : YieldsIf P ops S' o v a :=
  y.imp (fun ⟨h1, h2⟩ => ⟨h1, fun w hw => h2 w (h w hw)⟩) id

theorem wpH_first {i : Nat} {oi : Oper} {v : Value} (hi : ops[i]? = some oi) (hiL : i ∈ L) (hout : Outside ops L) (hsel : ∀ (j : Nat) (o : Oper) cs b, ops[j]? = some o → o.op ≠ .select cs b)
    (hQ : ∀ c a w, Q (.panic c) (a.put oi.dst v) w → Q (.panic c) a w) :
    ∀ (n : Nat) (l : Array Bool) (a : Act) (w : World) (S : World → Prop), OutOk ops L l →
      (∀ j oj, ops[j]? = some oj → j ≠ i → l.getD j true = false → (∀ e ∈ oj.after, Region.binds .any e = true → e.on ≠ i) → oi.apart ops oj = true) →
      i ∈ Region.ready .any ops l → YieldsIf P ops S oi v a → S w →
      wpH P ops Q L R n (l.setIfInBounds i true) (a.put oi.dst v) w S → wpH P ops Q L R (n + 1) l a w S := by
  intro n
  induction n with
  | zero =>
    intro l a w S ho hfree hr hy hS H
    have hun := (mem_ready.1 hr).1
    have hns : stopped L l = false := by
      cases e : stopped L l with
      | false => rfl
      | true => have := stopped_get e hiL; rw [getD_flip hun] at this; cases this
    refine .inr ⟨hns, fun h => (by rw [h] at hr; cases hr), fun j hj => ?_⟩
    by_cases hji : j = i
    · subst hji; exact hy.wpOp hi hS ⟨S, fun _ h => h, hS, H⟩
    · have h1 := ready_in hout ho hiL hun hj
      have h2 := stopped_get H.1 h1
      rw [getD_set_ne false (fun e => hji e.symm), getD_flip (mem_ready.1 hj).1] at h2
      cases h2
  | succ n ih =>
    intro l a w S ho hfree hr hy hS H
    have hun := (mem_ready.1 hr).1
    have hns : stopped L l = false := by
      cases e : stopped L l with
      | false => rfl
      | true => have := stopped_get e hiL; rw [getD_flip hun] at this; cases this
    refine .inr ⟨hns, fun h => (by rw [h] at hr; cases hr), fun j hj => ?_⟩
    by_cases hji : j = i
    · subst hji; exact hy.wpOp hi hS ⟨S, fun _ h => h, hS, H⟩
    · have hjL := ready_in hout ho hiL hun hj
      rcases H with H | H
      · have h2 := stopped_get H.1 hjL
        rw [getD_set_ne false (fun e => hji e.symm), getD_flip (mem_ready.1 hj).1] at h2
        cases h2
      have h1 := H.2.2 j (ready_mono hj hji)
      obtain ⟨hjun, oj, hoj, hall⟩ := mem_ready.1 hj
      have hnot : ∀ e ∈ oj.after, Region.binds .any e = true → e.on ≠ i := fun e he hb heq => by
        have h1 := hall e he hb
        rw [heq, getD_flip hun] at h1
        cases h1
      have h2 := wpOp_putIf hoj (hfree j oj hoj hji hjun hnot) (fun cs b => hsel i oi cs b hi) (fun cs b => hsel j oj cs b hoj) hQ hy h1
      have hfree' : ∀ k ok, ops[k]? = some ok → k ≠ i → (l.setIfInBounds j true).getD k true = false →
          (∀ e ∈ ok.after, Region.binds .any e = true → e.on ≠ i) → oi.apart ops ok = true := fun k ok hk hki hun hno => by
        refine hfree k ok hk hki ?_ hno
        by_cases hjk : j = k
        · subst hjk; exact hjun
        · rw [getD_set_ne true hjk] at hun; exact hun
      refine wpOp_mono (fun a' w' h3 => ?_) h2
      obtain ⟨hy', S', hle, hS', h4⟩ := h3
      refine ⟨S', hle, hS', ih (l.setIfInBounds j true) a' w' S' (outOk_set ho hjL hj) hfree' (ready_mono hr (Ne.symm hji)) (yields_less hle hy') hS' ?_⟩
      rw [Array.setIfInBounds_comm _ _ hji]
      exact h4

end

/-! ### hidden objects -/
def Gh.hidB (G : Gh) (X : Nat → Bool) (b : Nat) : Bool := match G.own b with | some id => X id | none => false
def Gh.hide (G : Gh) (X : Nat → Bool) (nx : Nat) : Gh := { G with own := fun b => if G.hidB X b = true then none else G.own b, N := nx }
def AS.hide (A : AS) (X : Nat → Bool) : AS := { A with ob := fun id => if X id = true then none else A.ob id, np := A.nx }
def AS.unhide (A' : AS) (X : Nat → Bool) (A : AS) : AS := { A' with ob := fun id => if X id = true then A.ob id else A'.ob id, np := A.np }
def Gh.unhide (G' : Gh) (X : Nat → Bool) (G : Gh) : Gh := { G' with own := fun b => if G.hidB X b = true then G.own b else if G'.hidB X b = true then none else G'.own b, N := G.N }

/-- The blocks that no other operation of the region touches. -/
def SS (G : Gh) (X : Nat → Bool) (w : World) : World → Prop := fun w' => ∀ b, b < w.heap.size → (G.own b = none ∨ G.hidB X b = true) → w'.heap[b]? = w.heap[b]?

section
variable {G G' : Gh} {A A' : AS} {a a' : Act} {w w' : World} {X : Nat → Bool}

theorem hide_own {b n : Nat} : (G.hide X n).own b = none ↔ (G.own b = none ∨ G.hidB X b = true) := by
  unfold Gh.hide
  simp only
  by_cases h : G.hidB X b = true
  · simp [h]
  · simp [h]

theorem hidB_own {b : Nat} (h : G.hidB X b = true) : ∃ id, G.own b = some id ∧ X id = true := by
  unfold Gh.hidB at h
  cases e : G.own b with
  | none => rw [e] at h; cases h
  | some id => rw [e] at h; exact ⟨id, rfl, h⟩
theorem hidB_some {b id : Nat} (h : G.own b = some id) : G.hidB X b = X id := by
  unfold Gh.hidB
  rw [h]

theorem Rel.hide (R : Rel G A a w) (X : Nat → Bool) : Rel (G.hide X A.nx) (A.hide X) a w where
  defers := R.defers
  size := R.size
  slots t := (R.slots t).adv (show Adv G A.nx w (G.hide X A.nx) A.nx w from ⟨fun _ _ h => ⟨h, rfl⟩, fun _ _ => rfl, fun _ _ => rfl, Nat.le_refl _⟩)
  obs id o h := by
    unfold AS.hide at h
    simp only at h
    split at h
    · cases h
    · rename_i hx
      refine ⟨(R.obs id o h).1, (R.obs id o h).2.of_heap ⟨fun _ _ h => ⟨h, rfl⟩, fun _ _ => rfl, fun _ _ => rfl, Nat.le_refl _⟩ (R.obs id o h).1 fun k => ⟨?_, rfl⟩⟩
      show (if G.hidB X (G.adr id) = true then none else G.own (G.adr id)) = some id
      rw [hidB_some k, if_neg hx, k]
  fown b j h := ⟨hide_own.2 (.inl (R.fown b j h).1), (R.fown b j h).2⟩
  own b id h := by
    refine R.own b id ?_
    have h : (if G.hidB X b = true then none else G.own b) = some id := h
    split at h
    · cases h
    · exact h
  N := ⟨rfl, Nat.le_refl _⟩

theorem Rel.unhide (R : Rel G A a w) (R' : Rel G' A' a' w') (E : Ext (G.hide X A.nx) w G' w') : Rel (G'.unhide X G) (A'.unhide X A) a' w' ∧ Ext G w (G'.unhide X G) w' := by
  have hnx : A.nx ≤ A'.nx := by
    have h1 := R'.N
    have h2 : G'.N = A.nx := E.N
    omega
  have hA : ∀ (nx : Nat), Adv G' nx w' (G'.unhide X G) nx w' := fun nx => ⟨fun _ _ h => ⟨h, rfl⟩, fun _ _ => rfl, fun _ _ => rfl, Nat.le_refl _⟩
  have hAd : Adv G A.nx w (G'.unhide X G) A'.nx w' := ⟨fun b o h => E.F b o h, fun id h => (E.keep id h).1, fun id h => (E.keep id h).2, hnx⟩
  refine ⟨⟨R'.defers, R'.size, fun t => (R'.slots t).adv (hA _), fun id o h => ?_, fun b j h => ?_, fun b id h => ?_, ⟨R.N.1, Nat.le_trans R.N.2 hnx⟩⟩, ?_⟩
  · have h : (if X id = true then A.ob id else A'.ob id) = some o := h
    split at h
    · rename_i hx
      refine ⟨Nat.lt_of_lt_of_le (R.obs id o h).1 hnx, (R.obs id o h).2.of_heap hAd (R.obs id o h).1 fun k => ?_⟩
      have hh : G.hidB X (G.adr id) = true := (hidB_some k).trans hx
      refine ⟨?_, E.blk _ (R.own _ _ k) (hide_own.2 (.inr hh))⟩
      show (if G.hidB X (G.adr id) = true then _ else _) = _
      rw [if_pos hh, k]
    · rename_i hx
      refine ⟨(R'.obs id o h).1, (R'.obs id o h).2.of_heap (hA _) (R'.obs id o h).1 fun k => ⟨?_, rfl⟩⟩
      show (if G.hidB X (G'.adr id) = true then _ else if G'.hidB X (G'.adr id) = true then none else _) = _
      have h1 : ¬ G.hidB X (G'.adr id) = true := fun hh => by
        obtain ⟨i2, e, _⟩ := hidB_own hh
        have := E.own _ (R.own _ _ e) (hide_own.2 (.inr hh))
        rw [this] at k
        cases k
      rw [if_neg h1, hidB_some k, if_neg hx, k]
  · refine ⟨?_, (R'.fown b j h).2⟩
    show (if G.hidB X b = true then _ else if G'.hidB X b = true then none else _) = _
    have h0 := (R'.fown b j h).1
    split
    · rename_i hh
      exfalso
      obtain ⟨i2, e, _⟩ := hidB_own hh
      rcases E.Fn b j h with h1 | h1 | h1
      · have := (R.fown b j h1).1
        rw [this] at e
        cases e
      · have := R.own _ _ e
        omega
      · exact h1 (hide_own.2 (.inr hh))
    · split
      · rfl
      · exact h0
  · have h : (if G.hidB X b = true then G.own b else if G'.hidB X b = true then none else G'.own b) = some id := h
    split at h
    · exact Nat.lt_of_lt_of_le (R.own _ _ h) E.size
    · split at h
      · cases h
      · exact R'.own _ _ h
  · refine ⟨E.F, fun b hb ho => E.blk b hb (hide_own.2 (.inl ho)), fun b hb ho => ?_, fun b o h => ?_, E.size, E.os, E.tape, E.output, rfl, fun k hk => E.keep k ?_⟩
    · show (if G.hidB X b = true then G.own b else if G'.hidB X b = true then none else G'.own b) = none
      rw [E.own b hb (hide_own.2 (.inl ho)), ho]
      simp
    · rcases E.Fn b o h with h1 | h1 | h1
      · exact .inl h1
      · exact .inr (.inl h1)
      · exact .inr (.inr fun e => h1 (hide_own.2 (.inl e)))
    · show k < A.nx
      have := R.N
      omega

theorem SS.next (R : Rel G A a w) (E : Ext (G.hide X A.nx) w G' w') : SS (G'.unhide X G) X w' w' ∧ ∀ x, SS (G'.unhide X G) X w' x → SS G X w x := by
  refine ⟨fun _ _ _ => rfl, fun x h b hb ho => ?_⟩
  refine (h b (Nat.lt_of_lt_of_le hb E.size) ?_).trans (E.blk b hb (hide_own.2 ho))
  rcases ho with ho | ho
  · left
    show (if G.hidB X b = true then G.own b else if G'.hidB X b = true then none else G'.own b) = none
    rw [E.own b hb (hide_own.2 (.inl ho)), ho]
    simp
  · right
    obtain ⟨id, e, hx⟩ := hidB_own ho
    have : (G'.unhide X G).own b = some id := by
      show (if G.hidB X b = true then G.own b else if G'.hidB X b = true then none else G'.own b) = some id
      rw [if_pos ho, e]
    rw [hidB_some this, hx]
end
end Go.Proofs.Ve

/-
  VeS: plans: how the operations of a drawn region are taken.
-/
set_option linter.unusedVariables false
set_option linter.unusedSimpArgs false
namespace Go.Proofs.Ve
open Go

inductive Plan where
  | stop
  | take (i : Nat) (p : Plan)
  | one (i : Nat) (p : Plan)
  | two (i j : Nat) (p q : Plan)

def Plan.ok (ops : Array Oper) (L : List Nat) (m : Nat) (lst : Array Bool) : Plan → Nat → Array Bool → Bool
  | .stop, n, l => n == m && l == lst && stopped L l
  | .take i p, n, l => n != 0 && L.contains i && (Region.ready .any ops l).contains i && Region.free .any ops l i && Plan.ok ops L m lst p (n - 1) (l.setIfInBounds i true)
  | .one i p, n, l => n != 0 && L.contains i && !stopped L l && Region.ready .any ops l == [i] && Plan.ok ops L m lst p (n - 1) (l.setIfInBounds i true)
  | .two i j p q, n, l => n != 0 && L.contains i && L.contains j && !stopped L l && Region.ready .any ops l == [i, j] && Plan.ok ops L m lst p (n - 1) (l.setIfInBounds i true) && Plan.ok ops L m lst q (n - 1) (l.setIfInBounds j true)

def waitsB (ops : Array Oper) (i : Nat) : Nat → Nat → Bool
  | 0, _ => false
  | n + 1, k => match ops[k]? with
    | some ok => (ok.after.any fun e => Region.binds .any e && e.on == i) || ok.after.any fun e => Region.binds .any e && waitsB ops i n e.on
    | none => false
theorem waitsB_spec {ops : Array Oper} {i : Nat} : ∀ {n k : Nat}, waitsB ops i n k = true → Waits ops i k
  | 0, _, h => by cases h
  | n + 1, k, h => by
    unfold waitsB at h
    split at h
    · rename_i ok hk
      simp only [Bool.or_eq_true] at h
      rcases h with h | h
      · obtain ⟨e, he, hb⟩ := Array.any_eq_true'.1 h
        simp only [Bool.and_eq_true, beq_iff_eq] at hb
        exact .here hk he hb.1 hb.2
      · obtain ⟨e, he, hb⟩ := Array.any_eq_true'.1 h
        simp only [Bool.and_eq_true] at hb
        exact .on hk he hb.1 (waitsB_spec hb.2)
    · cases h
def outsideB (ops : Array Oper) (L : List Nat) : Bool :=
  (List.range ops.size).all fun k => L.contains k || match ops[k]? with
    | some ok => (L.all fun i => waitsB ops i 6 k) || ok.after.any fun e => Region.binds .any e && !L.contains e.on && decide (e.on < ops.size)
    | none => true
def outOkB (ops : Array Oper) (L : List Nat) (l : Array Bool) : Bool := ((List.range ops.size).all fun k => L.contains k || !l.getD k true) &&
  (List.range ops.size).all fun k => !l.getD k false || match ops[k]? with
    | some ok => ok.after.all fun e => !Region.binds .any e || l.getD e.on false
    | none => true

/-- All that the kernel looks at before a phase: L is what it carries out, from l on (n are left), up to lst (m are left). -/
def phaseOk (ops : Array Oper) (sz : Nat) (L : List Nat) (p : Plan) (n : Nat) (l : Array Bool) (m : Nat) (lst : Array Bool) : Bool :=
  dstsOk sz ops.toList && Region.noSelect ops && outsideB ops L && outOkB ops L l && p.ok ops L m lst n l

theorem outsideB_spec {ops : Array Oper} {L : List Nat} (h : outsideB ops L = true) : Outside ops L := fun k ok hk hkL => by
  unfold outsideB at h
  rw [List.all_eq_true] at h
  have h1 := h k (List.mem_range.2 (Array.getElem?_eq_some_iff.1 hk).1)
  rw [hk] at h1
  simp only [Bool.or_eq_true, List.contains_iff_mem, hkL, false_or] at h1
  rcases h1 with h1 | h1
  · refine .inl fun i hi => ?_
    rw [List.all_eq_true] at h1
    exact waitsB_spec (h1 i hi)
  · refine .inr ?_
    obtain ⟨e, he, hb⟩ := Array.any_eq_true'.1 h1
    simp only [Bool.and_eq_true, Bool.not_eq_true', decide_eq_true_eq] at hb
    refine ⟨e, he, hb.1.1, fun hm => ?_, hb.2⟩
    have := List.contains_iff_mem.2 hm
    rw [hb.1.2] at this
    cases this

theorem outOkB_spec {ops : Array Oper} {L : List Nat} {l : Array Bool} (h : outOkB ops L l = true) : OutOk ops L l := by
  unfold outOkB at h
  rw [Bool.and_eq_true, List.all_eq_true, List.all_eq_true] at h
  refine ⟨fun k hk hkL => ?_, fun k ok hk hl e he hb => ?_⟩
  · have h1 := h.1 k (List.mem_range.2 hk)
    simpa [hkL] using h1
  · have h1 := h.2 k (List.mem_range.2 (Array.getElem?_eq_some_iff.1 hk).1)
    rw [hk, hl] at h1
    simp only [Bool.not_true, Bool.false_or] at h1
    have h2 := Array.all_eq_true'.1 h1 e he
    rw [hb] at h2
    simpa using h2

def qloadW (E : Env) (X : Nat → Bool) (T : TypeId) (ad : Operand) (A : AS) (k : AV → Prop) : Prop :=
  match E.L T with
  | some i => match A.ev ad with
    | .one (.ptr id p) => X id = true ∧ match A.ob id with
      | some ob => match valOf i ((ob.cells.drop p).take i.size) with
        | some v => k v
        | none => False
      | none => False
    | .one (.cptr cells) => match valOf i (cells.take i.size) with
      | some v => k v
      | none => False
    | _ => False
  | none => False

def qwp (E : Env) (X : Nat → Bool) (o : Oper) (A : AS) (k : AV → Prop) : Prop :=
  match o.op with
  | .load T ad => qloadW E X T ad A k
  | _ => pv E o A k

/-- A quiet operation: its value in every world that meets SS. -/
def QW (P : Program) (X : Nat → Bool) (o : Oper) (A : AS) (k : AV → Prop) : Prop :=
  ∀ G a w, Rel G A a w → ∃ v x, (∀ w', SS G X w w' → (execOp a.eval o).run P w' = .ok (.value v) w') ∧ RepAV G A.nx w x v ∧ k x

def hwp (P : Program) (W : ORule) (ops : Array Oper) (X : Nat → Bool) : Plan → AS → (AS → Prop) → Prop
  | .stop, A, K => K A
  | .take i p, A, K => match ops[i]? with
    | some o => (gdv ops o A).isSome = true ∧ (gdv ops o A = some true → QW P X o A (fun v => hwp P W ops X p (A.put o.dst v) K)) ∧ (gdv ops o A = some false → hwp P W ops X p (A.put o.dst (.tup [])) K)
    | none => False
  | .one i p, A, K => match ops[i]? with
    | some o => (gdv ops o A).isSome = true ∧ (gdv ops o A = some true → W o (A.hide X) (fun A' => A'.sz = A.sz ∧ hwp P W ops X p (A'.unhide X A) K)) ∧ (gdv ops o A = some false → hwp P W ops X p (A.put o.dst (.tup [])) K)
    | none => False
  | .two i j p q, A, K => (match ops[i]? with
    | some o => (gdv ops o A).isSome = true ∧ (gdv ops o A = some true → W o (A.hide X) (fun A' => A'.sz = A.sz ∧ hwp P W ops X p (A'.unhide X A) K)) ∧ (gdv ops o A = some false → hwp P W ops X p (A.put o.dst (.tup [])) K)
    | none => False) ∧ match ops[j]? with
    | some o => (gdv ops o A).isSome = true ∧ (gdv ops o A = some true → W o (A.hide X) (fun A' => A'.sz = A.sz ∧ hwp P W ops X q (A'.unhide X A) K)) ∧ (gdv ops o A = some false → hwp P W ops X q (A.put o.dst (.tup [])) K)
    | none => False

section
variable {P : Program} {E : Env} {G : Gh} {A : AS} {a : Act} {w : World} {o : Oper} {X : Nat → Bool} {k : AV → Prop} {L : Lay}

theorem World.cell_of_heap {w w' : World} {b o : Nat} (h : w'.heap[b]? = w.heap[b]?) : w'.cell? ⟨b, o, none⟩ = w.cell? ⟨b, o, none⟩ := by
  unfold World.cell?
  simp only [h]

theorem run_loadVar_any (hL : L.Ok P) {T : Nat} {i : TI} (hi : L T = some i) {b p : Nat} {cs : List AC} {us : List Value} {nx : Nat} (hp : Pw (RepV G nx w) cs us)
    {x : AV} (hx : valOf i cs = some x) : ∃ v, (∀ w' : World, (∀ (j : Nat) y, us[j]? = some y → w'.cell? ⟨b, p + j, none⟩ = some y) → (loadVar T ⟨b, p, none⟩).run P w' = .ok v w') ∧ RepAV G nx w x v := by
  obtain ⟨f, h1, h2⟩ := size_info (hL T i hi)
  obtain ⟨d, h3, h4⟩ := under_info (hL T i hi)
  unfold valOf at hx
  split at hx
  · rename_i hlen
    have hlen2 : us.length = f.size := by rw [← hp.1, hlen, h2]
    split at hx
    · rename_i hagg
      cases hx
      refine ⟨.agg us.toArray, fun w' hc => ?_, .agg hp⟩
      have hl := run_loadCells_list (P := P) w' ⟨b, p, none⟩ us (fun j v hv => by rw [add_at]; exact hc j v hv)
      rw [hlen2] at hl
      rw [hagg] at h4
      simp [loadVar, isAgg, run_underlying h3, sizeOf, typeInfo, h1, hl]
      cases d <;> simp at h4 ⊢ <;> simp [hl]
    · rename_i hagg
      have hagg : i.agg = false := by simpa using hagg
      rw [hagg] at h4
      split at hx
      · rename_i c
        cases hx
        match us, hp with
        | [u], hp =>
          refine ⟨u, fun w' hc => ?_, .one hp.head⟩
          have hu := hc 0 u rfl
          cases d <;> simp at h4 <;> simp [loadVar, isAgg, run_underlying h3, load, Sem.run, show w'.cell? ⟨b, p, none⟩ = some u from hu]
        | [], hp => have := hp.1; simp at this
        | _ :: _ :: _, hp => have := hp.1; simp at this
      · cases hx
  · cases hx

/-- A quiet operation leaves its value in every world that meets SS. -/
theorem qwp_sound (hE : E.Ok P) (R : Rel G A a w) (h : qwp E X o A k) : ∃ v x, (∀ w', SS G X w w' → (execOp a.eval o).run P w' = .ok (.value v) w') ∧ RepAV G A.nx w x v ∧ k x := by
  unfold qwp at h
  split at h
  · rename_i T ad ho
    unfold qloadW at h
    split at h
    · rename_i i hi
      split at h
      · rename_i id p hx
        obtain ⟨hX, h⟩ := h
        split at h
        · rename_i ob hob
          split at h
          · rename_i x hv
            have h0 := R.ev ad
            rw [hx] at h0
            obtain ⟨hid, hval⟩ := inv_ptr h0
            obtain ⟨vs, hp, hc, hrest⟩ := (R.obs id ob hob).2.open
            obtain ⟨v, hr, hrep⟩ := run_loadVar_any (P := P) (G := G) (w := w) hE.L hi (b := G.adr id) (p := p) ((hp.drop p).take i.size) hv
            refine ⟨v, x, fun w' hS => ?_, hrep, h⟩
            have := hr w' fun j y hy => by
              rw [List.getElem?_take] at hy
              split at hy
              · rw [List.getElem?_drop] at hy
                have hcell := hc _ y hy
                have hown : G.own (G.adr id) = some id := by
                  obtain ⟨vs', _, hc'⟩ := (R.obs id ob hob).2
                  rcases hc' with ⟨_, _, h2, _⟩ | ⟨_, _, _, _, h2, _⟩ | ⟨h1, n, h2, _, h4⟩
                  · exact h2
                  · exact h2
                  · rcases h2.2 with ⟨h5, h6⟩ | ⟨g, cap, cur, e, hb0, hh, rest⟩
                    · exfalso
                      have hl2 : vs.length = 0 := by
                        rw [← hp.1, ‹Pw (RepV G A.nx w) ob.cells vs'›.1, h2.1, h6]
                        simp
                      have := List.getElem?_eq_some_iff.1 hy
                      obtain ⟨hlt, _⟩ := this
                      omega
                    · have := h4 g (by rw [e]; rfl)
                      rw [this.1] at this
                      exact this.2
                have hb := hS (G.adr id) (R.own _ _ hown) (.inr ((hidB_some hown).trans hX))
                rw [World.cell_of_heap hb]
                exact hcell
              · cases hy
            simp [execOp, ho, Instr.loadAt, Instr.sureAddr, hval, this]
          · exact h.elim
        · exact h.elim
      · rename_i cells hx
        split at h
        · rename_i x hv
          have h0 := R.ev ad
          rw [hx] at h0
          obtain ⟨b, p, us, hval, hp, hc⟩ := inv_cptr h0
          obtain ⟨v, hr, hrep⟩ := run_loadVar_any (P := P) (G := G) (w := w) hE.L hi (b := b) (p := p) (nx := A.nx) ((hp.imp fun _ _ k => RepV.deep k).take i.size) hv
          refine ⟨v, x, fun w' hS => ?_, hrep, h⟩
          have := hr w' fun j y hy => by
            rw [List.getElem?_take] at hy
            split at hy
            · obtain ⟨h1, h2⟩ := hc _ y hy
              have h3 := R.fown _ _ h1
              rw [World.cell_of_heap (hS b h3.2 (.inl h3.1))]
              exact h2
            · cases hy
          simp [execOp, ho, Instr.loadAt, Instr.sureAddr, hval, this]
        · exact h.elim
      · exact h.elim
    · exact h.elim
  · obtain ⟨v, x, h1, h2, h3⟩ := pv_sound hE R h
    exact ⟨v, x, fun w' _ => h1 w', h2, h3⟩
end
end Go.Proofs.Ve

/-
  VeT: drawn regions: the phases.
-/
set_option linter.unusedVariables false
set_option linter.unusedSimpArgs false
namespace Go.Proofs.Ve
open Go

/-- From l on (n are left), whatever order is picked, K holds at the end. -/
def AAny (P : Program) (ops : Array Oper) (K : AS → Prop) (n : Nat) (l : Array Bool) (A : AS) : Prop :=
  ∀ (Q : Exit → Act → World → Prop) (G0 : Gh) (w0 : World) (G : Gh) (a : Act) (w : World), Rel G A a w → Ext G0 w0 G w → (∀ a w, Post K G0 w0 a w → Q .normal a w) → (∀ c a w, ¬ Q (.panic c) a w) → wpAny P .any ops Q n l a w

section
variable {P : Program} {E : Env} {ops : Array Oper} {K : AS → Prop} {Q : Exit → Act → World → Prop} {X : Nat → Bool}

theorem aany_done {n : Nat} {l : Array Bool} {A : AS} (hr : (Region.ready .any ops l).isEmpty = true) (h : K A) : AAny P ops K n l A := fun Q G0 w0 G a w R Ex hQ _ => by
  have hr : Region.ready .any ops l = [] := by simpa using hr
  exact wpAny_done hr (hQ a w ⟨G, A, h, R, Ex⟩) n

theorem hwp_sound {W : ORule} (hW : W.Sound P) {L : List Nat} {m : Nat} {lst : Array Bool} {sz : Nat} (hd : dstsOk sz ops.toList = true) (hs : Region.noSelect ops = true) (ho : Outside ops L) (hQ : ∀ c a w, ¬ Q (.panic c) a w) {K' : AS → Prop} {G0 : Gh} {w0 : World} :
    ∀ (p : Plan) (n : Nat) (l : Array Bool) (G : Gh) (A : AS) (a : Act) (w : World), OutOk ops L l → p.ok ops L m lst n l = true → A.sz = sz → Rel G A a w → Ext G0 w0 G w → hwp P W ops X p A K' →
      wpH P ops Q L (fun n l a w => n = m ∧ l = lst ∧ ∃ G' A', K' A' ∧ A'.sz = sz ∧ Rel G' A' a w ∧ Ext G0 w0 G' w) n l a w (SS G X w) := by
  have hdst : ∀ {i : Nat} {o : Oper}, ops[i]? = some o → ∀ t, o.dst = some t → t < sz := fun {i o} hi t ht => by
    unfold dstsOk at hd
    rw [List.all_eq_true] at hd
    have := hd o (by simpa using Array.mem_of_getElem? hi)
    rw [ht] at this
    simpa using this
  have hput : ∀ (A : AS) (d : Option Tmp) (v : AV), (A.put d v).sz = A.sz := fun A d v => by cases d <;> rfl
  -- an operation that is carried out
  have hone : ∀ (i n : Nat) (l : Array Bool) (G : Gh) (A : AS) (a : Act) (w : World) (o : Oper) (q : Plan),
      (∀ (n : Nat) (l : Array Bool) (G : Gh) (A : AS) (a : Act) (w : World), OutOk ops L l → q.ok ops L m lst n l = true → A.sz = sz → Rel G A a w → Ext G0 w0 G w → hwp P W ops X q A K' →
        wpH P ops Q L (fun n l a w => n = m ∧ l = lst ∧ ∃ G' A', K' A' ∧ A'.sz = sz ∧ Rel G' A' a w ∧ Ext G0 w0 G' w) n l a w (SS G X w)) →
      OutOk ops L (l.setIfInBounds i true) → q.ok ops L m lst n (l.setIfInBounds i true) = true → A.sz = sz → Rel G A a w → Ext G0 w0 G w → ops[i]? = some o →
      ((gdv ops o A).isSome = true ∧ (gdv ops o A = some true → W o (A.hide X) (fun A' => A'.sz = A.sz ∧ hwp P W ops X q (A'.unhide X A) K')) ∧ (gdv ops o A = some false → hwp P W ops X q (A.put o.dst (.tup [])) K')) →
      wpOp P ops Q i (fun a' w' => ∃ S' : World → Prop, (∀ x, S' x → SS G X w x) ∧ S' w' ∧ wpH P ops Q L (fun n l a w => n = m ∧ l = lst ∧ ∃ G' A', K' A' ∧ A'.sz = sz ∧ Rel G' A' a w ∧ Ext G0 w0 G' w) n (l.setIfInBounds i true) a' w' S') a w := by
    intro i n l G A a w o q ih hout hok hsz R Ex hi h
    obtain ⟨h1, h2, h3⟩ := h
    unfold wpOp
    rw [hi]
    simp only
    cases hg : gdv ops o A with
    | none => rw [hg] at h1; cases h1
    | some b =>
      rw [gdv_wanted R hg]
      cases b with
      | true =>
        simp only [if_true]
        refine .inl (Oper.wp_mono (fun a' w' k => ?_) (hW o (A.hide X) _ (h2 hg) (fun t ht => by show t < A.sz; rw [hsz]; exact hdst hi t ht) (G.hide X A.nx) a w Q (R.hide X)))
        obtain ⟨G', A', ⟨hz, k1⟩, r, E'⟩ := k
        obtain ⟨r2, E2⟩ := R.unhide r E'
        obtain ⟨s1, s2⟩ := SS.next R E'
        exact ⟨_, s2, s1, ih n _ (G'.unhide X G) (A'.unhide X A) a' w' hout hok (hz.trans hsz) r2 (Ex.trans E2) k1⟩
      | false =>
        simp only [Bool.false_eq_true, if_false]
        exact ⟨_, fun _ h => h, fun _ _ _ => rfl, ih n _ _ _ _ w hout hok ((hput _ _ _).trans hsz) (R.put (fun t ht => by rw [hsz]; exact hdst hi t ht) (repUndef G A.nx w)) Ex (h3 hg)⟩
  intro p
  induction p with
  | stop =>
    intro n l G A a w hout hok hsz R Ex h
    simp only [Plan.ok, Bool.and_eq_true, beq_iff_eq] at hok
    obtain ⟨⟨rfl, rfl⟩, h3⟩ := hok
    cases n with
    | zero => exact ⟨h3, rfl, rfl, G, A, h, hsz, R, Ex⟩
    | succ n => exact .inl ⟨h3, rfl, rfl, G, A, h, hsz, R, Ex⟩
  | take i p ih =>
    intro n l G A a w hout hok hsz R Ex h
    simp only [Plan.ok, Bool.and_eq_true, bne_iff_ne] at hok
    obtain ⟨⟨⟨⟨hn, hiL⟩, hr⟩, hf⟩, hok⟩ := hok
    cases n with
    | zero => exact absurd rfl hn
    | succ n =>
      have hiL : i ∈ L := by simpa using hiL
      simp only [Nat.add_sub_cancel] at hok
      cases hi : ops[i]? with
      | none => simp only [hwp, hi] at h
      | some o =>
        simp only [hwp, hi] at h
        obtain ⟨h1, h2, h3⟩ := h
        cases hg : gdv ops o A with
        | none => rw [hg] at h1; cases h1
        | some b =>
          cases b with
          | true =>
            obtain ⟨v, x, hv, hrep, hk⟩ := h2 hg G a w R
            have hw : Region.wanted o (yielded ops a.tmps) = true := gdv_wanted R hg
            refine wpH_first hi hiL ho (Region.noSelect_spec hs) (fun c a w h => absurd h (hQ _ _ _)) n l a w _ hout (Region.free_spec hi hf) (by simpa using hr) (.inl ⟨hw, hv⟩) (fun _ _ _ => rfl) ?_
            exact ih n _ G _ _ w (outOk_set hout hiL (by simpa using hr)) hok ((hput _ _ _).trans hsz) (R.put (fun t ht => by rw [hsz]; exact hdst hi t ht) hrep) Ex hk
          | false =>
            have hw : Region.wanted o (yielded ops a.tmps) = false := gdv_wanted R hg
            refine wpH_first (v := undef) hi hiL ho (Region.noSelect_spec hs) (fun c a w h => absurd h (hQ _ _ _)) n l a w _ hout (Region.free_spec hi hf) (by simpa using hr) (.inr ⟨hw, rfl⟩) (fun _ _ _ => rfl) ?_
            exact ih n _ G _ _ w (outOk_set hout hiL (by simpa using hr)) hok ((hput _ _ _).trans hsz) (R.put (fun t ht => by rw [hsz]; exact hdst hi t ht) (repUndef G A.nx w)) Ex (h3 hg)
  | one i p ih =>
    intro n l G A a w hout hok hsz R Ex h
    simp only [Plan.ok, Bool.and_eq_true, bne_iff_ne, beq_iff_eq, Bool.not_eq_true'] at hok
    obtain ⟨⟨⟨⟨hn, hiL⟩, hst⟩, hr⟩, hok⟩ := hok
    cases n with
    | zero => exact absurd rfl hn
    | succ n =>
      have hiL : i ∈ L := by simpa using hiL
      simp only [Nat.add_sub_cancel] at hok
      refine .inr ⟨hst, by rw [hr]; simp, fun j hj => ?_⟩
      rw [hr] at hj
      have hj : j = i := by simpa using hj
      subst hj
      cases hi : ops[j]? with
      | none => simp only [hwp, hi] at h
      | some o =>
        simp only [hwp, hi] at h
        exact hone j n l G A a w o p ih (outOk_set hout hiL (by rw [hr]; simp)) hok hsz R Ex hi h
  | two i j p q ihp ihq =>
    intro n l G A a w hout hok hsz R Ex h
    simp only [Plan.ok, Bool.and_eq_true, bne_iff_ne, beq_iff_eq, Bool.not_eq_true'] at hok
    obtain ⟨⟨⟨⟨⟨⟨hn, hiL⟩, hjL⟩, hst⟩, hr⟩, hok1⟩, hok2⟩ := hok
    cases n with
    | zero => exact absurd rfl hn
    | succ n =>
      have hiL : i ∈ L := by simpa using hiL
      have hjL : j ∈ L := by simpa using hjL
      simp only [Nat.add_sub_cancel] at hok1 hok2
      obtain ⟨hA, hB⟩ := h
      refine .inr ⟨hst, by rw [hr]; simp, fun k hk => ?_⟩
      rw [hr] at hk
      have hk : k = i ∨ k = j := by simpa using hk
      rcases hk with rfl | rfl
      · cases hi : ops[k]? with
        | none => simp only [hi] at hA
        | some o =>
          simp only [hi] at hA
          exact hone k n l G A a w o p ihp (outOk_set hout hiL (by rw [hr]; simp)) hok1 hsz R Ex hi hA
      · cases hi : ops[k]? with
        | none => simp only [hi] at hB
        | some o =>
          simp only [hi] at hB
          exact hone k n l G A a w o q ihq (outOk_set hout hjL (by rw [hr]; simp)) hok2 hsz R Ex hi hB

theorem aany_phase {W : ORule} (hW : W.Sound P) (X : Nat → Bool) (L : List Nat) (p : Plan) {n m : Nat} {l lst : Array Bool} {A : AS} {K' : AS → Prop} (hok : phaseOk ops A.sz L p n l m lst = true) (h : hwp P W ops X p A K')
    (hK : ∀ A', A'.sz = A.sz → K' A' → AAny P ops K m lst A') : AAny P ops K n l A := fun Q G0 w0 G a w R Ex hQ hp => by
  simp only [phaseOk, Bool.and_eq_true] at hok
  obtain ⟨⟨⟨⟨h1, h2⟩, h3⟩, h4⟩, h5⟩ := hok
  refine wpAny_of_H (fun n l a w hR => ?_) n l a w _ (hwp_sound hW h1 h2 (outsideB_spec h3) hp p n l G A a w (outOkB_spec h4) h5 rfl R Ex h)
  obtain ⟨rfl, rfl, G', A', k, hz, r, Ex'⟩ := hR
  exact hK A' hz k Q G0 w0 G' a w r Ex' hQ hp

theorem swp_drawn {Q : AX → AS → Prop} {id : Nat} {A : AS} (hm : P.follows .mixedOrders = true) (h : AAny P ops (Q .normal) ops.size (Array.replicate ops.size false) A) : SWP P (.region id ops true) A Q := fun G a w R =>
  wp_region_any hm (h _ G w G a _ R.drew (Ext.drew G w) (fun a w k => k) (fun c a w k => k))
end
end Go.Proofs.Ve
