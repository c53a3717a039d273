/-
  VeFou: joined by wip/tools/merge.py out of VeL08 VeU1 VeU2 VeU3 VeU4 VeU5 VeU6 VeU7 VeU8 VeU9 VeUa.
-/
import Derived.Test.YtcdfmdiifgpdnaaProg
import Derived.KernelRfl
import Derived.Test.YtcdfmdiifgpdnaaVeTri
/-
  The table of the types that the walk meets. Printed by wip/tools/genlay.py.
-/
set_option linter.unusedVariables false
namespace Go.Proofs.Ve
open Go
def ty2 : TI := { agg := false, size := 1, bytes := 8, elem := 0, isl := false, str := false, ik := some .i64, bl := false, flds := [], zero := [.int .i64 0], eqk := [] }
theorem ty2_eq : tiOf Try.prog 2 = some ty2 := by kernel_rfl
def ty3 : TI := { agg := false, size := 1, bytes := 8, elem := 0, isl := false, str := false, ik := some .i64, bl := false, flds := [], zero := [.int .i64 0], eqk := [] }
theorem ty3_eq : tiOf Try.prog 3 = some ty3 := by kernel_rfl
def ty4 : TI := { agg := false, size := 1, bytes := 1, elem := 0, isl := false, str := false, ik := none, bl := true, flds := [], zero := [.bool false], eqk := [] }
theorem ty4_eq : tiOf Try.prog 4 = some ty4 := by kernel_rfl
def ty5 : TI := { agg := false, size := 1, bytes := 1, elem := 0, isl := false, str := false, ik := some .u8, bl := false, flds := [], zero := [.int .u8 0], eqk := [] }
theorem ty5_eq : tiOf Try.prog 5 = some ty5 := by kernel_rfl
def ty9 : TI := { agg := false, size := 1, bytes := 16, elem := 0, isl := false, str := true, ik := none, bl := false, flds := [], zero := [.str ⟨#[]⟩], eqk := [] }
theorem ty9_eq : tiOf Try.prog 9 = some ty9 := by kernel_rfl
def ty21 : TI := { agg := false, size := 1, bytes := 4, elem := 0, isl := false, str := false, ik := some .i32, bl := false, flds := [], zero := [.int .i32 0], eqk := [] }
theorem ty21_eq : tiOf Try.prog 21 = some ty21 := by kernel_rfl
def ty22 : TI := { agg := false, size := 1, bytes := 24, elem := 5, isl := true, str := false, ik := none, bl := false, flds := [], zero := [.sl true 0 0 []], eqk := [] }
theorem ty22_eq : tiOf Try.prog 22 = some ty22 := by kernel_rfl
def ty23 : TI := { agg := false, size := 1, bytes := 24, elem := 41, isl := true, str := false, ik := none, bl := false, flds := [], zero := [.sl true 0 0 []], eqk := [] }
theorem ty23_eq : tiOf Try.prog 23 = some ty23 := by kernel_rfl
def ty25 : TI := { agg := true, size := 1, bytes := 24, elem := 0, isl := false, str := false, ik := none, bl := false, flds := [(0, 23)], zero := [.sl true 0 0 []], eqk := [] }
theorem ty25_eq : tiOf Try.prog 25 = some ty25 := by kernel_rfl
def ty27 : TI := { agg := false, size := 1, bytes := 24, elem := 58, isl := true, str := false, ik := none, bl := false, flds := [], zero := [.sl true 0 0 []], eqk := [] }
theorem ty27_eq : tiOf Try.prog 27 = some ty27 := by kernel_rfl
def ty28 : TI := { agg := false, size := 1, bytes := 8, elem := 0, isl := false, str := false, ik := none, bl := false, flds := [], zero := [.nilp], eqk := [] }
theorem ty28_eq : tiOf Try.prog 28 = some ty28 := by kernel_rfl
def ty30 : TI := { agg := false, size := 1, bytes := 24, elem := 55, isl := true, str := false, ik := none, bl := false, flds := [], zero := [.sl true 0 0 []], eqk := [] }
theorem ty30_eq : tiOf Try.prog 30 = some ty30 := by kernel_rfl
def ty32 : TI := { agg := true, size := 2, bytes := 32, elem := 0, isl := false, str := false, ik := none, bl := false, flds := [(0, 3), (1, 30)], zero := [.int .i64 0, .sl true 0 0 []], eqk := [] }
theorem ty32_eq : tiOf Try.prog 32 = some ty32 := by kernel_rfl
def ty36 : TI := { agg := false, size := 1, bytes := 24, elem := 25, isl := true, str := false, ik := none, bl := false, flds := [], zero := [.sl true 0 0 []], eqk := [] }
theorem ty36_eq : tiOf Try.prog 36 = some ty36 := by kernel_rfl
def ty39 : TI := { agg := false, size := 1, bytes := 24, elem := 3, isl := true, str := false, ik := none, bl := false, flds := [], zero := [.sl true 0 0 []], eqk := [] }
theorem ty39_eq : tiOf Try.prog 39 = some ty39 := by kernel_rfl
def ty41 : TI := { agg := false, size := 1, bytes := 24, elem := 27, isl := true, str := false, ik := none, bl := false, flds := [], zero := [.sl true 0 0 []], eqk := [] }
theorem ty41_eq : tiOf Try.prog 41 = some ty41 := by kernel_rfl
def ty42 : TI := { agg := false, size := 1, bytes := 8, elem := 0, isl := false, str := false, ik := none, bl := false, flds := [], zero := [.any], eqk := [] }
theorem ty42_eq : tiOf Try.prog 42 = some ty42 := by kernel_rfl
def ty50 : TI := { agg := true, size := 2, bytes := 24, elem := 0, isl := false, str := false, ik := none, bl := false, flds := [(0, 9), (1, 3)], zero := [.str ⟨#[]⟩, .int .i64 0], eqk := [] }
theorem ty50_eq : tiOf Try.prog 50 = some ty50 := by kernel_rfl
def ty51 : TI := { agg := false, size := 1, bytes := 24, elem := 50, isl := true, str := false, ik := none, bl := false, flds := [], zero := [.sl true 0 0 []], eqk := [] }
theorem ty51_eq : tiOf Try.prog 51 = some ty51 := by kernel_rfl
def ty52 : TI := { agg := false, size := 1, bytes := 24, elem := 81, isl := true, str := false, ik := none, bl := false, flds := [], zero := [.sl true 0 0 []], eqk := [] }
theorem ty52_eq : tiOf Try.prog 52 = some ty52 := by kernel_rfl
def ty53 : TI := { agg := false, size := 1, bytes := 24, elem := 85, isl := true, str := false, ik := none, bl := false, flds := [], zero := [.sl true 0 0 []], eqk := [] }
theorem ty53_eq : tiOf Try.prog 53 = some ty53 := by kernel_rfl
def ty55 : TI := { agg := true, size := 5, bytes := 96, elem := 0, isl := false, str := false, ik := none, bl := false, flds := [(0, 9), (1, 51), (2, 3), (3, 52), (4, 53)], zero := [.str ⟨#[]⟩, .sl true 0 0 [], .int .i64 0, .sl true 0 0 [], .sl true 0 0 []], eqk := [] }
theorem ty55_eq : tiOf Try.prog 55 = some ty55 := by kernel_rfl
def ty56 : TI := { agg := false, size := 1, bytes := 24, elem := 60, isl := true, str := false, ik := none, bl := false, flds := [], zero := [.sl true 0 0 []], eqk := [] }
theorem ty56_eq : tiOf Try.prog 56 = some ty56 := by kernel_rfl
def ty58 : TI := { agg := true, size := 3, bytes := 32, elem := 0, isl := false, str := false, ik := none, bl := false, flds := [(0, 3), (1, 2), (2, 9)], zero := [.int .i64 0, .int .i64 0, .str ⟨#[]⟩], eqk := [] }
theorem ty58_eq : tiOf Try.prog 58 = some ty58 := by kernel_rfl
def ty60 : TI := { agg := true, size := 3, bytes := 56, elem := 0, isl := false, str := false, ik := none, bl := false, flds := [(0, 3), (1, 27), (2, 27)], zero := [.int .i64 0, .sl true 0 0 [], .sl true 0 0 []], eqk := [] }
theorem ty60_eq : tiOf Try.prog 60 = some ty60 := by kernel_rfl
def ty61 : TI := { agg := false, size := 1, bytes := 8, elem := 0, isl := false, str := false, ik := some .i64, bl := false, flds := [], zero := [.int .i64 0], eqk := [] }
theorem ty61_eq : tiOf Try.prog 61 = some ty61 := by kernel_rfl
def ty66 : TI := { agg := false, size := 1, bytes := 8, elem := 0, isl := false, str := false, ik := none, bl := false, flds := [], zero := [.any], eqk := [] }
theorem ty66_eq : tiOf Try.prog 66 = some ty66 := by kernel_rfl
def ty78 : TI := { agg := true, size := 2, bytes := 32, elem := 0, isl := false, str := false, ik := none, bl := false, flds := [(0, 22), (1, 3)], zero := [.sl true 0 0 [], .int .i64 0], eqk := [] }
theorem ty78_eq : tiOf Try.prog 78 = some ty78 := by kernel_rfl
def ty81 : TI := { agg := true, size := 2, bytes := 32, elem := 0, isl := false, str := false, ik := none, bl := false, flds := [(0, 39), (1, 3)], zero := [.sl true 0 0 [], .int .i64 0], eqk := [] }
theorem ty81_eq : tiOf Try.prog 81 = some ty81 := by kernel_rfl
def ty83 : TI := { agg := true, size := 5, bytes := 48, elem := 0, isl := false, str := false, ik := none, bl := false, flds := [(0, 3), (1, 3), (2, 58)], zero := [.int .i64 0, .int .i64 0, .int .i64 0, .int .i64 0, .str ⟨#[]⟩], eqk := [] }
theorem ty83_eq : tiOf Try.prog 83 = some ty83 := by kernel_rfl
def ty85 : TI := { agg := true, size := 13, bytes := 136, elem := 0, isl := false, str := false, ik := none, bl := false, flds := [(0, 3), (1, 3), (2, 83), (7, 83), (12, 53)], zero := [.int .i64 0, .int .i64 0, .int .i64 0, .int .i64 0, .int .i64 0, .int .i64 0, .str ⟨#[]⟩, .int .i64 0, .int .i64 0, .int .i64 0, .int .i64 0, .str ⟨#[]⟩, .sl true 0 0 []], eqk := [] }
theorem ty85_eq : tiOf Try.prog 85 = some ty85 := by kernel_rfl
def ty104 : TI := { agg := false, size := 1, bytes := 8, elem := 0, isl := false, str := false, ik := none, bl := false, flds := [], zero := [.any], eqk := [] }
theorem ty104_eq : tiOf Try.prog 104 = some ty104 := by kernel_rfl
def ty114 : TI := { agg := false, size := 1, bytes := 8, elem := 0, isl := false, str := false, ik := some .u64, bl := false, flds := [], zero := [.int .u64 0], eqk := [] }
theorem ty114_eq : tiOf Try.prog 114 = some ty114 := by kernel_rfl
def ty122 : TI := { agg := false, size := 1, bytes := 24, elem := 39, isl := true, str := false, ik := none, bl := false, flds := [], zero := [.sl true 0 0 []], eqk := [] }
theorem ty122_eq : tiOf Try.prog 122 = some ty122 := by kernel_rfl
def ty124 : TI := { agg := false, size := 1, bytes := 8, elem := 0, isl := false, str := false, ik := none, bl := false, flds := [], zero := [.nilp], eqk := [] }
theorem ty124_eq : tiOf Try.prog 124 = some ty124 := by kernel_rfl
def ty127 : TI := { agg := false, size := 1, bytes := 8, elem := 0, isl := false, str := false, ik := some .i64, bl := false, flds := [], zero := [.int .i64 0], eqk := [] }
theorem ty127_eq : tiOf Try.prog 127 = some ty127 := by kernel_rfl
def ty134 : TI := { agg := false, size := 1, bytes := 4, elem := 0, isl := false, str := false, ik := some .u32, bl := false, flds := [], zero := [.int .u32 0], eqk := [] }
theorem ty134_eq : tiOf Try.prog 134 = some ty134 := by kernel_rfl
def ty136 : TI := { agg := false, size := 1, bytes := 8, elem := 0, isl := false, str := false, ik := some .u64, bl := false, flds := [], zero := [.int .u64 0], eqk := [] }
theorem ty136_eq : tiOf Try.prog 136 = some ty136 := by kernel_rfl
def ty137 : TI := { agg := false, size := 1, bytes := 24, elem := 83, isl := true, str := false, ik := none, bl := false, flds := [], zero := [.sl true 0 0 []], eqk := [] }
theorem ty137_eq : tiOf Try.prog 137 = some ty137 := by kernel_rfl
def lay : Lay := fun t => match t with
  | 2 => some ty2
  | 3 => some ty3
  | 4 => some ty4
  | 5 => some ty5
  | 9 => some ty9
  | 21 => some ty21
  | 22 => some ty22
  | 23 => some ty23
  | 25 => some ty25
  | 27 => some ty27
  | 28 => some ty28
  | 30 => some ty30
  | 32 => some ty32
  | 36 => some ty36
  | 39 => some ty39
  | 41 => some ty41
  | 42 => some ty42
  | 50 => some ty50
  | 51 => some ty51
  | 52 => some ty52
  | 53 => some ty53
  | 55 => some ty55
  | 56 => some ty56
  | 58 => some ty58
  | 60 => some ty60
  | 61 => some ty61
  | 66 => some ty66
  | 78 => some ty78
  | 81 => some ty81
  | 83 => some ty83
  | 85 => some ty85
  | 104 => some ty104
  | 114 => some ty114
  | 122 => some ty122
  | 124 => some ty124
  | 127 => some ty127
  | 134 => some ty134
  | 136 => some ty136
  | 137 => some ty137
  | _ => none
theorem lay_ok : lay.Ok Try.prog := by
  intro t i h
  unfold lay at h
  split at h
  · exact tiOf_ok (ty2_eq.trans h)
  · exact tiOf_ok (ty3_eq.trans h)
  · exact tiOf_ok (ty4_eq.trans h)
  · exact tiOf_ok (ty5_eq.trans h)
  · exact tiOf_ok (ty9_eq.trans h)
  · exact tiOf_ok (ty21_eq.trans h)
  · exact tiOf_ok (ty22_eq.trans h)
  · exact tiOf_ok (ty23_eq.trans h)
  · exact tiOf_ok (ty25_eq.trans h)
  · exact tiOf_ok (ty27_eq.trans h)
  · exact tiOf_ok (ty28_eq.trans h)
  · exact tiOf_ok (ty30_eq.trans h)
  · exact tiOf_ok (ty32_eq.trans h)
  · exact tiOf_ok (ty36_eq.trans h)
  · exact tiOf_ok (ty39_eq.trans h)
  · exact tiOf_ok (ty41_eq.trans h)
  · exact tiOf_ok (ty42_eq.trans h)
  · exact tiOf_ok (ty50_eq.trans h)
  · exact tiOf_ok (ty51_eq.trans h)
  · exact tiOf_ok (ty52_eq.trans h)
  · exact tiOf_ok (ty53_eq.trans h)
  · exact tiOf_ok (ty55_eq.trans h)
  · exact tiOf_ok (ty56_eq.trans h)
  · exact tiOf_ok (ty58_eq.trans h)
  · exact tiOf_ok (ty60_eq.trans h)
  · exact tiOf_ok (ty61_eq.trans h)
  · exact tiOf_ok (ty66_eq.trans h)
  · exact tiOf_ok (ty78_eq.trans h)
  · exact tiOf_ok (ty81_eq.trans h)
  · exact tiOf_ok (ty83_eq.trans h)
  · exact tiOf_ok (ty85_eq.trans h)
  · exact tiOf_ok (ty104_eq.trans h)
  · exact tiOf_ok (ty114_eq.trans h)
  · exact tiOf_ok (ty122_eq.trans h)
  · exact tiOf_ok (ty124_eq.trans h)
  · exact tiOf_ok (ty127_eq.trans h)
  · exact tiOf_ok (ty134_eq.trans h)
  · exact tiOf_ok (ty136_eq.trans h)
  · exact tiOf_ok (ty137_eq.trans h)
  · cases h
end Go.Proofs.Ve

/-
  VeU1: values: comparing them.
-/
set_option linter.unusedVariables false
set_option linter.unusedSimpArgs false
namespace Go.Proofs.Ve
open Go

theorem rq {c : Prop} {d : Decidable c} {p : Prop} (hp : p) (h : c := by first | omega | decide | (simp [ty27, ty58, ty41, ty23, ty55, ty30, ty60, ty56, ty3, ty39, ty83, ty85, ty53, ty81, ty52, ty50, ty51]; done) | (simp [ty27, ty58, ty41, ty23, ty55, ty30, ty60, ty56, ty3, ty39, ty83, ty85, ty53, ty81, ty52, ty50, ty51]; omega)) : reqD (@decide c d) p := reqD_dec h hp
def env08 : Env := { L := lay, maps := fun t => t == 120, eqs := fun t => match t with
  | 58 => some [.int .i64 0, .int .i64 0, .str ⟨#[]⟩]
  | _ => none }
theorem zero4 : (Try.prog.info? 4).map (fun f => f.zero) = some (some (.bool false)) := by kernel_rfl
theorem env08_eqs (t : TypeId) (ks : List AC) (h : env08.eqs t = some ks) : EqOk Try.prog t ks := by
  unfold env08 at h
  simp only at h
  split at h
  · cases h
    exact eqOk_iis Try.underlying58 (by kernel_rfl) ⟨by decide, by decide, by decide⟩ ⟨rfl, rfl, rfl⟩ Try.underlying3 Try.underlying2 Try.underlying9 (by kernel_rfl) .i64 .i64
  · cases h
theorem env08_maps (t : TypeId) (h : env08.maps t = true) : ∃ kt et f, Try.prog.underlying t = some (.map kt et) ∧ Try.prog.underlying kt = some .string ∧ Try.prog.info? et = some f ∧ f.zero = some (.bool false) := by
  have h : t = 120 := by simpa [env08] using h
  subst h
  obtain ⟨f, h1, h2⟩ := Option.map_eq_some_iff.1 zero4
  exact ⟨9, 4, f, Try.underlying120, Try.underlying9, h1, h2⟩
theorem env08_ok : env08.Ok Try.prog := ⟨lay_ok, env08_eqs, env08_maps⟩
theorem mixed08 : Try.prog.follows .mixedOrders = true := by kernel_rfl

structure V where
  k : Int
  n : Int
  t : ByteArray
def vC (v : V) : List AC := [.int .i64 v.k, .int .i64 v.n, .str v.t]
theorem vC_len (v : V) : (vC v).length = 3 := rfl
abbrev Row := List V
def rowC (r : Row) : AC := slC vC 32 r

def eqV (a b : V) : Bool := a.k == b.k && (a.n == b.n && (a.t == b.t && true))
def lessT (a b : ByteArray) : Bool := Op.bytesLess a.toList b.toList
def cmpV (a b : V) : Int := bif eqV a b then 0 else if a.k ≠ b.k then (if a.k < b.k then -1 else 1) else if a.n ≠ b.n then (if a.n < b.n then -1 else 1) else bif lessT a.t b.t then -1 else 1
def cmpR : Row → Row → Int
  | [], [] => 0
  | [], _ :: _ => -1
  | _ :: _, [] => 1
  | a :: r, b :: s => if cmpV a b ≠ 0 then cmpV a b else cmpR r s

theorem compare_spec (a b : V) : PSpec Try.prog 62 [.agg (vC a), .agg (vC b)] (fun r => r = .one (.int .i64 (cmpV a b))) := by
  refine pspec_x env08_ok mixed08 Try.func62 rfl 37 rfl _ rfl rfl ?_
  refine wn ?_
  refine forkB_intro (fun h => ?_) (fun h => ?_)
  · refine wn ?_
    refine retX_val rfl ?_
    conv => whnf
    have h : eqV a b = true := h
    rw [cmpV, h]
    rfl
  · have h : eqV a b = false := h
    refine wn ?_
    refine forkB_intro (fun h1 => ?_) (fun h1 => ?_)
    · have h1 : a.k ≠ b.k := by simpa using h1
      refine wn ?_
      refine forkB_dec (fun h2 => ?_) (fun h2 => ?_)
      · refine wn ?_
        refine retX_val rfl ?_
        conv => whnf
        rw [cmpV, h, cond_false, if_pos h1, if_pos h2]
        rfl
      · refine wn ?_
        refine retX_val rfl ?_
        conv => whnf
        rw [cmpV, h, cond_false, if_pos h1, if_neg h2]
        rfl
    · have h1 : ¬ a.k ≠ b.k := by simpa using h1
      refine wn ?_
      refine forkB_intro (fun h2 => ?_) (fun h2 => ?_)
      · have h2 : a.n ≠ b.n := by simpa using h2
        refine wn ?_
        refine forkB_dec (fun h3 => ?_) (fun h3 => ?_)
        · refine wn ?_
          refine retX_val rfl ?_
          conv => whnf
          rw [cmpV, h, cond_false, if_neg h1, if_pos h2, if_pos h3]
          rfl
        · refine wn ?_
          refine retX_val rfl ?_
          conv => whnf
          rw [cmpV, h, cond_false, if_neg h1, if_pos h2, if_neg h3]
          rfl
      · have h2 : ¬ a.n ≠ b.n := by simpa using h2
        refine wn ?_
        refine forkB_intro (fun h3 => ?_) (fun h3 => ?_)
        · have h3 : lessT a.t b.t = true := h3
          refine wn ?_
          refine retX_val rfl ?_
          conv => whnf
          rw [cmpV, h, cond_false, if_neg h1, if_neg h2, h3]
          rfl
        · have h3 : lessT a.t b.t = false := h3
          refine wn ?_
          refine retX_val rfl ?_
          conv => whnf
          rw [cmpV, h, cond_false, if_neg h1, if_neg h2, h3]
          rfl

theorem cmpR_step (a b : Row) (i : Nat) (ha : i < a.length) (hb : i < b.length) (h : cmpV a[i] b[i] = 0) : cmpR (a.drop i) (b.drop i) = cmpR (a.drop (i + 1)) (b.drop (i + 1)) := by
  rw [List.drop_eq_getElem_cons ha, List.drop_eq_getElem_cons hb, cmpR, if_neg (by simpa using h)]
theorem cmpR_ne (a b : Row) (i : Nat) (ha : i < a.length) (hb : i < b.length) (h : cmpV a[i] b[i] ≠ 0) : cmpR (a.drop i) (b.drop i) = cmpV a[i] b[i] := by
  rw [List.drop_eq_getElem_cons ha, List.drop_eq_getElem_cons hb, cmpR, if_pos h]

theorem callee62 : callee Try.prog 62 := callee_of Try.func62 rfl rfl

theorem compareRows_spec (a b : Row) (hla : a.length ≤ 9223372036854775807) (hlb : b.length ≤ 9223372036854775807) : PSpec Try.prog 42 [.one (rowC a), .one (rowC b)] (fun r => r = .one (.int .i64 (cmpR a b))) := by
  refine pspec_x env08_ok mixed08 Try.func42 rfl 43 rfl _ rfl rfl ?_
  refine wn ?_
  refine loopX_of env08_ok mixed08 (σ := Nat) (fun i => AS.of 43 0 0 [(0, .one (rowC a)), (1, .one (rowC b)), (5, .one (.int .i64 (i : Nat)))] [])
    (fun i => i ≤ a.length ∧ i ≤ b.length ∧ cmpR a b = cmpR (a.drop i) (b.drop i)) (fun i => a.length - i) 0 (fun _ => rfl) (Tr.ofId rfl rfl (Nat.zero_le _) (Nat.le_refl _) ⟨⟨rfl, rfl⟩, ⟨rfl, rfl⟩, ⟨rfl, rfl⟩, trivial⟩ trivial) ⟨Nat.zero_le _, Nat.zero_le _, rfl⟩ ?_
  rintro i ⟨hia, hib, hc⟩
  have out : ¬ (i < a.length ∧ i < b.length) → cmpR a b = if a.length < b.length then -1 else if a.length > b.length then 1 else 0 := fun h => by
    rw [hc]
    by_cases h1 : i < a.length
    · have h2 : b.drop i = [] := List.drop_eq_nil_of_le (by omega)
      rw [List.drop_eq_getElem_cons h1, h2, cmpR, if_neg (by omega), if_pos (by omega)]
    · have h2 : a.drop i = [] := List.drop_eq_nil_of_le (by omega)
      by_cases h3 : i < b.length
      · rw [List.drop_eq_getElem_cons h3, h2, cmpR, if_pos (by omega)]
      · have h4 : b.drop i = [] := List.drop_eq_nil_of_le (by omega)
        rw [h2, h4, cmpR, if_neg (by omega), if_neg (by omega)]
  refine wn ?_
  refine exI_as _ rfl ?_
  refine wn ?_
  refine forkB_dec (fun h => ?_) (fun h => ?_)
  · refine wn ?_
    refine exI_as _ rfl ?_
    refine wn ?_
    refine forkB_dec (fun h2 => ?_) (fun h2 => ?_)
    · have h1 : i < a.length := by omega
      have h2 : i < b.length := by omega
      refine wn ?_
      refine drawnX_phase env08_ok (fun _ => true) (List.range 10) (tks 0 8 (.one 8 (tks 9 1 (.stop)))) 0 (lst 10 []) (by kernel_rfl) ?_
      refine wn ?_
      refine rq ?_
      refine wn ?_
      refine forceL_as (vC a[i]) (flat_get (f := vC) vC_len a i h1) ?_
      refine wn ?_
      refine rq ?_
      refine wn ?_
      refine forceL_as (vC b[i]) (flat_get (f := vC) vC_len b i h2) ?_
      refine wn ?_
      refine cle (compare_spec a[i] b[i]) callee62 ?_
      rintro r hr rfl
      refine wn ?_
      refine drawnX_done (by kernel_rfl) ?_
      refine wn ?_
      refine forkB_intro (fun h3 => ?_) (fun h3 => ?_)
      · have h3 : cmpV a[i] b[i] ≠ 0 := by simpa using h3
        refine wn ?_
        refine retX_val rfl ?_
        conv => whnf
        rw [hc, cmpR_ne a b i h1 h2 h3]
        rfl
      · have h3 : cmpV a[i] b[i] = 0 := by simpa using h3
        refine wn ?_
        refine i64 ?_
        refine wn ?_
        exact ⟨i + 1, ⟨by omega, by omega, by rw [hc, cmpR_step a b i h1 h2 h3]⟩, by omega, Tr.ofId rfl rfl (Nat.zero_le _) (Nat.le_refl _) ⟨⟨rfl, rfl⟩, ⟨rfl, rfl⟩, ⟨rfl, rfl⟩, trivial⟩ trivial⟩
    · have o := out (by omega)
      refine wn ?_
      refine exI_as _ rfl ?_
      refine wn ?_
      refine exI_as _ rfl ?_
      refine wn ?_
      refine forkB_dec (fun h4 => ?_) (fun h4 => ?_)
      · refine wn ?_
        refine retX_val rfl ?_
        conv => whnf
        rw [o, if_pos (by omega)]
        rfl
      · refine wn ?_
        refine exI_as _ rfl ?_
        refine wn ?_
        refine exI_as _ rfl ?_
        refine wn ?_
        refine forkB_dec (fun h5 => ?_) (fun h5 => ?_)
        · refine wn ?_
          refine retX_val rfl ?_
          conv => whnf
          rw [o, if_neg (by omega), if_pos (by omega)]
          rfl
        · refine wn ?_
          refine retX_val rfl ?_
          conv => whnf
          rw [o, if_neg (by omega), if_neg (by omega)]
          rfl
  · have o := out (by omega)
    refine wn ?_
    refine exI_as _ rfl ?_
    refine wn ?_
    refine exI_as _ rfl ?_
    refine wn ?_
    refine forkB_dec (fun h4 => ?_) (fun h4 => ?_)
    · refine wn ?_
      refine retX_val rfl ?_
      conv => whnf
      rw [o, if_pos (by omega)]
      rfl
    · refine wn ?_
      refine exI_as _ rfl ?_
      refine wn ?_
      refine exI_as _ rfl ?_
      refine wn ?_
      refine forkB_dec (fun h5 => ?_) (fun h5 => ?_)
      · refine wn ?_
        refine retX_val rfl ?_
        conv => whnf
        rw [o, if_neg (by omega), if_pos (by omega)]
        rfl
      · refine wn ?_
        refine retX_val rfl ?_
        conv => whnf
        rw [o, if_neg (by omega), if_neg (by omega)]
        rfl
end Go.Proofs.Ve


/-
  VeU2: copies and keys of rows.
-/
set_option linter.unusedVariables false
set_option linter.unusedSimpArgs false
set_option pp.maxSteps 2000
namespace Go.Proofs.Ve
open Go

theorem vC_deep (v : V) : (vC v).all (·.deep) = true := rfl

theorem clone_spec (r : Row) (hr : r.length ≤ 4398046511104) : PSpec Try.prog 64 [.one (rowC r)] (fun x => x = .one (rowC r)) := by
  refine pspec_x env08_ok mixed08 Try.func64 rfl 8 rfl _ rfl rfl ?_
  refine wn ?_
  refine ⟨fun h => ?_, ?_⟩
  · have h : r = [] := List.eq_nil_of_length_eq_zero h
    refine wn ?_
    refine retX_tr (Tr.slot 2 (AV.Le.nilOf (f := vC) (B := 32) (l := r) h)) ?_
    refine retX_val rfl ?_
    conv => whnf
    rfl
  · refine wn ?_
    refine reqD_dec (flat_len vC_len r) ?_
    refine wn ?_
    refine rq ?_
    refine forceL_as (r.flatMap vC) rfl ?_
    refine wn ?_
    refine retX_tr (Tr.frz' 1 r.length rfl (by decide) (flat_len vC_len r) (all_flat vC_deep r)) ?_
    refine retX_val rfl ?_
    conv => whnf
    rfl

theorem callee64 : callee Try.prog 64 := callee_of Try.func64 rfl rfl
theorem callee44 : callee Try.prog 44 := callee_of Try.func44 rfl rfl
theorem callee43 : callee Try.prog 43 := callee_of Try.func43 rfl rfl
theorem callee63 : callee Try.prog 63 := callee_of Try.func63 rfl rfl

theorem copied_spec (r : Row) (hr : r.length ≤ 4398046511104) : PSpec Try.prog 44 [.one (rowC r)] (fun x => x = .one (rowC r)) := by
  refine pspec_x env08_ok mixed08 Try.func44 rfl 8 rfl _ rfl rfl ?_
  refine wn ?_
  refine exI_as _ rfl ?_
  refine wn ?_
  refine forkB_intro (fun h => ?_) (fun h => ?_)
  · have h : r = [] := List.eq_nil_of_length_eq_zero (by simpa using h)
    refine wn ?_
    refine retX_tr (Tr.slot 2 (AV.Le.nilOf (f := vC) (B := 32) (l := r) h)) ?_
    refine retX_val rfl ?_
    conv => whnf
    rfl
  · refine wn ?_
    refine cle (clone_spec r hr) callee64 ?_
    rintro x hx rfl
    refine wn ?_
    refine retX_val rfl ?_
    conv => whnf
    rfl

structure Col where
  name : ByteArray
  kind : Int
def colC (c : Col) : List AC := [.str c.name, .int .i64 c.kind]
structure Ref where
  table : Int
  cols : List Int
def intC (n : Int) : List AC := [.int .i64 n]
def refC (r : Ref) : List AC := [slC intC 8 r.cols, .int .i64 r.table]
structure Opd where
  kind : Int
  index : Int
  v : V
def opdC (o : Opd) : List AC := [.int .i64 o.kind, .int .i64 o.index, .int .i64 o.v.k, .int .i64 o.v.n, .str o.v.t]
/-- A predicate, as its cells. -/
abbrev Pred := List AC
def predC (p : Pred) : List AC := p
structure Tbl where
  name : ByteArray
  cols : List Col
  key : Int
  refs : List Ref
  checks : List Pred
def tblC (t : Tbl) : List AC := [.str t.name, slC colC 24 t.cols, .int .i64 t.key, slC refC 32 t.refs, slC predC 136 t.checks]
structure Sch where
  ver : Int
  tables : List Tbl
def schC (s : Sch) : List AC := [.int .i64 s.ver, slC tblC 96 s.tables]
theorem tblC_len (t : Tbl) : (tblC t).length = 5 := rfl

theorem has_spec (ver t : Int) (fu : Bool) (B n : Nat) (cells : List AC) :
    PSpec Try.prog 63 [.agg [.int .i64 ver, .sl fu B n cells], .one (.int .i64 t)] (fun r => r = .one (.bool (decide (0 ≤ t ∧ t < n)))) := by
  refine pspec_x env08_ok mixed08 Try.func63 rfl 14 rfl _ rfl rfl ?_
  refine wn ?_
  refine forkB_dec (fun h => ?_) (fun h => ?_)
  · refine wn ?_
    refine exI_as _ rfl ?_
    refine wn ?_
    refine forkB_dec (fun h2 => ?_) (fun h2 => ?_)
    · refine wn ?_
      refine retX_val rfl ?_
      conv => whnf
      exact bT (by omega)
    · refine wn ?_
      refine retX_val rfl ?_
      conv => whnf
      exact bF (by omega)
  · refine wn ?_
    refine retX_val rfl ?_
    conv => whnf
    exact bF (by omega)

/-- The key of a row. -/
def keyR (s : Sch) (t : Int) (r : Row) : Row := if h : 0 ≤ t ∧ t < s.tables.length then r.take (s.tables[t.toNat]'(by omega)).key.toNat else []

theorem key_spec (s : Sch) (t : Int) (r : Row) (hr : r.length ≤ 4398046511104) : PSpec Try.prog 43 [.agg (schC s), .one (.int .i64 t), .one (rowC r)] (fun x => x = .one (rowC (keyR s t r))) := by
  refine pspec_x env08_ok mixed08 Try.func43 rfl 39 rfl _ rfl rfl ?_
  refine wn ?_
  refine cle (has_spec _ _ _ _ _ _) callee63 ?_
  rintro x hx rfl
  refine wn ?_
  refine forkB_dec (fun h => ?_) (fun h => ?_)
  · refine wn ?_
    have ht : t.toNat < s.tables.length := by omega
    refine rq ?_
    refine wn ?_
    refine forceL_as (tblC s.tables[t.toNat]) (flat_get (f := tblC) tblC_len s.tables t.toNat ht) ?_
    refine wn ?_
    refine forkB_dec (fun h2 => ?_) (fun h2 => ?_)
    · refine wn ?_
      refine retX_tr (Tr.slot 6 (AV.Le.nilOf (f := vC) (B := 32) (l := keyR s t r) ?_)) ?_
      · rw [keyR, dif_pos h]
        rw [show (s.tables[t.toNat]).key.toNat = 0 by omega, List.take_zero]
      refine retX_val rfl ?_
      conv => whnf
      rfl
    · refine wn ?_
      refine exI_as _ rfl ?_
      refine wn ?_
      refine rq ?_
      refine wn ?_
      refine forceL_as (tblC s.tables[t.toNat]) (flat_get (f := tblC) tblC_len s.tables t.toNat ht) ?_
      refine wn ?_
      refine forkB_dec (fun h3 => ?_) (fun h3 => ?_)
      · refine wn ?_
        refine rq ?_
        refine wn ?_
        refine rq ?_
        refine forceL_as ((List.replicate (s.tables[t.toNat]).key.toNat (⟨0, 0, ⟨#[]⟩⟩ : V)).flatMap vC) (by rw [List.flatMap, List.map_replicate]; rfl) ?_
        refine wn ?_
        refine reqD_dec (flat_len vC_len r) ?_
        refine wn ?_
        refine rq ?_
        refine wn ?_
        refine exV_as (.one (rowC ((r.drop 0).take ((s.tables[t.toNat]).key.toNat - 0)))) (slice_flat vC_len r 32 _ 0 (s.tables[t.toNat]).key.toNat (by omega)) ?_
        refine wn ?_
        refine reqD_dec (flat_len vC_len _) ?_
        refine wn ?_
        refine reqD_dec (flat_div vC_len (by decide) _) ?_
        refine forceL_as (((r.drop 0).take ((s.tables[t.toNat]).key.toNat - 0)).flatMap vC) (copy_flat vC_len (by decide) _ _ (by simp <;> omega)) ?_
        refine wn ?_
        refine retX_tr (Tr.frz' 1 ((r.drop 0).take ((s.tables[t.toNat]).key.toNat - 0)).length rfl (show 0 < 3 by decide) (flat_len vC_len _) (all_flat vC_deep _)) ?_
        refine retX_val rfl ?_
        conv => whnf
        rw [keyR, dif_pos h]
        rw [show (r.drop 0).take ((s.tables[t.toNat]).key.toNat - 0) = r.take (s.tables[t.toNat]).key.toNat by simp]
        rfl
      · refine wn ?_
        refine rq ?_
        refine wn ?_
        refine rq ?_
        refine forceL_as ((List.replicate r.length (⟨0, 0, ⟨#[]⟩⟩ : V)).flatMap vC) (by rw [List.flatMap, List.map_replicate]; rfl) ?_
        refine wn ?_
        refine reqD_dec (flat_len vC_len r) ?_
        refine wn ?_
        refine rq ?_
        refine wn ?_
        refine exV_as (.one (rowC ((r.drop 0).take (r.length - 0)))) (slice_flat vC_len r 32 _ 0 r.length (by omega)) ?_
        refine wn ?_
        refine reqD_dec (flat_len vC_len _) ?_
        refine wn ?_
        refine reqD_dec (flat_div vC_len (by decide) _) ?_
        refine forceL_as (((r.drop 0).take (r.length - 0)).flatMap vC) (copy_flat vC_len (by decide) _ _ (by simp <;> omega)) ?_
        refine wn ?_
        refine retX_tr (Tr.frz' 1 ((r.drop 0).take (r.length - 0)).length rfl (show 0 < 3 by decide) (flat_len vC_len _) (all_flat vC_deep _)) ?_
        refine retX_val rfl ?_
        conv => whnf
        rw [keyR, dif_pos h]
        rw [show (r.drop 0).take (r.length - 0) = r by simp, List.take_of_length_le (by omega)]
        rfl
  · refine wn ?_
    refine retX_tr (Tr.slot 6 (AV.Le.nilOf (f := vC) (B := 32) (l := keyR s t r) ?_)) ?_
    · rw [keyR, dif_neg h]
    refine retX_val rfl ?_
    conv => whnf
    rfl
end Go.Proofs.Ve


/-
  VeU3: valid values, rows that fit, keys of changes.
-/
set_option linter.unusedVariables false
set_option linter.unusedSimpArgs false
set_option pp.maxSteps 2000
namespace Go.Proofs.Ve
open Go

def isEmp (t : ByteArray) : Bool := t.toList == (⟨#[]⟩ : ByteArray).toList
def validV (v : V) : Bool :=
  if v.k = 1 ∨ v.k = 2 then eqV v ⟨v.k, 0, ⟨#[]⟩⟩
  else if v.k = 3 then (v.n == 0 || v.n == 1) && isEmp v.t
  else if v.k = 4 then isEmp v.t
  else if v.k = 5 then v.n == 0 && decide ((v.t.size : Int) ≤ 64)
  else false

theorem valid_spec (v : V) : PSpec Try.prog 72 [.agg (vC v)] (fun r => r = .one (.bool (validV v))) := by
  refine pspec_x env08_ok mixed08 Try.func72 rfl 44 rfl _ rfl rfl ?_
  refine wn ?_
  refine forkB_intro (fun h1 => ?_) (fun h1 => ?_)
  · have h1 : v.k = 1 := by simpa using h1
    refine wn ?_
    have e : validV v = eqV v ⟨v.k, 0, ⟨#[]⟩⟩ := by rw [validV, if_pos (.inl h1)]
    refine forkB_intro (fun h => ?_) (fun h => ?_)
    · have h : eqV v ⟨v.k, 0, ⟨#[]⟩⟩ = true := h
      refine wn ?_
      refine retX_val rfl ?_
      conv => whnf
      rw [e, h]
      rfl
    · have h : eqV v ⟨v.k, 0, ⟨#[]⟩⟩ = false := h
      refine wn ?_
      refine retX_val rfl ?_
      conv => whnf
      rw [e, h]
      rfl
  · have h1 : ¬ v.k = 1 := by simpa using h1
    refine wn ?_
    refine forkB_intro (fun h2 => ?_) (fun h2 => ?_)
    · have h2 : v.k = 2 := by simpa using h2
      refine wn ?_
      have e : validV v = eqV v ⟨v.k, 0, ⟨#[]⟩⟩ := by rw [validV, if_pos (.inr h2)]
      refine forkB_intro (fun h => ?_) (fun h => ?_)
      · have h : eqV v ⟨v.k, 0, ⟨#[]⟩⟩ = true := h
        refine wn ?_
        refine retX_val rfl ?_
        conv => whnf
        rw [e, h]
        rfl
      · have h : eqV v ⟨v.k, 0, ⟨#[]⟩⟩ = false := h
        refine wn ?_
        refine retX_val rfl ?_
        conv => whnf
        rw [e, h]
        rfl
    · have h2 : ¬ v.k = 2 := by simpa using h2
      have h12 : ¬ (v.k = 1 ∨ v.k = 2) := by omega
      refine wn ?_
      refine forkB_intro (fun h3 => ?_) (fun h3 => ?_)
      · have h3 : v.k = 3 := by simpa using h3
        have e : validV v = ((v.n == 0 || v.n == 1) && isEmp v.t) := by rw [validV, if_neg h12, if_pos h3]
        refine wn ?_
        refine forkB_intro (fun h => ?_) (fun h => ?_)
        · have h : (v.n == 0) = true := h
          refine wn ?_
          refine forkB_intro (fun h4 => ?_) (fun h4 => ?_)
          · have h4 : isEmp v.t = true := h4
            refine wn ?_
            refine retX_val rfl ?_
            conv => whnf
            rw [e, h, h4]
            rfl
          · have h4 : isEmp v.t = false := h4
            refine wn ?_
            refine retX_val rfl ?_
            conv => whnf
            rw [e, h, h4]
            rfl
        · have h : (v.n == 0) = false := h
          refine wn ?_
          refine forkB_intro (fun h5 => ?_) (fun h5 => ?_)
          · have h5 : (v.n == 1) = true := h5
            refine wn ?_
            refine forkB_intro (fun h4 => ?_) (fun h4 => ?_)
            · have h4 : isEmp v.t = true := h4
              refine wn ?_
              refine retX_val rfl ?_
              conv => whnf
              rw [e, h, h5, h4]
              rfl
            · have h4 : isEmp v.t = false := h4
              refine wn ?_
              refine retX_val rfl ?_
              conv => whnf
              rw [e, h, h5, h4]
              rfl
          · have h5 : (v.n == 1) = false := h5
            refine wn ?_
            refine retX_val rfl ?_
            conv => whnf
            rw [e, h, h5]
            rfl
      · have h3 : ¬ v.k = 3 := by simpa using h3
        refine wn ?_
        refine forkB_intro (fun h4 => ?_) (fun h4 => ?_)
        · have h4 : v.k = 4 := by simpa using h4
          have e : validV v = isEmp v.t := by rw [validV, if_neg h12, if_neg h3, if_pos h4]
          refine wn ?_
          refine forkB_intro (fun h => ?_) (fun h => ?_)
          · have h : isEmp v.t = true := h
            refine wn ?_
            refine retX_val rfl ?_
            conv => whnf
            rw [e, h]
            rfl
          · have h : isEmp v.t = false := h
            refine wn ?_
            refine retX_val rfl ?_
            conv => whnf
            rw [e, h]
            rfl
        · have h4 : ¬ v.k = 4 := by simpa using h4
          refine wn ?_
          refine forkB_intro (fun h5 => ?_) (fun h5 => ?_)
          · have h5 : v.k = 5 := by simpa using h5
            have e : validV v = (v.n == 0 && decide ((v.t.size : Int) ≤ 64)) := by rw [validV, if_neg h12, if_neg h3, if_neg h4, if_pos h5]
            refine wn ?_
            refine forkB_intro (fun h => ?_) (fun h => ?_)
            · have h : (v.n == 0) = true := h
              refine wn ?_
              refine exI_as _ rfl ?_
              refine wn ?_
              refine forkB_intro (fun h6 => ?_) (fun h6 => ?_)
              · refine wn ?_
                refine retX_val rfl ?_
                conv => whnf
                rw [e, h, h6]
                rfl
              · refine wn ?_
                refine retX_val rfl ?_
                conv => whnf
                rw [e, h, h6]
                rfl
            · have h : (v.n == 0) = false := h
              refine wn ?_
              refine retX_val rfl ?_
              conv => whnf
              rw [e, h]
              rfl
          · have h5 : ¬ v.k = 5 := by simpa using h5
            have e : validV v = false := by rw [validV, if_neg h12, if_neg h3, if_neg h4, if_neg h5]
            refine wn ?_
            refine retX_val rfl ?_
            conv => whnf
            rw [e]
            rfl

theorem callee72 : callee Try.prog 72 := callee_of Try.func72 rfl rfl

structure Chg where
  table : Int
  old : Row
  new : Row
def chgC (c : Chg) : List AC := [.int .i64 c.table, rowC c.old, rowC c.new]
theorem chgC_len (c : Chg) : (chgC c).length = 3 := rfl
theorem chgC_deep (c : Chg) : (chgC c).all (·.deep) = true := rfl

def keyC (s : Sch) (c : Chg) : Row := if c.old.length > 0 then keyR s c.table c.old else keyR s c.table c.new
theorem keyOf_spec (s : Sch) (c : Chg) (h1 : c.old.length ≤ 4398046511104) (h2 : c.new.length ≤ 4398046511104) : PSpec Try.prog 52 [.agg (schC s), .agg (chgC c)] (fun r => r = .one (rowC (keyC s c))) := by
  refine pspec_x env08_ok mixed08 Try.func52 rfl 21 rfl _ rfl rfl ?_
  refine wn ?_
  refine exI_as _ rfl ?_
  refine wn ?_
  refine forkB_dec (fun h => ?_) (fun h => ?_)
  · refine wn ?_
    refine cle (key_spec s c.table c.old h1) callee43 ?_
    rintro r hr rfl
    refine wn ?_
    refine retX_val rfl ?_
    conv => whnf
    rw [keyC, if_pos (by omega)]
    rfl
  · refine wn ?_
    refine cle (key_spec s c.table c.new h2) callee43 ?_
    rintro r hr rfl
    refine wn ?_
    refine retX_val rfl ?_
    conv => whnf
    rw [keyC, if_neg (by omega)]
    rfl
theorem callee52 : callee Try.prog 52 := callee_of Try.func52 rfl rfl
end Go.Proofs.Ve


/-
  VeU4: states: looking a row up, counting.
-/
set_option linter.unusedVariables false
set_option linter.unusedSimpArgs false
set_option pp.maxSteps 2000
namespace Go.Proofs.Ve
open Go

abbrev Tab := List Row
abbrev St := List Tab
def rowC1 (r : Row) : List AC := [rowC r]
def tabC (l : Tab) : AC := slC rowC1 24 l
def tabC1 (l : Tab) : List AC := [tabC l]
def tabsC (st : St) : AC := slC tabC1 24 st
def stC (st : St) : List AC := [tabsC st]
theorem rowC1_len (r : Row) : (rowC1 r).length = 1 := rfl
theorem tabC1_len (r : Tab) : (tabC1 r).length = 1 := rfl

def okR (r : Row) : Prop := r.length ≤ 4398046511104
def okT (l : Tab) : Prop := l.length ≤ 5864062014634 ∧ ∀ r ∈ l, okR r

theorem keyR_le (s : Sch) (t : Int) (r : Row) : (keyR s t r).length ≤ r.length := by
  unfold keyR
  split
  · simp
    omega
  · simp

def getR (s : Sch) (st : St) (t : Int) (key : Row) : Option Row :=
  if h : 0 ≤ t ∧ t < s.tables.length ∧ t < st.length then (st[t.toNat]'(by omega)).find? (fun r => cmpR (keyR s t r) key == 0) else none
def getV (o : Option Row) : AV := match o with
  | some r => .tup [.one (rowC r), .one (.bool true)]
  | none => .tup [.one (rowC []), .one (.bool false)]

theorem find_step {α : Type} (p : α → Bool) (l : List α) (i : Nat) (h : i < l.length) (hp : p l[i] = false) : (l.drop i).find? p = (l.drop (i + 1)).find? p := by
  rw [List.drop_eq_getElem_cons h, List.find?_cons, hp]
theorem find_hit {α : Type} (p : α → Bool) (l : List α) (i : Nat) (h : i < l.length) (hp : p l[i] = true) : (l.drop i).find? p = some l[i] := by
  rw [List.drop_eq_getElem_cons h, List.find?_cons, hp]

theorem callee42 : callee Try.prog 42 := callee_of Try.func42 rfl rfl

theorem get_spec (s : Sch) (st : St) (t : Int) (key : Row) (hst : ∀ l ∈ st, okT l) (hk : key.length ≤ 4398046511104) : PSpec Try.prog 19 [.agg (schC s), .agg (stC st), .one (.int .i64 t), .one (rowC key)] (fun r => r = getV (getR s st t key)) := by
  refine pspec_x env08_ok mixed08 Try.func19 rfl 48 rfl _ rfl rfl ?_
  refine wn ?_
  refine forkB_dec (fun h => ?_) (fun h => ?_)
  · have e : getR s st t key = none := by rw [getR, dif_neg (by omega)]
    refine wn ?_
    refine retX_tr (Tr.slot 8 (AV.Le.nilOf (f := vC) (B := 32) (l := []) rfl)) ?_
    refine retX_val rfl ?_
    conv => whnf
    rw [e]
    rfl
  · refine wn ?_
    refine exI_as _ rfl ?_
    refine wn ?_
    refine forkB_dec (fun h2 => ?_) (fun h2 => ?_)
    · have e : getR s st t key = none := by rw [getR, dif_neg (by omega)]
      refine wn ?_
      refine retX_tr (Tr.slot 8 (AV.Le.nilOf (f := vC) (B := 32) (l := []) rfl)) ?_
      refine retX_val rfl ?_
      conv => whnf
      rw [e]
      rfl
    · refine wn ?_
      refine exI_as _ rfl ?_
      refine wn ?_
      refine forkB_dec (fun h3 => ?_) (fun h3 => ?_)
      · have e : getR s st t key = none := by rw [getR, dif_neg (by omega)]
        refine wn ?_
        refine retX_tr (Tr.slot 8 (AV.Le.nilOf (f := vC) (B := 32) (l := []) rfl)) ?_
        refine retX_val rfl ?_
        conv => whnf
        rw [e]
        rfl
      · have ht : t.toNat < st.length := by omega
        have hok : okT st[t.toNat] := hst _ (List.getElem_mem ht)
        have e : getR s st t key = st[t.toNat].find? (fun r => cmpR (keyR s t r) key == 0) := by rw [getR, dif_pos ⟨by omega, by omega, by omega⟩]
        obtain ⟨l, hl⟩ : ∃ l, st[t.toNat] = l := ⟨_, rfl⟩
        rw [hl] at hok e
        refine wn ?_
        refine rq ?_
        refine forceL_as (tabC1 l) ((flat_get (f := tabC1) tabC1_len st t.toNat ht).trans (by rw [hl])) ?_
        refine wn ?_
        refine exI_as _ rfl ?_
        refine wn ?_
        refine loopX_of env08_ok mixed08 (σ := Nat) (fun i => AS.of 48 0 1 [(4, .one (.ptr 0 0)), (2, .one (.int .i64 t)), (3, .one (rowC key)), (32, .one (tabC l)), (33, .one (.int .i64 l.length)), (34, .one (.int .i64 (i : Nat)))] [(0, ⟨32, 0, 0, schC s⟩)])
          (fun i => i ≤ l.length ∧ getR s st t key = (l.drop i).find? (fun r => cmpR (keyR s t r) key == 0)) (fun i => l.length - i) 0 (fun _ => rfl)
          (Tr.ofId rfl rfl (Nat.zero_le _) (show 1 ≤ 2 by decide) ⟨⟨rfl, rfl⟩, ⟨rfl, rfl⟩, ⟨rfl, rfl⟩, ⟨rfl, rfl⟩, ⟨rfl, rfl⟩, ⟨rfl, rfl⟩, trivial⟩ ⟨⟨rfl, rfl, by decide⟩, trivial⟩) ⟨Nat.zero_le _, e⟩ ?_
        rintro i ⟨hi, hfi⟩
        refine wn ?_
        refine forkB_dec (fun h4 => ?_) (fun h4 => ?_)
        · have hi2 : i < l.length := by omega
          have hri : okR l[i] := hok.2 _ (List.getElem_mem hi2)
          have hkl := keyR_le s t l[i]
          unfold okR at hri
          have hl42 := hok.1
          refine wn ?_
          refine rq ?_
          refine forceL_as (rowC1 l[i]) (flat_get (f := rowC1) rowC1_len l i hi2) ?_
          refine wn ?_
          refine cle (key_spec s t l[i] hri) callee43 ?_
          rintro r hr rfl
          refine wn ?_
          refine cle (compareRows_spec (keyR s t l[i]) key (by omega) (by omega)) callee42 ?_
          rintro r hr rfl
          refine wn ?_
          refine forkB_intro (fun h5 => ?_) (fun h5 => ?_)
          · refine wn ?_
            refine cle (copied_spec l[i] hri) callee44 ?_
            rintro r hr rfl
            refine wn ?_
            refine retX_val rfl ?_
            conv => whnf
            rw [hfi, find_hit _ l i hi2 h5]
            rfl
          · refine wn ?_
            refine i64 ?_
            refine wn ?_
            exact ⟨i + 1, ⟨by omega, by rw [hfi, find_step _ l i hi2 h5]⟩, by omega, Tr.ofId rfl rfl (Nat.zero_le _) (show 1 ≤ 1 by decide) ⟨⟨rfl, rfl⟩, ⟨rfl, rfl⟩, ⟨rfl, rfl⟩, ⟨rfl, rfl⟩, ⟨rfl, rfl⟩, ⟨rfl, rfl⟩, trivial⟩ ⟨⟨rfl, rfl, by decide⟩, trivial⟩⟩
        · refine wn ?_
          refine retX_tr (Tr.slot 8 (AV.Le.nilOf (f := vC) (B := 32) (l := []) rfl)) ?_
          refine retX_val rfl ?_
          conv => whnf
          rw [hfi, List.drop_eq_nil_of_le (by omega)]
          rfl
theorem callee19 : callee Try.prog 19 := callee_of Try.func19 rfl rfl
end Go.Proofs.Ve


/-
  VeU5: counting rows; the inverse of changes.
-/
set_option linter.unusedVariables false
set_option linter.unusedSimpArgs false
set_option pp.maxSteps 2000
namespace Go.Proofs.Ve
open Go

def countS (st : St) : Nat := (st.map (·.length)).sum
theorem countS_step (st : St) (i : Nat) (h : i < st.length) : countS (st.take (i + 1)) = countS (st.take i) + st[i].length := by
  unfold countS
  rw [List.take_add_one, List.getElem?_eq_getElem h, List.map_append, List.sum_append_nat]
  simp
theorem countS_le (st : St) (i : Nat) : countS (st.take i) ≤ countS st := by
  have : countS st = countS (st.take i) + countS (st.drop i) := by
    unfold countS
    rw [← List.sum_append_nat, ← List.map_append, List.take_append_drop]
  omega

theorem wrap64 {x : Int} (h1 : -9223372036854775808 ≤ x) (h2 : x ≤ 9223372036854775807) : IntKind.i64.wrap x = x := by
  unfold IntKind.wrap
  simp [IntKind.signed, IntKind.bits]
  split <;> omega
/-- The count as the machine counts: it may wrap. -/
def countW (st : St) : Int := st.foldl (fun n l => IntKind.i64.wrap (n + l.length)) 0
theorem countW_step (st : St) (i : Nat) (h : i < st.length) : countW (st.take (i + 1)) = IntKind.i64.wrap (countW (st.take i) + st[i].length) := by
  unfold countW
  rw [List.take_add_one, List.getElem?_eq_getElem h, List.foldl_append]
  rfl
theorem countW_take (st : St) (h : countS st ≤ 9223372036854775807) : ∀ i, i ≤ st.length → countW (st.take i) = countS (st.take i)
  | 0, _ => rfl
  | i + 1, hi => by
    have h1 := countS_le st (i + 1)
    have h2 := countS_step st i hi
    rw [countW_step st i hi, countW_take st h i (by omega), h2]
    exact wrap64 (by omega) (by omega)
theorem countW_eq (st : St) (h : countS st ≤ 9223372036854775807) : countW st = countS st := by
  have := countW_take st h st.length (Nat.le_refl _)
  rwa [List.take_length] at this
theorem countW_spec (st : St) (h1 : st.length ≤ 5864062014634) : PSpec Try.prog 13 [.agg (stC st)] (fun r => r = .one (.int .i64 (countW st))) := by
  refine pspec_x env08_ok mixed08 Try.func13 rfl 19 rfl _ rfl rfl ?_
  refine wn ?_
  refine exI_as _ rfl ?_
  refine wn ?_
  refine loopX_of env08_ok mixed08 (σ := Nat) (fun i => AS.of 19 0 0 [(3, .one (.int .i64 (countW (st.take i)))), (9, .one (.int .i64 (i : Nat))), (8, .one (.int .i64 st.length)), (7, .one (tabsC st))] [])
    (fun i => i ≤ st.length) (fun i => st.length - i) 0 (fun _ => rfl) (Tr.ofId rfl rfl (Nat.zero_le _) (show 0 ≤ 1 by decide) ⟨⟨rfl, rfl⟩, ⟨rfl, rfl⟩, ⟨rfl, rfl⟩, ⟨rfl, rfl⟩, trivial⟩ trivial) (Nat.zero_le _) ?_
  intro i hi
  refine wn ?_
  refine forkB_dec (fun h => ?_) (fun h => ?_)
  · have hi2 : i < st.length := by omega
    refine wn ?_
    refine rq ?_
    refine forceL_as (tabC1 st[i]) (flat_get (f := tabC1) tabC1_len st i hi2) ?_
    refine wn ?_
    refine exI_as _ rfl ?_
    refine wn ?_
    refine exI_as _ (countW_step st i hi2).symm ?_
    refine wn ?_
    refine i64 ?_
    refine wn ?_
    exact ⟨i + 1, by omega, by omega, Tr.ofId rfl rfl (Nat.zero_le _) (Nat.le_refl _) ⟨⟨rfl, rfl⟩, ⟨rfl, rfl⟩, ⟨rfl, rfl⟩, ⟨rfl, rfl⟩, trivial⟩ trivial⟩
  · refine wn ?_
    have e : i = st.length := by omega
    subst e
    refine retX_val rfl ?_
    conv => whnf
    refine Eq.trans (b := .one (.int .i64 (countW (st.take st.length)))) rfl ?_
    rw [List.take_length]
theorem count_spec (st : St) (h1 : st.length ≤ 5864062014634) (h2 : countS st ≤ 9223372036854775807) : PSpec Try.prog 13 [.agg (stC st)] (fun r => r = .one (.int .i64 (countS st))) := by
  rw [← countW_eq st h2]
  exact countW_spec st h1
theorem callee13 : callee Try.prog 13 := callee_of Try.func13 rfl rfl

/-- The inverse of changes. -/
def invC (c : Chg) : Chg := ⟨c.table, c.new, c.old⟩
def chgsC (l : List Chg) : AC := slC chgC 56 l
def okC (c : Chg) : Prop := okR c.old ∧ okR c.new

theorem drop_map_rev (l : List Chg) (j : Nat) (h : j < l.length) : ((l.drop j).reverse).map invC = ((l.drop (j + 1)).reverse).map invC ++ [invC l[j]] := by
  rw [List.drop_eq_getElem_cons h, List.reverse_cons, List.map_append]
  rfl

theorem invert_spec (l : List Chg) (hl : l.length ≤ 2513169434843) (hok : ∀ c ∈ l, okC c) : PSpec Try.prog 27 [.one (chgsC l)] (fun r => r = .one (chgsC (l.reverse.map invC))) := by
  refine pspec_x env08_ok mixed08 Try.func27 rfl 30 rfl _ rfl rfl ?_
  refine wn ?_
  refine exI_as _ rfl ?_
  refine wn ?_
  refine i64 ?_
  refine wn ?_
  refine loopX_of env08_ok mixed08 (σ := Nat) (fun j => AS.of 30 0 (if j = l.length then 0 else 1) [(0, .one (chgsC l)), (4, .one (.int .i64 ((j : Int) - 1))), (3, if j = l.length then .one (.sl true 0 0 []) else .one (.gref 0))] (if j = l.length then [] else [(0, ⟨60, 3, 56, (((l.drop j).reverse).map invC).flatMap chgC⟩)]))
    (fun j => j ≤ l.length) (fun j => j) l.length (fun _ => rfl) ?_ (Nat.le_refl _) ?_
  · simp only [if_true]
    exact Tr.ofId rfl rfl (Nat.zero_le _) (Nat.zero_le _) ⟨⟨rfl, rfl⟩, ⟨rfl, rfl⟩, ⟨rfl, rfl⟩, trivial⟩ trivial
  intro j hj
  by_cases hjl : j = l.length
  · simp only [if_pos hjl]
    refine wn ?_
    refine forkB_dec (fun h => ?_) (fun h => ?_)
    · obtain ⟨k, rfl⟩ : ∃ k, j = k + 1 := ⟨j - 1, by omega⟩
      have hk : k < l.length := by omega
      have hc := hok _ (List.getElem_mem hk)
      have e1 : (((k + 1 : Nat) : Int) - 1).toNat = k := by omega
      refine wn ?_
      refine rq ?_
      refine forceL_as (chgC l[k]) (by rw [e1]; exact flat_get (f := chgC) chgC_len l k hk) ?_
      refine wn ?_
      refine drawnX_phase env08_ok (fun id => id == 0) (List.range 13) (tks 0 5 (tks 6 2 (.one 5 (.one 8 (tks 9 1 (.one 10 (.one 11 (tks 12 1 (.stop))))))))) 0 (lst 13 []) (by kernel_rfl) ?_
      refine wn ?_
      refine cle (copied_spec l[k].new hc.2) callee44 ?_
      rintro r hr rfl
      refine wn ?_
      refine cle (copied_spec l[k].old hc.1) callee44 ?_
      rintro r hr rfl
      refine wn ?_
      refine rq ?_
      refine wn ?_
      refine forkB_intro (fun h => absurd h (by simp [ty60])) (fun _ => ?_)
      refine wn ?_
      refine rq ?_
      refine wn ?_
      refine drawnX_done (by kernel_rfl) ?_
      refine wn ?_
      refine i64 ?_
      refine wn ?_
      have e2 : ¬ k = l.length := by omega
      refine ⟨k, by omega, by omega, ?_⟩
      simp only [if_neg e2]
      refine Tr.of (fun _ => 2) rfl rfl (Nat.zero_le _) (fun _ h => absurd h (Nat.not_lt_zero _)) (fun k _ => (show 2 < 2 + 1 by decide)) (fun k k' h h' _ => by omega) ⟨⟨rfl, rfl⟩, ⟨?_, rfl⟩, ⟨rfl, rfl⟩, trivial⟩ ⟨⟨?_, ?_, by decide⟩, trivial⟩
      · exact congrArg (fun z => AV.one (AC.int .i64 z)) (by omega)
      · rw [ob_ren_deep _ (all_flat chgC_deep _), drop_map_rev l k hk, List.drop_eq_nil_of_le (by omega)]
        rfl
      · exact ob_lt_deep _ (all_flat chgC_deep _)
    · have e : j = 0 := by omega
      refine wn ?_
      have e2 : l = [] := List.eq_nil_of_length_eq_zero (by omega)
      refine retX_tr (Tr.slot 2 (AV.Le.nilOf (f := chgC) (B := 56) (l := l.reverse.map invC) (by rw [e2]; rfl))) ?_
      refine retX_val rfl ?_
      conv => whnf
      rfl
  · simp only [if_neg hjl]
    refine wn ?_
    refine forkB_dec (fun h => ?_) (fun h => ?_)
    · obtain ⟨k, rfl⟩ : ∃ k, j = k + 1 := ⟨j - 1, by omega⟩
      have hk : k < l.length := by omega
      have hc := hok _ (List.getElem_mem hk)
      have e1 : (((k + 1 : Nat) : Int) - 1).toNat = k := by omega
      refine wn ?_
      refine rq ?_
      refine forceL_as (chgC l[k]) (by rw [e1]; exact flat_get (f := chgC) chgC_len l k hk) ?_
      refine wn ?_
      refine drawnX_phase env08_ok (fun id => id == 1) (List.range 13) (tks 0 5 (tks 6 2 (.one 5 (.one 8 (tks 9 1 (.one 10 (.one 11 (tks 12 1 (.stop))))))))) 0 (lst 13 []) (by kernel_rfl) ?_
      refine wn ?_
      refine cle (copied_spec l[k].new hc.2) callee44 ?_
      rintro r hr rfl
      refine wn ?_
      refine cle (copied_spec l[k].old hc.1) callee44 ?_
      rintro r hr rfl
      refine wn ?_
      refine rq ?_
      refine wn ?_
      refine reqD_dec (flat_div chgC_len (by decide) _) ?_
      refine reqD_dec (by simp only [flat_len chgC_len]; simp [ty60]; omega) ?_
      refine forceL_as (((((l.drop (k + 1)).reverse).map invC) ++ [invC l[k]]).flatMap chgC) (by rw [List.flatMap_append]; rfl) ?_
      refine wn ?_
      refine drawnX_done (by kernel_rfl) ?_
      refine wn ?_
      refine i64 ?_
      refine wn ?_
      have e2 : ¬ k = l.length := by omega
      refine ⟨k, by omega, by omega, ?_⟩
      simp only [if_neg e2]
      refine Tr.of (fun _ => 3) rfl rfl (Nat.zero_le _) (fun _ h => absurd h (Nat.not_lt_zero _)) (fun k _ => (show 3 < 3 + 1 by decide)) (fun k k' h h' _ => by omega) ⟨⟨rfl, rfl⟩, ⟨?_, rfl⟩, ⟨rfl, rfl⟩, trivial⟩ ⟨⟨?_, ?_, by decide⟩, trivial⟩
      · exact congrArg (fun z => AV.one (AC.int .i64 z)) (by omega)
      · rw [ob_ren_deep _ (all_flat chgC_deep _), drop_map_rev l k hk]
        rfl
      · exact ob_lt_deep _ (all_flat chgC_deep _)
    · have e : j = 0 := by omega
      subst e
      refine wn ?_
      refine retX_tr (Tr.frz' 0 l.length rfl (show 0 < 3 by decide) (by rw [flat_len chgC_len]; simp) (all_flat chgC_deep _)) ?_
      refine retX_val rfl ?_
      conv => whnf
      refine Eq.trans (b := .one (.sl false 56 l.length ((((l.drop 0).reverse).map invC).flatMap chgC))) rfl ?_
      unfold chgsC slC
      simp
end Go.Proofs.Ve


/-
  VeU6: rows that fit a table.
-/
set_option linter.unusedVariables false
set_option linter.unusedSimpArgs false
set_option pp.maxSteps 1500
namespace Go.Proofs.Ve
open Go

def cellOk (mode kind : Int) (isKey : Bool) (v : V) : Bool :=
  validV v && (v.k == kind || (!isKey && ((v.k == 2 && decide (2 ≤ mode)) || (v.k == 1 && mode == 3))))
def fitL (mode key : Int) : Nat → Row → List Col → Bool
  | i, v :: r, c :: cs => cellOk mode c.kind (decide ((i : Int) < key)) v && fitL mode key (i + 1) r cs
  | _, _, _ => true
def fitsS (s : Sch) (t : Int) (r : Row) (mode : Int) : Bool :=
  if h : (1 ≤ mode ∧ mode ≤ 3) ∧ 0 ≤ t ∧ t < s.tables.length then
    decide (r.length = (s.tables[t.toNat]'(by omega)).cols.length) && fitL mode (s.tables[t.toNat]'(by omega)).key 0 r (s.tables[t.toNat]'(by omega)).cols
  else false

theorem colC_len (c : Col) : (colC c).length = 2 := rfl
theorem fitL_step (mode key : Int) (r : Row) (cs : List Col) (i : Nat) (h1 : i < r.length) (h2 : i < cs.length) : fitL mode key i (r.drop i) (cs.drop i) = (cellOk mode cs[i].kind (decide ((i : Int) < key)) r[i] && fitL mode key (i + 1) (r.drop (i + 1)) (cs.drop (i + 1))) := by
  rw [List.drop_eq_getElem_cons h1, List.drop_eq_getElem_cons h2, fitL]

theorem fits_spec (s : Sch) (t : Int) (r : Row) (mode : Int) (hr : r.length ≤ 4398046511104) : PSpec Try.prog 54 [.agg (schC s), .one (.int .i64 t), .one (rowC r), .one (.int .i64 mode)] (fun x => x = .one (.bool (fitsS s t r mode))) := by
  refine pspec_x env08_ok mixed08 Try.func54 rfl 83 rfl _ rfl rfl ?_
  refine wn ?_
  refine forkB_dec (fun h => ?_) (fun h => ?_)
  · have e : fitsS s t r mode = false := by rw [fitsS, dif_neg (by omega)]
    refine wn ?_
    refine retX_val rfl ?_
    conv => whnf
    rw [e]
    rfl
  · refine wn ?_
    refine forkB_dec (fun h2 => ?_) (fun h2 => ?_)
    · have e : fitsS s t r mode = false := by rw [fitsS, dif_neg (by omega)]
      refine wn ?_
      refine retX_val rfl ?_
      conv => whnf
      rw [e]
      rfl
    · refine wn ?_
      refine cle (has_spec _ _ _ _ _ _) callee63 ?_
      rintro x hx rfl
      refine wn ?_
      refine forkB_intro (fun h3 => ?_) (fun h3 => ?_)
      · have h3 : 0 ≤ t ∧ t < s.tables.length := by simpa using h3
        have ht : t.toNat < s.tables.length := by omega
        obtain ⟨T, hT⟩ : ∃ T, s.tables[t.toNat] = T := ⟨_, rfl⟩
        have e : fitsS s t r mode = (decide (r.length = T.cols.length) && fitL mode T.key 0 r T.cols) := by
          rw [fitsS, dif_pos ⟨by omega, h3⟩]
          simp only [hT]
        refine wn ?_
        refine rq ?_
        refine forceL_as (tblC T) ((flat_get (f := tblC) tblC_len s.tables t.toNat ht).trans (by rw [hT])) ?_
        refine wn ?_
        refine exI_as _ rfl ?_
        refine wn ?_
        refine exI_as _ rfl ?_
        refine wn ?_
        refine forkB_intro (fun h4 => ?_) (fun h4 => ?_)
        · have h4 : r.length ≠ T.cols.length := by
            simp at h4
            omega
          refine wn ?_
          refine retX_val rfl ?_
          conv => whnf
          rw [e, decide_eq_false h4]
          rfl
        · have h4 : r.length = T.cols.length := by
            simp at h4
            omega
          rw [decide_eq_true h4, Bool.true_and] at e
          refine wn ?_
          refine exI_as _ rfl ?_
          refine wn ?_
          refine loopX_of env08_ok mixed08 (σ := Nat) (fun i => AS.of 83 0 2 [(9, .one (.ptr 1 0)), (3, .one (.int .i64 mode)), (35, .one (rowC r)), (36, .one (.int .i64 r.length)), (37, .one (.int .i64 (i : Nat)))] [(1, ⟨55, 0, 0, tblC T⟩)])
            (fun i => i ≤ r.length ∧ fitsS s t r mode = fitL mode T.key i (r.drop i) (T.cols.drop i)) (fun i => r.length - i) 0 (fun _ => rfl)
            (Tr.ofId rfl rfl (Nat.zero_le _) (show 2 ≤ 2 by decide) ⟨⟨rfl, rfl⟩, ⟨rfl, rfl⟩, ⟨rfl, rfl⟩, ⟨rfl, rfl⟩, ⟨rfl, rfl⟩, trivial⟩ ⟨⟨rfl, rfl, by decide⟩, trivial⟩) ⟨Nat.zero_le _, e⟩ ?_
          rintro i ⟨hi, hfi⟩
          refine wn ?_
          refine forkB_dec (fun h5 => ?_) (fun h5 => ?_)
          · have hi2 : i < r.length := by omega
            have hi3 : i < T.cols.length := by omega
            have hs := fitL_step mode T.key r T.cols i hi2 hi3
            obtain ⟨v, hv⟩ : ∃ v, r[i] = v := ⟨_, rfl⟩
            obtain ⟨c, hc⟩ : ∃ c, T.cols[i] = c := ⟨_, rfl⟩
            rw [hv, hc] at hs
            refine wn ?_
            refine rq ?_
            refine forceL_as (vC v) ((flat_get (f := vC) vC_len r i hi2).trans (by rw [hv])) ?_
            refine wn ?_
            refine drawnX_phase env08_ok (fun _ => true) (List.range 14) (tks 0 1 (.one 1 (tks 2 12 (.stop)))) 0 (lst 14 []) (by kernel_rfl) ?_
            refine wn ?_
            refine cle (valid_spec v) callee72 ?_
            rintro x hx rfl
            have hl42 := hr
            cases hvv : validV v with
            | false =>
              have bad : cellOk mode c.kind (decide ((i : Int) < T.key)) v = false := by rw [cellOk, hvv, Bool.false_and]
              refine wn ?_
              refine drawnX_done (by kernel_rfl) ?_
              refine wn ?_
              refine cle (valid_spec v) callee72 ?_
              intro x hx hx2
              rw [hvv] at hx2
              subst hx2
              refine wn ?_
              refine retX_val rfl ?_
              conv => whnf
              rw [hfi, hs, bad]
              rfl
            | true =>
              refine wn ?_
              refine rq ?_
              refine forceL_as (colC c) ((flat_get (f := colC) colC_len T.cols i hi3).trans (by rw [hc])) ?_
              refine wn ?_
              refine forkB_intro (fun h6 => ?_) (fun h6 => ?_)
              · have h6 : (v.k == c.kind) = true := h6
                have ok : cellOk mode c.kind (decide ((i : Int) < T.key)) v = true := by rw [cellOk, hvv, h6]; rfl
                refine wn ?_
                refine drawnX_done (by kernel_rfl) ?_
                refine wn ?_
                refine i64 ?_
                refine wn ?_
                exact ⟨i + 1, ⟨by omega, by rw [hfi, hs, ok, Bool.true_and]⟩, by omega, Tr.ofId rfl rfl (Nat.zero_le _) (show 2 ≤ 3 by decide) ⟨⟨rfl, rfl⟩, ⟨rfl, rfl⟩, ⟨rfl, rfl⟩, ⟨rfl, rfl⟩, ⟨rfl, rfl⟩, trivial⟩ ⟨⟨rfl, rfl, by decide⟩, trivial⟩⟩
              · have h6 : (v.k == c.kind) = false := h6
                refine wn ?_
                refine drawnX_done (by kernel_rfl) ?_
                refine wn ?_
                refine cle (valid_spec v) callee72 ?_
                intro x hx hx2
                rw [hvv] at hx2
                subst hx2
                refine wn ?_
                refine forkB_dec (fun h7 => ?_) (fun h7 => ?_)
                · have bad : cellOk mode c.kind (decide ((i : Int) < T.key)) v = false := by rw [cellOk, hvv, h6, decide_eq_true h7]; rfl
                  refine wn ?_
                  refine retX_val rfl ?_
                  conv => whnf
                  rw [hfi, hs, bad]
                  rfl
                · have ce : cellOk mode c.kind (decide ((i : Int) < T.key)) v = ((v.k == 2 && decide (2 ≤ mode)) || (v.k == 1 && mode == 3)) := by rw [cellOk, hvv, h6, decide_eq_false h7]; rfl
                  refine wn ?_
                  refine forkB_intro (fun h8 => ?_) (fun h8 => ?_)
                  · have h8 : (v.k == 2) = true := h8
                    have h81 : (v.k == 1) = false := by
                      simp at h8 ⊢
                      omega
                    refine wn ?_
                    refine forkB_dec (fun h9 => ?_) (fun h9 => ?_)
                    · have ok : cellOk mode c.kind (decide ((i : Int) < T.key)) v = true := by rw [ce, h8, decide_eq_true (show 2 ≤ mode from h9)]; rfl
                      refine wn ?_
                      refine i64 ?_
                      refine wn ?_
                      exact ⟨i + 1, ⟨by omega, by rw [hfi, hs, ok, Bool.true_and]⟩, by omega, Tr.ofId rfl rfl (Nat.zero_le _) (show 2 ≤ 3 by decide) ⟨⟨rfl, rfl⟩, ⟨rfl, rfl⟩, ⟨rfl, rfl⟩, ⟨rfl, rfl⟩, ⟨rfl, rfl⟩, trivial⟩ ⟨⟨rfl, rfl, by decide⟩, trivial⟩⟩
                    · have bad : cellOk mode c.kind (decide ((i : Int) < T.key)) v = false := by rw [ce, h8, decide_eq_false (show ¬ 2 ≤ mode from h9), h81]; rfl
                      refine wn ?_
                      refine forkB_intro (fun h10 => absurd (show (v.k == 1) = true from h10) (by rw [h81]; decide)) (fun _ => ?_)
                      refine wn ?_
                      refine retX_val rfl ?_
                      conv => whnf
                      rw [hfi, hs, bad]
                      rfl
                  · have h8 : (v.k == 2) = false := h8
                    refine wn ?_
                    refine forkB_intro (fun h10 => ?_) (fun h10 => ?_)
                    · have h10 : (v.k == 1) = true := h10
                      refine wn ?_
                      refine forkB_intro (fun h11 => ?_) (fun h11 => ?_)
                      · have ok : cellOk mode c.kind (decide ((i : Int) < T.key)) v = true := by rw [ce, h8, h10, show (mode == 3) = true from h11]; rfl
                        refine wn ?_
                        refine i64 ?_
                        refine wn ?_
                        exact ⟨i + 1, ⟨by omega, by rw [hfi, hs, ok, Bool.true_and]⟩, by omega, Tr.ofId rfl rfl (Nat.zero_le _) (show 2 ≤ 3 by decide) ⟨⟨rfl, rfl⟩, ⟨rfl, rfl⟩, ⟨rfl, rfl⟩, ⟨rfl, rfl⟩, ⟨rfl, rfl⟩, trivial⟩ ⟨⟨rfl, rfl, by decide⟩, trivial⟩⟩
                      · have bad : cellOk mode c.kind (decide ((i : Int) < T.key)) v = false := by rw [ce, h8, h10, show (mode == 3) = false from h11]; rfl
                        refine wn ?_
                        refine retX_val rfl ?_
                        conv => whnf
                        rw [hfi, hs, bad]
                        rfl
                    · have h10 : (v.k == 1) = false := h10
                      have bad : cellOk mode c.kind (decide ((i : Int) < T.key)) v = false := by rw [ce, h8, h10]; rfl
                      refine wn ?_
                      refine retX_val rfl ?_
                      conv => whnf
                      rw [hfi, hs, bad]
                      rfl
          · have e2 : i = r.length := by omega
            subst e2
            refine wn ?_
            refine retX_val rfl ?_
            conv => whnf
            rw [hfi, List.drop_eq_nil_of_le (Nat.le_refl _)]
            rfl
      · have h3 : ¬ (0 ≤ t ∧ t < s.tables.length) := by simpa using h3
        have e : fitsS s t r mode = false := by rw [fitsS, dif_neg (fun h => h3 h.2)]
        refine wn ?_
        refine retX_val rfl ?_
        conv => whnf
        rw [e]
        rfl
end Go.Proofs.Ve


/-
  VeU7: valid changes.
-/
set_option linter.unusedVariables false
set_option linter.unusedSimpArgs false
set_option pp.maxSteps 1500
namespace Go.Proofs.Ve
open Go

theorem callee54 : callee Try.prog 54 := callee_of Try.func54 rfl rfl
def emp (r : Row) : Bool := r.length == 0
def validC (s : Sch) (mode : Int) (c : Chg) : Bool :=
  decide (0 ≤ c.table ∧ c.table < s.tables.length) && (!(emp c.old && emp c.new) && ((emp c.old || fitsS s c.table c.old mode) && ((emp c.new || fitsS s c.table c.new mode) && (emp c.old || (emp c.new || cmpR (keyR s c.table c.old) (keyR s c.table c.new) == 0)))))
theorem emp_of {r : Row} {b : Bool} (h : ((r.length : Int) == 0) = b) : emp r = b := by
  rw [← h, emp]
  cases r <;> simp
  omega

theorem validC_spec (s : Sch) (mode : Int) (c : Chg) (hc : okC c) : PSpec Try.prog 50 [.agg (schC s), .one (.int .i64 mode), .agg (chgC c)] (fun x => x = .one (.bool (validC s mode c))) := by
  refine pspec_x env08_ok mixed08 Try.func50 rfl 81 rfl _ rfl rfl ?_
  have hk1 := keyR_le s c.table c.old
  have hk2 := keyR_le s c.table c.new
  have ho := hc.1
  have hn := hc.2
  unfold okR at ho hn
  refine wn ?_
  refine forkB_dec (fun h => ?_) (fun h => ?_)
  · have e : validC s mode c = false := by rw [validC, decide_eq_false (by omega), Bool.false_and]
    refine wn ?_
    refine retX_val rfl ?_
    conv => whnf
    rw [e]
    rfl
  · refine wn ?_
    refine exI_as _ rfl ?_
    refine wn ?_
    refine forkB_dec (fun h2 => ?_) (fun h2 => ?_)
    · have e : validC s mode c = false := by rw [validC, decide_eq_false (by omega), Bool.false_and]
      refine wn ?_
      refine retX_val rfl ?_
      conv => whnf
      rw [e]
      rfl
    · have e0 : decide (0 ≤ c.table ∧ c.table < s.tables.length) = true := decide_eq_true (by omega)
      refine wn ?_
      refine exI_as _ rfl ?_
      refine wn ?_
      refine forkB_intro (fun h3 => ?_) (fun h3 => ?_)
      · have eo := emp_of h3
        have lo : c.old.length = 0 := by
          have h3 := eo
          unfold emp at h3
          simpa using h3
        refine wn ?_
        refine exI_as _ rfl ?_
        refine wn ?_
        refine forkB_intro (fun h4 => ?_) (fun h4 => ?_)
        · have en := emp_of h4
          have e : validC s mode c = false := by rw [validC, e0, eo, en]; rfl
          refine wn ?_
          refine retX_val rfl ?_
          conv => whnf
          rw [e]
          rfl
        · have en := emp_of h4
          have ln : 0 < c.new.length := by
            have h4 := en
            unfold emp at h4
            simp at h4
            exact List.length_pos_iff.2 h4
          refine wn ?_
          refine ⟨2, rfl, ?_⟩
          refine wn ?_
          refine loopX_n env08_ok mixed08 3 ?_
          refine wn ?_
          refine exI_as _ rfl ?_
          refine wn ?_
          refine forkB_dec (fun h5 => ?_) (fun h5 => ?_)
          · exact absurd h5 (by omega)
          refine wn ?_
          refine i64 ?_
          refine wn ?_
          refine exI_as _ rfl ?_
          refine wn ?_
          refine forkB_dec (fun h6 => ?_) (fun h6 => ?_)
          · refine wn ?_
            refine cle (fits_spec s c.table c.new mode hn) callee54 ?_
            rintro x hx rfl
            cases hf : fitsS s c.table c.new mode with
            | false =>
              have e : validC s mode c = false := by rw [validC, e0, eo, en, hf]; rfl
              refine wn ?_
              refine retX_val rfl ?_
              conv => whnf
              rw [e]
              rfl
            | true =>
              have e : validC s mode c = true := by rw [validC, e0, eo, en, hf]; rfl
              refine wn ?_
              refine i64 ?_
              refine wn ?_
              refine drawnX_phase env08_ok (fun _ => true) (List.range 27) (tks 0 16 (tks 17 5 (.one 16 (.one 22 (.one 23 (tks 24 3 (.stop))))))) 0 (lst 27 []) (by kernel_rfl) ?_
              refine wn ?_
              refine exI_as _ rfl ?_
              refine wn ?_
              refine forkB_intro (fun _ => ?_) (fun h => absurd (h3.symm.trans h) (by decide))
              refine wn ?_
              refine drawnX_done (by kernel_rfl) ?_
              refine wn ?_
              refine retX_val rfl ?_
              conv => whnf
              rw [e]
              rfl
          · exact absurd (show (c.new.length : Int) > 0 by omega) h6
      · have eo := emp_of h3
        have lo : 0 < c.old.length := by
          have h4 := eo
          unfold emp at h4
          simp at h4
          exact List.length_pos_iff.2 h4
        refine wn ?_
        refine ⟨2, rfl, ?_⟩
        refine wn ?_
        refine loopX_n env08_ok mixed08 3 ?_
        refine wn ?_
        refine exI_as _ rfl ?_
        refine wn ?_
        refine forkB_dec (fun h5 => ?_) (fun h5 => ?_)
        · refine wn ?_
          refine cle (fits_spec s c.table c.old mode ho) callee54 ?_
          rintro x hx rfl
          cases hf : fitsS s c.table c.old mode with
          | false =>
            have e : validC s mode c = false := by rw [validC, e0, eo, hf]; rfl
            refine wn ?_
            refine retX_val rfl ?_
            conv => whnf
            rw [e]
            rfl
          | true =>
            refine wn ?_
            refine i64 ?_
            refine wn ?_
            refine exI_as _ rfl ?_
            refine wn ?_
            refine forkB_dec (fun h6 => ?_) (fun h6 => ?_)
            · have en : emp c.new = false := by
                unfold emp
                simp
                exact List.length_pos_iff.1 (by omega)
              refine wn ?_
              refine cle (fits_spec s c.table c.new mode hn) callee54 ?_
              rintro x hx rfl
              cases hg : fitsS s c.table c.new mode with
              | false =>
                have e : validC s mode c = false := by rw [validC, e0, eo, en, hf, hg]; rfl
                refine wn ?_
                refine retX_val rfl ?_
                conv => whnf
                rw [e]
                rfl
              | true =>
                have e : validC s mode c = (cmpR (keyR s c.table c.old) (keyR s c.table c.new) == 0) := by rw [validC, e0, eo, en, hf, hg]; rfl
                refine wn ?_
                refine i64 ?_
                refine wn ?_
                refine drawnX_phase env08_ok (fun _ => true) (List.range 27) (tks 0 16 (tks 17 5 (.one 16 (.one 22 (.one 23 (tks 24 3 (.stop))))))) 0 (lst 27 []) (by kernel_rfl) ?_
                refine wn ?_
                refine exI_as _ rfl ?_
                refine wn ?_
                refine forkB_intro (fun h => absurd (h3.symm.trans h) (by decide)) (fun _ => ?_)
                refine wn ?_
                refine exI_as _ rfl ?_
                refine wn ?_
                refine forkB_intro (fun h => absurd (en.symm.trans (emp_of h)) (by decide)) (fun _ => ?_)
                refine wn ?_
                refine cle (key_spec s c.table c.old ho) callee43 ?_
                rintro x hx rfl
                refine wn ?_
                refine cle (key_spec s c.table c.new hn) callee43 ?_
                rintro x hx rfl
                refine wn ?_
                refine cle (compareRows_spec (keyR s c.table c.old) (keyR s c.table c.new) (by omega) (by omega)) callee42 ?_
                rintro x hx rfl
                refine wn ?_
                refine forkB_intro (fun h7 => ?_) (fun h7 => ?_)
                · refine wn ?_
                  refine drawnX_done (by kernel_rfl) ?_
                  refine wn ?_
                  refine retX_val rfl ?_
                  conv => whnf
                  rw [e, h7]
                  rfl
                · refine wn ?_
                  refine drawnX_done (by kernel_rfl) ?_
                  refine wn ?_
                  refine retX_val rfl ?_
                  conv => whnf
                  rw [e, h7]
                  rfl
            · have en : emp c.new = true := by
                unfold emp
                simp
                exact List.length_eq_zero_iff.1 (by omega)
              have e : validC s mode c = true := by rw [validC, e0, eo, en, hf]; simp
              refine wn ?_
              refine i64 ?_
              refine wn ?_
              refine drawnX_phase env08_ok (fun _ => true) (List.range 27) (tks 0 16 (tks 17 5 (.one 16 (.one 22 (.one 23 (tks 24 3 (.stop))))))) 0 (lst 27 []) (by kernel_rfl) ?_
              refine wn ?_
              refine exI_as _ rfl ?_
              refine wn ?_
              refine forkB_intro (fun h => absurd (h3.symm.trans h) (by decide)) (fun _ => ?_)
              refine wn ?_
              refine exI_as _ rfl ?_
              refine wn ?_
              refine forkB_intro (fun _ => ?_) (fun h => absurd (en.symm.trans (emp_of h)) (by decide))
              refine wn ?_
              refine drawnX_done (by kernel_rfl) ?_
              refine wn ?_
              refine retX_val rfl ?_
              conv => whnf
              rw [e]
              rfl
        · exact absurd (show (c.old.length : Int) > 0 by omega) h5
theorem callee50 : callee Try.prog 50 := callee_of Try.func50 rfl rfl
end Go.Proofs.Ve


/-
  VeU8: a row of two cells; whether a state is within another.
-/
set_option linter.unusedVariables false
set_option linter.unusedSimpArgs false
set_option pp.maxSteps 1500
namespace Go.Proofs.Ve
open Go

def namedR (i : Int) (t : ByteArray) : Row := [⟨4, i, ⟨#[]⟩⟩, ⟨5, 0, t⟩]
theorem named_spec (i : Int) (t : ByteArray) : PSpec Try.prog 47 [.one (.int .i64 i), .one (.str t)] (fun x => x = .one (rowC (namedR i t))) := by
  refine pspec_x env08_ok mixed08 Try.func47 rfl 10 rfl _ rfl rfl ?_
  refine wn ?_
  refine retX_tr (Tr.frz' 0 2 rfl (show 0 < 3 by decide) rfl rfl) ?_
  refine retX_val rfl ?_
  conv => whnf
  rfl
theorem callee47 : callee Try.prog 47 := callee_of Try.func47 rfl rfl

/-- v is in no way other than w, if it is there. -/
def cellIn (v : V) (w : V) : Bool := v.k == 1 || eqV v w
def cellsIn : Row → Row → Bool
  | v :: r, w :: q => cellIn v w && cellsIn r q
  | _, _ => true
def rowIn (s : Sch) (b : St) (t : Int) (r : Row) : Bool := match getR s b t (keyR s t r) with
  | some x => x.length == r.length && cellsIn r x
  | none => false
def tabIn (s : Sch) (b : St) (t : Int) (l : Tab) : Bool := !(decide (0 < l.length) && decide ((s.tables.length : Int) ≤ t)) && l.all (rowIn s b t)
def withinFrom (s : Sch) (b : St) : Nat → St → Bool
  | i, l :: a => tabIn s b i l && withinFrom s b (i + 1) a
  | _, [] => true

theorem cellsIn_step (r q : Row) (i : Nat) (h1 : i < r.length) (h2 : i < q.length) : cellsIn (r.drop i) (q.drop i) = (cellIn r[i] q[i] && cellsIn (r.drop (i + 1)) (q.drop (i + 1))) := by
  rw [List.drop_eq_getElem_cons h1, List.drop_eq_getElem_cons h2, cellsIn]
theorem all_step {α : Type} (p : α → Bool) (l : List α) (i : Nat) (h : i < l.length) : (l.drop i).all p = (p l[i] && (l.drop (i + 1)).all p) := by
  rw [List.drop_eq_getElem_cons h, List.all_cons]
theorem within_step (s : Sch) (b a : St) (i : Nat) (h : i < a.length) : withinFrom s b i (a.drop i) = (tabIn s b i a[i] && withinFrom s b (i + 1) (a.drop (i + 1))) := by
  rw [List.drop_eq_getElem_cons h, withinFrom]

theorem within_spec (s : Sch) (a b : St) (ha : a.length ≤ 4398046511104) (hat : ∀ l ∈ a, okT l) (hbt : ∀ l ∈ b, okT l) : PSpec Try.prog 48 [.agg (schC s), .agg (stC a), .agg (stC b)] (fun x => x = .one (.bool (withinFrom s b 0 a))) := by
  refine pspec_x env08_ok mixed08 Try.func48 rfl 80 rfl _ rfl rfl ?_
  refine wn ?_
  refine exI_as _ rfl ?_
  refine wn ?_
  refine loopX_of env08_ok mixed08 (σ := Nat) (fun i => AS.of 80 0 3 [(3, .one (.ptr 0 0)), (5, .one (.ptr 2 0)), (16, .one (tabsC a)), (17, .one (.int .i64 a.length)), (18, .one (.int .i64 (i : Nat)))] [(0, ⟨32, 0, 0, schC s⟩), (2, ⟨25, 0, 0, stC b⟩)])
    (fun i => i ≤ a.length ∧ withinFrom s b 0 a = withinFrom s b i (a.drop i)) (fun i => a.length - i) 0 (fun _ => rfl)
    (Tr.ofId rfl rfl (Nat.zero_le _) (show 3 ≤ 3 by decide) ⟨⟨rfl, rfl⟩, ⟨rfl, rfl⟩, ⟨rfl, rfl⟩, ⟨rfl, rfl⟩, ⟨rfl, rfl⟩, trivial⟩ ⟨⟨rfl, rfl, by decide⟩, ⟨rfl, rfl, by decide⟩, trivial⟩) ⟨Nat.zero_le _, rfl⟩ ?_
  rintro i ⟨hi, hfi⟩
  refine wn ?_
  refine forkB_dec (fun h => ?_) (fun h => ?_)
  · have hi2 : i < a.length := by omega
    have hs := within_step s b a i hi2
    have hl := hat _ (List.getElem_mem hi2)
    obtain ⟨l, hle⟩ : ∃ l, a[i] = l := ⟨_, rfl⟩
    rw [hle] at hs hl
    have hl42 := hl.1
    refine wn ?_
    refine rq ?_
    refine forceL_as (tabC1 l) ((flat_get (f := tabC1) tabC1_len a i hi2).trans (by rw [hle])) ?_
    refine wn ?_
    refine exI_as _ rfl ?_
    refine wn ?_
    refine forkB_dec (fun h2 => ?_) (fun h2 => ?_)
    · refine wn ?_
      refine exI_as _ rfl ?_
      refine wn ?_
      refine forkB_dec (fun h3 => ?_) (fun h3 => ?_)
      · have e : tabIn s b i l = false := by
          rw [tabIn, decide_eq_true (by omega), decide_eq_true (by omega)]
          rfl
        refine wn ?_
        refine retX_val rfl ?_
        conv => whnf
        rw [hfi, hs, e]
        rfl
      · have e : tabIn s b i l = l.all (rowIn s b i) := by
          rw [tabIn, decide_eq_false (show ¬ (s.tables.length : Int) ≤ i by omega)]
          simp
        refine wn ?_
        refine exI_as _ rfl ?_
        refine wn ?_
        refine loopX_of env08_ok mixed08 (σ := Nat) (fun j => AS.of 80 0 3 [(3, .one (.ptr 0 0)), (5, .one (.ptr 2 0)), (16, .one (tabsC a)), (17, .one (.int .i64 a.length)), (18, .one (.int .i64 (i : Nat))), (7, .one (.int .i64 (i : Nat))), (33, .one (tabC l)), (34, .one (.int .i64 l.length)), (35, .one (.int .i64 (j : Nat)))] [(0, ⟨32, 0, 0, schC s⟩), (2, ⟨25, 0, 0, stC b⟩)])
          (fun j => j ≤ l.length ∧ withinFrom s b 0 a = ((l.drop j).all (rowIn s b i) && withinFrom s b (i + 1) (a.drop (i + 1)))) (fun j => l.length - j) 0 (fun _ => rfl) (Tr.ofId rfl rfl (Nat.zero_le _) (show 3 ≤ 3 by decide) ⟨⟨rfl, rfl⟩, ⟨rfl, rfl⟩, ⟨rfl, rfl⟩, ⟨rfl, rfl⟩, ⟨rfl, rfl⟩, ⟨rfl, rfl⟩, ⟨rfl, rfl⟩, ⟨rfl, rfl⟩, ⟨rfl, rfl⟩, trivial⟩ ⟨⟨rfl, rfl, by decide⟩, ⟨rfl, rfl, by decide⟩, trivial⟩) ⟨Nat.zero_le _, by rw [hfi, hs, e]; rfl⟩ ?_
        rintro j ⟨hj, hfj⟩
        refine wn ?_
        refine forkB_dec (fun h4 => ?_) (fun h4 => ?_)
        · have hj2 : j < l.length := by omega
          have ha2 := all_step (rowIn s b i) l j hj2
          have hr := hl.2 _ (List.getElem_mem hj2)
          obtain ⟨r, hre⟩ : ∃ r, l[j] = r := ⟨_, rfl⟩
          rw [hre] at ha2 hr
          unfold okR at hr
          have hkl := keyR_le s i r
          refine wn ?_
          refine rq ?_
          refine forceL_as (rowC1 r) ((flat_get (f := rowC1) rowC1_len l j hj2).trans (by rw [hre])) ?_
          refine wn ?_
          refine drawnX_phase env08_ok (fun _ => true) (List.range 13) (tks 0 6 (.one 6 (.one 7 (tks 8 5 (.stop))))) 0 (lst 13 []) (by kernel_rfl) ?_
          refine wn ?_
          refine cle (key_spec s i r hr) callee43 ?_
          rintro x hx rfl
          refine wn ?_
          refine cle (get_spec s b i (keyR s i r) hbt (by omega)) callee19 ?_
          intro x hx hx2
          cases hg : getR s b i (keyR s i r) with
          | none =>
            rw [hg] at hx2
            subst hx2
            have e5 : rowIn s b i r = false := by
              unfold rowIn
              rw [hg]
            refine wn ?_
            refine drawnX_done (by kernel_rfl) ?_
            refine wn ?_
            refine retX_val rfl ?_
            conv => whnf
            rw [hfj, ha2, e5]
            rfl
          | some q =>
            rw [hg] at hx2
            subst hx2
            have e5 : rowIn s b i r = (q.length == r.length && cellsIn r q) := by
              unfold rowIn
              rw [hg]
            refine wn ?_
            refine drawnX_done (by kernel_rfl) ?_
            refine wn ?_
            refine exI_as _ rfl ?_
            refine wn ?_
            refine exI_as _ rfl ?_
            refine wn ?_
            refine forkB_intro (fun h6 => ?_) (fun h6 => ?_)
            · have h6 : (q.length == r.length) = false := by
                simp at h6 ⊢
                omega
              refine wn ?_
              refine retX_val rfl ?_
              conv => whnf
              rw [hfj, ha2, e5, h6]
              rfl
            · have h6 : q.length = r.length := by
                simp at h6
                omega
              rw [show (q.length == r.length) = true by simpa using h6, Bool.true_and] at e5
              refine wn ?_
              refine exI_as _ rfl ?_
              refine wn ?_
              refine loopX_of env08_ok mixed08 (σ := Nat) (fun k => AS.of 80 0 3 [(3, .one (.ptr 0 0)), (5, .one (.ptr 2 0)), (16, .one (tabsC a)), (17, .one (.int .i64 a.length)), (18, .one (.int .i64 (i : Nat))), (7, .one (.int .i64 (i : Nat))), (33, .one (tabC l)), (34, .one (.int .i64 l.length)), (35, .one (.int .i64 (j : Nat))), (11, .one (rowC q)), (59, .one (rowC r)), (60, .one (.int .i64 r.length)), (61, .one (.int .i64 (k : Nat)))] [(0, ⟨32, 0, 0, schC s⟩), (2, ⟨25, 0, 0, stC b⟩)])
                (fun k => k ≤ r.length ∧ rowIn s b i r = cellsIn (r.drop k) (q.drop k)) (fun k => r.length - k) 0 (fun _ => rfl) (Tr.ofId rfl rfl (Nat.zero_le _) (show 3 ≤ 3 by decide) ⟨⟨rfl, rfl⟩, ⟨rfl, rfl⟩, ⟨rfl, rfl⟩, ⟨rfl, rfl⟩, ⟨rfl, rfl⟩, ⟨rfl, rfl⟩, ⟨rfl, rfl⟩, ⟨rfl, rfl⟩, ⟨rfl, rfl⟩, ⟨rfl, rfl⟩, ⟨rfl, rfl⟩, ⟨rfl, rfl⟩, ⟨rfl, rfl⟩, trivial⟩ ⟨⟨rfl, rfl, by decide⟩, ⟨rfl, rfl, by decide⟩, trivial⟩) ⟨Nat.zero_le _, e5⟩ ?_
              rintro k ⟨hk, hfk⟩
              refine wn ?_
              refine forkB_dec (fun h7 => ?_) (fun h7 => ?_)
              · have hk2 : k < r.length := by omega
                have hk3 : k < q.length := by omega
                have hc := cellsIn_step r q k hk2 hk3
                obtain ⟨v, hv⟩ : ∃ v, r[k] = v := ⟨_, rfl⟩
                obtain ⟨u, hu⟩ : ∃ u, q[k] = u := ⟨_, rfl⟩
                rw [hv, hu] at hc
                refine wn ?_
                refine rq ?_
                refine forceL_as (vC v) ((flat_get (f := vC) vC_len r k hk2).trans (by rw [hv])) ?_
                refine wn ?_
                refine drawnX_phase env08_ok (fun _ => true) (List.range 11) (tks 0 11 (.stop)) 0 (lst 11 []) (by kernel_rfl) ?_
                refine wn ?_
                refine forkB_intro (fun h8 => ?_) (fun h8 => ?_)
                · have h8 : (v.k == 1) = false := by
                    simp at h8 ⊢
                    exact h8
                  refine wn ?_
                  refine rq ?_
                  refine forceL_as (vC u) ((flat_get (f := vC) vC_len q k hk3).trans (by rw [hu])) ?_
                  refine wn ?_
                  refine forkB_intro (fun h9 => ?_) (fun h9 => ?_)
                  · have h9 : (!eqV v u) = true := h9
                    refine wn ?_
                    refine drawnX_done (by kernel_rfl) ?_
                    refine wn ?_
                    refine retX_val rfl ?_
                    conv => whnf
                    rw [hfj, ha2, hfk, hc, cellIn, h8, show eqV v u = false by simpa using h9]
                    rfl
                  · have h9 : (!eqV v u) = false := h9
                    refine wn ?_
                    refine drawnX_done (by kernel_rfl) ?_
                    refine wn ?_
                    refine i64 ?_
                    refine wn ?_
                    exact ⟨k + 1, ⟨by omega, by rw [hfk, hc, cellIn, h8, show eqV v u = true by simpa using h9]; rfl⟩, by omega, (Tr.ofId rfl rfl (Nat.zero_le _) (show 3 ≤ 4 by decide) ⟨⟨rfl, rfl⟩, ⟨rfl, rfl⟩, ⟨rfl, rfl⟩, ⟨rfl, rfl⟩, ⟨rfl, rfl⟩, ⟨rfl, rfl⟩, ⟨rfl, rfl⟩, ⟨rfl, rfl⟩, ⟨rfl, rfl⟩, ⟨rfl, rfl⟩, ⟨rfl, rfl⟩, ⟨rfl, rfl⟩, ⟨rfl, rfl⟩, trivial⟩ ⟨⟨rfl, rfl, by decide⟩, ⟨rfl, rfl, by decide⟩, trivial⟩)⟩
                · have h8 : (v.k == 1) = true := by
                    simp at h8 ⊢
                    exact h8
                  refine wn ?_
                  refine drawnX_done (by kernel_rfl) ?_
                  refine wn ?_
                  refine i64 ?_
                  refine wn ?_
                  exact ⟨k + 1, ⟨by omega, by rw [hfk, hc, cellIn, h8]; rfl⟩, by omega, (Tr.ofId rfl rfl (Nat.zero_le _) (show 3 ≤ 4 by decide) ⟨⟨rfl, rfl⟩, ⟨rfl, rfl⟩, ⟨rfl, rfl⟩, ⟨rfl, rfl⟩, ⟨rfl, rfl⟩, ⟨rfl, rfl⟩, ⟨rfl, rfl⟩, ⟨rfl, rfl⟩, ⟨rfl, rfl⟩, ⟨rfl, rfl⟩, ⟨rfl, rfl⟩, ⟨rfl, rfl⟩, ⟨rfl, rfl⟩, trivial⟩ ⟨⟨rfl, rfl, by decide⟩, ⟨rfl, rfl, by decide⟩, trivial⟩)⟩
              · have e7 : k = r.length := by omega
                subst e7
                rw [List.drop_eq_nil_of_le (Nat.le_refl _), cellsIn] at hfk
                · refine wn ?_
                  refine i64 ?_
                  refine wn ?_
                  exact ⟨j + 1, ⟨by omega, by rw [hfj, ha2, hfk, Bool.true_and]⟩, by omega, (Tr.ofId rfl rfl (Nat.zero_le _) (show 3 ≤ 3 by decide) ⟨⟨rfl, rfl⟩, ⟨rfl, rfl⟩, ⟨rfl, rfl⟩, ⟨rfl, rfl⟩, ⟨rfl, rfl⟩, ⟨rfl, rfl⟩, ⟨rfl, rfl⟩, ⟨rfl, rfl⟩, ⟨rfl, rfl⟩, trivial⟩ ⟨⟨rfl, rfl, by decide⟩, ⟨rfl, rfl, by decide⟩, trivial⟩)⟩
                · intro v r' w q' h1
                  cases h1
        · have e4 : j = l.length := by omega
          subst e4
          rw [List.drop_eq_nil_of_le (Nat.le_refl _), List.all_nil, Bool.true_and] at hfj
          refine wn ?_
          refine i64 ?_
          refine wn ?_
          exact ⟨i + 1, ⟨by omega, hfj⟩, by omega, (Tr.ofId rfl rfl (Nat.zero_le _) (show 3 ≤ 3 by decide) ⟨⟨rfl, rfl⟩, ⟨rfl, rfl⟩, ⟨rfl, rfl⟩, ⟨rfl, rfl⟩, ⟨rfl, rfl⟩, trivial⟩ ⟨⟨rfl, rfl, by decide⟩, ⟨rfl, rfl, by decide⟩, trivial⟩)⟩
    · have e : tabIn s b i l = l.all (rowIn s b i) := by
        rw [tabIn, decide_eq_false (show ¬ 0 < l.length by omega)]
        rfl
      refine wn ?_
      refine exI_as _ rfl ?_
      refine wn ?_
      refine loopX_of env08_ok mixed08 (σ := Nat) (fun j => AS.of 80 0 3 [(3, .one (.ptr 0 0)), (5, .one (.ptr 2 0)), (16, .one (tabsC a)), (17, .one (.int .i64 a.length)), (18, .one (.int .i64 (i : Nat))), (7, .one (.int .i64 (i : Nat))), (33, .one (tabC l)), (34, .one (.int .i64 l.length)), (35, .one (.int .i64 (j : Nat)))] [(0, ⟨32, 0, 0, schC s⟩), (2, ⟨25, 0, 0, stC b⟩)])
        (fun j => j ≤ l.length ∧ withinFrom s b 0 a = ((l.drop j).all (rowIn s b i) && withinFrom s b (i + 1) (a.drop (i + 1)))) (fun j => l.length - j) 0 (fun _ => rfl) (Tr.ofId rfl rfl (Nat.zero_le _) (show 3 ≤ 3 by decide) ⟨⟨rfl, rfl⟩, ⟨rfl, rfl⟩, ⟨rfl, rfl⟩, ⟨rfl, rfl⟩, ⟨rfl, rfl⟩, ⟨rfl, rfl⟩, ⟨rfl, rfl⟩, ⟨rfl, rfl⟩, ⟨rfl, rfl⟩, trivial⟩ ⟨⟨rfl, rfl, by decide⟩, ⟨rfl, rfl, by decide⟩, trivial⟩) ⟨Nat.zero_le _, by rw [hfi, hs, e]; rfl⟩ ?_
      rintro j ⟨hj, hfj⟩
      refine wn ?_
      refine forkB_dec (fun h4 => ?_) (fun h4 => ?_)
      · have hj2 : j < l.length := by omega
        have ha2 := all_step (rowIn s b i) l j hj2
        have hr := hl.2 _ (List.getElem_mem hj2)
        obtain ⟨r, hre⟩ : ∃ r, l[j] = r := ⟨_, rfl⟩
        rw [hre] at ha2 hr
        unfold okR at hr
        have hkl := keyR_le s i r
        refine wn ?_
        refine rq ?_
        refine forceL_as (rowC1 r) ((flat_get (f := rowC1) rowC1_len l j hj2).trans (by rw [hre])) ?_
        refine wn ?_
        refine drawnX_phase env08_ok (fun _ => true) (List.range 13) (tks 0 6 (.one 6 (.one 7 (tks 8 5 (.stop))))) 0 (lst 13 []) (by kernel_rfl) ?_
        refine wn ?_
        refine cle (key_spec s i r hr) callee43 ?_
        rintro x hx rfl
        refine wn ?_
        refine cle (get_spec s b i (keyR s i r) hbt (by omega)) callee19 ?_
        intro x hx hx2
        cases hg : getR s b i (keyR s i r) with
        | none =>
          rw [hg] at hx2
          subst hx2
          have e5 : rowIn s b i r = false := by
            unfold rowIn
            rw [hg]
          refine wn ?_
          refine drawnX_done (by kernel_rfl) ?_
          refine wn ?_
          refine retX_val rfl ?_
          conv => whnf
          rw [hfj, ha2, e5]
          rfl
        | some q =>
          rw [hg] at hx2
          subst hx2
          have e5 : rowIn s b i r = (q.length == r.length && cellsIn r q) := by
            unfold rowIn
            rw [hg]
          refine wn ?_
          refine drawnX_done (by kernel_rfl) ?_
          refine wn ?_
          refine exI_as _ rfl ?_
          refine wn ?_
          refine exI_as _ rfl ?_
          refine wn ?_
          refine forkB_intro (fun h6 => ?_) (fun h6 => ?_)
          · have h6 : (q.length == r.length) = false := by
              simp at h6 ⊢
              omega
            refine wn ?_
            refine retX_val rfl ?_
            conv => whnf
            rw [hfj, ha2, e5, h6]
            rfl
          · have h6 : q.length = r.length := by
              simp at h6
              omega
            rw [show (q.length == r.length) = true by simpa using h6, Bool.true_and] at e5
            refine wn ?_
            refine exI_as _ rfl ?_
            refine wn ?_
            refine loopX_of env08_ok mixed08 (σ := Nat) (fun k => AS.of 80 0 3 [(3, .one (.ptr 0 0)), (5, .one (.ptr 2 0)), (16, .one (tabsC a)), (17, .one (.int .i64 a.length)), (18, .one (.int .i64 (i : Nat))), (7, .one (.int .i64 (i : Nat))), (33, .one (tabC l)), (34, .one (.int .i64 l.length)), (35, .one (.int .i64 (j : Nat))), (11, .one (rowC q)), (59, .one (rowC r)), (60, .one (.int .i64 r.length)), (61, .one (.int .i64 (k : Nat)))] [(0, ⟨32, 0, 0, schC s⟩), (2, ⟨25, 0, 0, stC b⟩)])
              (fun k => k ≤ r.length ∧ rowIn s b i r = cellsIn (r.drop k) (q.drop k)) (fun k => r.length - k) 0 (fun _ => rfl) (Tr.ofId rfl rfl (Nat.zero_le _) (show 3 ≤ 3 by decide) ⟨⟨rfl, rfl⟩, ⟨rfl, rfl⟩, ⟨rfl, rfl⟩, ⟨rfl, rfl⟩, ⟨rfl, rfl⟩, ⟨rfl, rfl⟩, ⟨rfl, rfl⟩, ⟨rfl, rfl⟩, ⟨rfl, rfl⟩, ⟨rfl, rfl⟩, ⟨rfl, rfl⟩, ⟨rfl, rfl⟩, ⟨rfl, rfl⟩, trivial⟩ ⟨⟨rfl, rfl, by decide⟩, ⟨rfl, rfl, by decide⟩, trivial⟩) ⟨Nat.zero_le _, e5⟩ ?_
            rintro k ⟨hk, hfk⟩
            refine wn ?_
            refine forkB_dec (fun h7 => ?_) (fun h7 => ?_)
            · have hk2 : k < r.length := by omega
              have hk3 : k < q.length := by omega
              have hc := cellsIn_step r q k hk2 hk3
              obtain ⟨v, hv⟩ : ∃ v, r[k] = v := ⟨_, rfl⟩
              obtain ⟨u, hu⟩ : ∃ u, q[k] = u := ⟨_, rfl⟩
              rw [hv, hu] at hc
              refine wn ?_
              refine rq ?_
              refine forceL_as (vC v) ((flat_get (f := vC) vC_len r k hk2).trans (by rw [hv])) ?_
              refine wn ?_
              refine drawnX_phase env08_ok (fun _ => true) (List.range 11) (tks 0 11 (.stop)) 0 (lst 11 []) (by kernel_rfl) ?_
              refine wn ?_
              refine forkB_intro (fun h8 => ?_) (fun h8 => ?_)
              · have h8 : (v.k == 1) = false := by
                  simp at h8 ⊢
                  exact h8
                refine wn ?_
                refine rq ?_
                refine forceL_as (vC u) ((flat_get (f := vC) vC_len q k hk3).trans (by rw [hu])) ?_
                refine wn ?_
                refine forkB_intro (fun h9 => ?_) (fun h9 => ?_)
                · have h9 : (!eqV v u) = true := h9
                  refine wn ?_
                  refine drawnX_done (by kernel_rfl) ?_
                  refine wn ?_
                  refine retX_val rfl ?_
                  conv => whnf
                  rw [hfj, ha2, hfk, hc, cellIn, h8, show eqV v u = false by simpa using h9]
                  rfl
                · have h9 : (!eqV v u) = false := h9
                  refine wn ?_
                  refine drawnX_done (by kernel_rfl) ?_
                  refine wn ?_
                  refine i64 ?_
                  refine wn ?_
                  exact ⟨k + 1, ⟨by omega, by rw [hfk, hc, cellIn, h8, show eqV v u = true by simpa using h9]; rfl⟩, by omega, (Tr.ofId rfl rfl (Nat.zero_le _) (show 3 ≤ 4 by decide) ⟨⟨rfl, rfl⟩, ⟨rfl, rfl⟩, ⟨rfl, rfl⟩, ⟨rfl, rfl⟩, ⟨rfl, rfl⟩, ⟨rfl, rfl⟩, ⟨rfl, rfl⟩, ⟨rfl, rfl⟩, ⟨rfl, rfl⟩, ⟨rfl, rfl⟩, ⟨rfl, rfl⟩, ⟨rfl, rfl⟩, ⟨rfl, rfl⟩, trivial⟩ ⟨⟨rfl, rfl, by decide⟩, ⟨rfl, rfl, by decide⟩, trivial⟩)⟩
              · have h8 : (v.k == 1) = true := by
                  simp at h8 ⊢
                  exact h8
                refine wn ?_
                refine drawnX_done (by kernel_rfl) ?_
                refine wn ?_
                refine i64 ?_
                refine wn ?_
                exact ⟨k + 1, ⟨by omega, by rw [hfk, hc, cellIn, h8]; rfl⟩, by omega, (Tr.ofId rfl rfl (Nat.zero_le _) (show 3 ≤ 4 by decide) ⟨⟨rfl, rfl⟩, ⟨rfl, rfl⟩, ⟨rfl, rfl⟩, ⟨rfl, rfl⟩, ⟨rfl, rfl⟩, ⟨rfl, rfl⟩, ⟨rfl, rfl⟩, ⟨rfl, rfl⟩, ⟨rfl, rfl⟩, ⟨rfl, rfl⟩, ⟨rfl, rfl⟩, ⟨rfl, rfl⟩, ⟨rfl, rfl⟩, trivial⟩ ⟨⟨rfl, rfl, by decide⟩, ⟨rfl, rfl, by decide⟩, trivial⟩)⟩
            · have e7 : k = r.length := by omega
              subst e7
              rw [List.drop_eq_nil_of_le (Nat.le_refl _), cellsIn] at hfk
              · refine wn ?_
                refine i64 ?_
                refine wn ?_
                exact ⟨j + 1, ⟨by omega, by rw [hfj, ha2, hfk, Bool.true_and]⟩, by omega, (Tr.ofId rfl rfl (Nat.zero_le _) (show 3 ≤ 3 by decide) ⟨⟨rfl, rfl⟩, ⟨rfl, rfl⟩, ⟨rfl, rfl⟩, ⟨rfl, rfl⟩, ⟨rfl, rfl⟩, ⟨rfl, rfl⟩, ⟨rfl, rfl⟩, ⟨rfl, rfl⟩, ⟨rfl, rfl⟩, trivial⟩ ⟨⟨rfl, rfl, by decide⟩, ⟨rfl, rfl, by decide⟩, trivial⟩)⟩
              · intro v r' w q' h1
                cases h1
      · have e4 : j = l.length := by omega
        subst e4
        rw [List.drop_eq_nil_of_le (Nat.le_refl _), List.all_nil, Bool.true_and] at hfj
        refine wn ?_
        refine i64 ?_
        refine wn ?_
        exact ⟨i + 1, ⟨by omega, hfj⟩, by omega, (Tr.ofId rfl rfl (Nat.zero_le _) (show 3 ≤ 3 by decide) ⟨⟨rfl, rfl⟩, ⟨rfl, rfl⟩, ⟨rfl, rfl⟩, ⟨rfl, rfl⟩, ⟨rfl, rfl⟩, trivial⟩ ⟨⟨rfl, rfl, by decide⟩, ⟨rfl, rfl, by decide⟩, trivial⟩)⟩
  · have e : i = a.length := by omega
    subst e
    refine wn ?_
    refine retX_val rfl ?_
    conv => whnf
    rw [hfi, List.drop_eq_nil_of_le (Nat.le_refl _)]
    rfl
end Go.Proofs.Ve


/-
  VeU9: checking a state.
-/
set_option linter.unusedVariables false
set_option linter.unusedSimpArgs false
set_option pp.maxSteps 1500
namespace Go.Proofs.Ve
open Go

/-- Row j of table t is in order: it fits, and stands behind the row ahead of it. -/
def rowOk (s : Sch) (mode t : Int) (l : Tab) (j : Nat) : Bool :=
  match l[j]? with
  | some r => fitsS s t r mode && (match j with
    | 0 => true
    | i + 1 => match l[i]? with
      | some q => decide (cmpR (keyR s t q) (keyR s t r) < 0)
      | none => true)
  | none => true
def rowsFrom (s : Sch) (mode t : Int) (l : Tab) (j : Nat) : Bool := (List.range' j (l.length - j)).all (rowOk s mode t l)
def tabsFrom (s : Sch) (mode : Int) : Nat → St → Bool
  | i, l :: a => rowsFrom s mode i l 0 && tabsFrom s mode (i + 1) a
  | _, [] => true
/-- The error of a state whose schema has the error e. -/
def checkS (s : Sch) (e mode : Int) (st : St) : Int :=
  if e ≠ 0 then e else if mode < 1 ∨ 3 < mode then 1 else if (countS st : Int) > 512 then 2 else if st.length ≠ s.tables.length then 80 else if tabsFrom s mode 0 st then 0 else 80

theorem rows_step (s : Sch) (mode t : Int) (l : Tab) (j : Nat) (h : j < l.length) : rowsFrom s mode t l j = (rowOk s mode t l j && rowsFrom s mode t l (j + 1)) := by
  unfold rowsFrom
  rw [show l.length - j = (l.length - (j + 1)) + 1 by omega, List.range'_succ, List.all_cons]
theorem tabs_step (s : Sch) (mode : Int) (st : St) (i : Nat) (h : i < st.length) : tabsFrom s mode i (st.drop i) = (rowsFrom s mode i st[i] 0 && tabsFrom s mode (i + 1) (st.drop (i + 1))) := by
  rw [List.drop_eq_getElem_cons h, tabsFrom]

theorem check_spec (s : Sch) (e mode : Int) (st : St) (h53 : PSpec Try.prog 53 [.agg (schC s)] (fun x => x = .one (.int .i64 e))) (hl : st.length ≤ 5864062014634) (hst : ∀ l ∈ st, okT l) (hc : countS st ≤ 9223372036854775807) :
    PSpec Try.prog 24 [.agg (schC s), .one (.int .i64 mode), .agg (stC st)] (fun x => x = .one (.int .i64 (checkS s e mode st))) := by
  refine pspec_x env08_ok mixed08 Try.func24 rfl 74 rfl _ rfl rfl ?_
  refine wn ?_
  refine cle h53 (callee_of Try.func53 rfl rfl) ?_
  rintro x hx rfl
  refine wn ?_
  refine forkB_intro (fun h => ?_) (fun h => ?_)
  · have h : e ≠ 0 := by simpa using h
    refine wn ?_
    refine retX_val rfl ?_
    conv => whnf
    rw [checkS, if_pos h]
    rfl
  · have h : ¬ e ≠ 0 := by simpa using h
    refine wn ?_
    refine forkB_dec (fun h1 => ?_) (fun h1 => ?_)
    · refine wn ?_
      refine retX_val rfl ?_
      conv => whnf
      rw [checkS, if_neg h, if_pos (.inl h1)]
      rfl
    · refine wn ?_
      refine forkB_dec (fun h2 => ?_) (fun h2 => ?_)
      · refine wn ?_
        refine retX_val rfl ?_
        conv => whnf
        rw [checkS, if_neg h, if_pos (.inr h2)]
        rfl
      · have h12 : ¬ (mode < 1 ∨ 3 < mode) := by omega
        refine wn ?_
        refine cle (count_spec st hl hc) callee13 ?_
        rintro x hx rfl
        refine wn ?_
        refine forkB_dec (fun h3 => ?_) (fun h3 => ?_)
        · refine wn ?_
          refine retX_val rfl ?_
          conv => whnf
          rw [checkS, if_neg h, if_neg h12, if_pos h3]
          rfl
        · refine wn ?_
          refine exI_as _ rfl ?_
          refine wn ?_
          refine exI_as _ rfl ?_
          refine wn ?_
          refine forkB_intro (fun h4 => ?_) (fun h4 => ?_)
          · have h4 : st.length ≠ s.tables.length := by
              simp at h4
              omega
            refine wn ?_
            refine retX_val rfl ?_
            conv => whnf
            rw [checkS, if_neg h, if_neg h12, if_neg h3, if_pos h4]
            rfl
          · have h4 : ¬ st.length ≠ s.tables.length := by
              simp at h4
              omega
            have ec : checkS s e mode st = if tabsFrom s mode 0 st then 0 else 80 := by rw [checkS, if_neg h, if_neg h12, if_neg h3, if_neg h4]
            refine wn ?_
            refine exI_as _ rfl ?_
            refine wn ?_
            refine loopX_of env08_ok mixed08 (σ := Nat) (fun i => AS.of 74 0 1 [(3, .one (.ptr 0 0)), (1, .one (.int .i64 mode)), (34, .one (tabsC st)), (35, .one (.int .i64 st.length)), (36, .one (.int .i64 (i : Nat)))] [(0, ⟨32, 0, 0, schC s⟩)])
              (fun i => i ≤ st.length ∧ tabsFrom s mode 0 st = tabsFrom s mode i (st.drop i)) (fun i => st.length - i) 0 (fun _ => rfl) (Tr.ofId rfl rfl (Nat.zero_le _) (show 1 ≤ 2 by decide) ⟨⟨rfl, rfl⟩, ⟨rfl, rfl⟩, ⟨rfl, rfl⟩, ⟨rfl, rfl⟩, ⟨rfl, rfl⟩, trivial⟩ ⟨⟨rfl, rfl, by decide⟩, trivial⟩) ⟨Nat.zero_le _, rfl⟩ ?_
            rintro i ⟨hi, hfi⟩
            refine wn ?_
            refine forkB_dec (fun h5 => ?_) (fun h5 => ?_)
            · have hi2 : i < st.length := by omega
              have hs := tabs_step s mode st i hi2
              have hlt := hst _ (List.getElem_mem hi2)
              obtain ⟨l, hle⟩ : ∃ l, st[i] = l := ⟨_, rfl⟩
              rw [hle] at hs hlt
              have hl42 := hlt.1
              refine wn ?_
              refine rq ?_
              refine forceL_as (tabC1 l) ((flat_get (f := tabC1) tabC1_len st i hi2).trans (by rw [hle])) ?_
              refine wn ?_
              refine exI_as _ rfl ?_
              refine wn ?_
              refine loopX_of env08_ok mixed08 (σ := Nat) (fun j => AS.of 74 0 1 [(3, .one (.ptr 0 0)), (1, .one (.int .i64 mode)), (34, .one (tabsC st)), (35, .one (.int .i64 st.length)), (36, .one (.int .i64 (i : Nat))), (8, .one (.int .i64 (i : Nat))), (9, .one (tabC l)), (41, .one (tabC l)), (42, .one (.int .i64 l.length)), (43, .one (.int .i64 (j : Nat)))] [(0, ⟨32, 0, 0, schC s⟩)])
                (fun j => j ≤ l.length ∧ rowsFrom s mode i l 0 = rowsFrom s mode i l j) (fun j => l.length - j) 0 (fun _ => rfl) (Tr.ofId rfl rfl (Nat.zero_le _) (show 1 ≤ 1 by decide) ⟨⟨rfl, rfl⟩, ⟨rfl, rfl⟩, ⟨rfl, rfl⟩, ⟨rfl, rfl⟩, ⟨rfl, rfl⟩, ⟨rfl, rfl⟩, ⟨rfl, rfl⟩, ⟨rfl, rfl⟩, ⟨rfl, rfl⟩, ⟨rfl, rfl⟩, trivial⟩ ⟨⟨rfl, rfl, by decide⟩, trivial⟩) ⟨Nat.zero_le _, rfl⟩ ?_
              rintro j ⟨hj, hfj⟩
              refine wn ?_
              refine forkB_dec (fun h6 => ?_) (fun h6 => ?_)
              · have hj2 : j < l.length := by omega
                have hj3 := rows_step s mode i l j hj2
                have hr := hlt.2 _ (List.getElem_mem hj2)
                have hget := List.getElem?_eq_getElem hj2
                obtain ⟨r, hre⟩ : ∃ r, l[j] = r := ⟨_, rfl⟩
                rw [hre] at hr hget
                unfold okR at hr
                have hkr := keyR_le s i r
                refine wn ?_
                refine rq ?_
                refine forceL_as (rowC1 r) ((flat_get (f := rowC1) rowC1_len l j hj2).trans (by rw [hre])) ?_
                refine wn ?_
                refine cle (fits_spec s i r mode hr) (callee_of Try.func54 rfl rfl) ?_
                rintro x hx rfl
                cases hf : fitsS s i r mode with
                | false =>
                  have bad : rowOk s mode i l j = false := by
                    unfold rowOk
                    rw [hget]
                    simp only [hf, Bool.false_and]
                  refine wn ?_
                  refine retX_val rfl ?_
                  conv => whnf
                  rw [ec, hfi, hs, hfj, hj3, bad]
                  rfl
                | true =>
                  refine wn ?_
                  refine drawnX_phase env08_ok (fun _ => true) (List.range 18) (tks 0 10 (tks 11 3 (.one 10 (.one 14 (.one 15 (tks 16 2 (.stop))))))) 0 (lst 18 []) (by kernel_rfl) ?_
                  refine wn ?_
                  refine forkB_dec (fun h7 => ?_) (fun h7 => ?_)
                  · obtain ⟨k, rfl⟩ : ∃ k, j = k + 1 := ⟨j - 1, by omega⟩
                    have hk2 : k < l.length := by omega
                    have hq := hlt.2 _ (List.getElem_mem hk2)
                    have hgetq := List.getElem?_eq_getElem hk2
                    obtain ⟨q, hqe⟩ : ∃ q, l[k] = q := ⟨_, rfl⟩
                    rw [hqe] at hq hgetq
                    unfold okR at hq
                    have hkq := keyR_le s i q
                    have ro : rowOk s mode i l (k + 1) = decide (cmpR (keyR s i q) (keyR s i r) < 0) := by
                      unfold rowOk
                      rw [hget]
                      simp only [hf, hgetq, Bool.true_and]
                    refine wn ?_
                    refine i64 ?_
                    refine wn ?_
                    refine rq ?_
                    refine forceL_as (rowC1 q) ((congrArg (fun z => ((List.flatMap rowC1 l).drop (z * 1)).take 1) (show (((k + 1 : Nat) : Int) - 1).toNat = k by omega)).trans ((flat_get (f := rowC1) rowC1_len l k hk2).trans (by rw [hqe]))) ?_
                    refine wn ?_
                    refine cle (key_spec s i q hq) callee43 ?_
                    rintro x hx rfl
                    refine wn ?_
                    refine cle (key_spec s i r hr) callee43 ?_
                    rintro x hx rfl
                    refine wn ?_
                    refine cle (compareRows_spec (keyR s i q) (keyR s i r) (by omega) (by omega)) callee42 ?_
                    rintro x hx rfl
                    refine wn ?_
                    refine forkB_dec (fun h8 => ?_) (fun h8 => ?_)
                    · have bad : rowOk s mode i l (k + 1) = false := by rw [ro, decide_eq_false (by omega)]
                      refine wn ?_
                      refine drawnX_done (by kernel_rfl) ?_
                      refine wn ?_
                      refine wn ?_
                      refine retX_val rfl ?_
                      conv => whnf
                      rw [ec, hfi, hs, hfj, hj3, bad]
                      rfl
                    · have ok : rowOk s mode i l (k + 1) = true := by rw [ro, decide_eq_true (by omega)]
                      refine wn ?_
                      refine drawnX_done (by kernel_rfl) ?_
                      refine wn ?_
                      refine i64 ?_
                      refine wn ?_
                      exact ⟨k + 1 + 1, ⟨by omega, by rw [hfj, hj3, ok, Bool.true_and]⟩, by omega, (Tr.ofId rfl rfl (Nat.zero_le _) (show 1 ≤ 1 by decide) ⟨⟨rfl, rfl⟩, ⟨rfl, rfl⟩, ⟨rfl, rfl⟩, ⟨rfl, rfl⟩, ⟨rfl, rfl⟩, ⟨rfl, rfl⟩, ⟨rfl, rfl⟩, ⟨rfl, rfl⟩, ⟨rfl, rfl⟩, ⟨rfl, rfl⟩, trivial⟩ ⟨⟨rfl, rfl, by decide⟩, trivial⟩)⟩
                  · have e0 : j = 0 := by omega
                    subst e0
                    have ok : rowOk s mode i l 0 = true := by
                      unfold rowOk
                      rw [hget]
                      simp only [hf, Bool.true_and]
                    refine wn ?_
                    refine drawnX_done (by kernel_rfl) ?_
                    refine wn ?_
                    refine i64 ?_
                    refine wn ?_
                    exact ⟨0 + 1, ⟨by omega, by rw [hfj, hj3, ok, Bool.true_and]⟩, by omega, (Tr.ofId rfl rfl (Nat.zero_le _) (show 1 ≤ 1 by decide) ⟨⟨rfl, rfl⟩, ⟨rfl, rfl⟩, ⟨rfl, rfl⟩, ⟨rfl, rfl⟩, ⟨rfl, rfl⟩, ⟨rfl, rfl⟩, ⟨rfl, rfl⟩, ⟨rfl, rfl⟩, ⟨rfl, rfl⟩, ⟨rfl, rfl⟩, trivial⟩ ⟨⟨rfl, rfl, by decide⟩, trivial⟩)⟩
              · have ej : j = l.length := by omega
                subst ej
                have okl : rowsFrom s mode i l l.length = true := by
                  unfold rowsFrom
                  rw [Nat.sub_self]
                  rfl
                refine wn ?_
                refine i64 ?_
                refine wn ?_
                exact ⟨i + 1, ⟨by omega, by rw [hfi, hs, hfj, okl, Bool.true_and]⟩, by omega, (Tr.ofId rfl rfl (Nat.zero_le _) (show 1 ≤ 1 by decide) ⟨⟨rfl, rfl⟩, ⟨rfl, rfl⟩, ⟨rfl, rfl⟩, ⟨rfl, rfl⟩, ⟨rfl, rfl⟩, trivial⟩ ⟨⟨rfl, rfl, by decide⟩, trivial⟩)⟩
            · have ei : i = st.length := by omega
              subst ei
              rw [List.drop_eq_nil_of_le (Nat.le_refl _), tabsFrom] at hfi
              refine wn ?_
              refine retX_val rfl ?_
              conv => whnf
              rw [ec, hfi]
              rfl
theorem callee24 : callee Try.prog 24 := callee_of Try.func24 rfl rfl
end Go.Proofs.Ve


/-
  VeUa: the limits of a schema.
-/
set_option linter.unusedVariables false
set_option linter.unusedSimpArgs false
set_option pp.maxSteps 1500
namespace Go.Proofs.Ve
open Go

def limT (T : Tbl) : Bool := decide (T.cols.length ≤ 8) && (decide (T.refs.length ≤ 4) && decide (T.checks.length ≤ 4))
def limS (s : Sch) : Bool := decide (s.tables.length ≤ 8) && s.tables.all limT

theorem limits_spec (s : Sch) : PSpec Try.prog 68 [.agg (schC s)] (fun x => x = .one (.bool (limS s))) := by
  refine pspec_x env08_ok mixed08 Try.func68 rfl 33 rfl _ rfl rfl ?_
  refine wn ?_
  refine exI_as _ rfl ?_
  refine wn ?_
  refine forkB_dec (fun h => ?_) (fun h => ?_)
  · refine wn ?_
    refine retX_val rfl ?_
    conv => whnf
    rw [limS, decide_eq_false (by omega)]
    rfl
  · have e : limS s = s.tables.all limT := by rw [limS, decide_eq_true (by omega), Bool.true_and]
    have hlen : s.tables.length ≤ 8 := by omega
    refine wn ?_
    refine exI_as _ rfl ?_
    refine wn ?_
    refine loopX_of env08_ok mixed08 (σ := Nat) (fun i => AS.of 33 0 0 [(10, .one (slC tblC 96 s.tables)), (11, .one (.int .i64 s.tables.length)), (12, .one (.int .i64 (i : Nat)))] [])
      (fun i => i ≤ s.tables.length ∧ limS s = (s.tables.drop i).all limT) (fun i => s.tables.length - i) 0 (fun _ => rfl)
      (Tr.ofId rfl rfl (Nat.zero_le _) (show 0 ≤ 1 by decide) ⟨⟨rfl, rfl⟩, ⟨rfl, rfl⟩, ⟨rfl, rfl⟩, trivial⟩ trivial) ⟨Nat.zero_le _, e⟩ ?_
    rintro i ⟨hi, hfi⟩
    refine wn ?_
    refine forkB_dec (fun h2 => ?_) (fun h2 => ?_)
    · have hi2 : i < s.tables.length := by omega
      have hs := all_step limT s.tables i hi2
      obtain ⟨T, hT⟩ : ∃ T, s.tables[i] = T := ⟨_, rfl⟩
      rw [hT] at hs
      refine wn ?_
      refine rq ?_
      refine forceL_as (tblC T) ((flat_get (f := tblC) tblC_len s.tables i hi2).trans (by rw [hT])) ?_
      refine wn ?_
      refine exI_as _ rfl ?_
      refine wn ?_
      refine forkB_dec (fun h3 => ?_) (fun h3 => ?_)
      · have bad : limT T = false := by rw [limT, decide_eq_false (by omega), Bool.false_and]
        refine wn ?_
        refine retX_val rfl ?_
        conv => whnf
        rw [hfi, hs, bad]
        rfl
      · refine wn ?_
        refine exI_as _ rfl ?_
        refine wn ?_
        refine forkB_dec (fun h4 => ?_) (fun h4 => ?_)
        · have bad : limT T = false := by rw [limT, decide_eq_false (show ¬ T.refs.length ≤ 4 by omega), Bool.false_and, Bool.and_false]
          refine wn ?_
          refine retX_val rfl ?_
          conv => whnf
          rw [hfi, hs, bad]
          rfl
        · refine wn ?_
          refine exI_as _ rfl ?_
          refine wn ?_
          refine forkB_dec (fun h5 => ?_) (fun h5 => ?_)
          · have bad : limT T = false := by rw [limT, decide_eq_false (show ¬ T.checks.length ≤ 4 by omega), Bool.and_false, Bool.and_false]
            refine wn ?_
            refine retX_val rfl ?_
            conv => whnf
            rw [hfi, hs, bad]
            rfl
          · have ok : limT T = true := by rw [limT, decide_eq_true (by omega), decide_eq_true (show T.refs.length ≤ 4 by omega), decide_eq_true (show T.checks.length ≤ 4 by omega)]; rfl
            refine wn ?_
            refine i64 ?_
            refine wn ?_
            exact ⟨i + 1, ⟨by omega, by rw [hfi, hs, ok, Bool.true_and]⟩, by omega, Tr.ofId rfl rfl (Nat.zero_le _) (Nat.zero_le _) ⟨⟨rfl, rfl⟩, ⟨rfl, rfl⟩, ⟨rfl, rfl⟩, trivial⟩ trivial⟩
    · have ei : i = s.tables.length := by omega
      subst ei
      rw [List.drop_eq_nil_of_le (Nat.le_refl _), List.all_nil] at hfi
      refine wn ?_
      refine retX_val rfl ?_
      conv => whnf
      rw [hfi]
      rfl
theorem callee68 : callee Try.prog 68 := callee_of Try.func68 rfl rfl
end Go.Proofs.Ve

