/- What each single operation of the model does, as facts for a walk. -/
import Derived.Test.YtbkhejfnhbjhpaaFlRules
import Derived.IntWalk
set_option linter.unusedVariables false
set_option linter.unusedSimpArgs false
namespace Go.Fl
open Go

/-! ### the program's types, asked by the kernel -/
def sizeT (P : Program) (t : TypeId) : Option Nat := (P.info? t).map (·.size)
def bytesT (P : Program) (t : TypeId) : Option Nat := (P.info? t).map (·.bytes)
def zeroT (P : Program) (t : TypeId) : Option Value := (P.info? t).bind (·.zero)
def aggT (P : Program) (t : TypeId) : Option Bool :=
  match P.underlying t with
  | some (.struct _) => some true
  | some (.array _ _) => some true
  | some _ => some false
  | none => none
def fieldT (P : Program) (s k : Nat) : Option (Nat × TypeId) :=
  match P.underlying s with
  | some (.struct fs) =>
    match fs[k]? with
    | some f => match sizeT P f.type with
      | some (m + 1) => some (f.offset, f.type)
      | _ => none
    | none => none
  | _ => none

section
variable {P : Program} {w : World} {t : TypeId}
theorem run_sizeT {m : Nat} (h : sizeT P t = some m) : (sizeOf t).run P w = .ok m w := by
  unfold sizeT at h
  cases hi : P.info? t with
  | none => rw [hi] at h; cases h
  | some i => rw [hi] at h; cases h; simp [sizeOf, typeInfo, hi]
theorem run_zeroT {z : Value} (h : zeroT P t = some z) : (zeroValue t).run P w = .ok z w := by
  unfold zeroT at h
  cases hi : P.info? t with
  | none => rw [hi] at h; cases h
  | some i => rw [hi] at h; simp at h; simp [zeroValue, typeInfo, hi, h]
theorem run_aggT {b : Bool} (h : aggT P t = some b) : (isAgg t).run P w = .ok b w := by
  unfold aggT at h
  cases hu : P.underlying t with
  | none => rw [hu] at h; cases h
  | some d =>
    rw [hu] at h
    cases d <;> (cases h; simp [isAgg, run_underlying hu])
theorem run_fieldT {s k off ft : Nat} {a : Addr} (h : fieldT P s k = some (off, ft)) : (Instr.fieldAt s (.pointer (some a)) k).run P w = .ok (.pointer (some (a.add off))) w := by
  unfold fieldT at h
  split at h
  · rename_i fs hu
    split at h
    · rename_i f hf
      split at h
      · rename_i m hm
        cases h
        simp [Instr.fieldAt, run_underlying hu, hf, Instr.sureAddr, fieldPlace, run_sizeT hm]
      · cases h
    · cases h
  · cases h
end

/-! ### operations that ask no memory -/
section
variable {P : Program} {n : Nat} {ds : List Deferred} {E : Env} {o : Oper} {x y z : Operand} {v u : Value}

theorem p_move (ho : o.op = .move x) (hx : ev n E x = some v) : Pur P n ds E o v := by
  intro a w ha; simp [execOp, ho, ha.ev hx]
theorem p_assign (ho : o.op = .assign x) (hx : ev n E x = some v) : Pur P n ds E o v := by
  intro a w ha; simp [execOp, ho, ha.ev hx]
theorem p_pick_t (ho : o.op = .pick x y z) (hx : ev n E x = some (.bool true)) (hy : ev n E y = some v) : Pur P n ds E o v := by
  intro a w ha; simp [execOp, ho, ha.ev hx, ha.ev hy, asBool]
theorem p_pick_f (ho : o.op = .pick x y z) (hx : ev n E x = some (.bool false)) (hz : ev n E z = some v) : Pur P n ds E o v := by
  intro a w ha; simp [execOp, ho, ha.ev hx, ha.ev hz, asBool]
theorem p_nil {ad : Addr} (ho : o.op = .nilCheck x) (hx : ev n E x = some (.pointer (some ad))) : Pur P n ds E o (.pointer (some ad)) := by
  intro a w ha; simp [execOp, ho, ha.ev hx]
theorem p_not {b : Bool} {t : TypeId} (ho : o.op = .unOp .not t x) (hx : ev n E x = some (.bool b)) : Pur P n ds E o (.bool (!b)) := by
  intro a w ha; simp [execOp, ho, ha.ev hx, Op.unary]
theorem p_extract {k : Nat} {vs : Array Value} (ho : o.op = .extract x k) (hx : ev n E x = some (.tuple vs)) (hk : vs[k]? = some v) : Pur P n ds E o v := by
  intro a w ha; simp [execOp, ho, ha.ev hx, Instr.extract, hk]
theorem p_field {s k off ft : Nat} {ad ad' : Addr} (ho : o.op = .fieldAddr s x k) (hx : ev n E x = some (.pointer (some ad))) (hf : fieldT P s k = some (off, ft)) (he : ad.add off = ad') :
    Pur P n ds E o (.pointer (some ad')) := by
  intro a w ha; subst he; simp [execOp, ho, ha.ev hx, run_fieldT hf]
theorem p_index {t e m len cap : Nat} {ad ad' : Addr} {k : IntKind} {i : Int} (ho : o.op = .indexAddr t x y) (hx : ev n E x = some (.slice (some ad) len cap)) (hy : ev n E y = some (.int k i))
    (ht : P.underlying t = some (.slice e)) (hm : sizeT P e = some m) (h0 : 0 ≤ i) (h1 : i < len) (he : ad.add (i.toNat * m) = ad') : Pur P n ds E o (.pointer (some ad')) := by
  intro a w ha; subst he
  simp [execOp, ho, ha.ev hx, ha.ev hy, Instr.indexAt, asIntOf, run_underlying ht, run_sizeT hm, h0, h1]

theorem add_at0 (g j : Nat) : (⟨g, 0, none⟩ : Addr).add j = ⟨g, j, none⟩ := by unfold Addr.add; split <;> simp_all
theorem p_index1 {t e len cap : Nat} {ad ad' : Addr} {k : IntKind} {i : Int} (ho : o.op = .indexAddr t x y) (hx : ev n E x = some (.slice (some ad) len cap)) (hy : ev n E y = some (.int k i))
    (ht : P.underlying t = some (.slice e)) (hm : sizeT P e = some 1) (h0 : 0 ≤ i) (h1 : i < len) (he : ad.add i.toNat = ad') : Pur P n ds E o (.pointer (some ad')) :=
  p_index ho hx hy ht hm h0 h1 (by rw [Nat.mul_one]; exact he)

/-- two integers -/
theorem p_bin {op : BinOp} {t t' : TypeId} {k : IntKind} {i j r : Int} (ho : o.op = .binOp op t x y t') (hx : ev n E x = some (.int k i)) (hy : ev n E y = some (.int k j))
    (hr : ∀ w, (binOp op t (.int k i) (.int k j)).run P w = .ok v w) : Pur P n ds E o v := by
  intro a w ha
  have hg : (eqGuard op t x y (.int k i) (.int k j)).run P w = .ok () w := by
    unfold eqGuard
    cases op <;> simp
  simp [execOp, ho, ha.ev hx, ha.ev hy, hg, hr]
theorem wrap_of {i : Int} (h : -9223372036854775808 ≤ i ∧ i ≤ 9223372036854775807) : IntKind.i64.wrap i = i := by
  rw [IntKind.wrap_i64]; omega
theorem p_add {t t' : TypeId} {i j : Int} (ho : o.op = .binOp .add t x y t') (hx : ev n E x = some (.int .i64 i)) (hy : ev n E y = some (.int .i64 j))
    (hb : -9223372036854775808 ≤ i + j ∧ i + j ≤ 9223372036854775807) : Pur P n ds E o (.int .i64 (i + j)) := p_bin (r := 0) ho hx hy fun w => by simp [binOp, Op.intArith, wrap_of hb]
theorem p_sub {t t' : TypeId} {i j : Int} (ho : o.op = .binOp .sub t x y t') (hx : ev n E x = some (.int .i64 i)) (hy : ev n E y = some (.int .i64 j))
    (hb : -9223372036854775808 ≤ i - j ∧ i - j ≤ 9223372036854775807) : Pur P n ds E o (.int .i64 (i - j)) := p_bin (r := 0) ho hx hy fun w => by simp [binOp, Op.intArith, wrap_of hb]
theorem p_mul {t t' : TypeId} {i j : Int} (ho : o.op = .binOp .mul t x y t') (hx : ev n E x = some (.int .i64 i)) (hy : ev n E y = some (.int .i64 j))
    (hb : -9223372036854775808 ≤ i * j ∧ i * j ≤ 9223372036854775807) : Pur P n ds E o (.int .i64 (i * j)) := p_bin (r := 0) ho hx hy fun w => by simp [binOp, Op.intArith, wrap_of hb]
theorem p_addw {t t' : TypeId} {i j : Int} (ho : o.op = .binOp .add t x y t') (hx : ev n E x = some (.int .i64 i)) (hy : ev n E y = some (.int .i64 j)) :
    Pur P n ds E o (.int .i64 (IntKind.i64.wrap (i + j))) := p_bin (r := 0) ho hx hy fun w => by simp [binOp, Op.intArith]
theorem p_subw {t t' : TypeId} {i j : Int} (ho : o.op = .binOp .sub t x y t') (hx : ev n E x = some (.int .i64 i)) (hy : ev n E y = some (.int .i64 j)) :
    Pur P n ds E o (.int .i64 (IntKind.i64.wrap (i - j))) := p_bin (r := 0) ho hx hy fun w => by simp [binOp, Op.intArith]
theorem p_quo {t t' : TypeId} {i j : Int} (ho : o.op = .binOp .quo t x y t') (hx : ev n E x = some (.int .i64 i)) (hy : ev n E y = some (.int .i64 j))
    (hi : 0 ≤ i ∧ i ≤ 9223372036854775807) (hj : 0 < j) : Pur P n ds E o (.int .i64 (i / j)) := p_bin (r := 0) ho hx hy fun w => by
  have h1 : i.tdiv j = i / j := Int.tdiv_eq_ediv_of_nonneg hi.1
  have h2 : 0 ≤ i / j := Int.ediv_nonneg hi.1 (by omega)
  have h3 : i / j ≤ i := Int.ediv_le_self _ hi.1
  simp [binOp, Op.intDiv, show j ≠ 0 by omega, h1, wrap_of (i := i / j) ⟨by omega, by omega⟩]
theorem p_rem {t t' : TypeId} {i j : Int} (ho : o.op = .binOp .rem t x y t') (hx : ev n E x = some (.int .i64 i)) (hy : ev n E y = some (.int .i64 j))
    (hi : 0 ≤ i) (hj : 0 < j) : Pur P n ds E o (.int .i64 (i % j)) := p_bin (r := 0) ho hx hy fun w => by
  have h1 : i.tmod j = i % j := Int.tmod_eq_emod_of_nonneg hi
  simp [binOp, Op.intDiv, show j ≠ 0 by omega, h1]
theorem p_lss {t t' : TypeId} {k : IntKind} {i j : Int} (ho : o.op = .binOp .lss t x y t') (hx : ev n E x = some (.int k i)) (hy : ev n E y = some (.int k j)) :
    Pur P n ds E o (.bool (decide (i < j))) := p_bin (r := 0) ho hx hy fun w => by simp [binOp, Op.intCmp]
theorem p_leq {t t' : TypeId} {k : IntKind} {i j : Int} (ho : o.op = .binOp .leq t x y t') (hx : ev n E x = some (.int k i)) (hy : ev n E y = some (.int k j)) :
    Pur P n ds E o (.bool (decide (i ≤ j))) := p_bin (r := 0) ho hx hy fun w => by simp [binOp, Op.intCmp]
theorem p_gtr {t t' : TypeId} {k : IntKind} {i j : Int} (ho : o.op = .binOp .gtr t x y t') (hx : ev n E x = some (.int k i)) (hy : ev n E y = some (.int k j)) :
    Pur P n ds E o (.bool (decide (j < i))) := p_bin (r := 0) ho hx hy fun w => by simp [binOp, Op.intCmp]
theorem p_geq {t t' : TypeId} {k : IntKind} {i j : Int} (ho : o.op = .binOp .geq t x y t') (hx : ev n E x = some (.int k i)) (hy : ev n E y = some (.int k j)) :
    Pur P n ds E o (.bool (decide (j ≤ i))) := p_bin (r := 0) ho hx hy fun w => by simp [binOp, Op.intCmp]
theorem p_eql {t t' : TypeId} {k : IntKind} {i j : Int} (ho : o.op = .binOp .eql t x y t') (hx : ev n E x = some (.int k i)) (hy : ev n E y = some (.int k j)) :
    Pur P n ds E o (.bool (decide (i = j))) := p_bin (r := 0) ho hx hy fun w => by
  have : (i == j) = decide (i = j) := by by_cases h : i = j <;> simp [h]
  simp [binOp, Op.intCmp, this]
theorem p_neq {t t' : TypeId} {k : IntKind} {i j : Int} (ho : o.op = .binOp .neq t x y t') (hx : ev n E x = some (.int k i)) (hy : ev n E y = some (.int k j)) :
    Pur P n ds E o (.bool (decide (i ≠ j))) := p_bin (r := 0) ho hx hy fun w => by
  have : (i != j) = decide (i ≠ j) := by by_cases h : i = j <;> simp [h]
  simp [binOp, Op.intCmp, this]
end
end Go.Fl
