/- The document's Valid of a forest as functions on lists. -/
import Derived.Test.YtbkhejfnhbjhpaaFlVf
set_option linter.unusedVariables false
set_option linter.unusedSimpArgs false
namespace Go.Fl
open Go

def par (es : List Pr) (pa : List Int) (v : Int) : Int := if getI pa v < 0 then -1 else fromV es (getI pa v)
def rootB (pa he : List Int) (N v : Int) : Bool := decide (0 ≤ getI he v ∧ getI he v < N ∧ (getI he v = 0 ↔ getI pa v = -1))
def rootF (pa he : List Int) (N : Nat) : Bool := (List.range N).all fun v => rootB pa he N v
def aboveF (es : List Pr) (pa : List Int) : Nat → Int → Int → Bool
  | 0, _, _ => false
  | k + 1, u, v => if v < 0 then false else if u = v then true else aboveF es pa k u (par es pa v)
/-- The way: its end first. -/
def ordF (es : List Pr) (pa : List Int) (N : Int) : List Int → List Bool → List Int → Bool
  | [], _, _ => true
  | v :: r, sb, way =>
    if v < 0 ∨ N ≤ v ∨ (sb[v.toNat]?).getD false = true then false else
    if par es pa v < 0 then ordF es pa N r (sb.set v.toNat true) [v] else
    if way.dropWhile (fun x => decide (x ≠ par es pa v)) = [] then false else
    ordF es pa N r (sb.set v.toNat true) (v :: way.dropWhile (fun x => decide (x ≠ par es pa v)))
theorem ordF_cons (es : List Pr) (pa : List Int) (N v : Int) (r : List Int) (sb : List Bool) (way : List Int) : ordF es pa N (v :: r) sb way =
    if v < 0 ∨ N ≤ v ∨ (sb[v.toNat]?).getD false = true then false else
    if par es pa v < 0 then ordF es pa N r (sb.set v.toNat true) [v] else
    if way.dropWhile (fun x => decide (x ≠ par es pa v)) = [] then false else
    ordF es pa N r (sb.set v.toNat true) (v :: way.dropWhile (fun x => decide (x ≠ par es pa v))) := rfl
def sideF : Int → List Int → Bool
  | _, [] => true
  | e, h :: r => if h ≠ 2 * e ∧ h ≠ 2 * e + 1 then false else sideF (e + 1) r
def rleadF (es : List Pr) (pa he : List Int) (N : Nat) : List Int → Bool
  | [] => true
  | h :: r => if getI pa (toV es h) = h then rleadF es pa he N r else
    if getI he (fromV es h) ≤ getI he (toV es h) then false else
    if aboveF es pa (N + 1) (toV es h) (fromV es h) = true then rleadF es pa he N r else false
open Classical in
noncomputable def rvalidF (N : Int) (es : List Pr) (pa he od oi : List Int) : Bool :=
  if Vld N es ∧ Len N es.length pa he od oi then
    hangsF es pa he oi N.toNat && (rootF pa he N.toNat && (ordF es pa N od (List.replicate N.toNat false) [] && (sideF 0 oi && rleadF es pa he N.toNat oi)))
  else false
/-- A forest that is read, of a graph that is valid, with lists of the right lengths. -/
structure FA (w : World) (N : Nat) (es : List Pr) (va v0 v1 v2 v3 : Value) (pa he od oi : List Int) : Prop where
  g : PrV w va es
  p : SlV w v0 pa
  h : SlV w v1 he
  d : SlV w v2 od
  o : SlV w v3 oi
  vld : Vld N es
  l0 : pa.length = N
  l1 : he.length = N
  l2 : od.length = N
  l3 : oi.length = es.length
theorem FA.keep0 {w0 w : World} {L : List Chunk} {N : Nat} {es : List Pr} {va v0 v1 v2 v3 : Value} {pa he od oi : List Int} (h : FA w0 N es va v0 v1 v2 v3 pa he od oi) (hw : Own w0 [] w L) : FA w N es va v0 v1 v2 v3 pa he od oi :=
  ⟨h.g.keep0 hw, h.p.keep0 hw, h.h.keep0 hw, h.d.keep0 hw, h.o.keep0 hw, h.vld, h.l0, h.l1, h.l2, h.l3⟩
/-- Each vertex hangs as it says. -/
def Hangs (es : List Pr) (pa he oi : List Int) (N : Nat) : Prop := ∀ v : Int, 0 ≤ v → v < N → hangB es pa he oi v = true
def Rooted (pa he : List Int) (N : Nat) : Prop := ∀ v : Int, 0 ≤ v → v < N → rootB pa he N v = true
theorem hangsF_iff {es : List Pr} {pa he oi : List Int} {N : Nat} : hangsF es pa he oi N = true ↔ Hangs es pa he oi N := by
  unfold hangsF Hangs
  rw [List.all_eq_true]
  constructor
  · intro h v h0 h1
    have := h v.toNat (List.mem_range.2 (by omega))
    rwa [Int.toNat_of_nonneg h0] at this
  · intro h v hv
    exact h v (by omega) (by have := List.mem_range.1 hv; omega)
theorem rootF_iff {pa he : List Int} {N : Nat} : rootF pa he N = true ↔ Rooted pa he N := by
  unfold rootF Rooted
  rw [List.all_eq_true]
  constructor
  · intro h v h0 h1
    have := h v.toNat (List.mem_range.2 (by omega))
    rwa [Int.toNat_of_nonneg h0] at this
  · intro h v hv
    exact h v (by omega) (by have := List.mem_range.1 hv; omega)
theorem hang_par {es : List Pr} {pa he oi : List Int} {v : Int} {N : Nat} (hV : Vld N es) (h : hangB es pa he oi v = true) : (0 ≤ getI pa v → getI pa v < es.length * 2) ∧ -1 ≤ par es pa v ∧ par es pa v < N ∧ (par es pa v < 0 ↔ getI pa v < 0) := by
  have h1 : 0 ≤ getI pa v → getI pa v < es.length * 2 := by
    intro h0
    unfold hangB at h
    rw [if_neg (by omega)] at h
    split at h
    · cases h
    · simp at h; omega
  have hN := hV.lo
  refine ⟨h1, ?_⟩
  unfold par
  by_cases h0 : getI pa v < 0
  · rw [if_pos h0]; omega
  · rw [if_neg h0]
    have := fromV_range hV (by omega) (h1 (by omega))
    omega
theorem n_make2 {P : Program} {n : Nat} {ds : List Deferred} {E : Env} {o : Oper} {x y : Operand} {t e m b : Nat} {zv : Value} {len lcap : Int} {k c : Nat} {cs : Array Value} (ho : o.op = .makeSlice t x y) (hx : ev n E x = some (.int .i64 len)) (hy : ev n E y = some (.int .i64 lcap))
    (ht : P.underlying t = some (.slice e)) (hm : sizeT P e = some m) (hb : bytesT P e = some b) (hz : zeroT P e = some zv) (hk : len = (k : Nat)) (hc : lcap = (c : Nat)) (hkc : k ≤ c) (hbytes : b * c ≤ 281474976710656) (h63 : c ≤ 9223372036854775807)
    (hcs : madeCells zv.cells (c * m) = cs) : New P n ds E o (.sl k c) e cs := by
  intro a w ha
  subst hk hc hcs
  obtain ⟨i, hi, h1, h2, h3⟩ := info_of hm hb hz
  subst h1 h2
  have := run_make (P := P) w t e i zv ht hi h3 .i64 .i64 k c (by omega) (by omega) (by rw [← Int.natCast_mul]; omega) (by omega)
  simp only [Int.toNat_natCast] at this
  simp [execOp, ho, ha.ev hx, ha.ev hy, this, NewV.val]
end Go.Fl
