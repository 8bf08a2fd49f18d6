/- Graphs by their half-edges: the lists; how an Adj lies in memory. -/
import Derived.Test.YtbkhejfnhbjhpaaFlRead
set_option linter.unusedVariables false
set_option linter.unusedSimpArgs false
namespace Go.Fl
open Go

section
variable {P : Program} {w0 w : World} {K : List Nat} {n : Nat} {ds : List Deferred} {E : Env} {L F : List Chunk} {o : Oper} {x y z : Operand} {v u : Value}
theorem cellh {g t i : Nat} {cs : Array Value} {fz : Nat × Nat} (h : w.heap[g]? = some (.cells cs t fz)) (hv : cs[i]? = some v) : w.cell? ⟨g, i, none⟩ = some v := by
  rw [cell_of_row w g i cs t fz h]; exact hv
theorem has_heap {g t i : Nat} {cs : Array Value} {fz : Nat × Nat} (h : w0.heap[g]? = some (.cells cs t fz)) (hv : cs[i]? = some v) : Has w0 [] L ⟨g, i, none⟩ v := has_old' (cellh h hv)
theorem has_heapK {g t i : Nat} {cs : Array Value} {fz : Nat × Nat} (h : w0.heap[g]? = some (.cells cs t fz)) (hk : g ∉ K) (hv : cs[i]? = some v) : Has w0 K L ⟨g, i, none⟩ v := has_old (cellh h hv) hk
theorem ints_arr {xs : List Int} {i : Nat} {x : Int} (h : xs[i]? = some x) : (ints xs).toArray[i]? = some (.int .i64 x) := by simp [ints, h]
theorem old_heap {g : Nat} {ob : Obj} (hw : Own w0 K w L) (h : w0.heap[g]? = some ob) (hk : g ∉ K) : w.heap[g]? = some ob := by
  rw [hw.old g (Array.getElem?_eq_some_iff.1 h).1 hk]; exact h
theorem p_slice {t e m len cap lo hi : Nat} {A : Option Addr} (ho : o.op = .slice t x (some y) (some z) none) (hx : ev n E x = some (.slice A len cap)) (hy : ev n E y = some (.int .i64 lo)) (hz : ev n E z = some (.int .i64 hi))
    (ht : P.underlying t = some (.slice e)) (hm : sizeT P e = some m) (h1 : lo ≤ hi) (h2 : hi ≤ cap) : Pur P n ds E o (.slice (if cap = lo then A else A.map (·.add (lo * m))) (hi - lo) (cap - lo)) := by
  intro a w ha
  have ht' : P.underlying t = some (.slice (P.elem t)) := by simp [Program.elem, ht]
  have he : P.elem t = e := by simp [Program.elem, ht]
  have := run_slice_lh (P := P) w t A len cap ht' .i64 .i64 lo hi (by omega) (by omega) (by omega)
  rw [he, run_sizeT hm] at this
  simp [execOp, ho, ha.ev hx, ha.ev hy, ha.ev hz, run_sliceAt_slice w t _ _ _ _ ht', this, sliced]
theorem p_slice_to {t e m len cap hi : Nat} {A : Option Addr} (ho : o.op = .slice t x none (some z) none) (hx : ev n E x = some (.slice A len cap)) (hz : ev n E z = some (.int .i64 hi))
    (ht : P.underlying t = some (.slice e)) (hm : sizeT P e = some m) (h2 : hi ≤ cap) : Pur P n ds E o (.slice A hi cap) := by
  intro a w ha
  have ht' : P.underlying t = some (.slice (P.elem t)) := by simp [Program.elem, ht]
  have he : P.elem t = e := by simp [Program.elem, ht]
  have := run_slice_h (P := P) w t A len cap ht' .i64 hi (by omega) (by omega)
  rw [he, run_sizeT hm] at this
  have e1 : ((if cap = 0 then A else A.map (·.add (0 * m)))) = A := by
    split
    · rfl
    · cases A <;> simp [Addr.add]
  simp [execOp, ho, ha.ev hx, ha.ev hz, run_sliceAt_slice w t _ _ _ _ ht', this, sliced]
  simpa using e1
theorem p_slice_from {t e m len cap lo : Nat} {A : Option Addr} (ho : o.op = .slice t x (some y) none none) (hx : ev n E x = some (.slice A len cap)) (hy : ev n E y = some (.int .i64 lo))
    (ht : P.underlying t = some (.slice e)) (hm : sizeT P e = some m) (h2 : lo ≤ len) : Pur P n ds E o (.slice (if cap = lo then A else A.map (·.add (lo * m))) (len - lo) (cap - lo)) := by
  intro a w ha
  have ht' : P.underlying t = some (.slice (P.elem t)) := by simp [Program.elem, ht]
  have he : P.elem t = e := by simp [Program.elem, ht]
  have := run_slice_l (P := P) w t A len cap ht' .i64 lo (by omega) (by omega)
  rw [he, run_sizeT hm] at this
  simp [execOp, ho, ha.ev hx, ha.ev hy, run_sliceAt_slice w t _ _ _ _ ht', this, sliced]
end

/-! ### half-edges -/
def frs : List Pr → List Int
  | [] => []
  | e :: r => e.1 :: e.2 :: frs r
def outsF : Nat → List Pr → Int → List Int
  | _, [], _ => []
  | k, e :: r, v => (if e.1 = v then [2 * (k : Int)] else if e.2 = v then [2 * (k : Int) + 1] else []) ++ outsF (k + 1) r v
def outs (es : List Pr) (v : Int) : List Int := outsF 0 es v
def tw (h : Int) : Int := if h % 2 = 0 then h + 1 else h - 1
def fromV (es : List Pr) (h : Int) : Int := if 0 ≤ h then ((frs es)[h.toNat]?).getD (-1) else -1
def toV (es : List Pr) (h : Int) : Int := if 0 ≤ h then fromV es (tw h) else -1

theorem frs_length (es : List Pr) : (frs es).length = es.length * 2 := by
  induction es with
  | nil => rfl
  | cons e r ih => simp [frs, ih, Nat.succ_mul]
theorem frs_get : ∀ {es : List Pr} {i : Nat} {e : Pr}, es[i]? = some e → (frs es)[2 * i]? = some e.1 ∧ (frs es)[2 * i + 1]? = some e.2
  | [], i, e, h => by simp at h
  | x :: r, 0, e, h => by simp at h; subst h; simp [frs]
  | x :: r, i + 1, e, h => by
    simp at h
    have := frs_get h
    rw [Nat.mul_succ]
    exact ⟨by simpa [frs] using this.1, by simpa [frs] using this.2⟩
theorem frs_at {es : List Pr} {h : Nat} (hh : h < es.length * 2) : ∃ e, es[h / 2]? = some e ∧ (frs es)[h]? = some (if h % 2 = 0 then e.1 else e.2) := by
  have hlt : h / 2 < es.length := by omega
  obtain ⟨e, he⟩ : ∃ e, es[h / 2]? = some e := ⟨_, List.getElem?_eq_getElem hlt⟩
  refine ⟨e, he, ?_⟩
  have := frs_get he
  by_cases hp : h % 2 = 0
  · rw [if_pos hp]; have e1 : 2 * (h / 2) = h := by omega
    rw [e1] at this; exact this.1
  · rw [if_neg hp]; have e1 : 2 * (h / 2) + 1 = h := by omega
    rw [e1] at this; exact this.2
theorem mem_outsF : ∀ {es : List Pr} {k : Nat} {v h : Int}, h ∈ outsF k es v ↔ ∃ (i : Nat) (e : Pr), es[i]? = some e ∧ ((e.1 = v ∧ h = 2 * ((k + i : Nat) : Int)) ∨ (e.1 ≠ v ∧ e.2 = v ∧ h = 2 * ((k + i : Nat) : Int) + 1))
  | [], k, v, h => by simp [outsF]
  | x :: r, k, v, h => by
    unfold outsF
    rw [List.mem_append, mem_outsF]
    constructor
    · rintro (h1 | ⟨i, e, he, h1⟩)
      · refine ⟨0, x, by simp, ?_⟩
        split at h1
        · rename_i h2; simp at h1; exact .inl ⟨h2, by simpa using h1⟩
        · rename_i h2
          split at h1
          · rename_i h3; simp at h1; exact .inr ⟨h2, h3, by simpa using h1⟩
          · simp at h1
      · refine ⟨i + 1, e, by simpa using he, ?_⟩
        rw [show k + (i + 1) = k + 1 + i by omega]; exact h1
    · rintro ⟨i, e, he, h1⟩
      match i, he with
      | 0, he =>
        simp at he; subst he
        left
        rcases h1 with ⟨h2, h3⟩ | ⟨h2, h3, h4⟩
        · rw [if_pos h2]; simpa using h3
        · rw [if_neg h2, if_pos h3]; simpa using h4
      | i + 1, he =>
        right
        refine ⟨i, e, by simpa using he, ?_⟩
        rw [show k + 1 + i = k + (i + 1) by omega]; exact h1

structure AdjM where
  gp : Nat
  g0 : Nat
  g1 : Nat
  g2 : Nat
  g3 : Nat
  fr : List Int
  st : List Int
  ou : List Int
  pl : List Int
def sl (g : Nat) (xs : List Int) : Value := .slice (some ⟨g, 0, none⟩) xs.length xs.length
structure AdjP (N : Int) (es : List Pr) (M : AdjM) : Prop where
  vld : Vld N es
  fr : M.fr = frs es
  stl : M.st.length = N.toNat + 1
  st0 : M.st[0]? = some 0
  stn : ∀ (v : Nat) x, (v : Int) < N → M.st[v]? = some x → M.st[v + 1]? = some (x + (outs es v).length)
  oul : M.ou.length = es.length * 2
  pll : M.pl.length = es.length * 2
  ou : ∀ (v : Nat) x, (v : Int) < N → M.st[v]? = some x → ∀ (k : Nat) h, (outs es v)[k]? = some h → M.ou[x.toNat + k]? = some h ∧ M.pl[h.toNat]? = some (x + k)
  bd : ∀ (v : Nat) x, M.st[v]? = some x → 0 ≤ x ∧ x ≤ es.length * 2
structure AdjAt (w : World) (ta ti : Nat) (M : AdjM) : Prop where
  hp : w.heap[M.gp]? = some (.cells #[sl M.g0 M.fr, sl M.g1 M.st, sl M.g2 M.ou, sl M.g3 M.pl] ta (0, 0))
  h0 : w.heap[M.g0]? = some (.cells (ints M.fr).toArray ti (0, 0))
  h1 : w.heap[M.g1]? = some (.cells (ints M.st).toArray ti (0, 0))
  h2 : w.heap[M.g2]? = some (.cells (ints M.ou).toArray ti (0, 0))
  h3 : w.heap[M.g3]? = some (.cells (ints M.pl).toArray ti (0, 0))
/-- What a pointer to an Adj shows: the graph N, es; a nil one: the graph without vertices. -/
inductive AdjV (w : World) (ta ti : Nat) (N : Int) (es : List Pr) (M : AdjM) : Option Addr → Prop
  | nil (hN : N = 0) (he : es = []) : AdjV w ta ti N es M none
  | at (hA : AdjAt w ta ti M) (hP : AdjP N es M) : AdjV w ta ti N es M (some ⟨M.gp, 0, none⟩)
theorem vld_nil : Vld 0 [] := ⟨by omega, by omega, by simp, fun i e h => by simp at h, fun i a b h => by simp at h⟩
section
variable {w w0 : World} {K : List Nat} {L : List Chunk} {ta ti : Nat} {N : Int} {es : List Pr} {M : AdjM} {p : Option Addr}
theorem AdjV.vld (h : AdjV w ta ti N es M p) : Vld N es := by
  cases h with
  | nil hN he => subst hN he; exact vld_nil
  | «at» hA hP => exact hP.vld
theorem AdjAt.keep (h : AdjAt w0 ta ti M) (hw : Own w0 [] w L) : AdjAt w ta ti M :=
  ⟨old_heap hw h.hp (by simp), old_heap hw h.h0 (by simp), old_heap hw h.h1 (by simp), old_heap hw h.h2 (by simp), old_heap hw h.h3 (by simp)⟩
theorem AdjV.keep (h : AdjV w0 ta ti N es M p) (hw : Own w0 [] w L) : AdjV w ta ti N es M p := by
  cases h with
  | nil hN he => exact .nil hN he
  | «at» hA hP => exact .at (hA.keep hw) hP
theorem Vld.len (h : Vld N es) : es.length ≤ 4194304 := h.few
theorem outs_out (h : Vld N es) {v : Int} (hv : ¬ (0 ≤ v ∧ v < N)) : outs es v = [] := by
  rw [List.eq_nil_iff_forall_not_mem]
  intro x hx
  obtain ⟨i, e, he, h1⟩ := mem_outsF.1 hx
  have ho := h.ok i e he
  have := ho.lo; have := ho.lt; have := ho.hi
  rcases h1 with ⟨h1, _⟩ | ⟨_, h1, _⟩ <;> omega
theorem fromV_at (es : List Pr) {h : Int} (h0 : 0 ≤ h) (h1 : h < es.length * 2) : ∃ x, (frs es)[h.toNat]? = some x ∧ fromV es h = x := by
  have hlt : h.toNat < (frs es).length := by rw [frs_length]; omega
  refine ⟨(frs es)[h.toNat], List.getElem?_eq_getElem hlt, ?_⟩
  unfold fromV; rw [if_pos h0, List.getElem?_eq_getElem hlt]; rfl
theorem fromV_out (es : List Pr) {h : Int} (hh : ¬ (0 ≤ h ∧ h < es.length * 2)) : fromV es h = -1 := by
  unfold fromV
  split
  · rw [List.getElem?_eq_none (by rw [frs_length]; omega)]; rfl
  · rfl
theorem toV_out (es : List Pr) {h : Int} (hh : ¬ (0 ≤ h ∧ h < es.length * 2)) : toV es h = -1 := by
  unfold toV
  split
  · apply fromV_out; unfold tw; split <;> omega
  · rfl
theorem tw_range {h : Int} {m : Nat} (h0 : 0 ≤ h) (h1 : h < m * 2) : 0 ≤ tw h ∧ tw h < m * 2 := by unfold tw; split <;> omega
theorem tw_tw (h : Int) : tw (tw h) = h := by unfold tw; split <;> split <;> omega
/-- A half-edge leaves the vertex where it begins. -/
theorem mem_outs (hv : Vld N es) {v h : Int} : h ∈ outs es v ↔ (0 ≤ h ∧ h < es.length * 2 ∧ fromV es h = v) := by
  unfold outs
  rw [mem_outsF]
  constructor
  · rintro ⟨i, e, he, h1⟩
    have hlt := (List.getElem?_eq_some_iff.1 he).1
    obtain ⟨f1, f2⟩ := frs_get he
    rcases h1 with ⟨h1, h2⟩ | ⟨h1, h2, h3⟩
    · have e0 : h.toNat = 2 * i := by omega
      refine ⟨by omega, by omega, ?_⟩
      unfold fromV; rw [if_pos (by omega), e0, f1]; exact h1
    · have e0 : h.toNat = 2 * i + 1 := by omega
      refine ⟨by omega, by omega, ?_⟩
      unfold fromV; rw [if_pos (by omega), e0, f2]; exact h2
  · rintro ⟨h0, h1, h2⟩
    obtain ⟨e, he, hf⟩ := frs_at (es := es) (h := h.toNat) (by omega)
    have hx : fromV es h = if h.toNat % 2 = 0 then e.1 else e.2 := by
      unfold fromV; rw [if_pos h0, hf]; rfl
    rw [hx] at h2
    have hok := (hv.ok _ e he).lt
    refine ⟨h.toNat / 2, e, he, ?_⟩
    split at h2
    · left; exact ⟨h2, by omega⟩
    · right; exact ⟨by omega, h2, by omega⟩
end
end Go.Fl
