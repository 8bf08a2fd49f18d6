/- Graphs and forests as arguments of a law. -/
import Derived.Test.YtbkhejfnhbjhpaaFlOpen
import Derived.Test.YtbkhejfnhbjhpaaTypes
set_option linter.unusedVariables false
namespace Go.Fl
open Go Go.Proofs Go.ChangeShapes Go.WideShapes Go.Deep Go.Joins

section
variable {H : Type} {enc : TypeId × Value → H} {W : World}
theorem open_list {n : Nat} {v : Value} {y : DataW H × List MemPlace} (h : DataW.trod enc Try.prog W 0 (fun _ => true) true n 34 [v] = some y) (hw : Light Try.prog 34 y.1) : ∃ xs, SlV W v xs ∧ ∀ x ∈ xs, (Lit.int .i64 x).wf = true :=
  open_sl Try.underlying34 Try.underlying3 (by kernel_rfl) (by kernel_rfl) h hw
theorem open_edges {n : Nat} {v : Value} {y : DataW H × List MemPlace} (h : DataW.trod enc Try.prog W 0 (fun _ => true) true n 23 [v] = some y) (hw : Light Try.prog 23 y.1) : ∃ es, PrV W v es ∧ ∀ x ∈ es, (Lit.int .i64 x.1).wf = true ∧ (Lit.int .i64 x.2).wf = true :=
  open_pr Try.underlying23 Try.underlying39 (by kernel_rfl) rfl rfl (by kernel_rfl) (by kernel_rfl) Try.underlying3 Try.underlying3 (by kernel_rfl) h hw
theorem open_graph {b : Nat} {v : Value} {d : DataW H} {p : List MemPlace} (hv : Value.okWide Try.prog W .any b 25 v) (h : DataW.Trod enc Try.prog W 0 (fun _ => true) true 25 v d p) (hw : Light Try.prog 25 d) :
    ∃ N va es, v = .agg #[.int .i64 N, va] ∧ PrV W va es ∧ (Lit.int .i64 N).wf = true ∧ ∀ x ∈ es, (Lit.int .i64 x.1).wf = true ∧ (Lit.int .i64 x.2).wf = true := by
  obtain ⟨v0, v1, y0, y1, n, rfl, rfl, rfl, h0, h1⟩ := open_agg2 Try.underlying25 (by kernel_rfl) (by kernel_rfl) hv h
  obtain ⟨_, w1⟩ := light_cons (light_agg Try.underlying25 hw)
  obtain ⟨w1, _⟩ := light_cons w1
  obtain ⟨N, hN, _, hNw⟩ := DataW.trod_int Try.underlying3 h0
  obtain ⟨es, hes, hew⟩ := open_edges h1 w1
  exact ⟨N, v1, es, by rw [(List.cons.inj hN).1], hes, hNw, hew⟩
theorem open_forest {b : Nat} {v : Value} {d : DataW H} {p : List MemPlace} (hv : Value.okWide Try.prog W .any b 55 v) (h : DataW.Trod enc Try.prog W 0 (fun _ => true) true 55 v d p) (hw : Light Try.prog 55 d) :
    ∃ v0 v1 v2 v3 pa he od oi, v = .agg #[v0, v1, v2, v3] ∧ SlV W v0 pa ∧ SlV W v1 he ∧ SlV W v2 od ∧ SlV W v3 oi ∧
      (∀ x ∈ pa, (Lit.int .i64 x).wf = true) ∧ (∀ x ∈ he, (Lit.int .i64 x).wf = true) ∧ (∀ x ∈ od, (Lit.int .i64 x).wf = true) ∧ (∀ x ∈ oi, (Lit.int .i64 x).wf = true) := by
  obtain ⟨v0, v1, v2, v3, y0, y1, y2, y3, n, rfl, rfl, rfl, h0, h1, h2, h3⟩ := open_agg4 Try.underlying55 (by kernel_rfl) (by kernel_rfl) hv h
  obtain ⟨w0, w⟩ := light_cons (light_agg Try.underlying55 hw)
  obtain ⟨w1, w⟩ := light_cons w
  obtain ⟨w2, w⟩ := light_cons w
  obtain ⟨w3, _⟩ := light_cons w
  obtain ⟨a0, r0, s0⟩ := open_list h0 w0
  obtain ⟨a1, r1, s1⟩ := open_list h1 w1
  obtain ⟨a2, r2, s2⟩ := open_list h2 w2
  obtain ⟨a3, r3, s3⟩ := open_list h3 w3
  exact ⟨v0, v1, v2, v3, a0, a1, a2, a3, rfl, r0, r1, r2, r3, s0, s1, s2, s3⟩
theorem open_ints {b : Nat} {v : Value} {d : DataW H} {p : List MemPlace} (hv : Value.okWide Try.prog W .any b 34 v) (h : DataW.Trod enc Try.prog W 0 (fun _ => true) true 34 v d p) (hw : Light Try.prog 34 d) : ∃ xs, SlV W v xs ∧ ∀ x ∈ xs, (Lit.int .i64 x).wf = true := by
  obtain ⟨A, len, cap, rfl⟩ := okWide_slice Try.underlying34 hv
  obtain ⟨n, hn⟩ := h
  exact open_list (y := (d, p)) hn hw
theorem laid : laidOutB Try.prog = true := by kernel_rfl
theorem stays {t : TypeId} {v : Value} {d : DataW H} {p : List MemPlace} {W' : World} {L : List Chunk} (hr : Try.prog.readableRec t = true) (hrow : t < Try.prog.types.size) (h : DataW.Trod enc Try.prog W 0 (fun _ => true) true t v d p)
    (hO : Own W [] W' L) (hlt : ∀ x ∈ p, x.block < W.heap.size) : DataW.Trod enc Try.prog W' 0 (fun b => decide (b < W.heap.size)) true t v d p :=
  RowKit.Below.trod laid hr hrow h (own_below hO) hlt
end
end Go.Fl
