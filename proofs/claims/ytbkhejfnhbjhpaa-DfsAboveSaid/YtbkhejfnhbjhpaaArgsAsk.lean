/- The argument of DfsAbove. -/
import Derived.Test.YtbkhejfnhbjhpaaArgs
set_option linter.unusedVariables false
namespace Go.Fl
open Go Go.Proofs Go.ChangeShapes Go.WideShapes Go.Deep Go.Joins

theorem array8 {α : Type} {cs : Array α} (h : cs.size = 8) : ∃ c0 c1 c2 c3 c4 c5 c6 c7, cs = #[c0, c1, c2, c3, c4, c5, c6, c7] := by
  obtain ⟨l⟩ := cs
  match l, h with
  | [c0, c1, c2, c3, c4, c5, c6, c7], _ => exact ⟨c0, c1, c2, c3, c4, c5, c6, c7, rfl⟩
theorem ce25 : Try.prog.cellsOf 25 = 2 := by kernel_rfl
theorem ce55 : Try.prog.cellsOf 55 = 4 := by kernel_rfl
theorem ce3 : Try.prog.cellsOf 3 = 1 := by kernel_rfl
theorem ce23 : Try.prog.cellsOf 23 = 1 := by kernel_rfl
theorem ce34 : Try.prog.cellsOf 34 = 1 := by kernel_rfl
section
variable {H : Type} {enc : TypeId × Value → H} {W : World}
theorem open_ask {b : Nat} {v : Value} {d : DataW H} {p : List MemPlace} (hv : Value.okWide Try.prog W .any b 68 v) (h : DataW.Trod enc Try.prog W 0 (fun _ => true) true 68 v d p) (hw : Light Try.prog 68 d) :
    ∃ N va es v0 v1 v2 v3 pa he od oi x y, v = .agg #[.int .i64 N, va, v0, v1, v2, v3, .int .i64 x, .int .i64 y] ∧ PrV W va es ∧ SlV W v0 pa ∧ SlV W v1 he ∧ SlV W v2 od ∧ SlV W v3 oi := by
  obtain ⟨cs, rfl, hsz⟩ := okWide_struct Try.underlying68 hv
  obtain ⟨c0, c1, c2, c3, c4, c5, c6, c7, rfl⟩ := array8 (hsz.trans (by kernel_rfl))
  obtain ⟨fuel, hf⟩ := h
  obtain ⟨y0, y1, y2, y3, n, hx, _, g0, g1, g2, g3⟩ := Joins.trod_struct4 Try.underlying68 hf
  simp only [Prod.mk.injEq] at hx
  obtain ⟨rfl, rfl⟩ := hx
  obtain ⟨w0, hw⟩ := light_cons (light_agg Try.underlying68 hw)
  obtain ⟨w1, hw⟩ := light_cons hw
  simp only [Value.cells, ce25, ce55, ce3, List.drop_zero, List.drop_succ_cons, List.take_succ_cons, List.take_zero] at g0 g1 g2 g3
  obtain ⟨z0, z1, n0, e0, _, k0, k1⟩ := trod_struct2 Try.underlying25 g0
  rw [e0] at w0
  obtain ⟨_, w01⟩ := light_cons (light_agg Try.underlying25 w0)
  obtain ⟨w01, _⟩ := light_cons w01
  simp only [ce3, ce23, List.drop_zero, List.drop_succ_cons, List.take_succ_cons, List.take_zero] at k0 k1
  obtain ⟨t0, t1, t2, t3, n1, e1, _, m0, m1, m2, m3⟩ := Joins.trod_struct4 Try.underlying55 g1
  rw [e1] at w1
  obtain ⟨u0, w1⟩ := light_cons (light_agg Try.underlying55 w1)
  obtain ⟨u1, w1⟩ := light_cons w1
  obtain ⟨u2, w1⟩ := light_cons w1
  obtain ⟨u3, _⟩ := light_cons w1
  simp only [ce34, List.drop_zero, List.drop_succ_cons, List.take_succ_cons, List.take_zero] at m0 m1 m2 m3
  obtain ⟨N, hN, _, _⟩ := DataW.trod_int Try.underlying3 k0
  obtain ⟨x, hxx, _, _⟩ := DataW.trod_int Try.underlying3 g2
  obtain ⟨y, hyy, _, _⟩ := DataW.trod_int Try.underlying3 g3
  obtain ⟨es, hes, _⟩ := open_edges k1 w01
  obtain ⟨a0, r0, _⟩ := open_list m0 u0
  obtain ⟨a1, r1, _⟩ := open_list m1 u1
  obtain ⟨a2, r2, _⟩ := open_list m2 u2
  obtain ⟨a3, r3, _⟩ := open_list m3 u3
  exact ⟨N, c1, es, c2, c3, c4, c5, a0, a1, a2, a3, x, y, by rw [(List.cons.inj hN).1, (List.cons.inj hxx).1, (List.cons.inj hyy).1], hes, r0, r1, r2, r3⟩
end
end Go.Fl
