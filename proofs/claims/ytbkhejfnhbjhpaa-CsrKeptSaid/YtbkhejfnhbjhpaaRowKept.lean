/- The law CsrKept: for every input true, and the input reads as it did. No condition. -/
import Derived.Test.YtbkhejfnhbjhpaaRows
import Derived.Test.YtbkhejfnhbjhpaaLKept
import Derived.Test.YtbkhejfnhbjhpaaArgs
import Derived.WalkKit
import Derived.ProofKit
import Derived.OpenShut
import Derived.ChangeOld
import Derived.Below
import Derived.Carry
import Derived.SizedLaws
namespace Go.Proofs.Ytbkhejfnhbjhpaa.csrKept
open Go.ChangeShapes Go.WideShapes Go.ChangeAt Go.RowKit
set_option linter.unusedVariables false
theorem own : ownKnob Try.prog.godebug = none := by kernel_rfl
set_option maxRecDepth 100000 in
theorem lifted (os : Os) (started : os.Started) (H : Type) (enc : TypeId × Value → H) :
    ReturnsInHanded {} Try.checked os 7 .any (Rows.csrKeptSpec.pre6 enc Try.prog Try.f7 Rows.csrKeptRow.domain false) (Rows.csrKeptSpec.post enc Try.prog Try.f7 false true false false) := by
  refine returnsInHanded_of_change_sized (C := Try.checked) own started (by kernel_rfl) Try.func7
    (ChangeSpec.witness6 (enc := enc) (C := Try.checked) false ⟨#[], #[.agg #[.int .i64 0, .slice none 0 0], .int .i64 0, .int .i64 0], []⟩ 8 (by kernel_rfl) (by kernel_rfl) (by kernel_rfl) (by kernel_rfl)) ?_
  intro W base args ds gs before hval0 hW hcnd hsz0 _
  have hsz : (DataW.weightsEach Try.prog (Try.f7.params.toList ++ Rows.csrKeptSpec.plain.varTypes Try.prog) (ds ++ gs)).all (· ≤ reachBytes) = true := hsz0
  have hval : ∀ (j : Nat) t v, Try.f7.params[j]? = some t → args[j]? = some v → Value.okWide Try.prog W .any base t v := hval0
  have hW' := hW
  obtain ⟨p, q, hA0, hV, rfl, hfz, hnd⟩ := hW
  have hA : DataW.TrodAll enc Try.prog W 0 (fun _ => true) true Try.f7.params.toList args.toList ds p := hA0
  rw [Try.params7] at hA hval hsz
  obtain ⟨v0, v1, v2, d0, d1, d2, p0, p1, p2, rfl, rfl, rfl, t0, t1, t2⟩ := trodAll_three hA
  obtain ⟨rfl, rfl⟩ := trodVars_none hV
  clear hA0 hval0 hsz0
  have lt0 : ∀ x ∈ p0, x.block < W.heap.size := fun x hx => by simpa using hW'.lt x (by simp [hx])
  have lt1 : ∀ x ∈ p1, x.block < W.heap.size := fun x hx => by simpa using hW'.lt x (by simp [hx])
  have lt2 : ∀ x ∈ p2, x.block < W.heap.size := fun x hx => by simpa using hW'.lt x (by simp [hx])
  have hli := Fl.light_all hsz
  obtain ⟨w0, hli⟩ := Fl.light_cons hli
  obtain ⟨N0, va0, es0, rfl, hg0, hN0, hE0⟩ := Fl.open_graph (hval 0 _ _ rfl rfl) t0 w0
  obtain ⟨w1, hli⟩ := Fl.light_cons hli
  obtain ⟨e1, rfl, _⟩ := open_int Try.underlying3 (hval 1 _ _ rfl rfl) t1
  obtain ⟨w2, hli⟩ := Fl.light_cons hli
  obtain ⟨e2, rfl, _⟩ := open_int Try.underlying3 (hval 2 _ _ rfl rfl) t2
  refine Calls.mono (Fl.CsrKept_calls e1 e2 hg0) ?_
  rintro _ W' ⟨v, L, rfl, rfl, hO⟩
  exact ⟨_, rfl, _, _, _, [], _, [], hW', trodAll_mk1 (shut_bool Try.underlying4 _), trodAll_mk3 (Fl.stays (by kernel_rfl) (of_decide_eq_true (by kernel_rfl)) t0 hO lt0) (Fl.stays (by kernel_rfl) (of_decide_eq_true (by kernel_rfl)) t1 hO lt1) (Fl.stays (by kernel_rfl) (of_decide_eq_true (by kernel_rfl)) t2 hO lt2), rfl, (Fl.own_below hO).frame _, fun h => by cases h⟩
theorem over : Rows.csrKeptRow.holds Try.pinned (OpenSpec.ofChange Rows.csrKeptSpec) :=
  OpenClaim.holds_of_wide 7 Try.f7 rfl rfl rfl rfl rfl rfl rfl ⟨rfl, rfl, rfl, rfl, rfl⟩ rfl rfl rfl rfl rfl (by kernel_rfl) Try.func7 (by kernel_rfl)
    (of_decide_eq_true (by kernel_rfl)) (by unfold Func.isWrapper; first | (rw [if_pos (by decide +kernel)]; kernel_rfl) | (rw [if_neg (by decide +kernel)]; exact ⟨rfl, rfl⟩))
    (fun os started H enc _ => lifted os started H enc)
end Go.Proofs.Ytbkhejfnhbjhpaa.csrKept
namespace Go.Proofs.Ytbkhejfnhbjhpaa
theorem csrKept_holds : Rows.CsrKeptSaid := csrKept.over
#print axioms csrKept_holds
end Go.Proofs.Ytbkhejfnhbjhpaa
