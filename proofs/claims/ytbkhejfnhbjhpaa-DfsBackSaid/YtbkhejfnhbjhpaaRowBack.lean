/- The law DfsBack: for every input true, and the input reads as it did. -/
import Derived.Test.YtbkhejfnhbjhpaaRows
import Derived.Test.YtbkhejfnhbjhpaaBack
import Derived.Test.YtbkhejfnhbjhpaaArgs
import Derived.WalkKit
import Derived.ProofKit
import Derived.OpenShut
import Derived.ChangeOld
import Derived.Below
import Derived.SizedLaws
namespace Go.Proofs.Ytbkhejfnhbjhpaa.dfsBack
open Go.ChangeShapes Go.WideShapes Go.ChangeAt Go.RowKit
set_option linter.unusedVariables false
theorem own : ownKnob Try.prog.godebug = none := by kernel_rfl
set_option maxRecDepth 100000 in
theorem lifted (os : Os) (started : os.Started) (H : Type) (enc : TypeId × Value → H) :
    ReturnsInHanded {} Try.checked os 9 .any (Rows.dfsBackSpec.pre6 enc Try.prog Try.f9 Rows.dfsBackRow.domain false) (Rows.dfsBackSpec.post enc Try.prog Try.f9 false true false false) := by
  refine returnsInHanded_of_change_sized (C := Try.checked) own started (by kernel_rfl) Try.func9
    (ChangeSpec.witness6 (enc := enc) (C := Try.checked) false ⟨#[], #[.agg #[.slice none 0 0, .slice none 0 0, .slice none 0 0, .slice none 0 0], .int .i64 0], []⟩ 8 (by kernel_rfl) (by kernel_rfl) (by kernel_rfl) (by kernel_rfl)) ?_
  intro W base args ds gs before hval0 hW hcnd hsz0 _
  have hsz : (DataW.weightsEach Try.prog (Try.f9.params.toList ++ Rows.dfsBackSpec.plain.varTypes Try.prog) (ds ++ gs)).all (· ≤ reachBytes) = true := hsz0
  have hval : ∀ (j : Nat) t v, Try.f9.params[j]? = some t → args[j]? = some v → Value.okWide Try.prog W .any base t v := hval0
  have hW' := hW
  obtain ⟨p, q, hA0, hV, rfl, hfz, hnd⟩ := hW
  have hA : DataW.TrodAll enc Try.prog W 0 (fun _ => true) true Try.f9.params.toList args.toList ds p := hA0
  rw [Try.params9] at hA hval hsz
  obtain ⟨v0, v1, d0, d1, p0, p1, rfl, rfl, rfl, t0, t1⟩ := trodAll_two hA
  obtain ⟨rfl, rfl⟩ := trodVars_none hV
  clear hA0 hval0 hsz0
  have hlt : ∀ x ∈ p0 ++ p1, x.block < W.heap.size := fun x hx => by simpa using hW'.lt x (by simpa using hx)
  have hli := Fl.light_all hsz
  obtain ⟨w0, hli⟩ := Fl.light_cons hli
  obtain ⟨a0, a1, a2, a3, pa, he, od, oi, rfl, h0, h1, h2, h3, _⟩ := Fl.open_forest (hval 0 _ _ rfl rfl) t0 w0
  obtain ⟨e, rfl, _⟩ := open_int Try.underlying3 (hval 1 _ _ rfl rfl) t1
  refine Calls.mono (Fl.DfsBack_calls e h0 h1 h2 h3) ?_
  rintro _ W' ⟨v, L, rfl, rfl, hO⟩
  exact ⟨_, rfl, _, _, _, [], _, [], hW', trodAll_mk1 (shut_bool Try.underlying4 _), trodAll_mk2 (Fl.stays (by kernel_rfl) (of_decide_eq_true (by kernel_rfl)) t0 hO fun x hx => hlt x (List.mem_append_left _ hx)) (Fl.stays (by kernel_rfl) (of_decide_eq_true (by kernel_rfl)) t1 hO fun x hx => hlt x (List.mem_append_right _ hx)), rfl, (Fl.own_below hO).frame _, fun h => by cases h⟩
theorem over : Rows.dfsBackRow.holds Try.pinned (OpenSpec.ofChange Rows.dfsBackSpec) :=
  OpenClaim.holds_of_wide 9 Try.f9 rfl rfl rfl rfl rfl rfl rfl ⟨rfl, rfl, rfl, rfl, rfl⟩ rfl rfl rfl rfl rfl (by kernel_rfl) Try.func9 (by kernel_rfl)
    (of_decide_eq_true (by kernel_rfl)) (by unfold Func.isWrapper; first | (rw [if_pos (by decide +kernel)]; kernel_rfl) | (rw [if_neg (by decide +kernel)]; exact ⟨rfl, rfl⟩))
    (fun os started H enc _ => lifted os started H enc)
end Go.Proofs.Ytbkhejfnhbjhpaa.dfsBack
namespace Go.Proofs.Ytbkhejfnhbjhpaa
theorem dfsBack_holds : Rows.DfsBackSaid := dfsBack.over
#print axioms dfsBack_holds
end Go.Proofs.Ytbkhejfnhbjhpaa
