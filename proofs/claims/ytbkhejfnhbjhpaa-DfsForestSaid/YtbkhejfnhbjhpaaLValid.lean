/- The law DfsValid. -/
import Derived.Test.YtbkhejfnhbjhpaaFlVlaw
import Derived.Test.YtbkhejfnhbjhpaaDValid2
import Derived.Test.YtbkhejfnhbjhpaaRValid7
import Derived.Test.YtbkhejfnhbjhpaaWalks
set_option linter.unusedVariables false
set_option linter.unusedSimpArgs false
set_option maxRecDepth 100000
namespace Go.Fl
open Go Go.Proofs

theorem DfsValid_calls {N : Int} {es : List Pr} {va v0 v1 v2 v3 : Value} {pa he od oi : List Int} {w : World} (hg : PrV w va es) (h0 : SlV w v0 pa) (h1 : SlV w v1 he) (h2 : SlV w v2 od) (h3 : SlV w v3 oi) :
    Calls Try.prog 10 #[.agg #[.int .i64 N, va], .agg #[v0, v1, v2, v3]] w (Ret w [] fun v L => v = .bool true) := by
  have fg := hg.few
  have f0 := h0.few
  have f1 := h1.few
  have f2 := h2.few
  have f3 := h3.few
  refine calls_of (args := [_, _]) (L := []) Try.func10 rfl Try.ntmps10 rfl (Own.start _ _) ?_
  refine DC.seq ?_
  refine DC.region ?_
  refine Seq.new rfl rfl (n_box rfl rfl rfl) fun g2 => ?_
  refine Seq.new rfl rfl (n_box rfl rfl rfl) fun g3 => ?_
  refine Seq.pur rfl rfl (p_assign rfl rfl) ?_
  refine Seq.nil ?_
  refine Fin.then ?_
  refine DC.seq ?_
  refine DC.seq ?_
  refine DC.region ?_
  -- calls tangram/tangramlaw07.awake
  refine Seq.rel0 rfl rfl (r_call en34 rfl rfl rfl (fun w' hw => awake_calls w')) ?_
  rintro _ rfl
  refine Seq.pur rfl rfl (p_not rfl rfl) ?_
  refine Seq.nil ?_
  refine Fin.then ?_
  refine DC.cond rfl (fun c1 => ?_) (fun c1 => ?_)
  · exact absurd c1 (by decide)
    --closed
  · refine DC.skip ?_
    refine Fin.then ?_
    refine DC.seq ?_
    refine DC.flow (cl := [.v, .r, .v, .r, .r, .v, .v, .r, .q, .q]) (A := [0, 1, 0, 7, 15, 0, 0, 127, 255, 511]) (order := [0, 1, 2, 3, 4, 5, 6, 7, 8, 9]) [] mixed (by kernel_rfl) (fun w hw => hw.pick .nil) ?_
    refine Flow.valS rfl rfl rfl rfl (v_loads (vs := [_, _]) rfl rfl ag25 sz25 rfl (hass_blk rfl)) ?_
    -- calls tangram/tangramref04.Copy
    refine Flow.relS rfl rfl rfl rfl (r_call en31 rfl rfl rfl (fun w' hw => GCopy_calls (hg.keep0 hw))) ?_
    rintro _ _ ⟨u, rfl, rfl⟩
    refine Flow.valS rfl rfl rfl rfl (v_loads (vs := [_, _, _, _]) rfl rfl ag55 sz55 rfl (hass_blk rfl)) ?_
    -- calls tangram/tangramref07.Copy
    refine Flow.relS rfl rfl rfl rfl (r_call en39 rfl rfl rfl (fun w' hw => FCopy_calls (h0.keep0 hw) (h1.keep0 hw) (h2.keep0 hw) (h3.keep0 hw))) ?_
    rintro _ _ ⟨u0, u1, u2, u3, rfl, rfl⟩
    -- calls tangram/dfs.Valid
    refine Flow.rel0V (V := forL u0 u1 u2 u3 pa he od oi ++ [slc u 39 2 (prs es), blk g3 55 #[v0, v1, v2, v3], blk g2 25 #[.int .i64 N, va]]) rfl rfl rfl rfl (by kernel_rfl) (r_call en41 rfl rfl rfl (fun w' hw => DValid_calls (prv_own hw 4 rfl fg) (slv_own hw 0 rfl f0) (slv_own hw 1 rfl f1) (slv_own hw 2 rfl f2) (slv_own hw 3 rfl f3))) ?_
    rintro _ rfl
    refine Flow.valS rfl rfl rfl rfl (v_loads (vs := [_, _]) rfl rfl ag25 sz25 rfl (hass_blk rfl)) ?_
    refine Flow.valS rfl rfl rfl rfl (v_loads (vs := [_, _, _, _]) rfl rfl ag55 sz55 rfl (hass_blk rfl)) ?_
    -- calls tangram/tangramref07.Valid
    refine Flow.rel0 rfl rfl rfl rfl (r_call en42 rfl rfl rfl (fun w' hw => RValid_calls (hg.keep0 hw) (h0.keep0 hw) (h1.keep0 hw) (h2.keep0 hw) (h3.keep0 hw))) ?_
    rintro _ rfl
    refine Flow.pur rfl rfl rfl (p_eql_b rfl rfl rfl Try.underlying4) ?_
    refine Flow.pur rfl rfl rfl (p_assign rfl rfl) ?_
    refine Flow.end rfl ?_
    simp only [List.map_cons, List.map_nil, List.nil_append, List.cons_append, List.append_nil]
    refine Fin.then ?_
    refine DC.ret ?_
    refine Fin.end1 (.inl rfl) rfl rfl ?_
    simp [valid_same]
end Go.Fl
