/- The law CsrAnswers. -/
import Derived.Test.YtbkhejfnhbjhpaaCsr3
import Derived.Test.YtbkhejfnhbjhpaaROut
set_option linter.unusedVariables false
set_option linter.unusedSimpArgs false
set_option maxRecDepth 100000
namespace Go.Fl
open Go Go.Proofs

section
variable {P : Program} {w0 : World} {K : List Nat} {n : Nat} {ds : List Deferred} {E : Env} {L : List Chunk}
/-- What each world of the state shows. -/
theorem DC.know {Q : Exit → Act → World → Prop} {c : Code} {φ : Prop} (hf : ∀ w, Own w0 K w L → φ) (h : φ → DC P w0 K n ds Q c E L) : DC P w0 K n ds Q c E L := fun a w ha hw => h (hf w hw) a w ha hw
theorem perm_mid (A R B : List Chunk) : (A ++ B ++ R).Perm (A ++ R ++ B) := by
  rw [List.append_assoc, List.append_assoc]
  exact List.Perm.append_left A List.perm_append_comm
end
theorem rValidV_no' {N : Int} {es : List Pr} {va : Value} {w : World} (hg : PrV w va es) (hV : ¬ Vld N es) :
    Calls Try.prog 16 #[.agg #[.int .i64 N, va]] w (Ret w [] fun v L => L = [] ∧ v = .bool false) :=
  Calls.mono (rValid_calls (N := N) hg) fun e w' h => Retm h fun v L ⟨h1, b, h2, h3⟩ => ⟨h1, by cases b with | true => exact absurd (h3.1 rfl) hV | false => exact h2⟩
theorem rValidV_yes {N : Int} {es : List Pr} {va : Value} {w : World} (hg : PrV w va es) (hV : Vld N es) :
    Calls Try.prog 16 #[.agg #[.int .i64 N, va]] w (Ret w [] fun v L => L = [] ∧ v = .bool true) :=
  Calls.mono (rValid_calls (N := N) hg) fun e w' h => Retm h fun v L ⟨h1, b, h2, h3⟩ => ⟨h1, by have h4 := h3.2 hV; rw [h4] at h2; exact h2⟩
theorem half_yes {N : Int} {es : List Pr} {M : AdjM} {p : Option Addr} {w : World} (h : AV w N es M p) {u v k : Int} (hk : IsHalf es u v k) :
    Calls Try.prog 28 #[.pointer p, .int .i64 u, .int .i64 v] w (Ret w [] fun r L => L = [] ∧ r = .tuple #[.int .i64 k, .bool true]) :=
  Calls.mono (Half_calls h u v) fun e w' hr => Retm hr fun r L ⟨h1, k', b, h2, h3⟩ => ⟨h1, by
    rcases h3 with ⟨rfl, h3⟩ | ⟨_, _, h3⟩
    · rw [h2, h3.uniq h.vld hk]
    · exact absurd hk (h3 k)⟩
theorem after_in {N : Int} {es : List Pr} {M : AdjM} {p : Option Addr} {w : World} (h : AV w N es M p) {u x : Int} {k : Nat} (hx : (outs es u)[k]? = some x) :
    Calls Try.prog 23 #[.pointer p, .int .i64 x] w (Ret w [] fun v L => L = [] ∧ v = .int .i64 ((outs es u)[k + 1]?.getD (-1))) :=
  Calls.mono (After_calls h x) fun e w' hr => Retm hr fun v L ⟨h1, r, h2, h3, h4⟩ => ⟨h1, by rw [h2, h3 u k hx]⟩
theorem CsrAnswers_no {N : Int} {es : List Pr} {va vn : Value} {xs : List Int} {w : World} (hg : PrV w va es) (hn : SlV w vn xs) (hV : ¬ Vld N es) :
    Calls Try.prog 6 #[.agg #[.int .i64 N, va], vn] w (Ret w [] fun v L => v = .bool true) := by
  have fg := hg.few
  have qg := hg
  obtain ⟨B, cb, rfl, hr, hlc, hcm, hl⟩ := qg
  refine calls_of (args := [_, _]) (L := []) Try.func6 rfl Try.ntmps6 rfl (Own.start _ _) ?_
  refine DC.seq ?_
  refine DC.region ?_
  refine Seq.new rfl rfl (n_box rfl rfl rfl) fun g2 => ?_
  refine Seq.pur rfl rfl (p_assign rfl rfl) ?_
  refine Seq.nil ?_
  refine Fin.then ?_
  refine DC.seq ?_
  refine DC.seq ?_
  refine DC.region ?_
  -- calls tangram/tangramlaw04.awake
  refine Seq.rel0 rfl rfl (r_call en14 rfl rfl rfl (fun w' hw => cawake_calls w')) ?_
  rintro _ rfl
  refine Seq.pur rfl rfl (p_not rfl rfl) ?_
  refine Seq.nil ?_
  refine Fin.then ?_
  refine DC.cond rfl (fun c1 => ?_) (fun c1 => ?_)
  · exact absurd c1 (by decide)
    --closed
  · refine DC.skip ?_
    refine Fin.then ?_
    refine DC.seq ?_
    refine DC.region ?_
    refine Seq.val rfl rfl (v_loads (vs := [_, _]) rfl rfl ag25 sz25 rfl (hass_blk rfl)) ?_
    -- calls tangram/tangramlaw04.adj
    refine Seq.rel0 rfl rfl (r_call en15 rfl rfl rfl (fun w' hw => adj_no (hg.keep0 hw) hV)) ?_
    rintro _ rfl
    refine Seq.pur rfl rfl (p_move rfl rfl) ?_
    refine Seq.pur rfl rfl (p_extract rfl rfl rfl) ?_
    refine Seq.pur rfl rfl (p_extract rfl rfl rfl) ?_
    refine Seq.pur rfl rfl (p_assign rfl rfl) ?_
    refine Seq.pur rfl rfl (p_assign rfl rfl) ?_
    refine Seq.nil ?_
    refine Fin.then ?_
    refine DC.seq ?_
    refine DC.seq ?_
    refine DC.region ?_
    refine Seq.val rfl rfl (v_loads (vs := [_, _]) rfl rfl ag25 sz25 rfl (hass_blk rfl)) ?_
    -- calls tangram/tangramref04.Valid
    refine Seq.rel0 rfl rfl (r_call en16 rfl rfl rfl (fun w' hw => rValidV_no' (hg.keep0 hw) hV)) ?_
    rintro _ rfl
    refine Seq.pur rfl rfl (p_not rfl rfl) ?_
    refine Seq.nil ?_
    refine Fin.then ?_
    refine DC.cond rfl (fun c4 => ?_) (fun c4 => ?_)
    · refine DC.seq ?_
      refine DC.region ?_
      refine Seq.pur rfl rfl (p_move rfl rfl) ?_
      refine Seq.pur rfl rfl (p_eql_nil rfl rfl rfl Try.underlying26) ?_
      refine Seq.pur rfl rfl (p_move rfl rfl) ?_
      refine Seq.split 26 rfl (fun k5_2 => ?_) (fun k5_2 => ?_)
      · refine Seq.pur rfl rfl (p_move rfl rfl) ?_
        refine Seq.pur rfl rfl (p_eql rfl rfl rfl) ?_
        refine Seq.pur rfl rfl (p_pick_t rfl rfl rfl) ?_
        refine Seq.pur rfl rfl (p_assign rfl rfl) ?_
        refine Seq.nil ?_
        refine Fin.then ?_
        refine DC.ret ?_
        refine Fin.ret_then <| ?_
        refine Fin.end1 (.inl rfl) rfl rfl ?_
        rfl
      · exact absurd k5_2 (by decide)
        --closed
    · exact absurd c4 (by decide)
      --closed
theorem CsrAnswers_yes {N : Int} {es : List Pr} {va vn : Value} {xs : List Int} {w : World} (hg : PrV w va es) (hn : SlV w vn xs) (hw63 : ∀ x ∈ xs, (Lit.int .i64 x).wf = true) (hV : Vld N es) :
    Calls Try.prog 6 #[.agg #[.int .i64 N, va], vn] w (Ret w [] fun v L => v = .bool true) := by
  have fg := hg.few
  have hN0 := hV.lo
  have hN1 := hV.hi
  have hfew := hV.few
  obtain ⟨Nn, rfl⟩ := Int.eq_ofNat_of_zero_le hN0
  have qg := hg
  obtain ⟨B, cb, rfl, hr, hlc, hcm, hl⟩ := qg
  have qn := hn
  obtain ⟨A, ca, rfl, hrn, h1, h2, h3⟩ := qn
  refine calls_of (args := [_, _]) (L := []) Try.func6 rfl Try.ntmps6 rfl (Own.start _ _) ?_
  refine DC.seq ?_
  refine DC.region ?_
  refine Seq.new rfl rfl (n_box rfl rfl rfl) fun g2 => ?_
  refine Seq.pur rfl rfl (p_assign rfl rfl) ?_
  refine Seq.nil ?_
  refine Fin.then ?_
  refine DC.seq ?_
  refine DC.seq ?_
  refine DC.region ?_
  -- calls tangram/tangramlaw04.awake
  refine Seq.rel0 rfl rfl (r_call en14 rfl rfl rfl (fun w' hw => cawake_calls w')) ?_
  rintro _ rfl
  refine Seq.pur rfl rfl (p_not rfl rfl) ?_
  refine Seq.nil ?_
  refine Fin.then ?_
  refine DC.cond rfl (fun c1 => ?_) (fun c1 => ?_)
  · exact absurd c1 (by decide)
    --closed
  · refine DC.skip ?_
    refine Fin.then ?_
    refine DC.seq ?_
    refine DC.region ?_
    refine Seq.val rfl rfl (v_loads (vs := [_, _]) rfl rfl ag25 sz25 rfl (hass_blk rfl)) ?_
    -- calls tangram/tangramlaw04.adj
    refine Seq.rel rfl rfl (r_call en15 rfl rfl rfl (fun w' hw => adj_yes (hg.keep0 hw) hV)) ?_
    rintro _ _ ⟨M, hM, rfl, rfl⟩
    simp only [adjL, List.cons_append, List.nil_append]
    refine Seq.pur rfl rfl (p_move rfl rfl) ?_
    refine Seq.pur rfl rfl (p_extract rfl rfl rfl) ?_
    refine Seq.pur rfl rfl (p_extract rfl rfl rfl) ?_
    refine Seq.pur rfl rfl (p_assign rfl rfl) ?_
    refine Seq.pur rfl rfl (p_assign rfl rfl) ?_
    refine Seq.nil ?_
    refine Fin.then ?_
    refine DC.seq ?_
    refine DC.seq ?_
    refine DC.region ?_
    refine Seq.val rfl rfl (v_loads (vs := [_, _]) rfl rfl ag25 sz25 rfl (hass_blk rfl)) ?_
    -- calls tangram/tangramref04.Valid
    refine Seq.rel0 rfl rfl (r_call en16 rfl rfl rfl (fun w' hw => rValidV_yes (hg.keep0 hw) hV)) ?_
    rintro _ rfl
    refine Seq.pur rfl rfl (p_not rfl rfl) ?_
    refine Seq.nil ?_
    refine Fin.then ?_
    refine DC.cond rfl (fun c4 => ?_) (fun c4 => ?_)
    · exact absurd c4 (by decide)
      --closed
    · refine DC.skip ?_
      refine Fin.then ?_
      refine DC.seq ?_
      refine DC.seq ?_
      refine DC.flow (cl := [.q, .q, .q, .q, .q, .q, .q, .q, .r, .q, .v, .q, .q, .q, .q, .r, .q, .v, .q, .q, .q]) (A := [0, 1, 3, 7, 15, 31, 63, 127, 255, 127, 639, 2047, 4095, 8191, 16383, 32767, 16383, 81919, 212991, 524287, 1048575]) (order := [0, 1, 2, 3, 4, 5, 6, 7, 8, 9, 10, 11, 12, 13, 14, 15, 16, 17, 18, 19, 20]) [] mixed (by kernel_rfl) (fun w hw => hw.pick .nil) ?_
      refine Flow.pur rfl rfl rfl (p_move rfl rfl) ?_
      refine Flow.pur rfl rfl rfl (p_eql_nil rfl rfl rfl Try.underlying26) ?_
      refine Flow.pur rfl rfl rfl (p_move rfl rfl) ?_
      refine Flow.split 32 rfl (fun k6_2 => ?_) (fun k6_2 => ?_)
      · exact absurd k6_2 (by simp)
        --closed
      · refine Flow.pur rfl rfl rfl (p_move rfl rfl) ?_
        refine Flow.pur rfl rfl rfl (p_neq rfl rfl rfl) ?_
        refine Flow.pur rfl rfl rfl (p_pick_f rfl rfl rfl) ?_
        refine Flow.pur rfl rfl rfl (p_move rfl rfl) ?_
        refine Flow.split 36 rfl (fun k6_6 => ?_) (fun k6_6 => ?_)
        · exact absurd k6_6 (by decide)
          --closed
        · refine Flow.pur rfl rfl rfl (p_move rfl rfl) ?_
          -- calls (*tangram/csr.Adj).N
          refine Flow.rel0 rfl rfl rfl rfl (r_call en25 rfl rfl rfl (fun w' hw => N_calls (own_adjV hw (.cons 0 rfl (.cons 0 rfl (.cons 0 rfl (.cons 0 rfl (.cons 0 rfl .nil))))) hM))) ?_
          rintro _ rfl
          refine Flow.pur rfl rfl rfl (p_field rfl rfl fi25_0 (by first | exact add_at0 _ _ | exact add_at _ _ _ | rfl)) ?_
          refine Flow.valS rfl rfl rfl rfl (v_load rfl rfl ag3 (by first | exact has_blk rfl | exact has_old' (by assumption))) ?_
          refine Flow.pur rfl rfl rfl (p_neq rfl rfl rfl) ?_
          refine Flow.pur rfl rfl rfl (p_pick_f rfl rfl rfl) ?_
          refine Flow.pur rfl rfl rfl (p_move rfl rfl) ?_
          refine Flow.split 43 rfl (fun k6_13 => ?_) (fun k6_13 => ?_)
          · exact absurd k6_13 (by simp)
            --closed
          · refine Flow.pur rfl rfl rfl (p_move rfl rfl) ?_
            -- calls (*tangram/csr.Adj).M
            refine Flow.rel0 rfl rfl rfl rfl (r_call en24 rfl rfl rfl (fun w' hw => M_calls (own_adjV hw (.cons 0 rfl (.cons 0 rfl (.cons 0 rfl (.cons 0 rfl (.cons 0 rfl .nil))))) hM))) ?_
            rintro _ rfl
            refine Flow.pur rfl rfl rfl (p_field rfl rfl fi25_1 (by first | exact add_at0 _ _ | exact add_at _ _ _ | rfl)) ?_
            refine Flow.valS rfl rfl rfl rfl (v_load rfl rfl ag23 (by first | exact has_blk rfl | exact has_old' (by assumption))) ?_
            refine Flow.pur rfl rfl rfl (p_len rfl rfl Try.underlying23) ?_
            refine Flow.pur rfl rfl rfl (p_neq rfl rfl rfl) ?_
            refine Flow.pur rfl rfl rfl (p_pick_f rfl rfl rfl) ?_
            refine Flow.end rfl ?_
            simp only [List.map_cons, List.map_nil, List.nil_append, List.cons_append, List.append_nil]
            refine Fin.then ?_
            refine DC.cond rfl (fun c6 => ?_) (fun c6 => ?_)
            · exact absurd c6 (by simp)
              --closed
            · refine DC.skip ?_
              refine Fin.then ?_
              refine DC.seq ?_
              refine DC.region ?_
              refine Seq.val rfl rfl (v_loads (vs := [_, _]) rfl rfl ag25 sz25 rfl (hass_blk rfl)) ?_
              -- calls tangram/tangramref04.Out
              refine Seq.rel rfl rfl (r_call en26 rfl rfl rfl (fun w' hw => Out_calls (hg.keep0 hw) hV)) ?_
              rintro _ _ ⟨g, rs, rfl, hrl, hrs, rfl⟩
              refine Seq.own (M := [blk g 34 (rowsV rs).toArray, blk M.gp 73 #[sl M.g0 M.fr, sl M.g1 M.st, sl M.g2 M.ou, sl M.g3 M.pl], blk M.g0 3 (ints M.fr).toArray, blk M.g1 3 (ints M.st).toArray, blk M.g2 3 (ints M.ou).toArray, blk M.g3 3 (ints M.pl).toArray, blk g2 25 #[.int .i64 Nn, .slice B es.length cb]] ++ rowsC 3 rs) (fun w hw => hw.perm (perm_mid [blk g 34 (rowsV rs).toArray] (rowsC 3 rs) [blk M.gp 73 #[sl M.g0 M.fr, sl M.g1 M.st, sl M.g2 M.ou, sl M.g3 M.pl], blk M.g0 3 (ints M.fr).toArray, blk M.g1 3 (ints M.st).toArray, blk M.g2 3 (ints M.ou).toArray, blk M.g3 3 (ints M.pl).toArray, blk g2 25 #[.int .i64 Nn, .slice B es.length cb]])) ?_
              simp only [List.cons_append, List.nil_append]
              have hrow : ∀ (v : Nat), v < Nn → ∃ p, rs[v]? = some p ∧ p.2 = outs es v := fun v hv => ⟨rs[v]'(by omega), List.getElem?_eq_getElem (by omega), hrs v _ (List.getElem?_eq_getElem (by omega))⟩
              refine Seq.pur rfl rfl (p_assign rfl rfl) ?_
              refine Seq.nil ?_
              refine Fin.then ?_
              refine DC.seq ?_
              refine DC.seq ?_
              refine DC.region ?_
              refine Seq.pur rfl rfl (p_assign rfl rfl) ?_
              refine Seq.nil ?_
              refine Fin.then ?_
              refine DC.block ?_
              refine DC.loop (ι := Nat) (fun v => v ≤ Nn) (fun v => [(1, .slice A xs.length ca), (2, .pointer (some ⟨g2, 0, none⟩)), (5, .pointer (some ⟨M.gp, 0, none⟩)), (7, .slice (some ⟨g, 0, none⟩) Nn Nn), (8, .int .i64 v)]) (fun _ => [blk g 34 (rowsV rs).toArray, blk M.gp 73 #[sl M.g0 M.fr, sl M.g1 M.st, sl M.g2 M.ou, sl M.g3 M.pl], blk M.g0 3 (ints M.fr).toArray, blk M.g1 3 (ints M.st).toArray, blk M.g2 3 (ints M.ou).toArray, blk M.g3 3 (ints M.pl).toArray, blk g2 25 #[.int .i64 Nn, .slice B es.length cb]] ++ rowsC 3 rs) (fun v => Nn - v) 0 (Nat.zero_le _) ⟨rfl, rfl, rfl, rfl, rfl, trivial⟩ (Pick.all _) ?_
              intro v hv
              simp only [List.cons_append, List.nil_append]
              refine DC.seq ?_
              refine DC.seq ?_
              refine DC.region ?_
              refine Seq.pur rfl rfl (p_move rfl rfl) ?_
              refine Seq.pur rfl rfl (p_field rfl rfl fi25_0 (by first | exact add_at0 _ _ | exact add_at _ _ _ | rfl)) ?_
              refine Seq.val rfl rfl (v_load rfl rfl ag3 (by first | exact has_blk rfl | exact has_old' (by assumption))) ?_
              refine Seq.pur rfl rfl (p_lss rfl rfl rfl) ?_
              refine Seq.nil ?_
              refine Fin.then ?_
              refine DC.cond rfl (fun c10 => ?_) (fun c10 => ?_)
              · have hlt : v < Nn := by simpa using c10
                obtain ⟨⟨pv, pl⟩, hp, hpo⟩ := hrow v hlt
                dsimp only at hpo
                subst hpo
                have hov := outs_few hV v
                refine DC.know (φ := ∃ A c, pv = .slice A (outs es v).length c) (fun w hw => by
                  obtain ⟨A, c, h1, _⟩ := slv_rows (t := 3) (F := [blk g 34 (rowsV rs).toArray, blk M.gp 73 #[sl M.g0 M.fr, sl M.g1 M.st, sl M.g2 M.ou, sl M.g3 M.pl], blk M.g0 3 (ints M.fr).toArray, blk M.g1 3 (ints M.st).toArray, blk M.g2 3 (ints M.ou).toArray, blk M.g3 3 (ints M.pl).toArray, blk g2 25 #[.int .i64 Nn, .slice B es.length cb]]) hw hp (by dsimp only; omega)
                  exact ⟨A, c, h1⟩) ?_
                rintro ⟨Ap, cp, rfl⟩
                refine DC.skip ?_
                refine Fin.then ?_
                refine DC.seq ?_
                refine DC.block ?_
                refine DC.seq ?_
                refine DC.seq ?_
                refine DC.region ?_
                refine Seq.pur rfl rfl (p_move rfl rfl) ?_
                refine Seq.pur rfl rfl (p_move rfl rfl) ?_
                refine Seq.pur rfl rfl (p_move rfl rfl) ?_
                refine Seq.pur rfl rfl (p_move rfl rfl) ?_
                refine Seq.pur rfl rfl (p_index1 rfl rfl rfl Try.underlying41 sz34 (by omega) (by omega) (by first | exact add_at0 _ _ | exact add_at _ _ _ | rfl)) ?_
                refine Seq.val rfl rfl (v_load rfl rfl ag34 (has_row (rowsV_get hp))) ?_
                -- calls tangram/tangramlaw04.vertex
                refine Seq.rel0 rfl rfl (r_call en27 rfl rfl rfl (fun w' hw => vertex_calls2 (own_adjV hw (.cons 1 rfl (.cons 1 rfl (.cons 1 rfl (.cons 1 rfl (.cons 1 rfl .nil))))) hM) (slv_rows (t := 3) (F := [blk g 34 (rowsV rs).toArray, blk M.gp 73 #[sl M.g0 M.fr, sl M.g1 M.st, sl M.g2 M.ou, sl M.g3 M.pl], blk M.g0 3 (ints M.fr).toArray, blk M.g1 3 (ints M.st).toArray, blk M.g2 3 (ints M.ou).toArray, blk M.g3 3 (ints M.pl).toArray, blk g2 25 #[.int .i64 Nn, .slice B es.length cb]]) hw hp (by dsimp only; omega)) v)) ?_
                rintro _ rfl
                refine Seq.pur rfl rfl (p_not rfl rfl) ?_
                refine Seq.nil ?_
                refine Fin.then ?_
                refine DC.cond rfl (fun c12 => ?_) (fun c12 => ?_)
                · exact absurd c12 (by simp)
                  --closed
                · refine DC.skip ?_
                  refine Fin.then ?_
                  refine DC.seq ?_
                  refine DC.region ?_
                  refine Seq.pur rfl rfl (p_assign rfl rfl) ?_
                  refine Seq.nil ?_
                  refine Fin.then ?_
                  refine DC.block ?_
                  refine DC.loop (ι := Nat) (fun i => i ≤ (outs es v).length) (fun i => [(1, .slice A xs.length ca), (2, .pointer (some ⟨g2, 0, none⟩)), (5, .pointer (some ⟨M.gp, 0, none⟩)), (7, .slice (some ⟨g, 0, none⟩) Nn Nn), (8, .int .i64 v), (9, .int .i64 i)]) (fun _ => [blk g 34 (rowsV rs).toArray, blk M.gp 73 #[sl M.g0 M.fr, sl M.g1 M.st, sl M.g2 M.ou, sl M.g3 M.pl], blk M.g0 3 (ints M.fr).toArray, blk M.g1 3 (ints M.st).toArray, blk M.g2 3 (ints M.ou).toArray, blk M.g3 3 (ints M.pl).toArray, blk g2 25 #[.int .i64 Nn, .slice B es.length cb]] ++ rowsC 3 rs) (fun i => (outs es v).length - i) 0 (Nat.zero_le _) ⟨rfl, rfl, rfl, rfl, rfl, rfl, trivial⟩ (Pick.all _) ?_
                  intro i hi
                  simp only [List.cons_append, List.nil_append]
                  refine DC.seq ?_
                  refine DC.seq ?_
                  refine DC.region ?_
                  refine Seq.pur rfl rfl (p_move rfl rfl) ?_
                  refine Seq.pur rfl rfl (p_move rfl rfl) ?_
                  refine Seq.pur rfl rfl (p_move rfl rfl) ?_
                  refine Seq.pur rfl rfl (p_index1 rfl rfl rfl Try.underlying41 sz34 (by omega) (by omega) (by first | exact add_at0 _ _ | exact add_at _ _ _ | rfl)) ?_
                  refine Seq.val rfl rfl (v_load rfl rfl ag34 (has_row (rowsV_get hp))) ?_
                  refine Seq.pur rfl rfl (p_len rfl rfl Try.underlying34) ?_
                  refine Seq.pur rfl rfl (p_lss rfl rfl rfl) ?_
                  refine Seq.nil ?_
                  refine Fin.then ?_
                  refine DC.cond rfl (fun c15 => ?_) (fun c15 => ?_)
                  · have hit : i < (outs es v).length := by simpa using c15
                    obtain ⟨h, hh⟩ : ∃ h, (outs es v)[i]? = some h := ⟨_, List.getElem?_eq_getElem hit⟩
                    obtain ⟨hm0, hm1, hm2⟩ := (mem_outs hV).1 (List.mem_of_getElem? hh)
                    refine DC.know (φ := ∃ ad, Ap = some ad) (fun w hw => by
                      obtain ⟨A, c, h1, hc, _⟩ := slv_rows (t := 3) (F := [blk g 34 (rowsV rs).toArray, blk M.gp 73 #[sl M.g0 M.fr, sl M.g1 M.st, sl M.g2 M.ou, sl M.g3 M.pl], blk M.g0 3 (ints M.fr).toArray, blk M.g1 3 (ints M.st).toArray, blk M.g2 3 (ints M.ou).toArray, blk M.g3 3 (ints M.pl).toArray, blk g2 25 #[.int .i64 Nn, .slice B es.length cb]]) hw hp (by dsimp only; omega)
                      obtain ⟨ad, h2, _⟩ := hc.int hh
                      cases h1
                      exact ⟨ad, h2⟩) ?_
                    rintro ⟨ad, rfl⟩
                    refine DC.skip ?_
                    refine Fin.then ?_
                    refine DC.seq ?_
                    refine DC.block ?_
                    refine DC.seq ?_
                    refine DC.region ?_
                    refine Seq.pur rfl rfl (p_move rfl rfl) ?_
                    refine Seq.pur rfl rfl (p_move rfl rfl) ?_
                    refine Seq.pur rfl rfl (p_index1 rfl rfl rfl Try.underlying41 sz34 (by omega) (by omega) (by first | exact add_at0 _ _ | exact add_at _ _ _ | rfl)) ?_
                    refine Seq.val rfl rfl (v_load rfl rfl ag34 (has_row (rowsV_get hp))) ?_
                    refine Seq.pur rfl rfl (p_move rfl rfl) ?_
                    refine Seq.pur rfl rfl (p_index1 (ad' := ad.add i) rfl rfl rfl Try.underlying34 sz3 (by omega) (by omega) rfl) ?_
                    refine Seq.val rfl rfl (v_load rfl rfl ag3 (has_rowelt (t := 3) (F := [blk g 34 (rowsV rs).toArray, blk M.gp 73 #[sl M.g0 M.fr, sl M.g1 M.st, sl M.g2 M.ou, sl M.g3 M.pl], blk M.g0 3 (ints M.fr).toArray, blk M.g1 3 (ints M.st).toArray, blk M.g2 3 (ints M.ou).toArray, blk M.g3 3 (ints M.pl).toArray, blk g2 25 #[.int .i64 Nn, .slice B es.length cb]]) hp rfl hh (by dsimp only; omega))) ?_
                    refine Seq.pur rfl rfl (p_assign rfl rfl) ?_
                    refine Seq.pur rfl rfl (p_assign rfl rfl) ?_
                    refine Seq.nil ?_
                    refine Fin.then ?_
                    refine DC.cut (ι := Unit) (fun _ => True) (fun _ => [(1, .slice A xs.length ca), (2, .pointer (some ⟨g2, 0, none⟩)), (5, .pointer (some ⟨M.gp, 0, none⟩)), (7, .slice (some ⟨g, 0, none⟩) Nn Nn), (8, .int .i64 v), (9, .int .i64 i), (10, .int .i64 h), (11, .int .i64 ((outs es v)[i + 1]?.getD (-1)))]) (fun _ => [blk g 34 (rowsV rs).toArray, blk M.gp 73 #[sl M.g0 M.fr, sl M.g1 M.st, sl M.g2 M.ou, sl M.g3 M.pl], blk M.g0 3 (ints M.fr).toArray, blk M.g1 3 (ints M.st).toArray, blk M.g2 3 (ints M.ou).toArray, blk M.g3 3 (ints M.pl).toArray, blk g2 25 #[.int .i64 Nn, .slice B es.length cb]] ++ rowsC 3 rs) ?first19 ?rest19
                    case first19 =>
                      refine DC.seq ?_
                      refine DC.region ?_
                      refine Seq.pur rfl rfl (p_move rfl rfl) ?_
                      refine Seq.pur rfl rfl (p_add rfl rfl rfl (by omega)) ?_
                      refine Seq.pur rfl rfl (p_move rfl rfl) ?_
                      refine Seq.pur rfl rfl (p_move rfl rfl) ?_
                      refine Seq.pur rfl rfl (p_index1 rfl rfl rfl Try.underlying41 sz34 (by omega) (by omega) (by first | exact add_at0 _ _ | exact add_at _ _ _ | rfl)) ?_
                      refine Seq.val rfl rfl (v_load rfl rfl ag34 (has_row (rowsV_get hp))) ?_
                      refine Seq.pur rfl rfl (p_len rfl rfl Try.underlying34) ?_
                      refine Seq.pur rfl rfl (p_lss rfl rfl rfl) ?_
                      refine Seq.nil ?_
                      refine Fin.then ?_
                      refine DC.cond rfl (fun c18 => ?_) (fun c18 => ?_)
                      · have hit1 : i + 1 < (outs es v).length := by simp at c18; omega
                        obtain ⟨h', hh'⟩ : ∃ h', (outs es v)[i + 1]? = some h' := ⟨_, List.getElem?_eq_getElem hit1⟩
                        refine DC.region ?_
                        refine Seq.pur rfl rfl (p_move rfl rfl) ?_
                        refine Seq.pur rfl rfl (p_move rfl rfl) ?_
                        refine Seq.pur rfl rfl (p_index1 rfl rfl rfl Try.underlying41 sz34 (by omega) (by omega) (by first | exact add_at0 _ _ | exact add_at _ _ _ | rfl)) ?_
                        refine Seq.val rfl rfl (v_load rfl rfl ag34 (has_row (rowsV_get hp))) ?_
                        refine Seq.pur rfl rfl (p_move rfl rfl) ?_
                        refine Seq.pur rfl rfl (p_add rfl rfl rfl (by omega)) ?_
                        refine Seq.pur rfl rfl (p_index1 (ad' := ad.add (i + 1)) rfl rfl rfl Try.underlying34 sz3 (by omega) (by omega) rfl) ?_
                        refine Seq.val rfl rfl (v_load rfl rfl ag3 (has_rowelt (t := 3) (F := [blk g 34 (rowsV rs).toArray, blk M.gp 73 #[sl M.g0 M.fr, sl M.g1 M.st, sl M.g2 M.ou, sl M.g3 M.pl], blk M.g0 3 (ints M.fr).toArray, blk M.g1 3 (ints M.st).toArray, blk M.g2 3 (ints M.ou).toArray, blk M.g3 3 (ints M.pl).toArray, blk g2 25 #[.int .i64 Nn, .slice B es.length cb]]) hp rfl hh' (by dsimp only; omega))) ?_
                        refine Seq.pur rfl rfl (p_assign rfl rfl) ?_
                        refine Seq.nil ?_
                        refine Fin.meet () trivial ⟨rfl, rfl, rfl, rfl, rfl, rfl, rfl, by rw [hh']; rfl, trivial⟩ (Pick.all _)
                      · refine DC.skip ?_
                        refine Fin.meet () trivial ⟨rfl, rfl, rfl, rfl, rfl, rfl, rfl, by rw [List.getElem?_eq_none (by simp at c18; omega)]; rfl, trivial⟩ (Pick.all _)
                    case rest19 =>
                      intro _ _
                      simp only [List.cons_append, List.nil_append]
                      refine DC.seq ?_
                      refine DC.region ?_
                      refine Seq.pur rfl rfl (p_move rfl rfl) ?_
                      refine Seq.pur rfl rfl (p_move rfl rfl) ?_
                      refine Seq.val rfl rfl (v_loads (vs := [_, _]) rfl rfl ag25 sz25 rfl (hass_blk rfl)) ?_
                      refine Seq.pur rfl rfl (p_move rfl rfl) ?_
                      -- calls tangram/tangramref04.To
                      refine Seq.rel0 rfl rfl (r_call en29 rfl rfl rfl (fun w' hw => rTo_calls (hg.keep0 hw) hm0 hm1)) ?_
                      rintro _ rfl
                      -- calls (*tangram/csr.Adj).Half
                      refine Seq.rel0 rfl rfl (r_call en28 rfl rfl rfl (fun w' hw => half_yes (own_adjV hw (.cons 1 rfl (.cons 1 rfl (.cons 1 rfl (.cons 1 rfl (.cons 1 rfl .nil))))) hM) ⟨hm0, hm1, hm2, rfl⟩)) ?_
                      rintro _ rfl
                      refine Seq.pur rfl rfl (p_move rfl rfl) ?_
                      refine Seq.pur rfl rfl (p_extract rfl rfl rfl) ?_
                      refine Seq.pur rfl rfl (p_extract rfl rfl rfl) ?_
                      refine Seq.pur rfl rfl (p_assign rfl rfl) ?_
                      refine Seq.pur rfl rfl (p_assign rfl rfl) ?_
                      refine Seq.nil ?_
                      refine Fin.then ?_
                      refine DC.seq ?_
                      refine DC.flow (cl := [.q, .q, .r, .q, .q, .q, .q, .q, .r, .v, .q, .r, .q, .q, .q, .q, .q, .r, .q, .q, .q, .q, .q, .q, .q, .q, .q, .q, .q, .q]) (A := [0, 0, 3, 0, 15, 31, 63, 63, 255, 63, 63, 2047, 4095, 8191, 16383, 32767, 32767, 131071, 32767, 524287, 1048575, 2097151, 4194303, 4194303, 16777215, 33554431, 67108863, 134217727, 268435455, 536870911]) (order := [0, 1, 2, 3, 4, 5, 6, 7, 8, 9, 10, 11, 12, 13, 14, 15, 16, 17, 18, 19, 20, 21, 22, 23, 24, 25, 26, 27, 28, 29]) [] mixed (by kernel_rfl) (fun w hw => hw.pick .nil) ?_
                      refine Flow.pur rfl rfl rfl (p_move rfl rfl) ?_
                      refine Flow.pur rfl rfl rfl (p_move rfl rfl) ?_
                      -- calls (*tangram/csr.Adj).From
                      refine Flow.rel0 rfl rfl rfl rfl (r_call en21 rfl rfl rfl (fun w' hw => From_calls (own_adjV hw (.cons 1 rfl (.cons 1 rfl (.cons 1 rfl (.cons 1 rfl (.cons 1 rfl .nil))))) hM) h)) ?_
                      rintro _ rfl
                      rw [hm2]
                      refine Flow.pur rfl rfl rfl (p_move rfl rfl) ?_
                      refine Flow.pur rfl rfl rfl (p_neq rfl rfl rfl) ?_
                      refine Flow.pur rfl rfl rfl (p_move rfl rfl) ?_
                      refine Flow.split 113 rfl (fun k21_5 => ?_) (fun k21_5 => ?_)
                      · exact absurd k21_5 (by simp)
                        --closed
                      · refine Flow.pur rfl rfl rfl (p_move rfl rfl) ?_
                        refine Flow.pur rfl rfl rfl (p_move rfl rfl) ?_
                        -- calls (*tangram/csr.Adj).To
                        refine Flow.rel0 rfl rfl rfl rfl (r_call en22 rfl rfl rfl (fun w' hw => To_calls (own_adjV hw (.cons 1 rfl (.cons 1 rfl (.cons 1 rfl (.cons 1 rfl (.cons 1 rfl .nil))))) hM) h)) ?_
                        rintro _ rfl
                        refine Flow.valS rfl rfl rfl rfl (v_loads (vs := [_, _]) rfl rfl ag25 sz25 rfl (hass_blk rfl)) ?_
                        refine Flow.pur rfl rfl rfl (p_move rfl rfl) ?_
                        -- calls tangram/tangramref04.To
                        refine Flow.rel0 rfl rfl rfl rfl (r_call en29 rfl rfl rfl (fun w' hw => rTo_calls (hg.keep0 hw) hm0 hm1)) ?_
                        rintro _ rfl
                        refine Flow.pur rfl rfl rfl (p_neq rfl rfl rfl) ?_
                        refine Flow.pur rfl rfl rfl (p_pick_f rfl rfl rfl) ?_
                        refine Flow.pur rfl rfl rfl (p_move rfl rfl) ?_
                        refine Flow.split 122 rfl (fun k21_14 => ?_) (fun k21_14 => ?_)
                        · exact absurd k21_14 (by simp)
                          --closed
                        · refine Flow.pur rfl rfl rfl (p_move rfl rfl) ?_
                          refine Flow.pur rfl rfl rfl (p_move rfl rfl) ?_
                          -- calls (*tangram/csr.Adj).After
                          refine Flow.rel0 rfl rfl rfl rfl (r_call en23 rfl rfl rfl (fun w' hw => after_in (own_adjV hw (.cons 1 rfl (.cons 1 rfl (.cons 1 rfl (.cons 1 rfl (.cons 1 rfl .nil))))) hM) hh)) ?_
                          rintro _ rfl
                          refine Flow.pur rfl rfl rfl (p_move rfl rfl) ?_
                          refine Flow.pur rfl rfl rfl (p_neq rfl rfl rfl) ?_
                          refine Flow.pur rfl rfl rfl (p_pick_f rfl rfl rfl) ?_
                          refine Flow.pur rfl rfl rfl (p_move rfl rfl) ?_
                          refine Flow.split 129 rfl (fun k21_21 => ?_) (fun k21_21 => ?_)
                          · exact absurd k21_21 (by simp)
                            --closed
                          · refine Flow.pur rfl rfl rfl (p_move rfl rfl) ?_
                            refine Flow.pur rfl rfl rfl (p_move rfl rfl) ?_
                            refine Flow.pur rfl rfl rfl (p_neq rfl rfl rfl) ?_
                            refine Flow.pur rfl rfl rfl (p_pick_f rfl rfl rfl) ?_
                            refine Flow.pur rfl rfl rfl (p_move rfl rfl) ?_
                            refine Flow.split 134 rfl (fun k21_26 => ?_) (fun k21_26 => ?_)
                            · exact absurd k21_26 (by simp)
                              --closed
                            · refine Flow.pur rfl rfl rfl (p_move rfl rfl) ?_
                              refine Flow.pur rfl rfl rfl (p_not rfl rfl) ?_
                              refine Flow.pur rfl rfl rfl (p_pick_f rfl rfl rfl) ?_
                              refine Flow.end rfl ?_
                              simp only [List.map_cons, List.map_nil, List.nil_append, List.cons_append, List.append_nil]
                              refine Fin.then ?_
                              refine DC.cond rfl (fun c21 => ?_) (fun c21 => ?_)
                              · exact absurd c21 (by decide)
                                --closed
                              · refine DC.skip ?_
                                refine Fin.inBlock ?_
                                refine Fin.then ?_
                                refine DC.region ?_
                                refine Seq.pur rfl rfl (p_move rfl rfl) ?_
                                refine Seq.pur rfl rfl (p_add rfl rfl rfl (by omega)) ?_
                                refine Seq.pur rfl rfl (p_assign rfl rfl) ?_
                                refine Seq.nil ?_
                                refine Fin.again (i + 1) (by omega) (by omega) ⟨rfl, rfl, rfl, rfl, rfl, rfl, trivial⟩ (Pick.all _)
                  · refine DC.exit ?_
                    refine Fin.exit_then <| Fin.exit_then <| Fin.exit_here <| ?_
                    refine Fin.inBlock ?_
                    refine Fin.then ?_
                    refine DC.region ?_
                    refine Seq.pur rfl rfl (p_move rfl rfl) ?_
                    refine Seq.pur rfl rfl (p_add rfl rfl rfl (by omega)) ?_
                    refine Seq.pur rfl rfl (p_assign rfl rfl) ?_
                    refine Seq.nil ?_
                    refine Fin.again (v + 1) (by omega) (by omega) ⟨rfl, rfl, rfl, rfl, rfl, trivial⟩ (Pick.all _)
              · refine DC.exit ?_
                refine Fin.exit_then <| Fin.exit_then <| Fin.exit_here <| ?_
                refine Fin.then ?_
                refine DC.seq ?_
                refine DC.region ?_
                refine Seq.pur rfl rfl (p_move rfl rfl) ?_
                refine Seq.val rfl rfl (v_loads (vs := [_, _]) rfl rfl ag25 sz25 rfl (hass_blk rfl)) ?_
                refine Seq.pur rfl rfl (p_move rfl rfl) ?_
                -- calls tangram/tangramlaw04.beyond
                refine Seq.rel0 rfl rfl (r_call en30 rfl rfl rfl (fun w' hw => beyond_calls (own_adjV hw (.cons 1 rfl (.cons 1 rfl (.cons 1 rfl (.cons 1 rfl (.cons 1 rfl .nil))))) hM) (hg.keep0 hw) (hn.keep0 hw) hw63)) ?_
                rintro _ rfl
                refine Seq.pur rfl rfl (p_assign rfl rfl) ?_
                refine Seq.nil ?_
                refine Fin.then ?_
                refine DC.ret ?_
                refine Fin.end1 (.inl rfl) rfl rfl ?_
                rfl
theorem CsrAnswers_calls {N : Int} {es : List Pr} {va vn : Value} {xs : List Int} {w : World} (hg : PrV w va es) (hn : SlV w vn xs) (hw63 : ∀ x ∈ xs, (Lit.int .i64 x).wf = true) :
    Calls Try.prog 6 #[.agg #[.int .i64 N, va], vn] w (Ret w [] fun v L => v = .bool true) := by
  by_cases hV : Vld N es
  · exact CsrAnswers_yes hg hn hw63 hV
  · exact CsrAnswers_no hg hn hV
end Go.Fl
