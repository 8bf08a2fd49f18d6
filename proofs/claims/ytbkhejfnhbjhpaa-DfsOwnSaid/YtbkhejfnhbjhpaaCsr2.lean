/- tangramlaw04: awake, adj. -/
import Derived.Test.YtbkhejfnhbjhpaaNew
import Derived.Test.YtbkhejfnhbjhpaaFo1
import Derived.Test.YtbkhejfnhbjhpaaIter
set_option linter.unusedVariables false
set_option linter.unusedSimpArgs false
set_option maxRecDepth 100000
namespace Go.Fl
open Go Go.Proofs

theorem own_adjV {w0 w : World} {K : List Nat} {L : List Chunk} {N : Int} {es : List Pr} {M : AdjM} (hw : Own w0 K w L) (hp : Pick L (adjL M)) (hP : AdjP N es M) : AV w N es M (some ⟨M.gp, 0, none⟩) := by
  have h := (hw.pick hp).holds
  unfold adjL at h
  exact .at ⟨h (blk _ _ _) (by simp), h (blk _ _ _) (by simp), h (blk _ _ _) (by simp), h (blk _ _ _) (by simp), h (blk _ _ _) (by simp)⟩ hP
theorem Retm {w w' : World} {K : List Nat} {C D : Value → List Chunk → Prop} {e : Ending} (h : Ret w K C e w') (hc : ∀ v L, C v L → D v L) : Ret w K D e w' := by
  obtain ⟨v, L, h1, h2, h3⟩ := h
  exact ⟨v, L, h1, hc _ _ h2, h3⟩
theorem New_no {N : Int} {es : List Pr} {va : Value} {w : World} (hg : PrV w va es) (hV : ¬ Vld N es) :
    Calls Try.prog 32 #[.agg #[.int .i64 N, va]] w (Ret w [] fun v L => L = [] ∧ v = .tuple #[.pointer none, .int .i64 1]) := by
  obtain ⟨A, cap, rfl, hr, hlc, hcm, hl⟩ := hg
  exact Calls.mono (New_calls N es A cap w hr (by omega)) fun e w' h => Retm h fun v L hC => hC.elim (fun h => h.2) (fun h => absurd h.1 hV)
theorem New_yes {N : Int} {es : List Pr} {va : Value} {w : World} (hg : PrV w va es) (hV : Vld N es) :
    Calls Try.prog 32 #[.agg #[.int .i64 N, va]] w (Ret w [] fun v L => ∃ M, AdjP N es M ∧ v = .tuple #[.pointer (some ⟨M.gp, 0, none⟩), .int .i64 0] ∧ L = adjL M) := by
  obtain ⟨A, cap, rfl, hr, hlc, hcm, hl⟩ := hg
  exact Calls.mono (New_calls N es A cap w hr (by omega)) fun e w' h => Retm h fun v L hC => hC.elim (fun h => absurd hV h.1) (fun h => h.2)
theorem adj_no {N : Int} {es : List Pr} {va : Value} {w : World} (hg : PrV w va es) (hV : ¬ Vld N es) :
    Calls Try.prog 15 #[.agg #[.int .i64 N, va]] w (Ret w [] fun v L => L = [] ∧ v = .tuple #[.pointer none, .int .i64 1]) := by
  refine calls_of (args := [_]) (L := []) Try.func15 rfl Try.ntmps15 rfl (Own.start _ _) ?_
  refine DC.seq ?_
  refine DC.region ?_
  refine Seq.new rfl rfl (n_box rfl rfl rfl) fun g1 => ?_
  refine Seq.pur rfl rfl (p_assign rfl rfl) ?_
  refine Seq.pur rfl rfl (p_assign rfl rfl) ?_
  refine Seq.nil ?_
  refine Fin.then ?_
  refine DC.seq ?_
  refine DC.region ?_
  refine Seq.val rfl rfl (v_loads (vs := [_, _]) rfl rfl ag25 sz25 rfl (hass_blk rfl)) ?_
  -- calls tangram/tangramref04.Copy
  refine Seq.rel rfl rfl (r_call en31 rfl rfl rfl (fun w' hw => GCopy_calls (hg.keep0 hw))) ?_
  rintro _ _ ⟨u, rfl, rfl⟩
  -- calls tangram/csr.New
  refine Seq.rel0 rfl rfl (r_call en32 rfl rfl rfl (fun w' hw => New_no (prv_own hw 0 rfl hg.few) hV)) ?_
  rintro _ rfl
  refine Seq.pur rfl rfl (p_move rfl rfl) ?_
  refine Seq.pur rfl rfl (p_extract rfl rfl rfl) ?_
  refine Seq.pur rfl rfl (p_extract rfl rfl rfl) ?_
  refine Seq.pur rfl rfl (p_assign rfl rfl) ?_
  refine Seq.pur rfl rfl (p_assign rfl rfl) ?_
  refine Seq.nil ?_
  refine Fin.then ?_
  refine DC.seq ?_
  refine DC.region ?_
  refine Seq.pur rfl rfl (p_move rfl rfl) ?_
  refine Seq.pur rfl rfl (p_move rfl rfl) ?_
  refine Seq.pur rfl rfl (p_assign rfl rfl) ?_
  refine Seq.pur rfl rfl (p_assign rfl rfl) ?_
  refine Seq.nil ?_
  refine Fin.then ?_
  refine DC.ret ?_
  refine Fin.weak (E' := [(2, _), (3, _)]) ⟨rfl, rfl, trivial⟩ .nil ?_
  refine Fin.end2 (.inl rfl) rfl rfl rfl ?_
  exact ⟨rfl, rfl⟩
theorem adj_yes {N : Int} {es : List Pr} {va : Value} {w : World} (hg : PrV w va es) (hV : Vld N es) :
    Calls Try.prog 15 #[.agg #[.int .i64 N, va]] w (Ret w [] fun v L => ∃ M, AdjP N es M ∧ v = .tuple #[.pointer (some ⟨M.gp, 0, none⟩), .int .i64 0] ∧ L = adjL M) := by
  refine calls_of (args := [_]) (L := []) Try.func15 rfl Try.ntmps15 rfl (Own.start _ _) ?_
  refine DC.seq ?_
  refine DC.region ?_
  refine Seq.new rfl rfl (n_box rfl rfl rfl) fun g1 => ?_
  refine Seq.pur rfl rfl (p_assign rfl rfl) ?_
  refine Seq.pur rfl rfl (p_assign rfl rfl) ?_
  refine Seq.nil ?_
  refine Fin.then ?_
  refine DC.seq ?_
  refine DC.region ?_
  refine Seq.val rfl rfl (v_loads (vs := [_, _]) rfl rfl ag25 sz25 rfl (hass_blk rfl)) ?_
  -- calls tangram/tangramref04.Copy
  refine Seq.rel rfl rfl (r_call en31 rfl rfl rfl (fun w' hw => GCopy_calls (hg.keep0 hw))) ?_
  rintro _ _ ⟨u, rfl, rfl⟩
  -- calls tangram/csr.New
  refine Seq.rel rfl rfl (r_call en32 rfl rfl rfl (fun w' hw => New_yes (prv_own hw 0 rfl hg.few) hV)) ?_
  rintro _ _ ⟨M, hM, rfl, rfl⟩
  refine Seq.pur rfl rfl (p_move rfl rfl) ?_
  refine Seq.pur rfl rfl (p_extract rfl rfl rfl) ?_
  refine Seq.pur rfl rfl (p_extract rfl rfl rfl) ?_
  refine Seq.pur rfl rfl (p_assign rfl rfl) ?_
  refine Seq.pur rfl rfl (p_assign rfl rfl) ?_
  refine Seq.nil ?_
  refine Fin.then ?_
  refine DC.seq ?_
  refine DC.region ?_
  refine Seq.pur rfl rfl (p_move rfl rfl) ?_
  refine Seq.pur rfl rfl (p_move rfl rfl) ?_
  refine Seq.pur rfl rfl (p_assign rfl rfl) ?_
  refine Seq.pur rfl rfl (p_assign rfl rfl) ?_
  refine Seq.nil ?_
  refine Fin.then ?_
  refine DC.ret ?_
  refine Fin.weak (E' := [(2, _), (3, _)]) (L' := adjL M) ⟨rfl, rfl, trivial⟩ (.cons 0 rfl (.cons 0 rfl (.cons 0 rfl (.cons 0 rfl (.cons 0 rfl .nil))))) ?_
  refine Fin.end2 (.inl rfl) rfl rfl rfl ?_
  exact ⟨M, hM, rfl, rfl⟩
def exC : List Pr := [(0, 1), (0, 2), (1, 2)]
theorem exc_vld : Vld 4 exC := by
  refine ⟨by omega, by omega, by decide, fun i e h => ?_, fun i a b h1 h2 => ?_⟩
  · match i, h with
    | 0, h => cases h; exact ⟨by omega, by omega, by omega⟩
    | 1, h => cases h; exact ⟨by omega, by omega, by omega⟩
    | 2, h => cases h; exact ⟨by omega, by omega, by omega⟩
    | _ + 3, h => simp [exC] at h
  · match i, h1, h2 with
    | 0, h1, h2 => cases h1; cases h2; exact .inr ⟨rfl, by omega⟩
    | 1, h1, h2 => cases h1; cases h2; exact .inl (by omega)
    | 2, h1, h2 => simp [exC] at h2
    | _ + 3, h1, h2 => simp [exC] at h1
theorem cawake_calls (w : World) : Calls Try.prog 14 #[] w (Ret w [] fun v L => L = [] ∧ v = .bool true) := by
  refine calls_of (args := []) (L := []) Try.func14 rfl Try.ntmps14 rfl (Own.start _ _) ?_
  refine DC.seq ?_
  refine DC.region ?_
  refine Seq.pur rfl rfl (p_assign rfl rfl) ?_
  refine Seq.nil ?_
  refine Fin.then ?_
  refine DC.seq ?_
  refine DC.region ?_
  refine Seq.pur rfl rfl (p_struct (cs := #[_, _]) rfl rfl bs39 rfl rfl) ?_
  refine Seq.pur rfl rfl (p_struct (cs := #[_, _]) rfl rfl bs39 rfl rfl) ?_
  refine Seq.pur rfl rfl (p_struct (cs := #[_, _]) rfl rfl bs39 rfl rfl) ?_
  refine Seq.new rfl rfl (n_slit (cs := #[_, _, _, _, _, _]) rfl rfl Try.underlying23 sz39 ze39 rfl (by decide) (by decide) rfl rfl) fun g9 => ?_
  refine Seq.pur rfl rfl (p_struct (cs := #[_, _]) rfl rfl bs25 rfl rfl) ?_
  -- calls tangram/csr.New
  refine Seq.rel rfl rfl (r_call en32 rfl rfl rfl (fun w' hw => New_yes (N := 4) (es := exC) (prv_blk (g := g9) (t := 39) hw rfl rfl (by decide)) exc_vld)) ?_
  rintro _ _ ⟨M, hM, rfl, rfl⟩
  simp only [adjL, List.cons_append, List.nil_append]
  refine Seq.pur rfl rfl (p_move rfl rfl) ?_
  refine Seq.pur rfl rfl (p_extract rfl rfl rfl) ?_
  refine Seq.pur rfl rfl (p_extract rfl rfl rfl) ?_
  refine Seq.pur rfl rfl (p_assign rfl rfl) ?_
  refine Seq.pur rfl rfl (p_assign rfl rfl) ?_
  refine Seq.nil ?_
  refine Fin.then ?_
  refine DC.seq ?_
  refine DC.seq ?_
  refine DC.region ?_
  refine Seq.pur rfl rfl (p_move rfl rfl) ?_
  refine Seq.pur rfl rfl (p_eql_nil rfl rfl rfl Try.underlying26) ?_
  refine Seq.pur rfl rfl (p_move rfl rfl) ?_
  refine Seq.split 16 rfl (fun k2_2 => ?_) (fun k2_2 => ?_)
  · exact absurd k2_2 (by simp)
    --closed
  · refine Seq.pur rfl rfl (p_move rfl rfl) ?_
    refine Seq.pur rfl rfl (p_neq rfl rfl rfl) ?_
    refine Seq.pur rfl rfl (p_pick_f rfl rfl rfl) ?_
    refine Seq.pur rfl rfl (p_move rfl rfl) ?_
    refine Seq.split 20 rfl (fun k2_6 => ?_) (fun k2_6 => ?_)
    · exact absurd k2_6 (by decide)
      --closed
    · refine Seq.pur rfl rfl (p_move rfl rfl) ?_
      -- calls (*tangram/csr.Adj).Degree
      refine Seq.rel0 rfl rfl (r_call en18 rfl rfl rfl (fun w' hw => Degree_calls (own_adjV hw (.cons 0 rfl (.cons 0 rfl (.cons 0 rfl (.cons 0 rfl (.cons 0 rfl .nil))))) hM) 2)) ?_
      rintro _ rfl
      refine Seq.pur rfl rfl (p_neq rfl rfl rfl) ?_
      refine Seq.pur rfl rfl (p_pick_f rfl rfl rfl) ?_
      refine Seq.pur rfl rfl (p_move rfl rfl) ?_
      refine Seq.split 25 rfl (fun k2_11 => ?_) (fun k2_11 => ?_)
      · exact absurd k2_11 (by decide)
        --closed
      · refine Seq.pur rfl rfl (p_move rfl rfl) ?_
        -- calls (*tangram/csr.Adj).To
        refine Seq.rel0 rfl rfl (r_call en22 rfl rfl rfl (fun w' hw => To_calls (own_adjV hw (.cons 0 rfl (.cons 0 rfl (.cons 0 rfl (.cons 0 rfl (.cons 0 rfl .nil))))) hM) 5)) ?_
        rintro _ rfl
        refine Seq.pur rfl rfl (p_neq rfl rfl rfl) ?_
        refine Seq.pur rfl rfl (p_pick_f rfl rfl rfl) ?_
        refine Seq.nil ?_
        refine Fin.then ?_
        refine DC.cond rfl (fun c2 => ?_) (fun c2 => ?_)
        · exact absurd c2 (by decide)
          --closed
        · refine DC.skip ?_
          refine Fin.then ?_
          refine DC.seq ?_
          refine DC.region ?_
          refine Seq.pur rfl rfl (p_move rfl rfl) ?_
          -- calls tangram/tangramlaw04.out
          refine Seq.rel rfl rfl (r_call en19 rfl rfl rfl (fun w' hw => out_calls (own_adjV hw (.cons 0 rfl (.cons 0 rfl (.cons 0 rfl (.cons 0 rfl (.cons 0 rfl .nil))))) hM) 2 9)) ?_
          rintro _ _ ⟨u, rfl, rfl⟩
          simp only [List.cons_append, List.nil_append]
          refine Seq.pur rfl rfl (p_move rfl rfl) ?_
          refine Seq.pur rfl rfl (p_extract rfl rfl rfl) ?_
          refine Seq.pur rfl rfl (p_extract rfl rfl rfl) ?_
          refine Seq.pur rfl rfl (p_assign rfl rfl) ?_
          refine Seq.pur rfl rfl (p_assign rfl rfl) ?_
          refine Seq.nil ?_
          refine Fin.then ?_
          refine DC.seq ?_
          refine DC.open (fun _ h => absurd (congrArg List.length h) (by decide)) ?_
          intro gu len cap sp e h1 h2 h3 h4
          subst e
          obtain rfl : len = 2 := by have h5 : (ints (List.take ((9 : Int).toNat + 1) (outs exC 2))).length = 2 := by decide
                                     omega
          have e3 : ints (List.take ((9 : Int).toNat + 1) (outs exC 2)) = [.int .i64 3, .int .i64 5] := by rfl
          rw [e3]
          refine DC.region ?_
          refine Seq.pur rfl rfl (p_move rfl rfl) ?_
          refine Seq.pur rfl rfl (p_move rfl rfl) ?_
          refine Seq.split 36 rfl (fun k5_1 => ?_) (fun k5_1 => ?_)
          · refine Seq.pur rfl rfl (p_move rfl rfl) ?_
            refine Seq.pur rfl rfl (p_len rfl rfl Try.underlying34) ?_
            refine Seq.pur rfl rfl (p_eql rfl rfl rfl) ?_
            refine Seq.pur rfl rfl (p_pick_t rfl rfl rfl) ?_
            refine Seq.pur rfl rfl (p_move rfl rfl) ?_
            refine Seq.split 41 rfl (fun k5_6 => ?_) (fun k5_6 => ?_)
            · refine Seq.pur rfl rfl (p_move rfl rfl) ?_
              refine Seq.pur rfl rfl (p_index1 rfl rfl rfl Try.underlying34 sz3 (by omega) (by omega) (by first | exact add_at0 _ _ | exact add_at _ _ _ | rfl)) ?_
              refine Seq.val rfl rfl (v_load rfl rfl ag3 (by first | exact has_blk rfl | exact has_old' (by assumption))) ?_
              refine Seq.pur rfl rfl (p_eql rfl rfl rfl) ?_
              refine Seq.pur rfl rfl (p_pick_t rfl rfl rfl) ?_
              refine Seq.pur rfl rfl (p_move rfl rfl) ?_
              refine Seq.split 47 rfl (fun k5_12 => ?_) (fun k5_12 => ?_)
              · refine Seq.pur rfl rfl (p_move rfl rfl) ?_
                refine Seq.pur rfl rfl (p_index1 rfl rfl rfl Try.underlying34 sz3 (by omega) (by omega) (by first | exact add_at0 _ _ | exact add_at _ _ _ | rfl)) ?_
                refine Seq.val rfl rfl (v_load rfl rfl ag3 (by first | exact has_blk rfl | exact has_old' (by assumption))) ?_
                refine Seq.pur rfl rfl (p_eql rfl rfl rfl) ?_
                refine Seq.pur rfl rfl (p_pick_t rfl rfl rfl) ?_
                refine Seq.pur rfl rfl (p_assign rfl rfl) ?_
                refine Seq.nil ?_
                refine Fin.then ?_
                refine DC.ret ?_
                refine Fin.weak (E' := [(0, _)]) ⟨rfl, trivial⟩ .nil ?_
                refine Fin.end1 (.inl rfl) rfl rfl ?_
                exact ⟨rfl, rfl⟩
              · exact absurd k5_12 (by decide)
                --closed
            · exact absurd k5_6 (by decide)
              --closed
          · exact absurd k5_1 (by decide)
            --closed
end Go.Fl
