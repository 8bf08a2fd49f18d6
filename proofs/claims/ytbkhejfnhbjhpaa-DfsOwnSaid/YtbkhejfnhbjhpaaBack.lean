/- tangramlaw07: awake, walk; the law DfsBack. -/
import Derived.Test.YtbkhejfnhbjhpaaWalk2
set_option linter.unusedVariables false
set_option linter.unusedSimpArgs false
set_option maxRecDepth 100000
namespace Go.Fl
open Go Go.Proofs

theorem awake_calls (w : World) : Calls Try.prog 34 #[] w (Ret w [] fun v L => L = [] ∧ v = .bool true) := by
  refine calls_of (args := []) (L := []) Try.func34 rfl Try.ntmps34 rfl (Own.start _ _) ?_
  refine DC.seq ?_
  refine DC.region ?_
  refine Seq.pur rfl rfl (p_assign rfl rfl) ?_
  refine Seq.nil ?_
  refine Fin.then ?_
  refine DC.seq ?_
  refine DC.region ?_
  refine Seq.pur rfl rfl (p_struct (cs := #[_, _]) rfl rfl bs39 rfl rfl) ?_
  refine Seq.pur rfl rfl (p_struct (cs := #[_, _]) rfl rfl bs39 rfl rfl) ?_
  refine Seq.pur rfl rfl (p_struct (cs := #[_, _]) rfl rfl bs39 rfl rfl) ?_
  refine Seq.pur rfl rfl (p_struct (cs := #[_, _]) rfl rfl bs39 rfl rfl) ?_
  refine Seq.new rfl rfl (n_slit (cs := #[_, _, _, _, _, _, _, _]) rfl rfl Try.underlying23 sz39 ze39 rfl (by decide) (by decide) rfl rfl) fun g8 => ?_
  refine Seq.pur rfl rfl (p_struct (cs := #[_, _]) rfl rfl bs25 rfl rfl) ?_
  -- calls tangram/dfs.Walk
  refine Seq.rel rfl rfl (r_call en43 rfl rfl rfl (fun w' hw => Walk_calls 5 exE _ w' (prv_blk (g := g8) (t := 39) hw rfl rfl (by decide)))) ?_
  rintro v10 L10 (⟨h1, _⟩ | ⟨_, s, v0, v1, v2, v3, hR, hI, rfl, rfl⟩)
  · exact absurd ex_vld h1
  obtain rfl := ex_walk hR
  simp only [forL, List.cons_append, List.nil_append]
  refine Seq.shape 0 rfl ?_
  rintro ⟨A0, l0, c0, rfl⟩
  refine Seq.shape 1 rfl ?_
  rintro ⟨A1, l1, c1, rfl⟩
  refine Seq.shape 2 rfl ?_
  rintro ⟨A2, l2, c2, rfl⟩
  refine Seq.shape 3 rfl ?_
  rintro ⟨A3, l3, c3, rfl⟩
  refine Seq.pur rfl rfl (p_move rfl rfl) ?_
  refine Seq.pur rfl rfl (p_extract rfl rfl rfl) ?_
  refine Seq.pur rfl rfl (p_extract rfl rfl rfl) ?_
  refine Seq.new rfl rfl (n_alloc rfl ze55 rfl) fun g1 => ?_
  refine Seq.sto rfl rfl (s_stores (cs' := #[_, _, _, _]) rfl rfl rfl sz55 rfl (Nat.le_of_ble_eq_true rfl) rfl) ?_
  refine Seq.pur rfl rfl (p_assign rfl rfl) ?_
  refine Seq.nil ?_
  refine Fin.then ?_
  refine DC.seq ?_
  refine DC.region ?_
  refine Seq.pur rfl rfl (p_move rfl rfl) ?_
  refine Seq.pur rfl rfl (p_eql rfl rfl rfl) ?_
  refine Seq.pur rfl rfl (p_move rfl rfl) ?_
  refine Seq.split 15 rfl (fun k2_2 => ?_) (fun k2_2 => ?_)
  · refine Seq.pur rfl rfl (p_field rfl rfl fi55_0 (by first | exact add_at0 _ _ | exact add_at _ _ _ | rfl)) ?_
    refine Seq.val rfl rfl (v_load rfl rfl ag34 (by first | exact has_blk rfl | exact has_old' (by assumption))) ?_
    refine Seq.new rfl rfl (n_slit (cs := #[_, _, _, _, _]) rfl rfl Try.underlying34 sz3 ze3 rfl (by decide) (by decide) rfl rfl) fun g18 => ?_
    -- calls tangram/tangramref01.SameInts
    refine Seq.rel0 rfl rfl (r_call en50 rfl rfl rfl (fun w' hw => SameInts_calls (slv_own hw 2 rfl (by decide)) (slv_blk (g := g18) (t := 3) (xs := [-1, 0, 4, 6, -1]) hw rfl rfl (by decide)))) ?_
    rintro _ rfl
    refine Seq.pur rfl rfl (p_pick_t rfl rfl rfl) ?_
    refine Seq.pur rfl rfl (p_move rfl rfl) ?_
    refine Seq.split 21 rfl (fun k2_8 => ?_) (fun k2_8 => ?_)
    · refine Seq.pur rfl rfl (p_field rfl rfl fi55_3 (by first | exact add_at0 _ _ | exact add_at _ _ _ | rfl)) ?_
      refine Seq.val rfl rfl (v_load rfl rfl ag34 (by first | exact has_blk rfl | exact has_old' (by assumption))) ?_
      refine Seq.new rfl rfl (n_slit (cs := #[_, _, _, _]) rfl rfl Try.underlying34 sz3 ze3 rfl (by decide) (by decide) rfl rfl) fun g24 => ?_
      -- calls tangram/tangramref01.SameInts
      refine Seq.rel0 rfl rfl (r_call en50 rfl rfl rfl (fun w' hw => SameInts_calls (slv_own hw 6 rfl (by decide)) (slv_blk (g := g24) (t := 3) (xs := [0, 3, 4, 6]) hw rfl rfl (by decide)))) ?_
      rintro _ rfl
      refine Seq.pur rfl rfl (p_pick_t rfl rfl rfl) ?_
      refine Seq.pur rfl rfl (p_move rfl rfl) ?_
      refine Seq.split 27 rfl (fun k2_14 => ?_) (fun k2_14 => ?_)
      · refine Seq.val rfl rfl (v_loads (vs := [_, _, _, _]) rfl rfl ag55 sz55 rfl (hass_blk rfl)) ?_
        -- calls tangram/dfs.Back
        refine Seq.rel0 rfl rfl (r_call en38 rfl rfl rfl (fun w' hw => Back_calls 1 (slv_own hw 3 rfl (by decide)) (slv_own hw 6 rfl (by decide)))) ?_
        rintro _ rfl
        refine Seq.pur rfl rfl (p_pick_t rfl rfl rfl) ?_
        refine Seq.pur rfl rfl (p_move rfl rfl) ?_
        refine Seq.split 31 rfl (fun k2_18 => ?_) (fun k2_18 => ?_)
        · refine Seq.val rfl rfl (v_loads (vs := [_, _, _, _]) rfl rfl ag55 sz55 rfl (hass_blk rfl)) ?_
          -- calls tangram/dfs.Back
          refine Seq.rel0 rfl rfl (r_call en38 rfl rfl rfl (fun w' hw => Back_calls 2 (slv_own hw 3 rfl (by decide)) (slv_own hw 6 rfl (by decide)))) ?_
          rintro _ rfl
          refine Seq.pur rfl rfl (p_not rfl rfl) ?_
          refine Seq.pur rfl rfl (p_pick_t rfl rfl rfl) ?_
          refine Seq.pur rfl rfl (p_assign rfl rfl) ?_
          refine Seq.nil ?_
          refine Fin.then ?_
          refine DC.ret ?_
          refine Fin.weak (E' := [(0, _)]) ⟨rfl, trivial⟩ .nil ?_
          refine Fin.end1 (.inl rfl) rfl rfl ?_
          exact ⟨rfl, rfl⟩
        · exact absurd k2_18 (by decide)
          --closed
      · exact absurd k2_14 (by decide)
        --closed
    · exact absurd k2_8 (by decide)
      --closed
  · exact absurd k2_2 (by decide)
    --closed

/-- What walk answers. -/
def WalkD (N : Int) (es : List Pr) (v : Value) (L : List Chunk) : Prop :=
  (¬ Vld N es ∧ L = [] ∧ v = .tuple #[.agg #[.slice none 0 0, .slice none 0 0, .slice none 0 0, .slice none 0 0], .int .i64 1]) ∨
  (Vld N es ∧ ∃ s v0 v1 v2 v3, Rts es N 0 (start N es.length) s ∧ Inv N es.length (es.length + N.toNat) s ∧ v = .tuple #[.agg #[v0, v1, v2, v3], .int .i64 0] ∧ L = forL v0 v1 v2 v3 s.pa s.he s.od s.oi)
theorem Ret.mono {w w' : World} {K : List Nat} {C D : Value → List Chunk → Prop} {e : Ending} (h : Ret w K C e w') (hc : ∀ v L, C v L → D v L) : Ret w K D e w' := by
  obtain ⟨v, L, he, hC, hO⟩ := h
  exact ⟨v, L, he, hc v L hC, hO⟩
theorem Walk_no {N : Int} {es : List Pr} {va : Value} {w : World} (hg : PrV w va es) (hV : ¬ Vld N es) :
    Calls Try.prog 43 #[.agg #[.int .i64 N, va]] w (Ret w [] fun v L => L = [] ∧ v = .tuple #[.agg #[.slice none 0 0, .slice none 0 0, .slice none 0 0, .slice none 0 0], .int .i64 1]) :=
  Calls.mono (Walk_calls N es va w hg) fun e w' h => h.mono fun v L hC => hC.elim (fun h => h.2) (fun h => absurd h.1 hV)
theorem Walk_yes {N : Int} {es : List Pr} {va : Value} {w : World} (hg : PrV w va es) (hV : Vld N es) :
    Calls Try.prog 43 #[.agg #[.int .i64 N, va]] w (Ret w [] fun v L => ∃ s v0 v1 v2 v3, Rts es N 0 (start N es.length) s ∧ Inv N es.length (es.length + N.toNat) s ∧ v = .tuple #[.agg #[v0, v1, v2, v3], .int .i64 0] ∧ L = forL v0 v1 v2 v3 s.pa s.he s.od s.oi) :=
  Calls.mono (Walk_calls N es va w hg) fun e w' h => h.mono fun v L hC => hC.elim (fun h => absurd hV h.1) (fun h => h.2)
theorem lwalk_no {N : Int} {es : List Pr} {va : Value} {w : World} (hg : PrV w va es) (hV : ¬ Vld N es) :
    Calls Try.prog 35 #[.agg #[.int .i64 N, va]] w (Ret w [] fun v L => L = [] ∧ v = .tuple #[.agg #[.slice none 0 0, .slice none 0 0, .slice none 0 0, .slice none 0 0], .int .i64 1]) := by
  refine calls_of (args := [_]) (L := []) Try.func35 rfl Try.ntmps35 rfl (Own.start _ _) ?_
  refine DC.seq ?_
  refine DC.region ?_
  refine Seq.new rfl rfl (n_box rfl rfl rfl) fun g1 => ?_
  refine Seq.new rfl rfl (n_alloc rfl ze55 rfl) fun g2 => ?_
  refine Seq.pur rfl rfl (p_assign rfl rfl) ?_
  refine Seq.nil ?_
  refine Fin.then ?_
  refine DC.seq ?_
  refine DC.region ?_
  refine Seq.val rfl rfl (v_loads (vs := [_, _]) rfl rfl ag25 sz25 rfl (hass_blk rfl)) ?_
  -- calls tangram/tangramref04.Copy
  refine Seq.rel rfl rfl (r_call en31 rfl rfl rfl (fun w' hw => GCopy_calls (hg.keep0 hw))) ?_
  rintro _ _ ⟨u, rfl, rfl⟩
  simp only [List.cons_append, List.nil_append]
  -- calls tangram/dfs.Walk
  refine Seq.rel0 rfl rfl (r_call en43 rfl rfl rfl (fun w' hw => Walk_no (prv_own hw 0 rfl hg.few) hV)) ?_
  rintro _ rfl
  refine Seq.pur rfl rfl (p_move rfl rfl) ?_
  refine Seq.pur rfl rfl (p_extract rfl rfl rfl) ?_
  refine Seq.pur rfl rfl (p_extract rfl rfl rfl) ?_
  refine Seq.new rfl rfl (n_alloc rfl ze55 rfl) fun g4 => ?_
  refine Seq.sto rfl rfl (s_stores (cs' := #[_, _, _, _]) rfl rfl rfl sz55 rfl (Nat.le_of_ble_eq_true rfl) rfl) ?_
  refine Seq.pur rfl rfl (p_assign rfl rfl) ?_
  refine Seq.nil ?_
  refine Fin.then ?_
  refine DC.seq ?_
  refine DC.region ?_
  refine Seq.val rfl rfl (v_loads (vs := [_, _, _, _]) rfl rfl ag55 sz55 rfl (hass_blk rfl)) ?_
  refine Seq.pur rfl rfl (p_move rfl rfl) ?_
  refine Seq.sto rfl rfl (s_stores (cs' := #[_, _, _, _]) rfl rfl rfl sz55 rfl (Nat.le_of_ble_eq_true rfl) rfl) ?_
  refine Seq.pur rfl rfl (p_assign rfl rfl) ?_
  refine Seq.nil ?_
  refine Fin.then ?_
  refine DC.ret ?_
  refine Fin.endct (cs := #[_, _, _, _]) (.inl rfl) rfl rfl rfl ag55 sz55 ?_
  exact ⟨_, fun w hw => hw.pick .nil, rfl, rfl⟩
theorem lwalk_yes {N : Int} {es : List Pr} {va : Value} {w : World} (hg : PrV w va es) (hV : Vld N es) :
    Calls Try.prog 35 #[.agg #[.int .i64 N, va]] w (Ret w [] fun v L => ∃ s v0 v1 v2 v3, Rts es N 0 (start N es.length) s ∧ Inv N es.length (es.length + N.toNat) s ∧ v = .tuple #[.agg #[v0, v1, v2, v3], .int .i64 0] ∧ L = forL v0 v1 v2 v3 s.pa s.he s.od s.oi) := by
  refine calls_of (args := [_]) (L := []) Try.func35 rfl Try.ntmps35 rfl (Own.start _ _) ?_
  refine DC.seq ?_
  refine DC.region ?_
  refine Seq.new rfl rfl (n_box rfl rfl rfl) fun g1 => ?_
  refine Seq.new rfl rfl (n_alloc rfl ze55 rfl) fun g2 => ?_
  refine Seq.pur rfl rfl (p_assign rfl rfl) ?_
  refine Seq.nil ?_
  refine Fin.then ?_
  refine DC.seq ?_
  refine DC.region ?_
  refine Seq.val rfl rfl (v_loads (vs := [_, _]) rfl rfl ag25 sz25 rfl (hass_blk rfl)) ?_
  -- calls tangram/tangramref04.Copy
  refine Seq.rel rfl rfl (r_call en31 rfl rfl rfl (fun w' hw => GCopy_calls (hg.keep0 hw))) ?_
  rintro _ _ ⟨u, rfl, rfl⟩
  -- calls tangram/dfs.Walk
  refine Seq.rel rfl rfl (r_call en43 rfl rfl rfl (fun w' hw => Walk_yes (prv_own hw 0 rfl hg.few) hV)) ?_
  rintro _ _ ⟨s, v0, v1, v2, v3, hR, hI, rfl, rfl⟩
  simp only [forL, List.cons_append, List.nil_append]
  refine Seq.shape 0 rfl ?_
  rintro ⟨A0, l0, c0, rfl⟩
  refine Seq.shape 1 rfl ?_
  rintro ⟨A1, l1, c1, rfl⟩
  refine Seq.shape 2 rfl ?_
  rintro ⟨A2, l2, c2, rfl⟩
  refine Seq.shape 3 rfl ?_
  rintro ⟨A3, l3, c3, rfl⟩
  refine Seq.pur rfl rfl (p_move rfl rfl) ?_
  refine Seq.pur rfl rfl (p_extract rfl rfl rfl) ?_
  refine Seq.pur rfl rfl (p_extract rfl rfl rfl) ?_
  refine Seq.new rfl rfl (n_alloc rfl ze55 rfl) fun g4 => ?_
  refine Seq.sto rfl rfl (s_stores (cs' := #[_, _, _, _]) rfl rfl rfl sz55 rfl (Nat.le_of_ble_eq_true rfl) rfl) ?_
  refine Seq.pur rfl rfl (p_assign rfl rfl) ?_
  refine Seq.nil ?_
  refine Fin.then ?_
  refine DC.seq ?_
  refine DC.region ?_
  refine Seq.val rfl rfl (v_loads (vs := [_, _, _, _]) rfl rfl ag55 sz55 rfl (hass_blk rfl)) ?_
  refine Seq.pur rfl rfl (p_move rfl rfl) ?_
  refine Seq.sto rfl rfl (s_stores (cs' := #[_, _, _, _]) rfl rfl rfl sz55 rfl (Nat.le_of_ble_eq_true rfl) rfl) ?_
  refine Seq.pur rfl rfl (p_assign rfl rfl) ?_
  refine Seq.nil ?_
  refine Fin.then ?_
  refine DC.ret ?_
  refine Fin.endct (cs := #[_, _, _, _]) (.inl rfl) rfl rfl rfl ag55 sz55 ?_
  exact ⟨_, fun w hw => hw.pick (.cons 1 rfl (.cons 1 rfl (.cons 1 rfl (.cons 1 rfl .nil)))), s, _, _, _, _, hR, hI, rfl, rfl⟩

section
variable {w : World} {v0 v1 v2 v3 : Value} {pa he od oi : List Int}
theorem DfsBack_calls (e : Int) (h0 : SlV w v0 pa) (h1 : SlV w v1 he) (h2 : SlV w v2 od) (h3 : SlV w v3 oi) :
    Calls Try.prog 9 #[.agg #[v0, v1, v2, v3], .int .i64 e] w (Ret w [] fun v L => v = .bool true) := by
  have h3' := h3
  have f0 := h0.few
  have f3 := h3.few
  obtain ⟨B, cb, rfl, hrb, hb1, hb2, hb3⟩ := h3'
  refine calls_of (args := [_, _]) (L := []) Try.func9 rfl Try.ntmps9 rfl (Own.start _ _) ?_
  refine DC.seq ?_
  refine DC.region ?_
  refine Seq.new rfl rfl (n_box rfl rfl rfl) fun g2 => ?_
  refine Seq.pur rfl rfl (p_assign rfl rfl) ?_
  refine Seq.nil ?_
  refine Fin.then ?_
  refine DC.seq ?_
  refine DC.seq ?_
  refine DC.region ?_
  -- calls tangram/tangramlaw07.awake
  refine Seq.rel0 rfl rfl (r_call en34 rfl rfl rfl (fun w' hw => awake_calls w')) ?_
  rintro _ rfl
  refine Seq.pur rfl rfl (p_not rfl rfl) ?_
  refine Seq.nil ?_
  refine Fin.then ?_
  refine DC.cond rfl (fun c1 => ?_) (fun c1 => ?_)
  · exact absurd c1 (by decide)
    --closed
  · refine DC.skip ?_
    refine Fin.then ?_
    refine DC.seq ?_
    refine DC.seq ?_
    refine DC.region ?_
    refine Seq.pur rfl rfl (p_assign rfl rfl) ?_
    refine Seq.nil ?_
    refine Fin.then ?_
    refine DC.block ?_
    refine DC.loop (ι := Nat) (fun i => i ≤ oi.length + 2)
      (fun i => [(1, .int .i64 e), (2, .pointer (some ⟨g2, 0, none⟩)), (5, .int .i64 ((i : Int) - 1))])
      (fun i => [blk g2 55 #[v0, v1, v2, .slice B oi.length cb]]) (fun i => oi.length + 2 - i) 0 (Nat.zero_le _) ⟨rfl, rfl, rfl, trivial⟩ (.cons 0 rfl .nil) ?_
    intro i hi
    refine DC.seq ?_
    refine DC.seq ?_
    refine DC.region ?_
    refine Seq.pur rfl rfl (p_move rfl rfl) ?_
    refine Seq.pur rfl rfl (p_field rfl rfl fi55_3 (by first | exact add_at0 _ _ | exact add_at _ _ _ | rfl)) ?_
    refine Seq.val rfl rfl (v_load rfl rfl ag34 (by first | exact has_blk rfl | exact has_old' (by assumption))) ?_
    refine Seq.pur rfl rfl (p_len rfl rfl Try.underlying34) ?_
    refine Seq.pur rfl rfl (p_leq rfl rfl rfl) ?_
    refine Seq.pur rfl rfl (p_move rfl rfl) ?_
    refine Seq.split 13 rfl (fun k4_5 => ?_) (fun k4_5 => ?_)
    · refine Seq.pur rfl rfl (p_move rfl rfl) ?_
      refine Seq.pur rfl rfl (p_lss rfl rfl rfl) ?_
      refine Seq.pur rfl rfl (p_pick_t rfl rfl rfl) ?_
      refine Seq.nil ?_
      refine Fin.then ?_
      refine DC.cond rfl (fun c4 => ?_) (fun c4 => ?_)
      · refine DC.skip ?_
        refine Fin.then ?_
        refine DC.seq ?_
        refine DC.block ?_
        refine DC.seq ?_
        refine DC.flow (cl := [.v, .r, .q, .r, .v, .q, .r, .q]) (A := [0, 1, 0, 7, 0, 0, 63, 127]) (order := [0, 1, 2, 3, 4, 5, 6, 7]) [] mixed (by kernel_rfl) (fun w hw => hw.pick .nil) ?_
        refine Flow.valS rfl rfl rfl rfl (v_loads (vs := [_, _, _, _]) rfl rfl ag55 sz55 rfl (hass_blk rfl)) ?_
        -- calls tangram/tangramref07.Copy
        refine Flow.relS rfl rfl rfl rfl (r_call en39 rfl rfl rfl (fun w' hw => FCopy_calls (h0.keep0 hw) (h1.keep0 hw) (h2.keep0 hw) (h3.keep0 hw))) ?_
        rintro _ _ ⟨u0, u1, u2, u3, rfl, rfl⟩
        refine Flow.pur rfl rfl rfl (p_move rfl rfl) ?_
        -- calls tangram/dfs.Back
        refine Flow.rel0V (V := forL u0 u1 u2 u3 pa he od oi ++ [blk g2 55 #[v0, v1, v2, .slice B oi.length cb]]) rfl rfl rfl rfl (by kernel_rfl) (r_call en38 rfl rfl rfl (fun w' hw => Back_calls _ (slv_own hw 0 rfl f0) (slv_own hw 3 rfl f3))) ?_
        rintro _ rfl
        refine Flow.valS rfl rfl rfl rfl (v_loads (vs := [_, _, _, _]) rfl rfl ag55 sz55 rfl (hass_blk rfl)) ?_
        refine Flow.pur rfl rfl rfl (p_move rfl rfl) ?_
        -- calls tangram/tangramref07.Back
        refine Flow.rel0 rfl rfl rfl rfl (r_call en40 rfl rfl rfl (fun w' hw => rBack_calls _ (h0.keep0 hw) (h3.keep0 hw))) ?_
        rintro _ rfl
        refine Flow.pur rfl rfl rfl (p_neq_b rfl rfl rfl Try.underlying4) ?_
        refine Flow.end rfl ?_
        simp only [List.map_cons, List.map_nil, List.nil_append, List.cons_append, List.append_nil]
        refine Fin.then ?_
        refine DC.cond rfl (fun c6 => ?_) (fun c6 => ?_)
        · exact absurd c6 (by simp)
          --closed
        · refine DC.skip ?_
          refine Fin.inBlock ?_
          refine Fin.then ?_
          refine DC.region ?_
          refine Seq.pur rfl rfl (p_move rfl rfl) ?_
          refine Seq.pur rfl rfl (p_add rfl rfl rfl (by omega)) ?_
          refine Seq.pur rfl rfl (p_assign rfl rfl) ?_
          refine Seq.nil ?_
          refine Fin.again (i + 1) (by simp at c4 k4_5; omega) (by simp at c4 k4_5; omega) ⟨rfl, rfl, ?_, trivial⟩ (.cons' 4 rfl rfl .nil)
          rw [show ((i + 1 : Nat) : Int) - 1 = (i : Int) - 1 + 1 by omega]; rfl
      · refine DC.exit ?_
        refine Fin.exit_then <| Fin.exit_then <| Fin.exit_here <| ?_
        refine Fin.then ?_
        refine DC.seq ?_
        refine DC.flow (cl := [.v, .r, .q, .r, .v, .q, .r, .q, .q]) (A := [0, 1, 0, 7, 0, 0, 63, 127, 255]) (order := [0, 1, 2, 3, 4, 5, 6, 7, 8]) [] mixed (by kernel_rfl) (fun w hw => hw.pick .nil) ?_
        refine Flow.valS rfl rfl rfl rfl (v_loads (vs := [_, _, _, _]) rfl rfl ag55 sz55 rfl (hass_blk rfl)) ?_
        -- calls tangram/tangramref07.Copy
        refine Flow.relS rfl rfl rfl rfl (r_call en39 rfl rfl rfl (fun w' hw => FCopy_calls (h0.keep0 hw) (h1.keep0 hw) (h2.keep0 hw) (h3.keep0 hw))) ?_
        rintro _ _ ⟨u0, u1, u2, u3, rfl, rfl⟩
        refine Flow.pur rfl rfl rfl (p_move rfl rfl) ?_
        -- calls tangram/dfs.Back
        refine Flow.rel0V (V := forL u0 u1 u2 u3 pa he od oi ++ [blk g2 55 #[v0, v1, v2, .slice B oi.length cb]]) rfl rfl rfl rfl (by kernel_rfl) (r_call en38 rfl rfl rfl (fun w' hw => Back_calls _ (slv_own hw 0 rfl f0) (slv_own hw 3 rfl f3))) ?_
        rintro _ rfl
        refine Flow.valS rfl rfl rfl rfl (v_loads (vs := [_, _, _, _]) rfl rfl ag55 sz55 rfl (hass_blk rfl)) ?_
        refine Flow.pur rfl rfl rfl (p_move rfl rfl) ?_
        -- calls tangram/tangramref07.Back
        refine Flow.rel0 rfl rfl rfl rfl (r_call en40 rfl rfl rfl (fun w' hw => rBack_calls _ (h0.keep0 hw) (h3.keep0 hw))) ?_
        rintro _ rfl
        refine Flow.pur rfl rfl rfl (p_eql_b rfl rfl rfl Try.underlying4) ?_
        refine Flow.pur rfl rfl rfl (p_assign rfl rfl) ?_
        refine Flow.end rfl ?_
        simp only [List.map_cons, List.map_nil, List.nil_append, List.cons_append, List.append_nil]
        refine Fin.then ?_
        refine DC.ret ?_
        refine Fin.end1 (.inl rfl) rfl rfl ?_
        simp
    · refine Seq.skip rfl rfl ?_
      refine Seq.skip rfl rfl ?_
      refine Seq.pur rfl rfl (p_pick_f rfl rfl rfl) ?_
      refine Seq.nil ?_
      refine Fin.then ?_
      refine DC.cond_f rfl ?_
      refine DC.exit ?_
      refine Fin.exit_then <| Fin.exit_then <| Fin.exit_here <| ?_
      refine Fin.then ?_
      refine DC.seq ?_
      refine DC.flow (cl := [.v, .r, .q, .r, .v, .q, .r, .q, .q]) (A := [0, 1, 0, 7, 0, 0, 63, 127, 255]) (order := [0, 1, 2, 3, 4, 5, 6, 7, 8]) [] mixed (by kernel_rfl) (fun w hw => hw.pick .nil) ?_
      refine Flow.valS rfl rfl rfl rfl (v_loads (vs := [_, _, _, _]) rfl rfl ag55 sz55 rfl (hass_blk rfl)) ?_
      -- calls tangram/tangramref07.Copy
      refine Flow.relS rfl rfl rfl rfl (r_call en39 rfl rfl rfl (fun w' hw => FCopy_calls (h0.keep0 hw) (h1.keep0 hw) (h2.keep0 hw) (h3.keep0 hw))) ?_
      rintro _ _ ⟨u0, u1, u2, u3, rfl, rfl⟩
      refine Flow.pur rfl rfl rfl (p_move rfl rfl) ?_
      -- calls tangram/dfs.Back
      refine Flow.rel0V (V := forL u0 u1 u2 u3 pa he od oi ++ [blk g2 55 #[v0, v1, v2, .slice B oi.length cb]]) rfl rfl rfl rfl (by kernel_rfl) (r_call en38 rfl rfl rfl (fun w' hw => Back_calls _ (slv_own hw 0 rfl f0) (slv_own hw 3 rfl f3))) ?_
      rintro _ rfl
      refine Flow.valS rfl rfl rfl rfl (v_loads (vs := [_, _, _, _]) rfl rfl ag55 sz55 rfl (hass_blk rfl)) ?_
      refine Flow.pur rfl rfl rfl (p_move rfl rfl) ?_
      -- calls tangram/tangramref07.Back
      refine Flow.rel0 rfl rfl rfl rfl (r_call en40 rfl rfl rfl (fun w' hw => rBack_calls _ (h0.keep0 hw) (h3.keep0 hw))) ?_
      rintro _ rfl
      refine Flow.pur rfl rfl rfl (p_eql_b rfl rfl rfl Try.underlying4) ?_
      refine Flow.pur rfl rfl rfl (p_assign rfl rfl) ?_
      refine Flow.end rfl ?_
      simp only [List.map_cons, List.map_nil, List.nil_append, List.cons_append, List.append_nil]
      refine Fin.then ?_
      refine DC.ret ?_
      refine Fin.end1 (.inl rfl) rfl rfl ?_
      simp
end
end Go.Fl
