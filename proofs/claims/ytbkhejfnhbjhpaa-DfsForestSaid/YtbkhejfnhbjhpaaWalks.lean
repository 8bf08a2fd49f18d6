/- The law DfsWalks. -/
import Derived.Test.YtbkhejfnhbjhpaaRWalk
import Derived.Test.YtbkhejfnhbjhpaaBack
set_option linter.unusedVariables false
set_option linter.unusedSimpArgs false
set_option maxRecDepth 100000
namespace Go.Fl
open Go Go.Proofs

theorem slv_none (w : World) : SlV w (.slice none 0 0) [] := ⟨none, 0, rfl, fun j u hj => by simp [ints] at hj, Nat.le_refl _, by omega, by simp⟩
theorem rValid_no {N : Int} {es : List Pr} {va : Value} {w : World} (hg : PrV w va es) (hV : ¬ Vld N es) :
    Calls Try.prog 16 #[.agg #[.int .i64 N, va]] w (Ret w [] fun v L => L = [] ∧ v = .bool false) :=
  Calls.mono (rValid_calls (N := N) hg) fun e w' h => h.mono fun v L ⟨h1, b, h2, h3⟩ => ⟨h1, by cases b with | true => exact absurd (h3.1 rfl) hV | false => exact h2⟩
theorem rValid_yes {N : Int} {es : List Pr} {va : Value} {w : World} (hg : PrV w va es) (hV : Vld N es) :
    Calls Try.prog 16 #[.agg #[.int .i64 N, va]] w (Ret w [] fun v L => L = [] ∧ v = .bool true) :=
  Calls.mono (rValid_calls (N := N) hg) fun e w' h => h.mono fun v L ⟨h1, b, h2, h3⟩ => ⟨h1, by have h4 := h3.2 hV; rw [h4] at h2; exact h2⟩

theorem DfsWalks_no {N : Int} {es : List Pr} {va : Value} {w : World} (hg : PrV w va es) (hV : ¬ Vld N es) :
    Calls Try.prog 8 #[.agg #[.int .i64 N, va]] w (Ret w [] fun v L => v = .bool true) := by
  refine calls_of (args := [_]) (L := []) Try.func8 rfl Try.ntmps8 rfl (Own.start _ _) ?_
  refine DC.seq ?_
  refine DC.region ?_
  refine Seq.new rfl rfl (n_box rfl rfl rfl) fun g1 => ?_
  refine Seq.pur rfl rfl (p_assign rfl rfl) ?_
  refine Seq.nil ?_
  refine Fin.then ?_
  refine DC.seq ?_
  refine DC.seq ?_
  refine DC.region ?_
  -- calls tangram/tangramlaw07.awake
  refine Seq.rel0 rfl rfl (r_call en34 rfl rfl rfl (fun w' hw => awake_calls w')) ?_
  rintro _ rfl
  refine Seq.pur rfl rfl (p_not rfl rfl) ?_
  refine Seq.nil ?_
  refine Fin.then ?_
  refine DC.cond rfl (fun c1 => ?_) (fun c1 => ?_)
  · exact absurd c1 (by decide)
    --closed
  · refine DC.skip ?_
    refine Fin.then ?_
    refine DC.seq ?_
    refine DC.region ?_
    refine Seq.val rfl rfl (v_loads (vs := [_, _]) rfl rfl ag25 sz25 rfl (hass_blk rfl)) ?_
    -- calls tangram/tangramlaw07.walk
    refine Seq.rel0 rfl rfl (r_call en35 rfl rfl rfl (fun w' hw => lwalk_no (hg.keep0 hw) hV)) ?_
    rintro _ rfl
    refine Seq.pur rfl rfl (p_move rfl rfl) ?_
    refine Seq.pur rfl rfl (p_extract rfl rfl rfl) ?_
    refine Seq.pur rfl rfl (p_extract rfl rfl rfl) ?_
    refine Seq.new rfl rfl (n_alloc rfl ze55 rfl) fun g3 => ?_
    refine Seq.sto rfl rfl (s_stores (cs' := #[_, _, _, _]) rfl rfl rfl sz55 rfl (Nat.le_of_ble_eq_true rfl) rfl) ?_
    refine Seq.pur rfl rfl (p_assign rfl rfl) ?_
    refine Seq.nil ?_
    refine Fin.then ?_
    refine DC.seq ?_
    refine DC.seq ?_
    refine DC.region ?_
    refine Seq.val rfl rfl (v_loads (vs := [_, _]) rfl rfl ag25 sz25 rfl (hass_blk rfl)) ?_
    -- calls tangram/tangramref04.Valid
    refine Seq.rel0 rfl rfl (r_call en16 rfl rfl rfl (fun w' hw => rValid_no (hg.keep0 hw) hV)) ?_
    rintro _ rfl
    refine Seq.pur rfl rfl (p_not rfl rfl) ?_
    refine Seq.nil ?_
    refine Fin.then ?_
    refine DC.cond rfl (fun c4 => ?_) (fun c4 => ?_)
    · refine DC.seq ?_
      refine DC.region ?_
      refine Seq.pur rfl rfl (p_move rfl rfl) ?_
      refine Seq.pur rfl rfl (p_eql rfl rfl rfl) ?_
      refine Seq.pur rfl rfl (p_move rfl rfl) ?_
      refine Seq.split 17 rfl (fun k5_2 => ?_) (fun k5_2 => ?_)
      · refine Seq.val rfl rfl (v_loads (vs := [_, _, _, _]) rfl rfl ag55 sz55 rfl (hass_blk rfl)) ?_
        refine Seq.pur rfl rfl (p_struct (cs := #[_, _, _, _]) rfl rfl bs55 rfl rfl) ?_
        -- calls tangram/tangramref07.Same
        refine Seq.rel0 rfl rfl (r_call en36 rfl rfl rfl (fun w' hw => FSame_calls (slv_none _) (slv_none _) (slv_none _) (slv_none _) (slv_none _) (slv_none _) (slv_none _) (slv_none _))) ?_
        rintro _ rfl
        refine Seq.pur rfl rfl (p_pick_t rfl rfl rfl) ?_
        refine Seq.pur rfl rfl (p_assign rfl rfl) ?_
        refine Seq.nil ?_
        refine Fin.then ?_
        refine DC.ret ?_
        refine Fin.ret_then <| ?_
        refine Fin.end1 (.inl rfl) rfl rfl ?_
        simp
      · exact absurd k5_2 (by decide)
        --closed
    · exact absurd c4 (by decide)
      --closed
theorem DfsWalks_yes {N : Int} {es : List Pr} {va : Value} {w : World} (hg : PrV w va es) (hV : Vld N es) :
    Calls Try.prog 8 #[.agg #[.int .i64 N, va]] w (Ret w [] fun v L => v = .bool true) := by
  have hN0 := hV.lo
  have hN1 := hV.hi
  have hfew := hV.few
  obtain ⟨Nn, rfl⟩ := Int.eq_ofNat_of_zero_le hN0
  refine calls_of (args := [_]) (L := []) Try.func8 rfl Try.ntmps8 rfl (Own.start _ _) ?_
  refine DC.seq ?_
  refine DC.region ?_
  refine Seq.new rfl rfl (n_box rfl rfl rfl) fun g1 => ?_
  refine Seq.pur rfl rfl (p_assign rfl rfl) ?_
  refine Seq.nil ?_
  refine Fin.then ?_
  refine DC.seq ?_
  refine DC.seq ?_
  refine DC.region ?_
  -- calls tangram/tangramlaw07.awake
  refine Seq.rel0 rfl rfl (r_call en34 rfl rfl rfl (fun w' hw => awake_calls w')) ?_
  rintro _ rfl
  refine Seq.pur rfl rfl (p_not rfl rfl) ?_
  refine Seq.nil ?_
  refine Fin.then ?_
  refine DC.cond rfl (fun c1 => ?_) (fun c1 => ?_)
  · exact absurd c1 (by decide)
    --closed
  · refine DC.skip ?_
    refine Fin.then ?_
    refine DC.seq ?_
    refine DC.region ?_
    refine Seq.val rfl rfl (v_loads (vs := [_, _]) rfl rfl ag25 sz25 rfl (hass_blk rfl)) ?_
    -- calls tangram/tangramlaw07.walk
    refine Seq.rel rfl rfl (r_call en35 rfl rfl rfl (fun w' hw => lwalk_yes (hg.keep0 hw) hV)) ?_
    rintro _ _ ⟨s, v0, v1, v2, v3, hR, hI, rfl, rfl⟩
    simp only [forL, List.cons_append, List.nil_append]
    refine Seq.shape 0 rfl ?_
    rintro ⟨A0, l0, c0, rfl⟩
    refine Seq.shape 1 rfl ?_
    rintro ⟨A1, l1, c1', rfl⟩
    refine Seq.shape 2 rfl ?_
    rintro ⟨A2, l2, c2, rfl⟩
    refine Seq.shape 3 rfl ?_
    rintro ⟨A3, l3, c3, rfl⟩
    have ipa := hI.pal
    have ihe := hI.hel
    have ioi := hI.oil
    have iod := hI.few
    refine Seq.pur rfl rfl (p_move rfl rfl) ?_
    refine Seq.pur rfl rfl (p_extract rfl rfl rfl) ?_
    refine Seq.pur rfl rfl (p_extract rfl rfl rfl) ?_
    refine Seq.new rfl rfl (n_alloc rfl ze55 rfl) fun g3 => ?_
    refine Seq.sto rfl rfl (s_stores (cs' := #[_, _, _, _]) rfl rfl rfl sz55 rfl (Nat.le_of_ble_eq_true rfl) rfl) ?_
    refine Seq.pur rfl rfl (p_assign rfl rfl) ?_
    refine Seq.nil ?_
    refine Fin.then ?_
    refine DC.seq ?_
    refine DC.seq ?_
    refine DC.region ?_
    refine Seq.val rfl rfl (v_loads (vs := [_, _]) rfl rfl ag25 sz25 rfl (hass_blk rfl)) ?_
    -- calls tangram/tangramref04.Valid
    refine Seq.rel0 rfl rfl (r_call en16 rfl rfl rfl (fun w' hw => rValid_yes (hg.keep0 hw) hV)) ?_
    rintro _ rfl
    refine Seq.pur rfl rfl (p_not rfl rfl) ?_
    refine Seq.nil ?_
    refine Fin.then ?_
    refine DC.cond rfl (fun c4 => ?_) (fun c4 => ?_)
    · exact absurd c4 (by decide)
      --closed
    · refine DC.skip ?_
      refine Fin.then ?_
      refine DC.seq ?_
      refine DC.flow (cl := [.q, .q, .q, .v, .v, .r, .r, .q, .q]) (A := [0, 1, 3, 7, 7, 23, 63, 127, 255]) (order := [0, 1, 2, 3, 4, 5, 6, 7, 8]) [] mixed (by kernel_rfl) (fun w hw => hw.pick .nil) ?_
      refine Flow.pur rfl rfl rfl (p_move rfl rfl) ?_
      refine Flow.pur rfl rfl rfl (p_eql rfl rfl rfl) ?_
      refine Flow.pur rfl rfl rfl (p_move rfl rfl) ?_
      refine Flow.split 24 rfl (fun k6_2 => ?_) (fun k6_2 => ?_)
      · refine Flow.valS rfl rfl rfl rfl (v_loads (vs := [_, _, _, _]) rfl rfl ag55 sz55 rfl (hass_blk rfl)) ?_
        refine Flow.valS rfl rfl rfl rfl (v_loads (vs := [_, _]) rfl rfl ag25 sz25 rfl (hass_blk rfl)) ?_
        -- calls tangram/tangramref07.Walk
        refine Flow.relS rfl rfl rfl rfl (r_call en37 rfl rfl rfl (fun w' hw => rWalk_calls (hg.keep0 hw) hV)) ?_
        rintro _ _ ⟨s2, u0, u1, u2, u3, hR2, hI2, rfl, rfl⟩
        obtain rfl := rts_det hR hR2
        -- calls tangram/tangramref07.Same
        refine Flow.rel0V (V := forL u0 u1 u2 u3 s.pa s.he s.od s.oi ++ [blk g3 55 #[.slice A0 l0 c0, .slice A1 l1 c1', .slice A2 l2 c2, .slice A3 l3 c3], slc (.slice A0 l0 c0) 3 1 (ints s.pa), slc (.slice A1 l1 c1') 3 1 (ints s.he), slc (.slice A2 l2 c2) 3 1 (ints s.od), slc (.slice A3 l3 c3) 3 1 (ints s.oi), blk g1 25 #[.int .i64 (Nn : Int), va]]) rfl rfl rfl rfl (by kernel_rfl) (r_call en36 rfl rfl rfl (fun w' hw => FSame_calls (slv_own hw 5 rfl (by omega)) (slv_own hw 6 rfl (by omega)) (slv_own hw 7 rfl (by omega)) (slv_own hw 8 rfl (by omega)) (slv_own hw 0 rfl (by omega)) (slv_own hw 1 rfl (by omega)) (slv_own hw 2 rfl (by omega)) (slv_own hw 3 rfl (by omega)))) ?_
        rintro _ rfl
        refine Flow.pur rfl rfl rfl (p_pick_t rfl rfl rfl) ?_
        refine Flow.pur rfl rfl rfl (p_assign rfl rfl) ?_
        refine Flow.end rfl ?_
        simp only [List.map_cons, List.map_nil, List.nil_append, List.cons_append, List.append_nil]
        refine Fin.then ?_
        refine DC.ret ?_
        refine Fin.end1 (.inl rfl) rfl rfl ?_
        simp
      · exact absurd k6_2 (by decide)
        --closed
theorem DfsWalks_calls {N : Int} {es : List Pr} {va : Value} {w : World} (hg : PrV w va es) :
    Calls Try.prog 8 #[.agg #[.int .i64 N, va]] w (Ret w [] fun v L => v = .bool true) := by
  by_cases hV : Vld N es
  · exact DfsWalks_yes hg hV
  · exact DfsWalks_no hg hV
end Go.Fl
