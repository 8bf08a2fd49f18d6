/- dfs.Above; the law DfsAbove. -/
import Derived.Test.YtbkhejfnhbjhpaaLValid
set_option linter.unusedVariables false
set_option linter.unusedSimpArgs false
set_option maxRecDepth 100000
namespace Go.Fl
open Go Go.Proofs

section
variable {w : World} {N : Int} {es : List Pr} {va v0 v1 v2 v3 : Value} {pa he od oi : List Int}
theorem DAbove_calls (u v : Int) (hg : PrV w va es) (h0 : SlV w v0 pa) (h1 : SlV w v1 he) (h2 : SlV w v2 od) (h3 : SlV w v3 oi) :
    Calls Try.prog 45 #[.agg #[.int .i64 N, va], .agg #[v0, v1, v2, v3], .int .i64 u, .int .i64 v] w (Ret w [] fun x L => L = [] ∧ x = .bool (dabF N es pa he od oi u v)) := by
  refine calls_of (args := [_, _, _, _]) (L := []) Try.func45 rfl Try.ntmps45 rfl (Own.start _ _) ?_
  refine DC.seq ?_
  refine DC.region ?_
  refine Seq.new rfl rfl (n_box rfl rfl rfl) fun g4 => ?_
  refine Seq.new rfl rfl (n_box rfl rfl rfl) fun g5 => ?_
  refine Seq.pur rfl rfl (p_assign rfl rfl) ?_
  refine Seq.nil ?_
  refine Fin.then ?_
  refine DC.seq ?_
  refine DC.seq ?_
  refine DC.region ?_
  refine Seq.val rfl rfl (v_loads (vs := [_, _]) rfl rfl ag25 sz25 rfl (hass_blk rfl)) ?_
  refine Seq.val rfl rfl (v_loads (vs := [_, _, _, _]) rfl rfl ag55 sz55 rfl (hass_blk rfl)) ?_
  -- calls tangram/dfs.Valid
  refine Seq.rel0 rfl rfl (r_call en41 rfl rfl rfl (fun w' hw => DValid_calls (hg.keep0 hw) (h0.keep0 hw) (h1.keep0 hw) (h2.keep0 hw) (h3.keep0 hw))) ?_
  rintro _ rfl
  refine Seq.pur rfl rfl (p_not rfl rfl) ?_
  refine Seq.pur rfl rfl (p_move rfl rfl) ?_
  refine Seq.split 13 rfl (fun k1_4 => ?_) (fun k1_4 => ?_)
  · refine Seq.skip rfl rfl ?_
    refine Seq.skip rfl rfl ?_
    refine Seq.pur rfl rfl (p_pick_t rfl rfl rfl) ?_
    refine Seq.pur rfl rfl (p_move rfl rfl) ?_
    refine Seq.skip rfl rfl ?_
    refine Seq.skip rfl rfl ?_
    refine Seq.skip rfl rfl ?_
    refine Seq.skip rfl rfl ?_
    refine Seq.pur rfl rfl (p_pick_t rfl rfl rfl) ?_
    refine Seq.pur rfl rfl (p_move rfl rfl) ?_
    refine Seq.skip rfl rfl ?_
    refine Seq.skip rfl rfl ?_
    refine Seq.pur rfl rfl (p_pick_t rfl rfl rfl) ?_
    refine Seq.pur rfl rfl (p_move rfl rfl) ?_
    refine Seq.skip rfl rfl ?_
    refine Seq.skip rfl rfl ?_
    refine Seq.skip rfl rfl ?_
    refine Seq.skip rfl rfl ?_
    refine Seq.pur rfl rfl (p_pick_t rfl rfl rfl) ?_
    refine Seq.nil ?_
    refine Fin.then ?_
    refine DC.cond_t rfl ?_
    refine DC.seq ?_
    refine DC.region ?_
    refine Seq.pur rfl rfl (p_assign rfl rfl) ?_
    refine Seq.nil ?_
    refine Fin.then ?_
    refine DC.ret ?_
    refine Fin.ret_then <| ?_
    refine Fin.weak (E' := [(8, _)]) ⟨rfl, trivial⟩ .nil ?_
    refine Fin.end1 (.inl rfl) rfl rfl ?_
    exact ⟨rfl, by unfold dabF; rw [if_neg fun h => by rw [h.1] at k1_4; cases k1_4]⟩
  · refine Seq.pur rfl rfl (p_move rfl rfl) ?_
    refine Seq.pur rfl rfl (p_lss rfl rfl rfl) ?_
    refine Seq.pur rfl rfl (p_pick_f rfl rfl rfl) ?_
    refine Seq.pur rfl rfl (p_move rfl rfl) ?_
    refine Seq.split 17 rfl (fun k1_8 => ?_) (fun k1_8 => ?_)
    · refine Seq.skip rfl rfl ?_
      refine Seq.skip rfl rfl ?_
      refine Seq.skip rfl rfl ?_
      refine Seq.skip rfl rfl ?_
      refine Seq.pur rfl rfl (p_pick_t rfl rfl rfl) ?_
      refine Seq.pur rfl rfl (p_move rfl rfl) ?_
      refine Seq.skip rfl rfl ?_
      refine Seq.skip rfl rfl ?_
      refine Seq.pur rfl rfl (p_pick_t rfl rfl rfl) ?_
      refine Seq.pur rfl rfl (p_move rfl rfl) ?_
      refine Seq.skip rfl rfl ?_
      refine Seq.skip rfl rfl ?_
      refine Seq.skip rfl rfl ?_
      refine Seq.skip rfl rfl ?_
      refine Seq.pur rfl rfl (p_pick_t rfl rfl rfl) ?_
      refine Seq.nil ?_
      refine Fin.then ?_
      refine DC.cond_t rfl ?_
      refine DC.seq ?_
      refine DC.region ?_
      refine Seq.pur rfl rfl (p_assign rfl rfl) ?_
      refine Seq.nil ?_
      refine Fin.then ?_
      refine DC.ret ?_
      refine Fin.ret_then <| ?_
      refine Fin.weak (E' := [(8, _)]) ⟨rfl, trivial⟩ .nil ?_
      refine Fin.end1 (.inl rfl) rfl rfl ?_
      exact ⟨rfl, by unfold dabF; rw [if_neg fun h => by simp at k1_8; omega]⟩
    · refine Seq.pur rfl rfl (p_move rfl rfl) ?_
      refine Seq.pur rfl rfl (p_field rfl rfl fi25_0 (by first | exact add_at0 _ _ | exact add_at _ _ _ | rfl)) ?_
      refine Seq.val rfl rfl (v_load rfl rfl ag3 (by first | exact has_blk rfl | exact has_old' (by assumption))) ?_
      refine Seq.pur rfl rfl (p_geq rfl rfl rfl) ?_
      refine Seq.pur rfl rfl (p_pick_f rfl rfl rfl) ?_
      refine Seq.pur rfl rfl (p_move rfl rfl) ?_
      refine Seq.split 23 rfl (fun k1_14 => ?_) (fun k1_14 => ?_)
      · refine Seq.skip rfl rfl ?_
        refine Seq.skip rfl rfl ?_
        refine Seq.pur rfl rfl (p_pick_t rfl rfl rfl) ?_
        refine Seq.pur rfl rfl (p_move rfl rfl) ?_
        refine Seq.skip rfl rfl ?_
        refine Seq.skip rfl rfl ?_
        refine Seq.skip rfl rfl ?_
        refine Seq.skip rfl rfl ?_
        refine Seq.pur rfl rfl (p_pick_t rfl rfl rfl) ?_
        refine Seq.nil ?_
        refine Fin.then ?_
        refine DC.cond_t rfl ?_
        refine DC.seq ?_
        refine DC.region ?_
        refine Seq.pur rfl rfl (p_assign rfl rfl) ?_
        refine Seq.nil ?_
        refine Fin.then ?_
        refine DC.ret ?_
        refine Fin.ret_then <| ?_
        refine Fin.weak (E' := [(8, _)]) ⟨rfl, trivial⟩ .nil ?_
        refine Fin.end1 (.inl rfl) rfl rfl ?_
        exact ⟨rfl, by unfold dabF; rw [if_neg fun h => by simp at k1_14; omega]⟩
      · refine Seq.pur rfl rfl (p_move rfl rfl) ?_
        refine Seq.pur rfl rfl (p_lss rfl rfl rfl) ?_
        refine Seq.pur rfl rfl (p_pick_f rfl rfl rfl) ?_
        refine Seq.pur rfl rfl (p_move rfl rfl) ?_
        refine Seq.split 27 rfl (fun k1_18 => ?_) (fun k1_18 => ?_)
        · refine Seq.skip rfl rfl ?_
          refine Seq.skip rfl rfl ?_
          refine Seq.skip rfl rfl ?_
          refine Seq.skip rfl rfl ?_
          refine Seq.pur rfl rfl (p_pick_t rfl rfl rfl) ?_
          refine Seq.nil ?_
          refine Fin.then ?_
          refine DC.cond_t rfl ?_
          refine DC.seq ?_
          refine DC.region ?_
          refine Seq.pur rfl rfl (p_assign rfl rfl) ?_
          refine Seq.nil ?_
          refine Fin.then ?_
          refine DC.ret ?_
          refine Fin.ret_then <| ?_
          refine Fin.weak (E' := [(8, _)]) ⟨rfl, trivial⟩ .nil ?_
          refine Fin.end1 (.inl rfl) rfl rfl ?_
          exact ⟨rfl, by unfold dabF; rw [if_neg fun h => by simp at k1_18; omega]⟩
        · refine Seq.pur rfl rfl (p_move rfl rfl) ?_
          refine Seq.pur rfl rfl (p_field rfl rfl fi25_0 (by first | exact add_at0 _ _ | exact add_at _ _ _ | rfl)) ?_
          refine Seq.val rfl rfl (v_load rfl rfl ag3 (by first | exact has_blk rfl | exact has_old' (by assumption))) ?_
          refine Seq.pur rfl rfl (p_geq rfl rfl rfl) ?_
          refine Seq.pur rfl rfl (p_pick_f rfl rfl rfl) ?_
          refine Seq.nil ?_
          refine Fin.then ?_
          refine DC.cond rfl (fun c1 => ?_) (fun c1 => ?_)
          · refine DC.seq ?_
            refine DC.region ?_
            refine Seq.pur rfl rfl (p_assign rfl rfl) ?_
            refine Seq.nil ?_
            refine Fin.then ?_
            refine DC.ret ?_
            refine Fin.ret_then <| ?_
            refine Fin.weak (E' := [(8, _)]) ⟨rfl, trivial⟩ .nil ?_
            refine Fin.end1 (.inl rfl) rfl rfl ?_
            exact ⟨rfl, by unfold dabF; rw [if_neg fun h => by simp at c1; omega]⟩
          · have hval : validF N es pa he od oi = true := by simpa using k1_4
            have hu0 : 0 ≤ u := by simpa using k1_8
            have hu1 : u < N := by simpa using k1_14
            have hv0 : 0 ≤ v := by simpa using k1_18
            have hv1 : v < N := by simpa using c1
            obtain ⟨hV, hL, hH, hR⟩ := valid_facts hval
            have hF : dabF N es pa he od oi u v = aboveF es pa (N.toNat + 1) u v := by unfold dabF; rw [if_pos ⟨hval, hu0, hu1, hv0, hv1⟩]
            have hN0 := hV.lo
            obtain ⟨Nn, rfl⟩ := Int.eq_ofNat_of_zero_le hN0
            rw [Int.toNat_natCast] at hF hH hR
            have l0 : pa.length = Nn := by have := hL.pa; omega
            rw [hF]
            clear hF hval k1_4 k1_8 k1_14 k1_18 c1
            refine DC.skip ?_
            refine Fin.then ?_
            refine DC.seq ?_
            refine DC.block ?_
            refine DC.loop (ι := Nat × Int) (fun j => 0 ≤ j.2 ∧ j.2 < Nn ∧ getI he j.2 < j.1 ∧ aboveF es pa (j.1 + 1) u j.2 = aboveF es pa (Nn + 1) u v)
              (fun j => [(2, .int .i64 u), (3, .int .i64 j.2), (4, .pointer (some ⟨g4, 0, none⟩)), (5, .pointer (some ⟨g5, 0, none⟩))])
              (fun j => [blk g5 55 #[v0, v1, v2, v3], blk g4 25 #[.int .i64 Nn, va]]) (fun j => j.1) (Nn, v) ⟨hv0, hv1, by have := hR v hv0 hv1; simp only [rootB, decide_eq_true_eq] at this; dsimp only; omega, rfl⟩ ⟨rfl, rfl, rfl, rfl, trivial⟩ (Pick.all _) ?_
            clear hv0 hv1
            rintro ⟨k, x⟩ ⟨hv0, hv1, hk, hF⟩
            dsimp only at hv0 hv1 hk hF ⊢
            obtain ⟨a0, c0', rfl, x0⟩ := h0.cell hv0 (by omega)
            have hhang := hH x hv0 hv1
            obtain ⟨q1, q2, q3, q4⟩ := hang_par hV hhang
            have hF1 : aboveF es pa (k + 1) u x = if u = x then true else aboveF es pa k u (par es pa x) := by
              show (if x < 0 then false else if u = x then true else aboveF es pa k u (par es pa x)) = _
              rw [if_neg (by omega)]
            rw [hF1] at hF
            refine DC.seq ?_
            refine DC.seq ?_
            refine DC.region ?_
            refine Seq.pur rfl rfl (p_move rfl rfl) ?_
            refine Seq.pur rfl rfl (p_move rfl rfl) ?_
            refine Seq.pur rfl rfl (p_neq rfl rfl rfl) ?_
            refine Seq.pur rfl rfl (p_move rfl rfl) ?_
            refine Seq.split 36 rfl (fun k3_3 => ?_) (fun k3_3 => ?_)
            · refine Seq.pur rfl rfl (p_field rfl rfl fi55_0 (by first | exact add_at0 _ _ | exact add_at _ _ _ | rfl)) ?_
              refine Seq.val rfl rfl (v_load rfl rfl ag34 (by first | exact has_blk rfl | exact has_old' (by assumption))) ?_
              refine Seq.pur rfl rfl (p_move rfl rfl) ?_
              refine Seq.pur rfl rfl (p_index1 (ad' := a0.add x.toNat) rfl rfl rfl Try.underlying34 sz3 (by omega) (by omega) rfl) ?_
              refine Seq.val rfl rfl (v_load rfl rfl ag3 (has_old' x0)) ?_
              refine Seq.pur rfl rfl (p_geq rfl rfl rfl) ?_
              refine Seq.pur rfl rfl (p_pick_t rfl rfl rfl) ?_
              refine Seq.nil ?_
              refine Fin.then ?_
              refine DC.cond rfl (fun c3 => ?_) (fun c3 => ?_)
              · have hp0 : 0 ≤ getI pa x := by simpa using c3
                have hpe : par es pa x = fromV es (getI pa x) := by unfold par; rw [if_neg (by omega)]
                have hpp : 0 ≤ par es pa x := by
                  by_cases h : par es pa x < 0
                  · have := q4.1 h; omega
                  · omega
                refine DC.skip ?_
                refine Fin.then ?_
                refine DC.block ?_
                refine DC.flow (cl := [.v, .q, .v, .q, .q, .v, .r, .q, .q, .q, .q]) (A := [0, 0, 2, 0, 14, 30, 63, 127, 255, 255, 511]) (order := [0, 1, 2, 3, 4, 5, 6, 7, 8, 9, 10]) [] mixed (by kernel_rfl) (fun w hw => hw.pick .nil) ?_
                refine Flow.valS rfl rfl rfl rfl (v_loads (vs := [_, _]) rfl rfl ag25 sz25 rfl (hass_blk rfl)) ?_
                refine Flow.pur rfl rfl rfl (p_field rfl rfl fi55_0 (by first | exact add_at0 _ _ | exact add_at _ _ _ | rfl)) ?_
                refine Flow.valS rfl rfl rfl rfl (v_load rfl rfl ag34 (by first | exact has_blk rfl | exact has_old' (by assumption))) ?_
                refine Flow.pur rfl rfl rfl (p_move rfl rfl) ?_
                refine Flow.pur rfl rfl rfl (p_index1 (ad' := a0.add x.toNat) rfl rfl rfl Try.underlying34 sz3 (by omega) (by omega) rfl) ?_
                refine Flow.valS rfl rfl rfl rfl (v_load rfl rfl ag3 (has_old' x0)) ?_
                -- calls tangram/dfs.ends
                refine Flow.rel0 rfl rfl rfl rfl (r_call en59 rfl rfl rfl (fun w' hw => ends_calls (hg.keep0 hw) hp0 (q1 hp0))) ?_
                rintro _ rfl
                rw [← hpe]
                refine Flow.pur rfl rfl rfl (p_move rfl rfl) ?_
                refine Flow.pur rfl rfl rfl (p_extract rfl rfl rfl) ?_
                refine Flow.pur rfl rfl rfl (p_extract rfl rfl rfl) ?_
                refine Flow.pur rfl rfl rfl (p_assign rfl rfl) ?_
                refine Flow.end rfl ?_
                simp only [List.map_cons, List.map_nil, List.nil_append, List.cons_append, List.append_nil]
                refine Fin.inBlock ?_
                have hne : ¬ u = x := by simp at k3_3; omega
                rw [if_neg hne] at hF
                have hdec := par_height hV hH hR hv0 hv1 hpp
                have hr2 := hR (par es pa x) hpp q3
                simp only [rootB, decide_eq_true_eq] at hr2
                obtain ⟨k', rfl⟩ : ∃ k', k = k' + 1 := ⟨k - 1, by omega⟩
                refine Fin.again (k', par es pa x) (by dsimp only; omega) ⟨hpp, q3, by dsimp only; omega, hF⟩ ⟨rfl, rfl, rfl, rfl, trivial⟩ (Pick.all _)
              · refine DC.exit ?_
                refine Fin.exit_then <| Fin.exit_then <| Fin.exit_here <| ?_
                refine Fin.then ?_
                refine DC.seq ?_
                refine DC.region ?_
                refine Seq.pur rfl rfl (p_move rfl rfl) ?_
                refine Seq.pur rfl rfl (p_move rfl rfl) ?_
                refine Seq.pur rfl rfl (p_eql rfl rfl rfl) ?_
                refine Seq.pur rfl rfl (p_assign rfl rfl) ?_
                refine Seq.nil ?_
                refine Fin.then ?_
                refine DC.ret ?_
                refine Fin.weak (E' := [(8, _)]) ⟨rfl, trivial⟩ .nil ?_
                refine Fin.end1 (.inl rfl) rfl rfl ?_
                have hne : ¬ u = x := by simp at k3_3; omega
                have hne' : ¬ x = u := fun e => hne e.symm
                rw [if_neg hne, above_end es pa k u _ (q4.2 (by simp at c3; omega))] at hF
                exact ⟨rfl, by rw [← hF]; simp [hne']⟩
            · refine Seq.skip rfl rfl ?_
              refine Seq.skip rfl rfl ?_
              refine Seq.skip rfl rfl ?_
              refine Seq.skip rfl rfl ?_
              refine Seq.skip rfl rfl ?_
              refine Seq.skip rfl rfl ?_
              refine Seq.pur rfl rfl (p_pick_f rfl rfl rfl) ?_
              refine Seq.nil ?_
              refine Fin.then ?_
              refine DC.cond_f rfl ?_
              refine DC.exit ?_
              refine Fin.exit_then <| Fin.exit_then <| Fin.exit_here <| ?_
              refine Fin.then ?_
              refine DC.seq ?_
              refine DC.region ?_
              refine Seq.pur rfl rfl (p_move rfl rfl) ?_
              refine Seq.pur rfl rfl (p_move rfl rfl) ?_
              refine Seq.pur rfl rfl (p_eql rfl rfl rfl) ?_
              refine Seq.pur rfl rfl (p_assign rfl rfl) ?_
              refine Seq.nil ?_
              refine Fin.then ?_
              refine DC.ret ?_
              refine Fin.weak (E' := [(8, _)]) ⟨rfl, trivial⟩ .nil ?_
              refine Fin.end1 (.inl rfl) rfl rfl ?_
              have hne : x = u := by simp at k3_3; exact k3_3
              rw [if_pos hne.symm] at hF
              exact ⟨rfl, by rw [← hF]; simp [hne]⟩

theorem DfsAbove_calls (u v : Int) (hg : PrV w va es) (h0 : SlV w v0 pa) (h1 : SlV w v1 he) (h2 : SlV w v2 od) (h3 : SlV w v3 oi) :
    Calls Try.prog 13 #[.agg #[.int .i64 N, va, v0, v1, v2, v3, .int .i64 u, .int .i64 v]] w (Ret w [] fun x L => x = .bool true) := by
  have fg := hg.few
  have f0 := h0.few
  have f1 := h1.few
  have f2 := h2.few
  have f3 := h3.few
  refine calls_of (args := [_]) (L := []) Try.func13 rfl Try.ntmps13 rfl (Own.start _ _) ?_
  refine DC.seq ?_
  refine DC.region ?_
  refine Seq.new rfl rfl (n_box rfl rfl rfl) fun g1 => ?_
  refine Seq.pur rfl rfl (p_assign rfl rfl) ?_
  refine Seq.nil ?_
  refine Fin.then ?_
  refine DC.seq ?_
  refine DC.seq ?_
  refine DC.region ?_
  -- calls tangram/tangramlaw07.awake
  refine Seq.rel0 rfl rfl (r_call en34 rfl rfl rfl (fun w' hw => awake_calls w')) ?_
  rintro _ rfl
  refine Seq.pur rfl rfl (p_not rfl rfl) ?_
  refine Seq.nil ?_
  refine Fin.then ?_
  refine DC.cond rfl (fun c1 => ?_) (fun c1 => ?_)
  · exact absurd c1 (by decide)
    --closed
  · refine DC.skip ?_
    refine Fin.then ?_
    refine DC.seq ?_
    refine DC.region ?_
    refine Seq.pur rfl rfl (p_assign rfl rfl) ?_
    refine Seq.nil ?_
    refine Fin.then ?_
    refine DC.cut (ι := Unit) (fun _ => True) (fun _ => [(1, .pointer (some ⟨g1, 0, none⟩)), (3, .bool (dabF N es pa he od oi u v))]) (fun _ => [blk g1 68 #[.int .i64 N, va, v0, v1, v2, v3, .int .i64 u, .int .i64 v]]) ?first ?rest
    case first =>
      refine DC.seq ?_
      refine DC.region ?_
      refine Seq.pur rfl rfl (p_field rfl rfl fi68_0 (by first | exact add_at0 _ _ | exact add_at _ _ _ | rfl)) ?_
      refine Seq.val rfl rfl (v_loads (vs := [_, _]) rfl rfl ag25 sz25 rfl (hass_blk rfl)) ?_
      refine Seq.pur rfl rfl (p_field rfl rfl fi68_1 (by first | exact add_at0 _ _ | exact add_at _ _ _ | rfl)) ?_
      refine Seq.val rfl rfl (v_loads (vs := [_, _, _, _]) rfl rfl ag55 sz55 rfl (hass_blk rfl)) ?_
      -- calls tangram/tangramref07.Valid
      refine Seq.rel0 rfl rfl (r_call en42 rfl rfl rfl (fun w' hw => RValid_calls (hg.keep0 hw) (h0.keep0 hw) (h1.keep0 hw) (h2.keep0 hw) (h3.keep0 hw))) ?_
      rintro _ rfl
      refine Seq.pur rfl rfl (p_move rfl rfl) ?_
      refine Seq.split 11 rfl (fun k4_5 => ?_) (fun k4_5 => ?_)
      · refine Seq.pur rfl rfl (p_field rfl rfl fi68_2 (by first | exact add_at0 _ _ | exact add_at _ _ _ | rfl)) ?_
        refine Seq.val rfl rfl (v_load rfl rfl ag3 (by first | exact has_blk rfl | exact has_old' (by assumption))) ?_
        refine Seq.pur rfl rfl (p_geq rfl rfl rfl) ?_
        refine Seq.pur rfl rfl (p_pick_t rfl rfl rfl) ?_
        refine Seq.pur rfl rfl (p_move rfl rfl) ?_
        refine Seq.split 16 rfl (fun k4_10 => ?_) (fun k4_10 => ?_)
        · refine Seq.pur rfl rfl (p_field rfl rfl fi68_2 (by first | exact add_at0 _ _ | exact add_at _ _ _ | rfl)) ?_
          refine Seq.val rfl rfl (v_load rfl rfl ag3 (by first | exact has_blk rfl | exact has_old' (by assumption))) ?_
          refine Seq.pur rfl rfl (p_field rfl rfl fi68_0 (by first | exact add_at0 _ _ | exact add_at _ _ _ | rfl)) ?_
          refine Seq.pur rfl rfl (p_field rfl rfl fi25_0 (by first | exact add_at0 _ _ | exact add_at _ _ _ | rfl)) ?_
          refine Seq.val rfl rfl (v_load rfl rfl ag3 (by first | exact has_blk rfl | exact has_old' (by assumption))) ?_
          refine Seq.pur rfl rfl (p_lss rfl rfl rfl) ?_
          refine Seq.pur rfl rfl (p_pick_t rfl rfl rfl) ?_
          refine Seq.pur rfl rfl (p_move rfl rfl) ?_
          refine Seq.split 24 rfl (fun k4_18 => ?_) (fun k4_18 => ?_)
          · refine Seq.pur rfl rfl (p_field rfl rfl fi68_3 (by first | exact add_at0 _ _ | exact add_at _ _ _ | rfl)) ?_
            refine Seq.val rfl rfl (v_load rfl rfl ag3 (by first | exact has_blk rfl | exact has_old' (by assumption))) ?_
            refine Seq.pur rfl rfl (p_geq rfl rfl rfl) ?_
            refine Seq.pur rfl rfl (p_pick_t rfl rfl rfl) ?_
            refine Seq.pur rfl rfl (p_move rfl rfl) ?_
            refine Seq.split 29 rfl (fun k4_23 => ?_) (fun k4_23 => ?_)
            · refine Seq.pur rfl rfl (p_field rfl rfl fi68_3 (by first | exact add_at0 _ _ | exact add_at _ _ _ | rfl)) ?_
              refine Seq.val rfl rfl (v_load rfl rfl ag3 (by first | exact has_blk rfl | exact has_old' (by assumption))) ?_
              refine Seq.pur rfl rfl (p_field rfl rfl fi68_0 (by first | exact add_at0 _ _ | exact add_at _ _ _ | rfl)) ?_
              refine Seq.pur rfl rfl (p_field rfl rfl fi25_0 (by first | exact add_at0 _ _ | exact add_at _ _ _ | rfl)) ?_
              refine Seq.val rfl rfl (v_load rfl rfl ag3 (by first | exact has_blk rfl | exact has_old' (by assumption))) ?_
              refine Seq.pur rfl rfl (p_lss rfl rfl rfl) ?_
              refine Seq.pur rfl rfl (p_pick_t rfl rfl rfl) ?_
              refine Seq.nil ?_
              refine Fin.then ?_
              refine DC.cond rfl (fun c4 => ?_) (fun c4 => ?_)
              · have hval : validF N es pa he od oi = true := by rw [valid_same]; exact k4_5
                have hu0 : 0 ≤ u := by simpa using k4_10
                have hu1 : u < N := by simpa using k4_18
                have hv0 : 0 ≤ v := by simpa using k4_23
                have hv1 : v < N := by simpa using c4
                obtain ⟨hV, hL, hH, hR⟩ := valid_facts hval
                have hF : dabF N es pa he od oi u v = aboveF es pa (N.toNat + 1) u v := by unfold dabF; rw [if_pos ⟨hval, hu0, hu1, hv0, hv1⟩]
                obtain ⟨Nn, rfl⟩ := Int.eq_ofNat_of_zero_le hV.lo
                rw [Int.toNat_natCast] at hF hH hR
                have hA : FA w Nn es va v0 v1 v2 v3 pa he od oi :=
                  ⟨hg, h0, h1, h2, h3, hV, by have := hL.pa; omega, by have := hL.he; omega, by have := hL.od; omega, hL.oi⟩
                refine DC.region ?_
                refine Seq.pur rfl rfl (p_field rfl rfl fi68_0 (by first | exact add_at0 _ _ | exact add_at _ _ _ | rfl)) ?_
                refine Seq.val rfl rfl (v_loads (vs := [_, _]) rfl rfl ag25 sz25 rfl (hass_blk rfl)) ?_
                refine Seq.pur rfl rfl (p_field rfl rfl fi68_1 (by first | exact add_at0 _ _ | exact add_at _ _ _ | rfl)) ?_
                refine Seq.val rfl rfl (v_loads (vs := [_, _, _, _]) rfl rfl ag55 sz55 rfl (hass_blk rfl)) ?_
                refine Seq.pur rfl rfl (p_field rfl rfl fi68_2 (by first | exact add_at0 _ _ | exact add_at _ _ _ | rfl)) ?_
                refine Seq.val rfl rfl (v_load rfl rfl ag3 (by first | exact has_blk rfl | exact has_old' (by assumption))) ?_
                refine Seq.pur rfl rfl (p_field rfl rfl fi68_3 (by first | exact add_at0 _ _ | exact add_at _ _ _ | rfl)) ?_
                refine Seq.val rfl rfl (v_load rfl rfl ag3 (by first | exact has_blk rfl | exact has_old' (by assumption))) ?_
                -- calls tangram/tangramref07.Above
                refine Seq.rel0 rfl rfl (r_call en46 rfl rfl rfl (fun w' hw => rAbove_calls (hA.keep0 hw) hH hR hv1 hv0 Nn (by have := hR v hv0 hv1; simp only [rootB, decide_eq_true_eq] at this; omega))) ?_
                rintro _ rfl
                rw [← hF]
                refine Seq.pur rfl rfl (p_assign rfl rfl) ?_
                refine Seq.nil ?_
                refine Fin.meet () trivial ⟨rfl, rfl, trivial⟩ (Pick.all _)
              · refine DC.skip ?_
                have hF : dabF N es pa he od oi u v = false := by unfold dabF; rw [if_neg fun h => by simp at c4; omega]
                refine Fin.meet () trivial ⟨rfl, by rw [hF]; rfl, trivial⟩ (Pick.all _)
            · refine Seq.skip rfl rfl ?_
              refine Seq.skip rfl rfl ?_
              refine Seq.skip rfl rfl ?_
              refine Seq.skip rfl rfl ?_
              refine Seq.skip rfl rfl ?_
              refine Seq.skip rfl rfl ?_
              refine Seq.pur rfl rfl (p_pick_f rfl rfl rfl) ?_
              refine Seq.nil ?_
              refine Fin.then ?_
              refine DC.cond_f rfl ?_
              refine DC.skip ?_
              have hF : dabF N es pa he od oi u v = false := by unfold dabF; rw [if_neg fun h => by simp at k4_23; omega]
              refine Fin.meet () trivial ⟨rfl, by rw [hF]; rfl, trivial⟩ (Pick.all _)
          · refine Seq.skip rfl rfl ?_
            refine Seq.skip rfl rfl ?_
            refine Seq.skip rfl rfl ?_
            refine Seq.pur rfl rfl (p_pick_f rfl rfl rfl) ?_
            refine Seq.pur rfl rfl (p_move rfl rfl) ?_
            refine Seq.skip rfl rfl ?_
            refine Seq.skip rfl rfl ?_
            refine Seq.skip rfl rfl ?_
            refine Seq.skip rfl rfl ?_
            refine Seq.skip rfl rfl ?_
            refine Seq.skip rfl rfl ?_
            refine Seq.pur rfl rfl (p_pick_f rfl rfl rfl) ?_
            refine Seq.nil ?_
            refine Fin.then ?_
            refine DC.cond_f rfl ?_
            refine DC.skip ?_
            have hF : dabF N es pa he od oi u v = false := by unfold dabF; rw [if_neg fun h => by simp at k4_18; omega]
            refine Fin.meet () trivial ⟨rfl, by rw [hF]; rfl, trivial⟩ (Pick.all _)
        · refine Seq.skip rfl rfl ?_
          refine Seq.skip rfl rfl ?_
          refine Seq.skip rfl rfl ?_
          refine Seq.skip rfl rfl ?_
          refine Seq.skip rfl rfl ?_
          refine Seq.skip rfl rfl ?_
          refine Seq.pur rfl rfl (p_pick_f rfl rfl rfl) ?_
          refine Seq.pur rfl rfl (p_move rfl rfl) ?_
          refine Seq.skip rfl rfl ?_
          refine Seq.skip rfl rfl ?_
          refine Seq.skip rfl rfl ?_
          refine Seq.pur rfl rfl (p_pick_f rfl rfl rfl) ?_
          refine Seq.pur rfl rfl (p_move rfl rfl) ?_
          refine Seq.skip rfl rfl ?_
          refine Seq.skip rfl rfl ?_
          refine Seq.skip rfl rfl ?_
          refine Seq.skip rfl rfl ?_
          refine Seq.skip rfl rfl ?_
          refine Seq.skip rfl rfl ?_
          refine Seq.pur rfl rfl (p_pick_f rfl rfl rfl) ?_
          refine Seq.nil ?_
          refine Fin.then ?_
          refine DC.cond_f rfl ?_
          refine DC.skip ?_
          have hF : dabF N es pa he od oi u v = false := by unfold dabF; rw [if_neg fun h => by simp at k4_10; omega]
          refine Fin.meet () trivial ⟨rfl, by rw [hF]; rfl, trivial⟩ (Pick.all _)
      · refine Seq.skip rfl rfl ?_
        refine Seq.skip rfl rfl ?_
        refine Seq.skip rfl rfl ?_
        refine Seq.pur rfl rfl (p_pick_f rfl rfl rfl) ?_
        refine Seq.pur rfl rfl (p_move rfl rfl) ?_
        refine Seq.skip rfl rfl ?_
        refine Seq.skip rfl rfl ?_
        refine Seq.skip rfl rfl ?_
        refine Seq.skip rfl rfl ?_
        refine Seq.skip rfl rfl ?_
        refine Seq.skip rfl rfl ?_
        refine Seq.pur rfl rfl (p_pick_f rfl rfl rfl) ?_
        refine Seq.pur rfl rfl (p_move rfl rfl) ?_
        refine Seq.skip rfl rfl ?_
        refine Seq.skip rfl rfl ?_
        refine Seq.skip rfl rfl ?_
        refine Seq.pur rfl rfl (p_pick_f rfl rfl rfl) ?_
        refine Seq.pur rfl rfl (p_move rfl rfl) ?_
        refine Seq.skip rfl rfl ?_
        refine Seq.skip rfl rfl ?_
        refine Seq.skip rfl rfl ?_
        refine Seq.skip rfl rfl ?_
        refine Seq.skip rfl rfl ?_
        refine Seq.skip rfl rfl ?_
        refine Seq.pur rfl rfl (p_pick_f rfl rfl rfl) ?_
        refine Seq.nil ?_
        refine Fin.then ?_
        refine DC.cond_f rfl ?_
        refine DC.skip ?_
        have hF : dabF N es pa he od oi u v = false := by unfold dabF; rw [if_neg fun h => by have h1 := h.1; rw [valid_same, k4_5] at h1; cases h1]
        refine Fin.meet () trivial ⟨rfl, by rw [hF]; rfl, trivial⟩ (Pick.all _)
    case rest =>
      rintro _ _
      refine DC.seq ?_
      refine DC.flow (cl := [.q, .v, .r, .q, .v, .r, .q, .v, .q, .v, .r, .q, .q, .q]) (A := [0, 1, 3, 0, 8, 31, 0, 64, 0, 256, 1023, 0, 4095, 8191]) (order := [0, 1, 2, 3, 4, 5, 6, 7, 8, 9, 10, 11, 12, 13]) [] mixed (by kernel_rfl) (fun w hw => hw.pick .nil) ?_
      refine Flow.pur rfl rfl rfl (p_field rfl rfl fi68_0 (by first | exact add_at0 _ _ | exact add_at _ _ _ | rfl)) ?_
      refine Flow.valS rfl rfl rfl rfl (v_loads (vs := [_, _]) rfl rfl ag25 sz25 rfl (hass_blk rfl)) ?_
      -- calls tangram/tangramref04.Copy
      refine Flow.relS rfl rfl rfl rfl (r_call en31 rfl rfl rfl (fun w' hw => GCopy_calls (hg.keep0 hw))) ?_
      rintro _ _ ⟨g, rfl, rfl⟩
      refine Flow.pur rfl rfl rfl (p_field rfl rfl fi68_1 (by first | exact add_at0 _ _ | exact add_at _ _ _ | rfl)) ?_
      refine Flow.valS rfl rfl rfl rfl (v_loads (vs := [_, _, _, _]) rfl rfl ag55 sz55 rfl (hass_blk rfl)) ?_
      -- calls tangram/tangramref07.Copy
      refine Flow.relS rfl rfl rfl rfl (r_call en39 rfl rfl rfl (fun w' hw => FCopy_calls (h0.keep0 hw) (h1.keep0 hw) (h2.keep0 hw) (h3.keep0 hw))) ?_
      rintro _ _ ⟨u0, u1, u2, u3, rfl, rfl⟩
      refine Flow.pur rfl rfl rfl (p_field rfl rfl fi68_2 (by first | exact add_at0 _ _ | exact add_at _ _ _ | rfl)) ?_
      refine Flow.valS rfl rfl rfl rfl (v_load rfl rfl ag3 (by first | exact has_blk rfl | exact has_old' (by assumption))) ?_
      refine Flow.pur rfl rfl rfl (p_field rfl rfl fi68_3 (by first | exact add_at0 _ _ | exact add_at _ _ _ | rfl)) ?_
      refine Flow.valS rfl rfl rfl rfl (v_load rfl rfl ag3 (by first | exact has_blk rfl | exact has_old' (by assumption))) ?_
      -- calls tangram/dfs.Above
      refine Flow.rel0V (V := forL u0 u1 u2 u3 pa he od oi ++ [slc g 39 2 (prs es), blk g1 68 #[.int .i64 N, va, v0, v1, v2, v3, .int .i64 u, .int .i64 v]]) rfl rfl rfl rfl (by kernel_rfl) (r_call en45 rfl rfl rfl (fun w' hw => DAbove_calls u v (prv_own hw 4 rfl fg) (slv_own hw 0 rfl f0) (slv_own hw 1 rfl f1) (slv_own hw 2 rfl f2) (slv_own hw 3 rfl f3))) ?_
      rintro _ rfl
      refine Flow.pur rfl rfl rfl (p_move rfl rfl) ?_
      refine Flow.pur rfl rfl rfl (p_eql_b rfl rfl rfl Try.underlying4) ?_
      refine Flow.pur rfl rfl rfl (p_assign rfl rfl) ?_
      refine Flow.end rfl ?_
      simp only [List.map_cons, List.map_nil, List.nil_append, List.cons_append, List.append_nil]
      refine Fin.then ?_
      refine DC.ret ?_
      refine Fin.end1 (.inl rfl) rfl rfl ?_
      simp
end
end Go.Fl
