/- tangramref07.Valid. -/
import Derived.Test.YtbkhejfnhbjhpaaRef7b
import Derived.Test.YtbkhejfnhbjhpaaRWalk
set_option linter.unusedVariables false
set_option linter.unusedSimpArgs false
set_option maxRecDepth 100000
namespace Go.Fl
open Go Go.Proofs

theorem rvalidF_no {N : Int} {es : List Pr} {pa he od oi : List Int} (h : ¬ (Vld N es ∧ Len N es.length pa he od oi)) : rvalidF N es pa he od oi = false := by unfold rvalidF; rw [if_neg h]
theorem rvalidF_yes {N : Int} {es : List Pr} {pa he od oi : List Int} (h1 : Vld N es) (h2 : Len N es.length pa he od oi) : rvalidF N es pa he od oi =
    (hangsF es pa he oi N.toNat && (rootF pa he N.toNat && (ordF es pa N od (List.replicate N.toNat false) [] && (sideF 0 oi && rleadF es pa he N.toNat oi)))) := by unfold rvalidF; rw [if_pos ⟨h1, h2⟩]
theorem RValid_calls {N : Int} {es : List Pr} {va v0 v1 v2 v3 : Value} {pa he od oi : List Int} {w : World} (hg : PrV w va es) (h0 : SlV w v0 pa) (h1 : SlV w v1 he) (h2 : SlV w v2 od) (h3 : SlV w v3 oi) :
    Calls Try.prog 42 #[.agg #[.int .i64 N, va], .agg #[v0, v1, v2, v3]] w (Ret w [] fun v L => L = [] ∧ v = .bool (rvalidF N es pa he od oi)) := by
  have q0 := h0
  have q1 := h1
  have q2 := h2
  have q3 := h3
  have qg := hg
  obtain ⟨A0, c0', rfl, r0, x0, y0, z0⟩ := q0
  obtain ⟨A1, c1', rfl, r1, x1, y1, z1⟩ := q1
  obtain ⟨A2, c2', rfl, r2, x2, y2, z2⟩ := q2
  obtain ⟨A3, c3', rfl, r3, x3, y3, z3⟩ := q3
  obtain ⟨A, cap, rfl, hr, hlc, hcm, hl⟩ := qg
  refine calls_of (args := [_, _]) (L := []) Try.func42 rfl Try.ntmps42 rfl (Own.start _ _) ?_
  refine DC.seq ?_
  refine DC.region ?_
  refine Seq.new rfl rfl (n_box rfl rfl rfl) fun g2 => ?_
  refine Seq.new rfl rfl (n_box rfl rfl rfl) fun g3 => ?_
  refine Seq.pur rfl rfl (p_assign rfl rfl) ?_
  refine Seq.nil ?_
  refine Fin.then ?_
  refine DC.seq ?_
  refine DC.region ?_
  refine Seq.val rfl rfl (v_loads (vs := [_, _]) rfl rfl ag25 sz25 rfl (hass_blk rfl)) ?_
  -- calls tangram/tangramref04.Valid
  refine Seq.rel0 rfl rfl (r_call en16 rfl rfl rfl (fun w' hw => rValid_calls (hg.keep0 hw))) ?_
  rintro _ ⟨b, rfl, hb⟩
  refine Seq.pur rfl rfl (p_assign rfl rfl) ?_
  refine Seq.nil ?_
  refine Fin.then ?_
  refine DC.seq ?_
  refine DC.seq ?_
  refine DC.region ?_
  refine Seq.pur rfl rfl (p_move rfl rfl) ?_
  refine Seq.pur rfl rfl (p_not rfl rfl) ?_
  refine Seq.pur rfl rfl (p_move rfl rfl) ?_
  refine Seq.split 10 rfl (fun k2_2 => ?_) (fun k2_2 => ?_)
  · refine Seq.skip rfl rfl ?_
    refine Seq.skip rfl rfl ?_
    refine Seq.skip rfl rfl ?_
    refine Seq.skip rfl rfl ?_
    refine Seq.skip rfl rfl ?_
    refine Seq.skip rfl rfl ?_
    refine Seq.pur rfl rfl (p_pick_t rfl rfl rfl) ?_
    refine Seq.pur rfl rfl (p_move rfl rfl) ?_
    refine Seq.skip rfl rfl ?_
    refine Seq.skip rfl rfl ?_
    refine Seq.skip rfl rfl ?_
    refine Seq.skip rfl rfl ?_
    refine Seq.skip rfl rfl ?_
    refine Seq.skip rfl rfl ?_
    refine Seq.pur rfl rfl (p_pick_t rfl rfl rfl) ?_
    refine Seq.pur rfl rfl (p_move rfl rfl) ?_
    refine Seq.skip rfl rfl ?_
    refine Seq.skip rfl rfl ?_
    refine Seq.skip rfl rfl ?_
    refine Seq.skip rfl rfl ?_
    refine Seq.skip rfl rfl ?_
    refine Seq.skip rfl rfl ?_
    refine Seq.pur rfl rfl (p_pick_t rfl rfl rfl) ?_
    refine Seq.pur rfl rfl (p_move rfl rfl) ?_
    refine Seq.skip rfl rfl ?_
    refine Seq.skip rfl rfl ?_
    refine Seq.skip rfl rfl ?_
    refine Seq.skip rfl rfl ?_
    refine Seq.skip rfl rfl ?_
    refine Seq.skip rfl rfl ?_
    refine Seq.skip rfl rfl ?_
    refine Seq.pur rfl rfl (p_pick_t rfl rfl rfl) ?_
    refine Seq.nil ?_
    refine Fin.then ?_
    refine DC.cond_t rfl ?_
    refine DC.seq ?_
    refine DC.region ?_
    refine Seq.pur rfl rfl (p_assign rfl rfl) ?_
    refine Seq.nil ?_
    refine Fin.then ?_
    refine DC.ret ?_
    refine Fin.ret_then <| ?_
    refine Fin.weak (E' := [(4, _)]) ⟨rfl, trivial⟩ .nil ?_
    refine Fin.end1 (.inl rfl) rfl rfl ?_
    exact ⟨rfl, by rw [rvalidF_no fun h => by rw [hb.2 h.1] at k2_2; cases k2_2]⟩
  · refine Seq.pur rfl rfl (p_field rfl rfl fi55_0 (by first | exact add_at0 _ _ | exact add_at _ _ _ | rfl)) ?_
    refine Seq.val rfl rfl (v_load rfl rfl ag34 (by first | exact has_blk rfl | exact has_old' (by assumption))) ?_
    refine Seq.pur rfl rfl (p_len rfl rfl Try.underlying34) ?_
    refine Seq.pur rfl rfl (p_field rfl rfl fi25_0 (by first | exact add_at0 _ _ | exact add_at _ _ _ | rfl)) ?_
    refine Seq.val rfl rfl (v_load rfl rfl ag3 (by first | exact has_blk rfl | exact has_old' (by assumption))) ?_
    refine Seq.pur rfl rfl (p_neq rfl rfl rfl) ?_
    refine Seq.pur rfl rfl (p_pick_f rfl rfl rfl) ?_
    refine Seq.pur rfl rfl (p_move rfl rfl) ?_
    refine Seq.split 18 rfl (fun k2_10 => ?_) (fun k2_10 => ?_)
    · refine Seq.skip rfl rfl ?_
      refine Seq.skip rfl rfl ?_
      refine Seq.skip rfl rfl ?_
      refine Seq.skip rfl rfl ?_
      refine Seq.skip rfl rfl ?_
      refine Seq.skip rfl rfl ?_
      refine Seq.pur rfl rfl (p_pick_t rfl rfl rfl) ?_
      refine Seq.pur rfl rfl (p_move rfl rfl) ?_
      refine Seq.skip rfl rfl ?_
      refine Seq.skip rfl rfl ?_
      refine Seq.skip rfl rfl ?_
      refine Seq.skip rfl rfl ?_
      refine Seq.skip rfl rfl ?_
      refine Seq.skip rfl rfl ?_
      refine Seq.pur rfl rfl (p_pick_t rfl rfl rfl) ?_
      refine Seq.pur rfl rfl (p_move rfl rfl) ?_
      refine Seq.skip rfl rfl ?_
      refine Seq.skip rfl rfl ?_
      refine Seq.skip rfl rfl ?_
      refine Seq.skip rfl rfl ?_
      refine Seq.skip rfl rfl ?_
      refine Seq.skip rfl rfl ?_
      refine Seq.skip rfl rfl ?_
      refine Seq.pur rfl rfl (p_pick_t rfl rfl rfl) ?_
      refine Seq.nil ?_
      refine Fin.then ?_
      refine DC.cond_t rfl ?_
      refine DC.seq ?_
      refine DC.region ?_
      refine Seq.pur rfl rfl (p_assign rfl rfl) ?_
      refine Seq.nil ?_
      refine Fin.then ?_
      refine DC.ret ?_
      refine Fin.ret_then <| ?_
      refine Fin.weak (E' := [(4, _)]) ⟨rfl, trivial⟩ .nil ?_
      refine Fin.end1 (.inl rfl) rfl rfl ?_
      exact ⟨rfl, by rw [rvalidF_no fun h => by have := h.2.pa; simp at k2_10; omega]⟩
    · refine Seq.pur rfl rfl (p_field rfl rfl fi55_1 (by first | exact add_at0 _ _ | exact add_at _ _ _ | rfl)) ?_
      refine Seq.val rfl rfl (v_load rfl rfl ag34 (by first | exact has_blk rfl | exact has_old' (by assumption))) ?_
      refine Seq.pur rfl rfl (p_len rfl rfl Try.underlying34) ?_
      refine Seq.pur rfl rfl (p_field rfl rfl fi25_0 (by first | exact add_at0 _ _ | exact add_at _ _ _ | rfl)) ?_
      refine Seq.val rfl rfl (v_load rfl rfl ag3 (by first | exact has_blk rfl | exact has_old' (by assumption))) ?_
      refine Seq.pur rfl rfl (p_neq rfl rfl rfl) ?_
      refine Seq.pur rfl rfl (p_pick_f rfl rfl rfl) ?_
      refine Seq.pur rfl rfl (p_move rfl rfl) ?_
      refine Seq.split 26 rfl (fun k2_18 => ?_) (fun k2_18 => ?_)
      · refine Seq.skip rfl rfl ?_
        refine Seq.skip rfl rfl ?_
        refine Seq.skip rfl rfl ?_
        refine Seq.skip rfl rfl ?_
        refine Seq.skip rfl rfl ?_
        refine Seq.skip rfl rfl ?_
        refine Seq.pur rfl rfl (p_pick_t rfl rfl rfl) ?_
        refine Seq.pur rfl rfl (p_move rfl rfl) ?_
        refine Seq.skip rfl rfl ?_
        refine Seq.skip rfl rfl ?_
        refine Seq.skip rfl rfl ?_
        refine Seq.skip rfl rfl ?_
        refine Seq.skip rfl rfl ?_
        refine Seq.skip rfl rfl ?_
        refine Seq.skip rfl rfl ?_
        refine Seq.pur rfl rfl (p_pick_t rfl rfl rfl) ?_
        refine Seq.nil ?_
        refine Fin.then ?_
        refine DC.cond_t rfl ?_
        refine DC.seq ?_
        refine DC.region ?_
        refine Seq.pur rfl rfl (p_assign rfl rfl) ?_
        refine Seq.nil ?_
        refine Fin.then ?_
        refine DC.ret ?_
        refine Fin.ret_then <| ?_
        refine Fin.weak (E' := [(4, _)]) ⟨rfl, trivial⟩ .nil ?_
        refine Fin.end1 (.inl rfl) rfl rfl ?_
        exact ⟨rfl, by rw [rvalidF_no fun h => by have := h.2.he; simp at k2_18; omega]⟩
      · refine Seq.pur rfl rfl (p_field rfl rfl fi55_2 (by first | exact add_at0 _ _ | exact add_at _ _ _ | rfl)) ?_
        refine Seq.val rfl rfl (v_load rfl rfl ag34 (by first | exact has_blk rfl | exact has_old' (by assumption))) ?_
        refine Seq.pur rfl rfl (p_len rfl rfl Try.underlying34) ?_
        refine Seq.pur rfl rfl (p_field rfl rfl fi25_0 (by first | exact add_at0 _ _ | exact add_at _ _ _ | rfl)) ?_
        refine Seq.val rfl rfl (v_load rfl rfl ag3 (by first | exact has_blk rfl | exact has_old' (by assumption))) ?_
        refine Seq.pur rfl rfl (p_neq rfl rfl rfl) ?_
        refine Seq.pur rfl rfl (p_pick_f rfl rfl rfl) ?_
        refine Seq.pur rfl rfl (p_move rfl rfl) ?_
        refine Seq.split 34 rfl (fun k2_26 => ?_) (fun k2_26 => ?_)
        · refine Seq.skip rfl rfl ?_
          refine Seq.skip rfl rfl ?_
          refine Seq.skip rfl rfl ?_
          refine Seq.skip rfl rfl ?_
          refine Seq.skip rfl rfl ?_
          refine Seq.skip rfl rfl ?_
          refine Seq.skip rfl rfl ?_
          refine Seq.pur rfl rfl (p_pick_t rfl rfl rfl) ?_
          refine Seq.nil ?_
          refine Fin.then ?_
          refine DC.cond_t rfl ?_
          refine DC.seq ?_
          refine DC.region ?_
          refine Seq.pur rfl rfl (p_assign rfl rfl) ?_
          refine Seq.nil ?_
          refine Fin.then ?_
          refine DC.ret ?_
          refine Fin.ret_then <| ?_
          refine Fin.weak (E' := [(4, _)]) ⟨rfl, trivial⟩ .nil ?_
          refine Fin.end1 (.inl rfl) rfl rfl ?_
          exact ⟨rfl, by rw [rvalidF_no fun h => by have := h.2.od; simp at k2_26; omega]⟩
        · refine Seq.pur rfl rfl (p_field rfl rfl fi55_3 (by first | exact add_at0 _ _ | exact add_at _ _ _ | rfl)) ?_
          refine Seq.val rfl rfl (v_load rfl rfl ag34 (by first | exact has_blk rfl | exact has_old' (by assumption))) ?_
          refine Seq.pur rfl rfl (p_len rfl rfl Try.underlying34) ?_
          refine Seq.pur rfl rfl (p_field rfl rfl fi25_1 (by first | exact add_at0 _ _ | exact add_at _ _ _ | rfl)) ?_
          refine Seq.val rfl rfl (v_load rfl rfl ag23 (by first | exact has_blk rfl | exact has_old' (by assumption))) ?_
          refine Seq.pur rfl rfl (p_len rfl rfl Try.underlying23) ?_
          refine Seq.pur rfl rfl (p_neq rfl rfl rfl) ?_
          refine Seq.pur rfl rfl (p_pick_f rfl rfl rfl) ?_
          refine Seq.nil ?_
          refine Fin.then ?_
          refine DC.cond rfl (fun c2 => ?_) (fun c2 => ?_)
          · refine DC.seq ?_
            refine DC.region ?_
            refine Seq.pur rfl rfl (p_assign rfl rfl) ?_
            refine Seq.nil ?_
            refine Fin.then ?_
            refine DC.ret ?_
            refine Fin.ret_then <| ?_
            refine Fin.weak (E' := [(4, _)]) ⟨rfl, trivial⟩ .nil ?_
            refine Fin.end1 (.inl rfl) rfl rfl ?_
            exact ⟨rfl, by rw [rvalidF_no fun h => by have := h.2.oi; simp at c2; omega]⟩
          · have hV : Vld N es := hb.1 (by simpa using k2_2)
            have hLen : Len N es.length pa he od oi := ⟨by simpa using k2_10, by simpa using k2_18, by simpa using k2_26, by simp at c2; omega⟩
            have hF := rvalidF_yes hV hLen
            have hN0 := hV.lo
            have hN1 := hV.hi
            obtain ⟨Nn, rfl⟩ := Int.eq_ofNat_of_zero_le hN0
            rw [Int.toNat_natCast] at hF
            have hA : FA w Nn es (.slice A es.length cap) (.slice A0 pa.length c0') (.slice A1 he.length c1') (.slice A2 od.length c2') (.slice A3 oi.length c3') pa he od oi :=
              ⟨hg, h0, h1, h2, h3, hV, by have := hLen.pa; omega, by have := hLen.he; omega, by have := hLen.od; omega, hLen.oi⟩
            clear k2_2 k2_10 k2_18 k2_26 c2 hb
            refine DC.skip ?_
            refine Fin.then ?_
            refine DC.seq ?_
            refine DC.region ?_
            refine Seq.val rfl rfl (v_loads (vs := [_, _]) rfl rfl ag25 sz25 rfl (hass_blk rfl)) ?_
            refine Seq.val rfl rfl (v_loads (vs := [_, _, _, _]) rfl rfl ag55 sz55 rfl (hass_blk rfl)) ?_
            -- calls tangram/tangramref07.hangs
            refine Seq.rel0 rfl rfl (r_call en60 rfl rfl rfl (fun w' hw => rhangs_calls (hA.keep0 hw))) ?_
            rintro _ rfl
            refine Seq.pur rfl rfl (p_move rfl rfl) ?_
            refine Seq.split 46 rfl (fun k4_3 => ?_) (fun k4_3 => ?_)
            · refine Seq.val rfl rfl (v_loads (vs := [_, _]) rfl rfl ag25 sz25 rfl (hass_blk rfl)) ?_
              refine Seq.val rfl rfl (v_loads (vs := [_, _, _, _]) rfl rfl ag55 sz55 rfl (hass_blk rfl)) ?_
              -- calls tangram/tangramref07.rooted
              refine Seq.rel0 rfl rfl (r_call en61 rfl rfl rfl (fun w' hw => rrooted_calls (hA.keep0 hw))) ?_
              rintro _ rfl
              refine Seq.pur rfl rfl (p_pick_t rfl rfl rfl) ?_
              refine Seq.pur rfl rfl (p_move rfl rfl) ?_
              refine Seq.split 51 rfl (fun k4_8 => ?_) (fun k4_8 => ?_)
              · refine Seq.val rfl rfl (v_loads (vs := [_, _]) rfl rfl ag25 sz25 rfl (hass_blk rfl)) ?_
                refine Seq.val rfl rfl (v_loads (vs := [_, _, _, _]) rfl rfl ag55 sz55 rfl (hass_blk rfl)) ?_
                -- calls tangram/tangramref07.ordered
                refine Seq.rel0 rfl rfl (r_call en62 rfl rfl rfl (fun w' hw => rordered_calls (hA.keep0 hw) (hangsF_iff.1 k4_3))) ?_
                rintro _ rfl
                refine Seq.pur rfl rfl (p_pick_t rfl rfl rfl) ?_
                refine Seq.pur rfl rfl (p_move rfl rfl) ?_
                refine Seq.split 56 rfl (fun k4_13 => ?_) (fun k4_13 => ?_)
                · refine Seq.val rfl rfl (v_loads (vs := [_, _]) rfl rfl ag25 sz25 rfl (hass_blk rfl)) ?_
                  refine Seq.val rfl rfl (v_loads (vs := [_, _, _, _]) rfl rfl ag55 sz55 rfl (hass_blk rfl)) ?_
                  -- calls tangram/tangramref07.leads
                  refine Seq.rel0 rfl rfl (r_call en63 rfl rfl rfl (fun w' hw => rleads_calls (hA.keep0 hw) (hangsF_iff.1 k4_3) (rootF_iff.1 k4_8))) ?_
                  rintro _ rfl
                  refine Seq.pur rfl rfl (p_pick_t rfl rfl rfl) ?_
                  refine Seq.pur rfl rfl (p_assign rfl rfl) ?_
                  refine Seq.nil ?_
                  refine Fin.then ?_
                  refine DC.ret ?_
                  refine Fin.weak (E' := [(4, _)]) ⟨rfl, trivial⟩ .nil ?_
                  refine Fin.end1 (.inl rfl) rfl rfl ?_
                  exact ⟨rfl, by rw [hF]; simp_all⟩
                · refine Seq.skip rfl rfl ?_
                  refine Seq.skip rfl rfl ?_
                  refine Seq.skip rfl rfl ?_
                  refine Seq.pur rfl rfl (p_pick_f rfl rfl rfl) ?_
                  refine Seq.pur rfl rfl (p_assign rfl rfl) ?_
                  refine Seq.nil ?_
                  refine Fin.then ?_
                  refine DC.ret ?_
                  refine Fin.weak (E' := [(4, _)]) ⟨rfl, trivial⟩ .nil ?_
                  refine Fin.end1 (.inl rfl) rfl rfl ?_
                  exact ⟨rfl, by rw [hF]; simp_all⟩
              · refine Seq.skip rfl rfl ?_
                refine Seq.skip rfl rfl ?_
                refine Seq.skip rfl rfl ?_
                refine Seq.pur rfl rfl (p_pick_f rfl rfl rfl) ?_
                refine Seq.pur rfl rfl (p_move rfl rfl) ?_
                refine Seq.skip rfl rfl ?_
                refine Seq.skip rfl rfl ?_
                refine Seq.skip rfl rfl ?_
                refine Seq.pur rfl rfl (p_pick_f rfl rfl rfl) ?_
                refine Seq.pur rfl rfl (p_assign rfl rfl) ?_
                refine Seq.nil ?_
                refine Fin.then ?_
                refine DC.ret ?_
                refine Fin.weak (E' := [(4, _)]) ⟨rfl, trivial⟩ .nil ?_
                refine Fin.end1 (.inl rfl) rfl rfl ?_
                exact ⟨rfl, by rw [hF]; simp_all⟩
            · refine Seq.skip rfl rfl ?_
              refine Seq.skip rfl rfl ?_
              refine Seq.skip rfl rfl ?_
              refine Seq.pur rfl rfl (p_pick_f rfl rfl rfl) ?_
              refine Seq.pur rfl rfl (p_move rfl rfl) ?_
              refine Seq.skip rfl rfl ?_
              refine Seq.skip rfl rfl ?_
              refine Seq.skip rfl rfl ?_
              refine Seq.pur rfl rfl (p_pick_f rfl rfl rfl) ?_
              refine Seq.pur rfl rfl (p_move rfl rfl) ?_
              refine Seq.skip rfl rfl ?_
              refine Seq.skip rfl rfl ?_
              refine Seq.skip rfl rfl ?_
              refine Seq.pur rfl rfl (p_pick_f rfl rfl rfl) ?_
              refine Seq.pur rfl rfl (p_assign rfl rfl) ?_
              refine Seq.nil ?_
              refine Fin.then ?_
              refine DC.ret ?_
              refine Fin.weak (E' := [(4, _)]) ⟨rfl, trivial⟩ .nil ?_
              refine Fin.end1 (.inl rfl) rfl rfl ?_
              exact ⟨rfl, by rw [hF]; simp_all⟩
end Go.Fl
