/- dfs.Valid. -/
import Derived.Test.YtbkhejfnhbjhpaaDValid1
import Derived.Test.YtbkhejfnhbjhpaaValid
set_option linter.unusedVariables false
set_option linter.unusedSimpArgs false
set_option maxRecDepth 100000
namespace Go.Fl
open Go Go.Proofs

theorem placesF_mem {N : Int} : ∀ {od : List Int} {i : Int} {a b : List Int}, placesF N od i a = some b → ∀ x ∈ od, 0 ≤ x ∧ x < N
  | [], i, a, b, h, x, hx => by cases hx
  | v :: r, i, a, b, h, x, hx => by
    rw [placesF_cons] at h
    split at h
    · cases h
    · rcases List.mem_cons.1 hx with rfl | hx
      · omega
      · exact placesF_mem h x hx
theorem hang_ok {es : List Pr} {pa he oi : List Int} {v : Int} (h : hangB es pa he oi v = true) (h0 : 0 ≤ getI pa v) : getI pa v < es.length * 2 ∧ toV es (getI pa v) = v := by
  unfold hangB at h
  rw [if_neg (by omega)] at h
  split at h
  · cases h
  · simp at h
    exact ⟨by omega, h.1⟩
theorem validF_no {N : Int} {es : List Pr} {pa he od oi : List Int} (h : ¬ (Vld N es ∧ Len N es.length pa he od oi)) : validF N es pa he od oi = false := by unfold validF; rw [if_neg h]
theorem validF_yes {N : Int} {es : List Pr} {pa he od oi : List Int} (h1 : Vld N es) (h2 : Len N es.length pa he od oi) : validF N es pa he od oi =
    match placesF N od 0 (List.replicate N.toNat (-1)) with
    | none => false
    | some at' => hangsF es pa he oi N.toNat &&
      match szF es pa od at' N.toNat (List.replicate N.toNat 1) at' with
      | none => false
      | some (_, la) => leadF es pa at' la 0 oi := by unfold validF; rw [if_pos ⟨h1, h2⟩]; rfl
structure VI where
  k : Nat
  sz : List Int
  la : List Int
theorem close_sl {w0 w : World} {K : List Nat} {F : List Chunk} {gl cap t : Nat} {xs : List Int} {sp : List Value} (h1 : xs.length ≤ cap) (h2 : cap ≤ 9223372036854775807) (h3 : xs.length + sp.length = cap)
    (hw : Own w0 K w (blk gl t (ints xs ++ sp).toArray :: F)) : Own w0 K w (slc (.slice (some ⟨gl, 0, none⟩) xs.length cap) t 1 (ints xs) :: F) :=
  own_slc (by simp) (by decide) h1 h2 (by simp; omega) (by simp only [List.toList_toArray, Nat.mul_one]; rw [← ints_length xs]; exact List.take_left) hw

theorem DValid_calls {N : Int} {es : List Pr} {va v0 v1 v2 v3 : Value} {pa he od oi : List Int} {w : World} (hg : PrV w va es) (h0 : SlV w v0 pa) (h1 : SlV w v1 he) (h2 : SlV w v2 od) (h3 : SlV w v3 oi) :
    Calls Try.prog 41 #[.agg #[.int .i64 N, va], .agg #[v0, v1, v2, v3]] w (Ret w [] fun v L => L = [] ∧ v = .bool (validF N es pa he od oi)) := by
  have q0 := h0
  have q1 := h1
  have q2 := h2
  have q3 := h3
  have qg := hg
  obtain ⟨A0, c0', rfl, r0, x0, y0, z0⟩ := q0
  obtain ⟨A1, c1', rfl, r1, x1, y1, z1⟩ := q1
  obtain ⟨A2, c2', rfl, r2, x2, y2, z2⟩ := q2
  obtain ⟨A3, c3', rfl, r3, x3, y3, z3⟩ := q3
  obtain ⟨A, cap, rfl, hr, hlc, hcm, hl⟩ := qg
  refine calls_of (args := [_, _]) (L := []) Try.func41 rfl Try.ntmps41 rfl (Own.start _ _) ?_
  refine DC.seq ?_
  refine DC.region ?_
  refine Seq.new rfl rfl (n_box rfl rfl rfl) fun g2 => ?_
  refine Seq.new rfl rfl (n_box rfl rfl rfl) fun g3 => ?_
  refine Seq.pur rfl rfl (p_assign rfl rfl) ?_
  refine Seq.nil ?_
  refine Fin.then ?_
  refine DC.seq ?_
  refine DC.seq ?_
  refine DC.region ?_
  refine Seq.val rfl rfl (v_loads (vs := [_, _]) rfl rfl ag25 sz25 rfl (hass_blk rfl)) ?_
  -- calls tangram/simple.Valid
  refine Seq.rel0 rfl rfl (r_call en53 rfl rfl rfl (fun w' hw => valid_calls N es A cap w' (hr.keep0 hw) (by omega))) ?_
  rintro _ ⟨b, rfl, hb⟩
  refine Seq.pur rfl rfl (p_not rfl rfl) ?_
  refine Seq.pur rfl rfl (p_move rfl rfl) ?_
  refine Seq.split 21 rfl (fun k1_3 => ?_) (fun k1_3 => ?_)
  · refine Seq.skip rfl rfl ?_
    refine Seq.skip rfl rfl ?_
    refine Seq.skip rfl rfl ?_
    refine Seq.skip rfl rfl ?_
    refine Seq.skip rfl rfl ?_
    refine Seq.skip rfl rfl ?_
    refine Seq.pur rfl rfl (p_pick_t rfl rfl rfl) ?_
    refine Seq.pur rfl rfl (p_move rfl rfl) ?_
    refine Seq.skip rfl rfl ?_
    refine Seq.skip rfl rfl ?_
    refine Seq.skip rfl rfl ?_
    refine Seq.skip rfl rfl ?_
    refine Seq.skip rfl rfl ?_
    refine Seq.skip rfl rfl ?_
    refine Seq.pur rfl rfl (p_pick_t rfl rfl rfl) ?_
    refine Seq.pur rfl rfl (p_move rfl rfl) ?_
    refine Seq.skip rfl rfl ?_
    refine Seq.skip rfl rfl ?_
    refine Seq.skip rfl rfl ?_
    refine Seq.skip rfl rfl ?_
    refine Seq.skip rfl rfl ?_
    refine Seq.skip rfl rfl ?_
    refine Seq.pur rfl rfl (p_pick_t rfl rfl rfl) ?_
    refine Seq.pur rfl rfl (p_move rfl rfl) ?_
    refine Seq.skip rfl rfl ?_
    refine Seq.skip rfl rfl ?_
    refine Seq.skip rfl rfl ?_
    refine Seq.skip rfl rfl ?_
    refine Seq.skip rfl rfl ?_
    refine Seq.skip rfl rfl ?_
    refine Seq.skip rfl rfl ?_
    refine Seq.pur rfl rfl (p_pick_t rfl rfl rfl) ?_
    refine Seq.nil ?_
    refine Fin.then ?_
    refine DC.cond_t rfl ?_
    refine DC.seq ?_
    refine DC.region ?_
    refine Seq.pur rfl rfl (p_assign rfl rfl) ?_
    refine Seq.nil ?_
    refine Fin.then ?_
    refine DC.ret ?_
    refine Fin.ret_then <| ?_
    refine Fin.weak (E' := [(4, _)]) ⟨rfl, trivial⟩ .nil ?_
    refine Fin.end1 (.inl rfl) rfl rfl ?_
    exact ⟨rfl, by rw [validF_no fun h => by rw [hb.2 h.1] at k1_3; cases k1_3]⟩
  · refine Seq.pur rfl rfl (p_field rfl rfl fi55_0 (by first | exact add_at0 _ _ | exact add_at _ _ _ | rfl)) ?_
    refine Seq.val rfl rfl (v_load rfl rfl ag34 (by first | exact has_blk rfl | exact has_old' (by assumption))) ?_
    refine Seq.pur rfl rfl (p_len rfl rfl Try.underlying34) ?_
    refine Seq.pur rfl rfl (p_field rfl rfl fi25_0 (by first | exact add_at0 _ _ | exact add_at _ _ _ | rfl)) ?_
    refine Seq.val rfl rfl (v_load rfl rfl ag3 (by first | exact has_blk rfl | exact has_old' (by assumption))) ?_
    refine Seq.pur rfl rfl (p_neq rfl rfl rfl) ?_
    refine Seq.pur rfl rfl (p_pick_f rfl rfl rfl) ?_
    refine Seq.pur rfl rfl (p_move rfl rfl) ?_
    refine Seq.split 29 rfl (fun k1_11 => ?_) (fun k1_11 => ?_)
    · refine Seq.skip rfl rfl ?_
      refine Seq.skip rfl rfl ?_
      refine Seq.skip rfl rfl ?_
      refine Seq.skip rfl rfl ?_
      refine Seq.skip rfl rfl ?_
      refine Seq.skip rfl rfl ?_
      refine Seq.pur rfl rfl (p_pick_t rfl rfl rfl) ?_
      refine Seq.pur rfl rfl (p_move rfl rfl) ?_
      refine Seq.skip rfl rfl ?_
      refine Seq.skip rfl rfl ?_
      refine Seq.skip rfl rfl ?_
      refine Seq.skip rfl rfl ?_
      refine Seq.skip rfl rfl ?_
      refine Seq.skip rfl rfl ?_
      refine Seq.pur rfl rfl (p_pick_t rfl rfl rfl) ?_
      refine Seq.pur rfl rfl (p_move rfl rfl) ?_
      refine Seq.skip rfl rfl ?_
      refine Seq.skip rfl rfl ?_
      refine Seq.skip rfl rfl ?_
      refine Seq.skip rfl rfl ?_
      refine Seq.skip rfl rfl ?_
      refine Seq.skip rfl rfl ?_
      refine Seq.skip rfl rfl ?_
      refine Seq.pur rfl rfl (p_pick_t rfl rfl rfl) ?_
      refine Seq.nil ?_
      refine Fin.then ?_
      refine DC.cond_t rfl ?_
      refine DC.seq ?_
      refine DC.region ?_
      refine Seq.pur rfl rfl (p_assign rfl rfl) ?_
      refine Seq.nil ?_
      refine Fin.then ?_
      refine DC.ret ?_
      refine Fin.ret_then <| ?_
      refine Fin.weak (E' := [(4, _)]) ⟨rfl, trivial⟩ .nil ?_
      refine Fin.end1 (.inl rfl) rfl rfl ?_
      exact ⟨rfl, by rw [validF_no fun h => by have := h.2.pa; simp at k1_11; omega]⟩
    · refine Seq.pur rfl rfl (p_field rfl rfl fi55_1 (by first | exact add_at0 _ _ | exact add_at _ _ _ | rfl)) ?_
      refine Seq.val rfl rfl (v_load rfl rfl ag34 (by first | exact has_blk rfl | exact has_old' (by assumption))) ?_
      refine Seq.pur rfl rfl (p_len rfl rfl Try.underlying34) ?_
      refine Seq.pur rfl rfl (p_field rfl rfl fi25_0 (by first | exact add_at0 _ _ | exact add_at _ _ _ | rfl)) ?_
      refine Seq.val rfl rfl (v_load rfl rfl ag3 (by first | exact has_blk rfl | exact has_old' (by assumption))) ?_
      refine Seq.pur rfl rfl (p_neq rfl rfl rfl) ?_
      refine Seq.pur rfl rfl (p_pick_f rfl rfl rfl) ?_
      refine Seq.pur rfl rfl (p_move rfl rfl) ?_
      refine Seq.split 37 rfl (fun k1_19 => ?_) (fun k1_19 => ?_)
      · refine Seq.skip rfl rfl ?_
        refine Seq.skip rfl rfl ?_
        refine Seq.skip rfl rfl ?_
        refine Seq.skip rfl rfl ?_
        refine Seq.skip rfl rfl ?_
        refine Seq.skip rfl rfl ?_
        refine Seq.pur rfl rfl (p_pick_t rfl rfl rfl) ?_
        refine Seq.pur rfl rfl (p_move rfl rfl) ?_
        refine Seq.skip rfl rfl ?_
        refine Seq.skip rfl rfl ?_
        refine Seq.skip rfl rfl ?_
        refine Seq.skip rfl rfl ?_
        refine Seq.skip rfl rfl ?_
        refine Seq.skip rfl rfl ?_
        refine Seq.skip rfl rfl ?_
        refine Seq.pur rfl rfl (p_pick_t rfl rfl rfl) ?_
        refine Seq.nil ?_
        refine Fin.then ?_
        refine DC.cond_t rfl ?_
        refine DC.seq ?_
        refine DC.region ?_
        refine Seq.pur rfl rfl (p_assign rfl rfl) ?_
        refine Seq.nil ?_
        refine Fin.then ?_
        refine DC.ret ?_
        refine Fin.ret_then <| ?_
        refine Fin.weak (E' := [(4, _)]) ⟨rfl, trivial⟩ .nil ?_
        refine Fin.end1 (.inl rfl) rfl rfl ?_
        exact ⟨rfl, by rw [validF_no fun h => by have := h.2.he; simp at k1_19; omega]⟩
      · refine Seq.pur rfl rfl (p_field rfl rfl fi55_2 (by first | exact add_at0 _ _ | exact add_at _ _ _ | rfl)) ?_
        refine Seq.val rfl rfl (v_load rfl rfl ag34 (by first | exact has_blk rfl | exact has_old' (by assumption))) ?_
        refine Seq.pur rfl rfl (p_len rfl rfl Try.underlying34) ?_
        refine Seq.pur rfl rfl (p_field rfl rfl fi25_0 (by first | exact add_at0 _ _ | exact add_at _ _ _ | rfl)) ?_
        refine Seq.val rfl rfl (v_load rfl rfl ag3 (by first | exact has_blk rfl | exact has_old' (by assumption))) ?_
        refine Seq.pur rfl rfl (p_neq rfl rfl rfl) ?_
        refine Seq.pur rfl rfl (p_pick_f rfl rfl rfl) ?_
        refine Seq.pur rfl rfl (p_move rfl rfl) ?_
        refine Seq.split 45 rfl (fun k1_27 => ?_) (fun k1_27 => ?_)
        · refine Seq.skip rfl rfl ?_
          refine Seq.skip rfl rfl ?_
          refine Seq.skip rfl rfl ?_
          refine Seq.skip rfl rfl ?_
          refine Seq.skip rfl rfl ?_
          refine Seq.skip rfl rfl ?_
          refine Seq.skip rfl rfl ?_
          refine Seq.pur rfl rfl (p_pick_t rfl rfl rfl) ?_
          refine Seq.nil ?_
          refine Fin.then ?_
          refine DC.cond_t rfl ?_
          refine DC.seq ?_
          refine DC.region ?_
          refine Seq.pur rfl rfl (p_assign rfl rfl) ?_
          refine Seq.nil ?_
          refine Fin.then ?_
          refine DC.ret ?_
          refine Fin.ret_then <| ?_
          refine Fin.weak (E' := [(4, _)]) ⟨rfl, trivial⟩ .nil ?_
          refine Fin.end1 (.inl rfl) rfl rfl ?_
          exact ⟨rfl, by rw [validF_no fun h => by have := h.2.od; simp at k1_27; omega]⟩
        · refine Seq.pur rfl rfl (p_field rfl rfl fi55_3 (by first | exact add_at0 _ _ | exact add_at _ _ _ | rfl)) ?_
          refine Seq.val rfl rfl (v_load rfl rfl ag34 (by first | exact has_blk rfl | exact has_old' (by assumption))) ?_
          refine Seq.pur rfl rfl (p_len rfl rfl Try.underlying34) ?_
          refine Seq.pur rfl rfl (p_field rfl rfl fi25_1 (by first | exact add_at0 _ _ | exact add_at _ _ _ | rfl)) ?_
          refine Seq.val rfl rfl (v_load rfl rfl ag23 (by first | exact has_blk rfl | exact has_old' (by assumption))) ?_
          refine Seq.pur rfl rfl (p_len rfl rfl Try.underlying23) ?_
          refine Seq.pur rfl rfl (p_neq rfl rfl rfl) ?_
          refine Seq.pur rfl rfl (p_pick_f rfl rfl rfl) ?_
          refine Seq.nil ?_
          refine Fin.then ?_
          refine DC.cond rfl (fun c1 => ?_) (fun c1 => ?_)
          · refine DC.seq ?_
            refine DC.region ?_
            refine Seq.pur rfl rfl (p_assign rfl rfl) ?_
            refine Seq.nil ?_
            refine Fin.then ?_
            refine DC.ret ?_
            refine Fin.ret_then <| ?_
            refine Fin.weak (E' := [(4, _)]) ⟨rfl, trivial⟩ .nil ?_
            refine Fin.end1 (.inl rfl) rfl rfl ?_
            exact ⟨rfl, by rw [validF_no fun h => by have := h.2.oi; simp at c1; omega]⟩
          · have hV : Vld N es := hb.1 (by simpa using k1_3)
            have hLen : Len N es.length pa he od oi := ⟨by simpa using k1_11, by simpa using k1_19, by simpa using k1_27, by simp at c1; omega⟩
            have hF := validF_yes hV hLen
            have hN0 := hV.lo
            have hN1 := hV.hi
            have hfew := hV.few
            obtain ⟨Nn, rfl⟩ := Int.eq_ofNat_of_zero_le hN0
            have hNn : Nn ≤ 1048576 := by omega
            have l0 : pa.length = Nn := by have := hLen.pa; omega
            have l1 : he.length = Nn := by have := hLen.he; omega
            have l2 : od.length = Nn := by have := hLen.od; omega
            have l3 : oi.length = es.length := hLen.oi
            rw [Int.toNat_natCast] at hF
            clear k1_3 k1_11 k1_19 k1_27 c1 hb
            refine DC.skip ?_
            refine Fin.then ?_
            refine DC.seq ?_
            refine DC.region ?_
            refine Seq.val rfl rfl (v_loads (vs := [_, _]) rfl rfl ag25 sz25 rfl (hass_blk rfl)) ?_
            refine Seq.val rfl rfl (v_loads (vs := [_, _, _, _]) rfl rfl ag55 sz55 rfl (hass_blk rfl)) ?_
            -- calls tangram/dfs.places
            refine Seq.rel rfl rfl (r_call en56 rfl rfl rfl (fun w' hw => places_calls hNn (h2.keep0 hw))) ?_
            rintro v57 L57 hC57
            obtain ⟨p57, b57, rfl, hC⟩ : ∃ p b, v57 = .tuple #[p, .bool b] ∧ ((b = false ∧ placesF Nn od 0 (List.replicate Nn (-1)) = none) ∨ (b = true ∧ ∃ g at', placesF Nn od 0 (List.replicate Nn (-1)) = some at' ∧ at'.length = Nn ∧ p = .slice (some ⟨g, 0, none⟩) Nn Nn ∧ L57 = [blk g 3 (ints at').toArray])) := by
              rcases hC57 with ⟨e1, e2, e3⟩ | ⟨g, at', e1, e2, e3, e4⟩
              · exact ⟨_, _, e2, .inl ⟨rfl, e1⟩⟩
              · exact ⟨_, _, e3, .inr ⟨rfl, g, at', e1, e2, rfl, e4⟩⟩
            clear hC57
            refine Seq.pur rfl rfl (p_move rfl rfl) ?_
            refine Seq.pur rfl rfl (p_extract rfl rfl rfl) ?_
            refine Seq.pur rfl rfl (p_extract rfl rfl rfl) ?_
            refine Seq.pur rfl rfl (p_assign rfl rfl) ?_
            refine Seq.pur rfl rfl (p_assign rfl rfl) ?_
            refine Seq.nil ?_
            refine Fin.then ?_
            refine DC.seq ?_
            refine DC.seq ?_
            refine DC.region ?_
            refine Seq.pur rfl rfl (p_move rfl rfl) ?_
            refine Seq.pur rfl rfl (p_not rfl rfl) ?_
            refine Seq.nil ?_
            refine Fin.then ?_
            refine DC.cond rfl (fun c4 => ?_) (fun c4 => ?_)
            · rcases hC with ⟨rfl, hC⟩ | ⟨rfl, _⟩
              rotate_left 1
              · simp at c4
              refine DC.seq ?_
              refine DC.region ?_
              refine Seq.pur rfl rfl (p_assign rfl rfl) ?_
              refine Seq.nil ?_
              refine Fin.then ?_
              refine DC.ret ?_
              refine Fin.ret_then <| ?_
              refine Fin.weak (E' := [(4, _)]) ⟨rfl, trivial⟩ .nil ?_
              refine Fin.end1 (.inl rfl) rfl rfl ?_
              exact ⟨rfl, by rw [hF, hC]⟩
            · rcases hC with ⟨rfl, _⟩ | ⟨rfl, ga, at', hpl, hal, rfl, rfl⟩
              · simp at c4
              have hodm := placesF_mem hpl
              rw [hpl] at hF
              dsimp only at hF
              simp only [List.cons_append, List.nil_append]
              refine DC.skip ?_
              refine Fin.then ?_
              refine DC.seq ?_
              refine DC.seq ?_
              refine DC.region ?_
              refine Seq.pur rfl rfl (p_field rfl rfl fi25_0 (by first | exact add_at0 _ _ | exact add_at _ _ _ | rfl)) ?_
              refine Seq.val rfl rfl (v_load rfl rfl ag3 (by first | exact has_blk rfl | exact has_old' (by assumption))) ?_
              refine Seq.pur rfl rfl (p_move rfl rfl) ?_
              refine Seq.nil ?_
              refine Fin.then ?_
              refine DC.block ?_
              refine DC.loop (ι := Nat) (fun v => v ≤ Nn ∧ ∀ x : Nat, x < v → hangB es pa he oi x = true)
                (fun v => [(2, .pointer (some ⟨g2, 0, none⟩)), (3, .pointer (some ⟨g3, 0, none⟩)), (5, .slice (some ⟨ga, 0, none⟩) Nn Nn), (63, .int .i64 (Nn : Int)), (64, .int .i64 v)])
                (fun v => [blk ga 3 (ints at').toArray, blk g3 55 #[.slice A0 pa.length c0', .slice A1 he.length c1', .slice A2 od.length c2', .slice A3 oi.length c3'], blk g2 25 #[.int .i64 (Nn : Int), .slice A es.length cap]])
                (fun v => Nn - v) 0 ⟨Nat.zero_le _, fun _ h => absurd h (Nat.not_lt_zero _)⟩ ⟨rfl, rfl, rfl, rfl, rfl, trivial⟩ (Pick.all _) ?_
              rintro v ⟨hv, hha⟩
              refine DC.seq ?_
              refine DC.region ?_
              refine Seq.pur rfl rfl (p_lss rfl rfl rfl) ?_
              refine Seq.nil ?_
              refine Fin.then ?_
              refine DC.seq ?_
              refine DC.cond rfl (fun c7 => ?_) (fun c7 => ?_)
              · have hlt : v < Nn := by simpa using c7
                refine DC.skip ?_
                refine Fin.then ?_
                refine DC.seq ?_
                refine DC.block ?_
                refine DC.seq ?_
                refine DC.region ?_
                refine Seq.pur rfl rfl (p_move rfl rfl) ?_
                refine Seq.pur rfl rfl (p_assign rfl rfl) ?_
                refine Seq.nil ?_
                refine Fin.then ?_
                refine DC.seq ?_
                refine DC.region ?_
                refine Seq.val rfl rfl (v_loads (vs := [_, _]) rfl rfl ag25 sz25 rfl (hass_blk rfl)) ?_
                refine Seq.val rfl rfl (v_loads (vs := [_, _, _, _]) rfl rfl ag55 sz55 rfl (hass_blk rfl)) ?_
                refine Seq.pur rfl rfl (p_move rfl rfl) ?_
                -- calls tangram/dfs.hangs
                refine Seq.rel0 rfl rfl (r_call en57 rfl rfl rfl (fun w' hw => hangs_calls (hg.keep0 hw) hV (h0.keep0 hw) (h1.keep0 hw) (h3.keep0 hw) l0 l1 l3 (by omega) (by omega))) ?_
                rintro _ rfl
                refine Seq.pur rfl rfl (p_not rfl rfl) ?_
                refine Seq.nil ?_
                refine Fin.then ?_
                refine DC.cond rfl (fun c9 => ?_) (fun c9 => ?_)
                · refine DC.seq ?_
                  refine DC.region ?_
                  refine Seq.pur rfl rfl (p_assign rfl rfl) ?_
                  refine Seq.nil ?_
                  refine Fin.then ?_
                  refine DC.ret ?_
                  refine Fin.ret_block <| Fin.ret_then <| Fin.ret_then <| Fin.ret_block <| Fin.ret_then <| ?_
                  refine Fin.weak (E' := [(4, _)]) ⟨rfl, trivial⟩ .nil ?_
                  refine Fin.end1 (.inl rfl) rfl rfl ?_
                  have : hangsF es pa he oi Nn = false := by
                    unfold hangsF
                    rw [List.all_eq_false]
                    exact ⟨v, List.mem_range.2 hlt, by simpa using c9⟩
                  exact ⟨rfl, by rw [hF, this]; rfl⟩
                · refine DC.skip ?_
                  refine Fin.inBlock ?_
                  refine Fin.then ?_
                  refine DC.region ?_
                  refine Seq.pur rfl rfl (p_add rfl rfl rfl (by omega)) ?_
                  refine Seq.pur rfl rfl (p_move rfl rfl) ?_
                  refine Seq.nil ?_
                  refine Fin.again (v + 1) (by omega) ⟨by omega, fun x hx => ?_⟩ ⟨rfl, rfl, rfl, rfl, rfl, trivial⟩ (Pick.all _)
                  rcases Nat.lt_succ_iff_lt_or_eq.1 hx with hx | rfl
                  · exact hha x hx
                  · simpa using c9
              · have hve : v = Nn := by simp at c7; omega
                rw [hve] at hha
                clear hve c7 hv
                have hhf : hangsF es pa he oi Nn = true := by
                  unfold hangsF
                  rw [List.all_eq_true]
                  intro x hx
                  exact hha x (List.mem_range.1 hx)
                rw [hhf, Bool.true_and] at hF
                refine DC.exit ?_
                refine Fin.exit_then <| Fin.exit_then <| Fin.exit_here <| ?_
                refine Fin.then ?_
                refine DC.seq ?_
                refine DC.region ?_
                refine Seq.pur rfl rfl (p_field rfl rfl fi25_0 (by first | exact add_at0 _ _ | exact add_at _ _ _ | rfl)) ?_
                refine Seq.val rfl rfl (v_load rfl rfl ag3 (by first | exact has_blk rfl | exact has_old' (by assumption))) ?_
                -- calls tangram/dfs.filled
                refine Seq.rel rfl rfl (r_call en58 rfl rfl rfl (fun w' hw => filled_calls Nn 1 w' (by omega))) ?_
                rintro _ _ ⟨gs, rfl, rfl⟩
                simp only [List.cons_append, List.nil_append]
                refine Seq.new rfl rfl (n_slit (cs := #[]) rfl rfl Try.underlying34 sz3 ze3 rfl (by decide) (by decide) rfl rfl) fun g76 => ?_
                refine Seq.pur rfl rfl (p_move rfl rfl) ?_
                refine Seq.gen rfl rfl (g_append (F := [blk gs 3 (ints (List.replicate Nn 1)).toArray, blk ga 3 (ints at').toArray, blk g3 _ _, blk g2 _ _]) (vs := []) (k := Nn) (news := ints at') rfl rfl rfl Try.underlying34 sz3 by3 ze3 rfl (by decide) (by decide)
                  (fun w hw => own_slc (vs := []) (len := 0) (cap := 0) rfl (by decide) (Nat.le_refl _) (by decide) rfl rfl hw) (.inl ⟨_, _, rfl, hass_row0⟩) (by simp [hal]) (ints_one at' []) (by simp; omega)) ?_
                rintro vl _ rfl
                simp only [List.nil_append]
                refine Seq.pur rfl rfl (p_assign rfl rfl) ?_
                refine Seq.pur rfl rfl (p_assign rfl rfl) ?_
                refine Seq.nil ?_
                refine Fin.then ?_
                refine DC.seq ?_
                refine DC.seq ?_
                refine DC.region ?_
                refine Seq.pur rfl rfl (p_field rfl rfl fi25_0 (by first | exact add_at0 _ _ | exact add_at _ _ _ | rfl)) ?_
                refine Seq.val rfl rfl (v_load rfl rfl ag3 (by first | exact has_blk rfl | exact has_old' (by assumption))) ?_
                refine Seq.pur rfl rfl (p_sub rfl rfl rfl (by omega)) ?_
                refine Seq.pur rfl rfl (p_assign rfl rfl) ?_
                refine Seq.nil ?_
                refine Fin.then ?_
                refine DC.block ?_
                refine DC.loop (ι := VI) (fun j => j.k ≤ Nn ∧ j.sz.length = Nn ∧ j.la.length = Nn ∧ szF es pa od at' j.k j.sz j.la = szF es pa od at' Nn (List.replicate Nn 1) at')
                  (fun j => [(2, .pointer (some ⟨g2, 0, none⟩)), (3, .pointer (some ⟨g3, 0, none⟩)), (5, .slice (some ⟨ga, 0, none⟩) Nn Nn), (8, .slice (some ⟨gs, 0, none⟩) Nn Nn), (9, vl), (10, .int .i64 ((j.k : Int) - 1))])
                  (fun j => [slc vl 3 1 (ints j.la), blk gs 3 (ints j.sz).toArray, blk ga 3 (ints at').toArray, blk g3 55 #[.slice A0 pa.length c0', .slice A1 he.length c1', .slice A2 od.length c2', .slice A3 oi.length c3'], blk g2 25 #[.int .i64 (Nn : Int), .slice A es.length cap]])
                  (fun j => j.k) ⟨Nn, List.replicate Nn 1, at'⟩ ⟨Nat.le_refl _, by simp, hal, rfl⟩ ⟨rfl, rfl, rfl, rfl, rfl, rfl, trivial⟩ (Pick.all _) ?_
                rintro ⟨k, sz, la⟩ ⟨hk, hsz, hla, hS⟩
                dsimp only at hk hsz hla hS ⊢
                refine DC.seq ?_
                refine DC.seq ?_
                refine DC.region ?_
                refine Seq.pur rfl rfl (p_move rfl rfl) ?_
                refine Seq.pur rfl rfl (p_geq rfl rfl rfl) ?_
                refine Seq.nil ?_
                refine Fin.then ?_
                refine DC.cond rfl (fun c14 => ?_) (fun c14 => ?_)
                · obtain ⟨k, rfl⟩ : ∃ k', k = k' + 1 := ⟨k - 1, by simp at c14; omega⟩
                  have hodk := getI_some (l := od) (i := (k : Int)) (by omega)
                  have hvr := hodm _ (List.mem_of_getElem? hodk)
                  obtain ⟨v, hv⟩ : ∃ v, v = getI od k := ⟨_, rfl⟩
                  rw [szF_succ, ← hv] at hS
                  rw [← hv] at hodk hvr
                  obtain ⟨a2, c2'', he2, x2'⟩ := h2.cell (i := (k : Int)) (by omega) (by omega)
                  cases he2
                  rw [← hv] at x2'
                  obtain ⟨a0, c0'', he0, x0'⟩ := h0.cell (i := v) hvr.1 (by omega)
                  cases he0
                  have hlav := getI_some (l := la) (i := v) (by omega)
                  have hszv := getI_some (l := sz) (i := v) (by omega)
                  have hatv := getI_some (l := at') (i := v) (by omega)
                  refine DC.open (fun _ hn => by have := congrArg List.length hn; rw [ints_length, List.length_nil] at this; omega) ?_
                  rintro gl len cl sp rfl hlen hlc2 hcl hsp
                  obtain rfl : len = la.length := by simp at hlen; omega
                  refine DC.skip ?_
                  refine Fin.then ?_
                  refine DC.seq ?_
                  refine DC.block ?_
                  refine DC.seq ?_
                  refine DC.region ?_
                  refine Seq.pur rfl rfl (p_field rfl rfl fi55_2 (by first | exact add_at0 _ _ | exact add_at _ _ _ | rfl)) ?_
                  refine Seq.val rfl rfl (v_load rfl rfl ag34 (by first | exact has_blk rfl | exact has_old' (by assumption))) ?_
                  refine Seq.pur rfl rfl (p_move rfl rfl) ?_
                  refine Seq.pur rfl rfl (p_index1 (ad' := a2.add k) rfl rfl rfl Try.underlying34 sz3 (by omega) (by omega) (by congr 1; omega)) ?_
                  refine Seq.val rfl rfl (v_load rfl rfl ag3 (has_old' x2')) ?_
                  refine Seq.pur rfl rfl (p_assign rfl rfl) ?_
                  refine Seq.nil ?_
                  refine Fin.then ?_
                  refine DC.seq ?_
                  refine DC.seq ?_
                  refine DC.flow (cl := [.q, .q, .q, .v, .q, .q, .q, .v, .q, .q, .q, .v, .q, .q, .q]) (A := [0, 0, 3, 7, 0, 0, 48, 112, 0, 0, 768, 1792, 4080, 8176, 16383]) (order := [0, 1, 2, 3, 4, 5, 6, 7, 8, 9, 10, 11, 12, 13, 14]) [] mixed (by kernel_rfl) (fun w hw => hw.pick .nil) ?_
                  refine Flow.pur rfl rfl rfl (p_move rfl rfl) ?_
                  refine Flow.pur rfl rfl rfl (p_move rfl rfl) ?_
                  refine Flow.pur rfl rfl rfl (p_index1 (ad' := ⟨gl, v.toNat, none⟩) rfl rfl rfl Try.underlying34 sz3 (by omega) (by omega) (by rw [add_at0])) ?_
                  refine Flow.valS rfl rfl rfl rfl (v_load rfl rfl ag3 (has_row (row_get hlav))) ?_
                  refine Flow.pur rfl rfl rfl (p_move rfl rfl) ?_
                  refine Flow.pur rfl rfl rfl (p_move rfl rfl) ?_
                  refine Flow.pur rfl rfl rfl (p_index1 (ad' := ⟨ga, v.toNat, none⟩) rfl rfl rfl Try.underlying34 sz3 (by omega) (by omega) (by rw [add_at0])) ?_
                  refine Flow.valS rfl rfl rfl rfl (v_load rfl rfl ag3 (has_row (ints_arr hatv))) ?_
                  refine Flow.pur rfl rfl rfl (p_move rfl rfl) ?_
                  refine Flow.pur rfl rfl rfl (p_move rfl rfl) ?_
                  refine Flow.pur rfl rfl rfl (p_index1 (ad' := ⟨gs, v.toNat, none⟩) rfl rfl rfl Try.underlying34 sz3 (by omega) (by omega) (by rw [add_at0])) ?_
                  refine Flow.valS rfl rfl rfl rfl (v_load rfl rfl ag3 (has_row (ints_arr hszv))) ?_
                  refine Flow.pur rfl rfl rfl (p_addw rfl rfl rfl) ?_
                  refine Flow.pur rfl rfl rfl (p_subw rfl rfl rfl) ?_
                  refine Flow.pur rfl rfl rfl (p_neq rfl rfl rfl) ?_
                  refine Flow.end rfl ?_
                  simp only [List.map_cons, List.map_nil, List.nil_append, List.cons_append, List.append_nil]
                  refine Fin.then ?_
                  refine DC.cond rfl (fun c17 => ?_) (fun c17 => ?_)
                  · refine DC.seq ?_
                    refine DC.region ?_
                    refine Seq.pur rfl rfl (p_assign rfl rfl) ?_
                    refine Seq.nil ?_
                    refine Fin.then ?_
                    refine DC.ret ?_
                    refine Fin.ret_then <| Fin.ret_block <| Fin.ret_then <| Fin.ret_then <| Fin.ret_block <| Fin.ret_then <| ?_
                    refine Fin.weak (E' := [(4, _)]) ⟨rfl, trivial⟩ .nil ?_
                    refine Fin.end1 (.inl rfl) rfl rfl ?_
                    have e17 : getI la v ≠ wr (wr (getI at' v + getI sz v) - 1) := by simpa [wr] using c17
                    rw [if_pos e17] at hS
                    exact ⟨rfl, by rw [hF, ← hS]⟩
                  · have e17 : ¬ getI la v ≠ wr (wr (getI at' v + getI sz v) - 1) := by simpa [wr] using c17
                    rw [if_neg e17] at hS
                    refine DC.skip ?_
                    refine Fin.then ?_
                    refine DC.seq ?_
                    refine DC.seq ?_
                    refine DC.region ?_
                    refine Seq.pur rfl rfl (p_field rfl rfl fi55_0 (by first | exact add_at0 _ _ | exact add_at _ _ _ | rfl)) ?_
                    refine Seq.val rfl rfl (v_load rfl rfl ag34 (by first | exact has_blk rfl | exact has_old' (by assumption))) ?_
                    refine Seq.pur rfl rfl (p_move rfl rfl) ?_
                    refine Seq.pur rfl rfl (p_index1 (ad' := a0.add v.toNat) rfl rfl rfl Try.underlying34 sz3 (by omega) (by omega) rfl) ?_
                    refine Seq.val rfl rfl (v_load rfl rfl ag3 (has_old' x0')) ?_
                    refine Seq.pur rfl rfl (p_lss rfl rfl rfl) ?_
                    refine Seq.nil ?_
                    refine Fin.then ?_
                    refine DC.cond rfl (fun c19 => ?_) (fun c19 => ?_)
                    · refine DC.exit ?_
                      refine Fin.exit_then <| Fin.exit_here <| ?_
                      refine Fin.then ?_
                      refine DC.region ?_
                      refine Seq.pur rfl rfl (p_move rfl rfl) ?_
                      refine Seq.pur rfl rfl (p_sub rfl rfl rfl (by omega)) ?_
                      refine Seq.pur rfl rfl (p_assign rfl rfl) ?_
                      refine Seq.nil ?_
                      rw [if_pos (by simpa using c19)] at hS
                      refine Fin.own (fun w hw => close_sl hlc2 hcl (by simp at hsp; omega) hw) ?_
                      refine Fin.again (VI.mk k sz la) (by dsimp only; omega) ⟨by dsimp only; omega, hsz, hla, hS⟩ ⟨rfl, rfl, rfl, rfl, rfl, by rw [show ((k : Nat) : Int) - 1 = ((k + 1 : Nat) : Int) - 1 - 1 by omega]; rfl, trivial⟩ (Pick.all _)
                    · have hp0 : 0 ≤ getI pa v := by simp at c19; omega
                      rw [if_neg (by omega)] at hS
                      have hvn : ((v.toNat : Nat) : Int) = v := Int.toNat_of_nonneg hvr.1
                      have hho := hang_ok (by have := hha v.toNat (by omega); rwa [hvn] at this) hp0
                      have hfr := fromV_range hV hp0 (by omega)
                      obtain ⟨u, hu⟩ : ∃ u, u = fromV es (getI pa v) := ⟨_, rfl⟩
                      rw [← hu] at hS hfr
                      have hlau := getI_some (l := la) (i := u) (by omega)
                      have hszu := getI_some (l := sz) (i := u) (by omega)
                      have hatu := getI_some (l := at') (i := u) (by omega)
                      refine DC.skip ?_
                      refine Fin.then ?_
                      refine DC.seq ?_
                      refine DC.flow (cl := [.v, .q, .v, .q, .q, .v, .r, .q, .q, .q, .q, .q]) (A := [0, 0, 2, 0, 14, 30, 63, 127, 255, 255, 511, 2047]) (order := [0, 1, 2, 3, 4, 5, 6, 7, 8, 9, 10, 11]) [] mixed (by kernel_rfl) (fun w hw => hw.pick .nil) ?_
                      refine Flow.valS rfl rfl rfl rfl (v_loads (vs := [_, _]) rfl rfl ag25 sz25 rfl (hass_blk rfl)) ?_
                      refine Flow.pur rfl rfl rfl (p_field rfl rfl fi55_0 (by first | exact add_at0 _ _ | exact add_at _ _ _ | rfl)) ?_
                      refine Flow.valS rfl rfl rfl rfl (v_load rfl rfl ag34 (by first | exact has_blk rfl | exact has_old' (by assumption))) ?_
                      refine Flow.pur rfl rfl rfl (p_move rfl rfl) ?_
                      refine Flow.pur rfl rfl rfl (p_index1 (ad' := a0.add v.toNat) rfl rfl rfl Try.underlying34 sz3 (by omega) (by omega) rfl) ?_
                      refine Flow.valS rfl rfl rfl rfl (v_load rfl rfl ag3 (has_old' x0')) ?_
                      -- calls tangram/dfs.ends
                      refine Flow.rel0 rfl rfl rfl rfl (r_call en59 rfl rfl rfl (fun w' hw => ends_calls (hg.keep0 hw) hp0 (by omega))) ?_
                      rintro _ rfl
                      rw [← hu]
                      refine Flow.pur rfl rfl rfl (p_move rfl rfl) ?_
                      refine Flow.pur rfl rfl rfl (p_extract rfl rfl rfl) ?_
                      refine Flow.pur rfl rfl rfl (p_extract rfl rfl rfl) ?_
                      refine Flow.pur rfl rfl rfl (p_assign rfl rfl) ?_
                      refine Flow.pur rfl rfl rfl (p_assign rfl rfl) ?_
                      refine Flow.end rfl ?_
                      simp only [List.map_cons, List.map_nil, List.nil_append, List.cons_append, List.append_nil]
                      refine Fin.then ?_
                      refine DC.seq ?_
                      refine DC.seq ?_
                      refine DC.region ?_
                      refine Seq.pur rfl rfl (p_move rfl rfl) ?_
                      refine Seq.pur rfl rfl (p_move rfl rfl) ?_
                      refine Seq.pur rfl rfl (p_index1 (ad' := ⟨ga, u.toNat, none⟩) rfl rfl rfl Try.underlying34 sz3 (by omega) (by omega) (by rw [add_at0])) ?_
                      refine Seq.val rfl rfl (v_load rfl rfl ag3 (has_row (ints_arr hatu))) ?_
                      refine Seq.pur rfl rfl (p_move rfl rfl) ?_
                      refine Seq.pur rfl rfl (p_geq rfl rfl rfl) ?_
                      refine Seq.nil ?_
                      refine Fin.then ?_
                      refine DC.cond rfl (fun c21 => ?_) (fun c21 => ?_)
                      · refine DC.seq ?_
                        refine DC.region ?_
                        refine Seq.pur rfl rfl (p_assign rfl rfl) ?_
                        refine Seq.nil ?_
                        refine Fin.then ?_
                        refine DC.ret ?_
                        refine Fin.ret_then <| Fin.ret_block <| Fin.ret_then <| Fin.ret_then <| Fin.ret_block <| Fin.ret_then <| ?_
                        refine Fin.weak (E' := [(4, _)]) ⟨rfl, trivial⟩ .nil ?_
                        refine Fin.end1 (.inl rfl) rfl rfl ?_
                        rw [if_pos (by simp at c21; omega)] at hS
                        exact ⟨rfl, by rw [hF, ← hS]⟩
                      · rw [if_neg (by simp at c21; omega)] at hS
                        refine DC.skip ?_
                        refine Fin.then ?_
                        refine DC.seq ?_
                        refine DC.flow (cl := [.q, .q, .q, .v, .q, .q, .q, .v, .q, .q, .g]) (A := [0, 0, 3, 7, 0, 0, 48, 112, 255, 511, 1023]) (order := [0, 1, 2, 3, 4, 5, 6, 7, 8, 9, 10]) [] mixed (by kernel_rfl) (fun w hw => hw.pick .nil) ?_
                        refine Flow.pur rfl rfl rfl (p_move rfl rfl) ?_
                        refine Flow.pur rfl rfl rfl (p_move rfl rfl) ?_
                        refine Flow.pur rfl rfl rfl (p_index1 (ad' := ⟨gs, u.toNat, none⟩) rfl rfl rfl Try.underlying34 sz3 (by omega) (by omega) (by rw [add_at0])) ?_
                        refine Flow.valS rfl rfl rfl rfl (v_load rfl rfl ag3 (has_row (ints_arr hszu))) ?_
                        refine Flow.pur rfl rfl rfl (p_move rfl rfl) ?_
                        refine Flow.pur rfl rfl rfl (p_move rfl rfl) ?_
                        refine Flow.pur rfl rfl rfl (p_index1 (ad' := ⟨gs, v.toNat, none⟩) rfl rfl rfl Try.underlying34 sz3 (by omega) (by omega) (by rw [add_at0])) ?_
                        refine Flow.valS rfl rfl rfl rfl (v_load rfl rfl ag3 (has_row (ints_arr hszv))) ?_
                        refine Flow.pur rfl rfl rfl (p_addw rfl rfl rfl) ?_
                        refine Flow.pur rfl rfl rfl (p_index1 (ad' := ⟨gs, u.toNat, none⟩) rfl rfl rfl Try.underlying34 sz3 (by omega) (by omega) (by rw [add_at0])) ?_
                        refine Flow.sto0 rfl rfl rfl rfl (s_store (cs' := (ints (sz.set u.toNat (wr (getI sz u + getI sz v)))).toArray) rfl rfl rfl sz3 rfl (by simp; omega) row_set0) (fun w hw => hw.pick (.nil)) ?_
                        refine Flow.end rfl ?_
                        simp only [List.map_cons, List.map_nil, List.nil_append, List.cons_append, List.append_nil]
                        refine Fin.then ?_
                        refine DC.flow (cl := [.q, .q, .q, .q, .q, .v, .q, .q, .q, .v, .q, .q, .g]) (A := [0, 0, 0, 0, 12, 28, 0, 0, 192, 448, 1020, 2047, 4095]) (order := [0, 1, 2, 3, 4, 5, 6, 7, 8, 9, 10, 11, 12]) [] mixed (by kernel_rfl) (fun w hw => hw.pick .nil) ?_
                        refine Flow.pur rfl rfl rfl (p_move rfl rfl) ?_
                        refine Flow.pur rfl rfl rfl (p_move rfl rfl) ?_
                        refine Flow.pur rfl rfl rfl (p_move rfl rfl) ?_
                        refine Flow.pur rfl rfl rfl (p_move rfl rfl) ?_
                        refine Flow.pur rfl rfl rfl (p_index1 (ad' := ⟨gl, u.toNat, none⟩) rfl rfl rfl Try.underlying34 sz3 (by omega) (by omega) (by rw [add_at0])) ?_
                        refine Flow.valS rfl rfl rfl rfl (v_load rfl rfl ag3 (has_row (row_get hlau))) ?_
                        refine Flow.pur rfl rfl rfl (p_move rfl rfl) ?_
                        refine Flow.pur rfl rfl rfl (p_move rfl rfl) ?_
                        refine Flow.pur rfl rfl rfl (p_index1 (ad' := ⟨gl, v.toNat, none⟩) rfl rfl rfl Try.underlying34 sz3 (by omega) (by omega) (by rw [add_at0])) ?_
                        refine Flow.valS rfl rfl rfl rfl (v_load rfl rfl ag3 (has_row (row_get hlav))) ?_
                        refine Flow.pur rfl rfl rfl (p_max rfl rfl rfl) ?_
                        refine Flow.pur rfl rfl rfl (p_index1 (ad' := ⟨gl, u.toNat, none⟩) rfl rfl rfl Try.underlying34 sz3 (by omega) (by omega) (by rw [add_at0])) ?_
                        refine Flow.sto0 rfl rfl rfl rfl (s_store (cs' := (ints (la.set u.toNat (max (getI la u) (getI la v))) ++ sp).toArray) rfl rfl rfl sz3 rfl (by simp; omega) (row_set (by omega))) (fun w hw => hw.pick (.nil)) ?_
                        refine Flow.end rfl ?_
                        simp only [List.map_cons, List.map_nil, List.nil_append, List.cons_append, List.append_nil]
                        refine Fin.inBlock ?_
                        refine Fin.then ?_
                        refine DC.region ?_
                        refine Seq.pur rfl rfl (p_move rfl rfl) ?_
                        refine Seq.pur rfl rfl (p_sub rfl rfl rfl (by omega)) ?_
                        refine Seq.pur rfl rfl (p_assign rfl rfl) ?_
                        refine Seq.nil ?_
                        refine Fin.own (fun w hw => close_sl (xs := la.set u.toNat (max (getI la u) (getI la v))) (by rw [List.length_set]; exact hlc2) hcl (by simp at hsp ⊢; omega) hw) ?_
                        refine Fin.again (VI.mk k (sz.set u.toNat (wr (getI sz u + getI sz v))) (la.set u.toNat (max (getI la u) (getI la v)))) (by dsimp only; omega) ⟨by dsimp only; omega, by simp [hsz], by simp [hla], hS⟩ ⟨rfl, rfl, rfl, rfl, rfl, by rw [show ((k : Nat) : Int) - 1 = ((k + 1 : Nat) : Int) - 1 - 1 by omega]; rfl, trivial⟩ (.cons' 0 rfl (by simp) (Pick.all _))
                · obtain rfl : k = 0 := by simp at c14; omega
                  rw [← hS] at hF
                  replace hF : validF Nn es pa he od oi = leadF es pa at' la 0 oi := hF
                  refine DC.exit ?_
                  refine Fin.exit_then <| Fin.exit_then <| Fin.exit_here <| ?_
                  refine Fin.then ?_
                  refine DC.seq ?_
                  refine DC.seq ?_
                  refine DC.region ?_
                  refine Seq.pur rfl rfl (p_field rfl rfl fi55_3 (by first | exact add_at0 _ _ | exact add_at _ _ _ | rfl)) ?_
                  refine Seq.val rfl rfl (v_load rfl rfl ag34 (by first | exact has_blk rfl | exact has_old' (by assumption))) ?_
                  refine Seq.pur rfl rfl (p_len rfl rfl Try.underlying34) ?_
                  refine Seq.pur rfl rfl (p_move rfl rfl) ?_
                  refine Seq.nil ?_
                  refine Fin.then ?_
                  refine DC.block ?_
                  refine DC.loop (ι := Nat) (fun e => e ≤ oi.length ∧ leadF es pa at' la e (oi.drop e) = leadF es pa at' la 0 oi)
                    (fun e => [(2, .pointer (some ⟨g2, 0, none⟩)), (3, .pointer (some ⟨g3, 0, none⟩)), (5, .slice (some ⟨ga, 0, none⟩) Nn Nn), (9, vl), (151, .slice A3 oi.length c3'), (152, .int .i64 oi.length), (153, .int .i64 e)])
                    (fun e => [slc vl 3 1 (ints la), blk ga 3 (ints at').toArray, blk g3 55 #[.slice A0 pa.length c0', .slice A1 he.length c1', .slice A2 od.length c2', .slice A3 oi.length c3'], blk g2 25 #[.int .i64 (Nn : Int), .slice A es.length cap]])
                    (fun e => oi.length - e) 0 ⟨Nat.zero_le _, rfl⟩ ⟨rfl, rfl, rfl, rfl, rfl, rfl, rfl, trivial⟩ (.cons 0 rfl (.cons 1 rfl (.cons 1 rfl (.cons 1 rfl .nil)))) ?_
                  rintro e ⟨hi, hL⟩
                  refine DC.seq ?_
                  refine DC.region ?_
                  refine Seq.pur rfl rfl (p_lss rfl rfl rfl) ?_
                  refine Seq.nil ?_
                  refine Fin.then ?_
                  refine DC.seq ?_
                  refine DC.cond rfl (fun c26 => ?_) (fun c26 => ?_)
                  · have hlt : e < oi.length := by simpa using c26
                    obtain ⟨h, hh⟩ : ∃ h, oi[e]? = some h := ⟨_, List.getElem?_eq_getElem hlt⟩
                    have hdrop : oi.drop e = h :: oi.drop (e + 1) := by rw [List.drop_eq_getElem_cons hlt, (List.getElem?_eq_some_iff.1 hh).2]
                    rw [hdrop, leadF_cons] at hL
                    obtain ⟨a3, rfl, x3'⟩ := r3.int hh
                    refine DC.skip ?_
                    refine Fin.then ?_
                    refine DC.seq ?_
                    refine DC.block ?_
                    refine DC.seq ?_
                    refine DC.region ?_
                    refine Seq.pur rfl rfl (p_move rfl rfl) ?_
                    refine Seq.pur rfl rfl (p_index1 (ad' := a3.add e) rfl rfl rfl Try.underlying34 sz3 (by omega) (by omega) rfl) ?_
                    refine Seq.val rfl rfl (v_load rfl rfl ag3 (has_old' x3')) ?_
                    refine Seq.pur rfl rfl (p_assign rfl rfl) ?_
                    refine Seq.pur rfl rfl (p_assign rfl rfl) ?_
                    refine Seq.nil ?_
                    refine Fin.then ?_
                    refine DC.seq ?_
                    refine DC.seq ?_
                    refine DC.region ?_
                    refine Seq.pur rfl rfl (p_move rfl rfl) ?_
                    refine Seq.pur rfl rfl (p_move rfl rfl) ?_
                    refine Seq.pur rfl rfl (p_mul rfl rfl rfl (by omega)) ?_
                    refine Seq.pur rfl rfl (p_neq rfl rfl rfl) ?_
                    refine Seq.pur rfl rfl (p_move rfl rfl) ?_
                    refine Seq.split 162 rfl (fun k28_4 => ?_) (fun k28_4 => ?_)
                    · refine Seq.pur rfl rfl (p_move rfl rfl) ?_
                      refine Seq.pur rfl rfl (p_move rfl rfl) ?_
                      refine Seq.pur rfl rfl (p_mul rfl rfl rfl (by omega)) ?_
                      refine Seq.pur rfl rfl (p_add rfl rfl rfl (by omega)) ?_
                      refine Seq.pur rfl rfl (p_neq rfl rfl rfl) ?_
                      refine Seq.pur rfl rfl (p_pick_t rfl rfl rfl) ?_
                      refine Seq.nil ?_
                      refine Fin.then ?_
                      refine DC.cond rfl (fun c28 => ?_) (fun c28 => ?_)
                      · refine DC.seq ?_
                        refine DC.region ?_
                        refine Seq.pur rfl rfl (p_assign rfl rfl) ?_
                        refine Seq.nil ?_
                        refine Fin.then ?_
                        refine DC.ret ?_
                        refine Fin.ret_then <| Fin.ret_block <| Fin.ret_then <| Fin.ret_then <| Fin.ret_block <| Fin.ret_then <| ?_
                        refine Fin.weak (E' := [(4, _)]) ⟨rfl, trivial⟩ .nil ?_
                        refine Fin.end1 (.inl rfl) rfl rfl ?_
                        rw [if_pos (by simp at k28_4 c28; omega)] at hL
                        exact ⟨rfl, by rw [hF, ← hL]⟩
                      · refine DC.skip ?_
                        refine Fin.then ?_
                        refine DC.seq ?_
                        have hne : ¬ (h ≠ 2 * (e : Int) ∧ h ≠ 2 * (e : Int) + 1) := by first | (simp at k28_4 c28; omega) | (simp at k28_4; omega)
                        rw [if_neg hne] at hL
                        have hm0 : 0 ≤ h := by omega
                        have hm1 : h < es.length * 2 := by omega
                        have hfr := fromV_range hV hm0 hm1
                        have htr := toV_range hV hm0 hm1
                        have hatv := getI_some (l := at') (i := fromV es h) (by omega)
                        have hatw := getI_some (l := at') (i := toV es h) (by omega)
                        have hlaw := getI_some (l := la) (i := toV es h) (by omega)
                        obtain ⟨a0, c0'', he0, x0'⟩ := h0.cell (i := toV es h) htr.1 (by omega)
                        cases he0
                        refine DC.open (fun _ hn => by have := congrArg List.length hn; rw [ints_length, List.length_nil] at this; omega) ?_
                        rintro gl len cl sp rfl hlen hlc2 hcl hsp
                        obtain rfl : len = la.length := by simp at hlen; omega
                        refine DC.region ?_
                        refine Seq.val rfl rfl (v_loads (vs := [_, _]) rfl rfl ag25 sz25 rfl (hass_blk rfl)) ?_
                        refine Seq.pur rfl rfl (p_move rfl rfl) ?_
                        -- calls tangram/dfs.ends
                        refine Seq.rel0 rfl rfl (r_call en59 rfl rfl rfl (fun w' hw => ends_calls (hg.keep0 hw) hm0 hm1)) ?_
                        rintro _ rfl
                        refine Seq.pur rfl rfl (p_move rfl rfl) ?_
                        refine Seq.pur rfl rfl (p_extract rfl rfl rfl) ?_
                        refine Seq.pur rfl rfl (p_extract rfl rfl rfl) ?_
                        refine Seq.pur rfl rfl (p_assign rfl rfl) ?_
                        refine Seq.pur rfl rfl (p_assign rfl rfl) ?_
                        refine Seq.nil ?_
                        refine Fin.then ?_
                        refine DC.seq ?_
                        refine DC.flow (cl := [.q, .v, .q, .q, .v, .q, .q, .q, .q, .q, .q, .v, .q, .q, .q, .v, .q, .q, .q, .q, .q, .v, .q, .q, .q, .v, .q, .q, .q]) (A := [0, 1, 0, 7, 15, 0, 63, 127, 255, 255, 1023, 2047, 255, 255, 12543, 28927, 65535, 131071, 262143, 262143, 1048575, 2097151, 262143, 262143, 12845055, 29622271, 67108863, 134217727, 268435455]) (order := [0, 1, 2, 3, 4, 5, 6, 7, 8, 9, 10, 11, 12, 13, 14, 15, 16, 17, 18, 19, 20, 21, 22, 23, 24, 25, 26, 27, 28]) [] mixed (by kernel_rfl) (fun w hw => hw.pick .nil) ?_
                        refine Flow.pur rfl rfl rfl (p_field rfl rfl fi55_0 (by first | exact add_at0 _ _ | exact add_at _ _ _ | rfl)) ?_
                        refine Flow.valS rfl rfl rfl rfl (v_load rfl rfl ag34 (by first | exact has_blk rfl | exact has_old' (by assumption))) ?_
                        refine Flow.pur rfl rfl rfl (p_move rfl rfl) ?_
                        refine Flow.pur rfl rfl rfl (p_index1 (ad' := a0.add (toV es h).toNat) rfl rfl rfl Try.underlying34 sz3 (by omega) (by omega) rfl) ?_
                        refine Flow.valS rfl rfl rfl rfl (v_load rfl rfl ag3 (has_old' x0')) ?_
                        refine Flow.pur rfl rfl rfl (p_move rfl rfl) ?_
                        refine Flow.pur rfl rfl rfl (p_neq rfl rfl rfl) ?_
                        refine Flow.pur rfl rfl rfl (p_move rfl rfl) ?_
                        refine Flow.split 182 rfl (fun k31_7 => ?_) (fun k31_7 => ?_)
                        · refine Flow.pur rfl rfl rfl (p_move rfl rfl) ?_
                          refine Flow.pur rfl rfl rfl (p_move rfl rfl) ?_
                          refine Flow.pur rfl rfl rfl (p_index1 (ad' := ⟨ga, (toV es h).toNat, none⟩) rfl rfl rfl Try.underlying34 sz3 (by omega) (by omega) (by rw [add_at0])) ?_
                          refine Flow.valS rfl rfl rfl rfl (v_load rfl rfl ag3 (has_row (ints_arr hatw))) ?_
                          refine Flow.pur rfl rfl rfl (p_move rfl rfl) ?_
                          refine Flow.pur rfl rfl rfl (p_move rfl rfl) ?_
                          refine Flow.pur rfl rfl rfl (p_index1 (ad' := ⟨ga, (fromV es h).toNat, none⟩) rfl rfl rfl Try.underlying34 sz3 (by omega) (by omega) (by rw [add_at0])) ?_
                          refine Flow.valS rfl rfl rfl rfl (v_load rfl rfl ag3 (has_row (ints_arr hatv))) ?_
                          refine Flow.pur rfl rfl rfl (p_geq rfl rfl rfl) ?_
                          refine Flow.pur rfl rfl rfl (p_move rfl rfl) ?_
                          refine Flow.split 192 rfl (fun k31_17 => ?_) (fun k31_17 => ?_)
                          · refine Flow.skip rfl rfl rfl ?_
                            refine Flow.skip rfl rfl rfl ?_
                            refine Flow.skip rfl rfl rfl ?_
                            refine Flow.skip rfl rfl rfl ?_
                            refine Flow.skip rfl rfl rfl ?_
                            refine Flow.skip rfl rfl rfl ?_
                            refine Flow.skip rfl rfl rfl ?_
                            refine Flow.skip rfl rfl rfl ?_
                            refine Flow.skip rfl rfl rfl ?_
                            refine Flow.pur rfl rfl rfl (p_pick_t rfl rfl rfl) ?_
                            refine Flow.pur rfl rfl rfl (p_pick_t rfl rfl rfl) ?_
                            refine Flow.end rfl ?_
                            simp only [List.map_cons, List.map_nil, List.nil_append, List.cons_append, List.append_nil]
                            refine Fin.then ?_
                            refine DC.cond_t rfl ?_
                            refine DC.seq ?_
                            refine DC.region ?_
                            refine Seq.pur rfl rfl (p_assign rfl rfl) ?_
                            refine Seq.nil ?_
                            refine Fin.then ?_
                            refine DC.ret ?_
                            refine Fin.ret_block <| Fin.ret_then <| Fin.ret_then <| Fin.ret_block <| Fin.ret_then <| ?_
                            refine Fin.weak (E' := [(4, _)]) ⟨rfl, trivial⟩ .nil ?_
                            refine Fin.end1 (.inl rfl) rfl rfl ?_
                            rw [if_pos (by simp at k31_7 k31_17; exact ⟨k31_7, .inl k31_17⟩)] at hL
                            exact ⟨rfl, by rw [hF, ← hL]⟩
                          · refine Flow.pur rfl rfl rfl (p_move rfl rfl) ?_
                            refine Flow.pur rfl rfl rfl (p_move rfl rfl) ?_
                            refine Flow.pur rfl rfl rfl (p_index1 (ad' := ⟨ga, (fromV es h).toNat, none⟩) rfl rfl rfl Try.underlying34 sz3 (by omega) (by omega) (by rw [add_at0])) ?_
                            refine Flow.valS rfl rfl rfl rfl (v_load rfl rfl ag3 (has_row (ints_arr hatv))) ?_
                            refine Flow.pur rfl rfl rfl (p_move rfl rfl) ?_
                            refine Flow.pur rfl rfl rfl (p_move rfl rfl) ?_
                            refine Flow.pur rfl rfl rfl (p_index1 (ad' := ⟨gl, (toV es h).toNat, none⟩) rfl rfl rfl Try.underlying34 sz3 (by omega) (by omega) (by rw [add_at0])) ?_
                            refine Flow.valS rfl rfl rfl rfl (v_load rfl rfl ag3 (has_row (row_get hlaw))) ?_
                            refine Flow.pur rfl rfl rfl (p_gtr rfl rfl rfl) ?_
                            refine Flow.pur rfl rfl rfl (p_pick_f rfl rfl rfl) ?_
                            refine Flow.pur rfl rfl rfl (p_pick_t rfl rfl rfl) ?_
                            refine Flow.end rfl ?_
                            simp only [List.map_cons, List.map_nil, List.nil_append, List.cons_append, List.append_nil]
                            refine Fin.then ?_
                            refine DC.cond rfl (fun c31 => ?_) (fun c31 => ?_)
                            · refine DC.seq ?_
                              refine DC.region ?_
                              refine Seq.pur rfl rfl (p_assign rfl rfl) ?_
                              refine Seq.nil ?_
                              refine Fin.then ?_
                              refine DC.ret ?_
                              refine Fin.ret_block <| Fin.ret_then <| Fin.ret_then <| Fin.ret_block <| Fin.ret_then <| ?_
                              refine Fin.weak (E' := [(4, _)]) ⟨rfl, trivial⟩ .nil ?_
                              refine Fin.end1 (.inl rfl) rfl rfl ?_
                              rw [if_pos (by simp at k31_7 k31_17 c31; exact ⟨k31_7, .inr c31⟩)] at hL
                              exact ⟨rfl, by rw [hF, ← hL]⟩
                            · refine DC.skip ?_
                              refine Fin.inBlock ?_
                              refine Fin.then ?_
                              refine DC.region ?_
                              refine Seq.pur rfl rfl (p_add rfl rfl rfl (by omega)) ?_
                              refine Seq.pur rfl rfl (p_move rfl rfl) ?_
                              refine Seq.nil ?_
                              rw [if_neg (by simp at k31_7 k31_17 c31; intro h5; omega)] at hL
                              refine Fin.own (fun w hw => close_sl hlc2 hcl (by simp at hsp; omega) hw) ?_
                              refine Fin.again (e + 1) (by omega) ⟨by omega, hL⟩ ⟨rfl, rfl, rfl, rfl, rfl, rfl, rfl, trivial⟩ (Pick.all _)
                        · refine Flow.skip rfl rfl rfl ?_
                          refine Flow.skip rfl rfl rfl ?_
                          refine Flow.skip rfl rfl rfl ?_
                          refine Flow.skip rfl rfl rfl ?_
                          refine Flow.skip rfl rfl rfl ?_
                          refine Flow.skip rfl rfl rfl ?_
                          refine Flow.skip rfl rfl rfl ?_
                          refine Flow.skip rfl rfl rfl ?_
                          refine Flow.skip rfl rfl rfl ?_
                          refine Flow.skip rfl rfl rfl ?_
                          refine Flow.skip rfl rfl rfl ?_
                          refine Flow.skip rfl rfl rfl ?_
                          refine Flow.skip rfl rfl rfl ?_
                          refine Flow.skip rfl rfl rfl ?_
                          refine Flow.skip rfl rfl rfl ?_
                          refine Flow.skip rfl rfl rfl ?_
                          refine Flow.skip rfl rfl rfl ?_
                          refine Flow.skip rfl rfl rfl ?_
                          refine Flow.skip rfl rfl rfl ?_
                          refine Flow.skip rfl rfl rfl ?_
                          refine Flow.pur rfl rfl rfl (p_pick_f rfl rfl rfl) ?_
                          refine Flow.end rfl ?_
                          simp only [List.map_cons, List.map_nil, List.nil_append, List.cons_append, List.append_nil]
                          refine Fin.then ?_
                          refine DC.cond_f rfl ?_
                          refine DC.skip ?_
                          refine Fin.inBlock ?_
                          refine Fin.then ?_
                          refine DC.region ?_
                          refine Seq.pur rfl rfl (p_add rfl rfl rfl (by omega)) ?_
                          refine Seq.pur rfl rfl (p_move rfl rfl) ?_
                          refine Seq.nil ?_
                          rw [if_neg (by simp at k31_7; intro h5; omega)] at hL
                          refine Fin.own (fun w hw => close_sl hlc2 hcl (by simp at hsp; omega) hw) ?_
                          refine Fin.again (e + 1) (by omega) ⟨by omega, hL⟩ ⟨rfl, rfl, rfl, rfl, rfl, rfl, rfl, trivial⟩ (Pick.all _)
                    · refine Seq.skip rfl rfl ?_
                      refine Seq.skip rfl rfl ?_
                      refine Seq.skip rfl rfl ?_
                      refine Seq.skip rfl rfl ?_
                      refine Seq.skip rfl rfl ?_
                      refine Seq.pur rfl rfl (p_pick_f rfl rfl rfl) ?_
                      refine Seq.nil ?_
                      refine Fin.then ?_
                      refine DC.cond_f rfl ?_
                      refine DC.skip ?_
                      refine Fin.then ?_
                      refine DC.seq ?_
                      have hne : ¬ (h ≠ 2 * (e : Int) ∧ h ≠ 2 * (e : Int) + 1) := by first | (simp at k28_4 c28; omega) | (simp at k28_4; omega)
                      rw [if_neg hne] at hL
                      have hm0 : 0 ≤ h := by omega
                      have hm1 : h < es.length * 2 := by omega
                      have hfr := fromV_range hV hm0 hm1
                      have htr := toV_range hV hm0 hm1
                      have hatv := getI_some (l := at') (i := fromV es h) (by omega)
                      have hatw := getI_some (l := at') (i := toV es h) (by omega)
                      have hlaw := getI_some (l := la) (i := toV es h) (by omega)
                      obtain ⟨a0, c0'', he0, x0'⟩ := h0.cell (i := toV es h) htr.1 (by omega)
                      cases he0
                      refine DC.open (fun _ hn => by have := congrArg List.length hn; rw [ints_length, List.length_nil] at this; omega) ?_
                      rintro gl len cl sp rfl hlen hlc2 hcl hsp
                      obtain rfl : len = la.length := by simp at hlen; omega
                      refine DC.region ?_
                      refine Seq.val rfl rfl (v_loads (vs := [_, _]) rfl rfl ag25 sz25 rfl (hass_blk rfl)) ?_
                      refine Seq.pur rfl rfl (p_move rfl rfl) ?_
                      -- calls tangram/dfs.ends
                      refine Seq.rel0 rfl rfl (r_call en59 rfl rfl rfl (fun w' hw => ends_calls (hg.keep0 hw) hm0 hm1)) ?_
                      rintro _ rfl
                      refine Seq.pur rfl rfl (p_move rfl rfl) ?_
                      refine Seq.pur rfl rfl (p_extract rfl rfl rfl) ?_
                      refine Seq.pur rfl rfl (p_extract rfl rfl rfl) ?_
                      refine Seq.pur rfl rfl (p_assign rfl rfl) ?_
                      refine Seq.pur rfl rfl (p_assign rfl rfl) ?_
                      refine Seq.nil ?_
                      refine Fin.then ?_
                      refine DC.seq ?_
                      refine DC.flow (cl := [.q, .v, .q, .q, .v, .q, .q, .q, .q, .q, .q, .v, .q, .q, .q, .v, .q, .q, .q, .q, .q, .v, .q, .q, .q, .v, .q, .q, .q]) (A := [0, 1, 0, 7, 15, 0, 63, 127, 255, 255, 1023, 2047, 255, 255, 12543, 28927, 65535, 131071, 262143, 262143, 1048575, 2097151, 262143, 262143, 12845055, 29622271, 67108863, 134217727, 268435455]) (order := [0, 1, 2, 3, 4, 5, 6, 7, 8, 9, 10, 11, 12, 13, 14, 15, 16, 17, 18, 19, 20, 21, 22, 23, 24, 25, 26, 27, 28]) [] mixed (by kernel_rfl) (fun w hw => hw.pick .nil) ?_
                      refine Flow.pur rfl rfl rfl (p_field rfl rfl fi55_0 (by first | exact add_at0 _ _ | exact add_at _ _ _ | rfl)) ?_
                      refine Flow.valS rfl rfl rfl rfl (v_load rfl rfl ag34 (by first | exact has_blk rfl | exact has_old' (by assumption))) ?_
                      refine Flow.pur rfl rfl rfl (p_move rfl rfl) ?_
                      refine Flow.pur rfl rfl rfl (p_index1 (ad' := a0.add (toV es h).toNat) rfl rfl rfl Try.underlying34 sz3 (by omega) (by omega) rfl) ?_
                      refine Flow.valS rfl rfl rfl rfl (v_load rfl rfl ag3 (has_old' x0')) ?_
                      refine Flow.pur rfl rfl rfl (p_move rfl rfl) ?_
                      refine Flow.pur rfl rfl rfl (p_neq rfl rfl rfl) ?_
                      refine Flow.pur rfl rfl rfl (p_move rfl rfl) ?_
                      refine Flow.split 182 rfl (fun k31_7 => ?_) (fun k31_7 => ?_)
                      · refine Flow.pur rfl rfl rfl (p_move rfl rfl) ?_
                        refine Flow.pur rfl rfl rfl (p_move rfl rfl) ?_
                        refine Flow.pur rfl rfl rfl (p_index1 (ad' := ⟨ga, (toV es h).toNat, none⟩) rfl rfl rfl Try.underlying34 sz3 (by omega) (by omega) (by rw [add_at0])) ?_
                        refine Flow.valS rfl rfl rfl rfl (v_load rfl rfl ag3 (has_row (ints_arr hatw))) ?_
                        refine Flow.pur rfl rfl rfl (p_move rfl rfl) ?_
                        refine Flow.pur rfl rfl rfl (p_move rfl rfl) ?_
                        refine Flow.pur rfl rfl rfl (p_index1 (ad' := ⟨ga, (fromV es h).toNat, none⟩) rfl rfl rfl Try.underlying34 sz3 (by omega) (by omega) (by rw [add_at0])) ?_
                        refine Flow.valS rfl rfl rfl rfl (v_load rfl rfl ag3 (has_row (ints_arr hatv))) ?_
                        refine Flow.pur rfl rfl rfl (p_geq rfl rfl rfl) ?_
                        refine Flow.pur rfl rfl rfl (p_move rfl rfl) ?_
                        refine Flow.split 192 rfl (fun k31_17 => ?_) (fun k31_17 => ?_)
                        · refine Flow.skip rfl rfl rfl ?_
                          refine Flow.skip rfl rfl rfl ?_
                          refine Flow.skip rfl rfl rfl ?_
                          refine Flow.skip rfl rfl rfl ?_
                          refine Flow.skip rfl rfl rfl ?_
                          refine Flow.skip rfl rfl rfl ?_
                          refine Flow.skip rfl rfl rfl ?_
                          refine Flow.skip rfl rfl rfl ?_
                          refine Flow.skip rfl rfl rfl ?_
                          refine Flow.pur rfl rfl rfl (p_pick_t rfl rfl rfl) ?_
                          refine Flow.pur rfl rfl rfl (p_pick_t rfl rfl rfl) ?_
                          refine Flow.end rfl ?_
                          simp only [List.map_cons, List.map_nil, List.nil_append, List.cons_append, List.append_nil]
                          refine Fin.then ?_
                          refine DC.cond_t rfl ?_
                          refine DC.seq ?_
                          refine DC.region ?_
                          refine Seq.pur rfl rfl (p_assign rfl rfl) ?_
                          refine Seq.nil ?_
                          refine Fin.then ?_
                          refine DC.ret ?_
                          refine Fin.ret_block <| Fin.ret_then <| Fin.ret_then <| Fin.ret_block <| Fin.ret_then <| ?_
                          refine Fin.weak (E' := [(4, _)]) ⟨rfl, trivial⟩ .nil ?_
                          refine Fin.end1 (.inl rfl) rfl rfl ?_
                          rw [if_pos (by simp at k31_7 k31_17; exact ⟨k31_7, .inl k31_17⟩)] at hL
                          exact ⟨rfl, by rw [hF, ← hL]⟩
                        · refine Flow.pur rfl rfl rfl (p_move rfl rfl) ?_
                          refine Flow.pur rfl rfl rfl (p_move rfl rfl) ?_
                          refine Flow.pur rfl rfl rfl (p_index1 (ad' := ⟨ga, (fromV es h).toNat, none⟩) rfl rfl rfl Try.underlying34 sz3 (by omega) (by omega) (by rw [add_at0])) ?_
                          refine Flow.valS rfl rfl rfl rfl (v_load rfl rfl ag3 (has_row (ints_arr hatv))) ?_
                          refine Flow.pur rfl rfl rfl (p_move rfl rfl) ?_
                          refine Flow.pur rfl rfl rfl (p_move rfl rfl) ?_
                          refine Flow.pur rfl rfl rfl (p_index1 (ad' := ⟨gl, (toV es h).toNat, none⟩) rfl rfl rfl Try.underlying34 sz3 (by omega) (by omega) (by rw [add_at0])) ?_
                          refine Flow.valS rfl rfl rfl rfl (v_load rfl rfl ag3 (has_row (row_get hlaw))) ?_
                          refine Flow.pur rfl rfl rfl (p_gtr rfl rfl rfl) ?_
                          refine Flow.pur rfl rfl rfl (p_pick_f rfl rfl rfl) ?_
                          refine Flow.pur rfl rfl rfl (p_pick_t rfl rfl rfl) ?_
                          refine Flow.end rfl ?_
                          simp only [List.map_cons, List.map_nil, List.nil_append, List.cons_append, List.append_nil]
                          refine Fin.then ?_
                          refine DC.cond rfl (fun c31 => ?_) (fun c31 => ?_)
                          · refine DC.seq ?_
                            refine DC.region ?_
                            refine Seq.pur rfl rfl (p_assign rfl rfl) ?_
                            refine Seq.nil ?_
                            refine Fin.then ?_
                            refine DC.ret ?_
                            refine Fin.ret_block <| Fin.ret_then <| Fin.ret_then <| Fin.ret_block <| Fin.ret_then <| ?_
                            refine Fin.weak (E' := [(4, _)]) ⟨rfl, trivial⟩ .nil ?_
                            refine Fin.end1 (.inl rfl) rfl rfl ?_
                            rw [if_pos (by simp at k31_7 k31_17 c31; exact ⟨k31_7, .inr c31⟩)] at hL
                            exact ⟨rfl, by rw [hF, ← hL]⟩
                          · refine DC.skip ?_
                            refine Fin.inBlock ?_
                            refine Fin.then ?_
                            refine DC.region ?_
                            refine Seq.pur rfl rfl (p_add rfl rfl rfl (by omega)) ?_
                            refine Seq.pur rfl rfl (p_move rfl rfl) ?_
                            refine Seq.nil ?_
                            rw [if_neg (by simp at k31_7 k31_17 c31; intro h5; omega)] at hL
                            refine Fin.own (fun w hw => close_sl hlc2 hcl (by simp at hsp; omega) hw) ?_
                            refine Fin.again (e + 1) (by omega) ⟨by omega, hL⟩ ⟨rfl, rfl, rfl, rfl, rfl, rfl, rfl, trivial⟩ (Pick.all _)
                      · refine Flow.skip rfl rfl rfl ?_
                        refine Flow.skip rfl rfl rfl ?_
                        refine Flow.skip rfl rfl rfl ?_
                        refine Flow.skip rfl rfl rfl ?_
                        refine Flow.skip rfl rfl rfl ?_
                        refine Flow.skip rfl rfl rfl ?_
                        refine Flow.skip rfl rfl rfl ?_
                        refine Flow.skip rfl rfl rfl ?_
                        refine Flow.skip rfl rfl rfl ?_
                        refine Flow.skip rfl rfl rfl ?_
                        refine Flow.skip rfl rfl rfl ?_
                        refine Flow.skip rfl rfl rfl ?_
                        refine Flow.skip rfl rfl rfl ?_
                        refine Flow.skip rfl rfl rfl ?_
                        refine Flow.skip rfl rfl rfl ?_
                        refine Flow.skip rfl rfl rfl ?_
                        refine Flow.skip rfl rfl rfl ?_
                        refine Flow.skip rfl rfl rfl ?_
                        refine Flow.skip rfl rfl rfl ?_
                        refine Flow.skip rfl rfl rfl ?_
                        refine Flow.pur rfl rfl rfl (p_pick_f rfl rfl rfl) ?_
                        refine Flow.end rfl ?_
                        simp only [List.map_cons, List.map_nil, List.nil_append, List.cons_append, List.append_nil]
                        refine Fin.then ?_
                        refine DC.cond_f rfl ?_
                        refine DC.skip ?_
                        refine Fin.inBlock ?_
                        refine Fin.then ?_
                        refine DC.region ?_
                        refine Seq.pur rfl rfl (p_add rfl rfl rfl (by omega)) ?_
                        refine Seq.pur rfl rfl (p_move rfl rfl) ?_
                        refine Seq.nil ?_
                        rw [if_neg (by simp at k31_7; intro h5; omega)] at hL
                        refine Fin.own (fun w hw => close_sl hlc2 hcl (by simp at hsp; omega) hw) ?_
                        refine Fin.again (e + 1) (by omega) ⟨by omega, hL⟩ ⟨rfl, rfl, rfl, rfl, rfl, rfl, rfl, trivial⟩ (Pick.all _)
                  · refine DC.exit ?_
                    refine Fin.exit_then <| Fin.exit_then <| Fin.exit_here <| ?_
                    refine Fin.then ?_
                    refine DC.seq ?_
                    refine DC.region ?_
                    refine Seq.pur rfl rfl (p_assign rfl rfl) ?_
                    refine Seq.nil ?_
                    refine Fin.then ?_
                    refine DC.ret ?_
                    refine Fin.weak (E' := [(4, _)]) ⟨rfl, trivial⟩ .nil ?_
                    refine Fin.end1 (.inl rfl) rfl rfl ?_
                    have hie : e = oi.length := by simp at c26; omega
                    subst hie
                    rw [List.drop_length] at hL
                    exact ⟨rfl, by rw [hF, ← hL]; rfl⟩
end Go.Fl
