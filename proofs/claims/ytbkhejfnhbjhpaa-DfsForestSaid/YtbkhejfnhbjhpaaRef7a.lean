/- tangramref07: up, hangs, rooted, Above. -/
import Derived.Test.YtbkhejfnhbjhpaaFlVr
import Derived.Test.YtbkhejfnhbjhpaaRef1
set_option linter.unusedVariables false
set_option linter.unusedSimpArgs false
set_option maxRecDepth 100000
namespace Go.Fl
open Go Go.Proofs

section
variable {w : World} {N : Nat} {es : List Pr} {va v0 v1 v2 v3 : Value} {pa he od oi : List Int}
theorem rUp_calls {v : Int} (hA : FA w N es va v0 v1 v2 v3 pa he od oi) (hv0 : 0 ≤ v) (hv1 : v < N) (hp : 0 ≤ getI pa v → getI pa v < es.length * 2) :
    Calls Try.prog 69 #[.agg #[.int .i64 N, va], .agg #[v0, v1, v2, v3], .int .i64 v] w (Ret w [] fun x L => L = [] ∧ x = .int .i64 (par es pa v)) := by
  obtain ⟨a0, c0', rfl, x0⟩ := hA.p.cell hv0 (by rw [hA.l0]; exact hv1)
  have l0 := hA.l0
  refine calls_of (args := [_, _, _]) (L := []) Try.func69 rfl Try.ntmps69 rfl (Own.start _ _) ?_
  refine DC.seq ?_
  refine DC.region ?_
  refine Seq.new rfl rfl (n_box rfl rfl rfl) fun g3 => ?_
  refine Seq.new rfl rfl (n_box rfl rfl rfl) fun g4 => ?_
  refine Seq.pur rfl rfl (p_assign rfl rfl) ?_
  refine Seq.nil ?_
  refine Fin.then ?_
  refine DC.seq ?_
  refine DC.seq ?_
  refine DC.region ?_
  refine Seq.pur rfl rfl (p_field rfl rfl fi55_0 (by first | exact add_at0 _ _ | exact add_at _ _ _ | rfl)) ?_
  refine Seq.val rfl rfl (v_load rfl rfl ag34 (by first | exact has_blk rfl | exact has_old' (by assumption))) ?_
  refine Seq.pur rfl rfl (p_move rfl rfl) ?_
  refine Seq.pur rfl rfl (p_index1 (ad' := a0.add v.toNat) rfl rfl rfl Try.underlying34 sz3 (by omega) (by omega) rfl) ?_
  refine Seq.val rfl rfl (v_load rfl rfl ag3 (has_old' x0)) ?_
  refine Seq.pur rfl rfl (p_lss rfl rfl rfl) ?_
  refine Seq.nil ?_
  refine Fin.then ?_
  refine DC.cond rfl (fun c1 => ?_) (fun c1 => ?_)
  · refine DC.seq ?_
    refine DC.region ?_
    refine Seq.pur rfl rfl (p_assign rfl rfl) ?_
    refine Seq.nil ?_
    refine Fin.then ?_
    refine DC.ret ?_
    refine Fin.ret_then <| ?_
    refine Fin.weak (E' := [(6, _)]) ⟨rfl, trivial⟩ .nil ?_
    refine Fin.end1 (.inl rfl) rfl rfl ?_
    exact ⟨rfl, by unfold par; rw [if_pos (by simpa using c1)]⟩
  · have h0 : 0 ≤ getI pa v := by simp at c1; omega
    refine DC.skip ?_
    refine Fin.then ?_
    refine DC.seq ?_
    refine DC.flow (cl := [.v, .q, .v, .q, .q, .v, .r, .q]) (A := [0, 0, 2, 0, 14, 30, 63, 127]) (order := [0, 1, 2, 3, 4, 5, 6, 7]) [] mixed (by kernel_rfl) (fun w hw => hw.pick .nil) ?_
    refine Flow.valS rfl rfl rfl rfl (v_loads (vs := [_, _]) rfl rfl ag25 sz25 rfl (hass_blk rfl)) ?_
    refine Flow.pur rfl rfl rfl (p_field rfl rfl fi55_0 (by first | exact add_at0 _ _ | exact add_at _ _ _ | rfl)) ?_
    refine Flow.valS rfl rfl rfl rfl (v_load rfl rfl ag34 (by first | exact has_blk rfl | exact has_old' (by assumption))) ?_
    refine Flow.pur rfl rfl rfl (p_move rfl rfl) ?_
    refine Flow.pur rfl rfl rfl (p_index1 (ad' := a0.add v.toNat) rfl rfl rfl Try.underlying34 sz3 (by omega) (by omega) rfl) ?_
    refine Flow.valS rfl rfl rfl rfl (v_load rfl rfl ag3 (has_old' x0)) ?_
    -- calls tangram/tangramref04.From
    refine Flow.rel0 rfl rfl rfl rfl (r_call en51 rfl rfl rfl (fun w' hw => rFrom_calls (hA.g.keep0 hw) h0 (hp h0))) ?_
    rintro _ rfl
    refine Flow.pur rfl rfl rfl (p_assign rfl rfl) ?_
    refine Flow.end rfl ?_
    simp only [List.map_cons, List.map_nil, List.nil_append, List.cons_append, List.append_nil]
    refine Fin.then ?_
    refine DC.ret ?_
    refine Fin.weak (E' := [(6, _)]) ⟨rfl, trivial⟩ .nil ?_
    refine Fin.end1 (.inl rfl) rfl rfl ?_
    exact ⟨rfl, by unfold par; rw [if_neg (by omega)]⟩

theorem rAbove_calls {u v : Int} (hA : FA w N es va v0 v1 v2 v3 pa he od oi) (hH : Hangs es pa he oi N) (hR : Rooted pa he N) (hv1 : v < N) (hv0 : 0 ≤ v) (k : Nat) (hk : getI he v < k) :
    Calls Try.prog 46 #[.agg #[.int .i64 N, va], .agg #[v0, v1, v2, v3], .int .i64 u, .int .i64 v] w (Ret w [] fun x L => L = [] ∧ x = .bool (aboveF es pa (k + 1) u v)) := by
  have hV := hA.vld
  have l0 := hA.l0
  refine calls_of (args := [_, _, _, _]) (L := []) Try.func46 rfl Try.ntmps46 rfl (Own.start _ _) ?_
  refine DC.seq ?_
  refine DC.region ?_
  refine Seq.new rfl rfl (n_box rfl rfl rfl) fun g4 => ?_
  refine Seq.new rfl rfl (n_box rfl rfl rfl) fun g5 => ?_
  refine Seq.pur rfl rfl (p_assign rfl rfl) ?_
  refine Seq.nil ?_
  refine Fin.then ?_
  refine DC.seq ?_
  refine DC.block ?_
  refine DC.loop (ι := Nat × Int) (fun j => -1 ≤ j.2 ∧ j.2 < N ∧ (0 ≤ j.2 → getI he j.2 < j.1) ∧ aboveF es pa (j.1 + 1) u j.2 = aboveF es pa (k + 1) u v)
    (fun j => [(2, .int .i64 u), (3, .int .i64 j.2), (4, .pointer (some ⟨g4, 0, none⟩)), (5, .pointer (some ⟨g5, 0, none⟩))])
    (fun j => [blk g5 55 #[v0, v1, v2, v3], blk g4 25 #[.int .i64 N, va]]) (fun j => j.1) (k, v) ⟨by omega, hv1, fun _ => hk, rfl⟩ ⟨rfl, rfl, rfl, rfl, trivial⟩ (Pick.all _) ?_
  rintro ⟨k, v⟩ ⟨hv0, hv1, hk, hF⟩
  dsimp only at hv0 hv1 hk hF ⊢
  refine DC.seq ?_
  refine DC.seq ?_
  refine DC.region ?_
  refine Seq.pur rfl rfl (p_move rfl rfl) ?_
  refine Seq.pur rfl rfl (p_geq rfl rfl rfl) ?_
  refine Seq.nil ?_
  refine Fin.then ?_
  refine DC.cond rfl (fun c1 => ?_) (fun c1 => ?_)
  · have h0 : 0 ≤ v := by simpa using c1
    have hhang := hH v h0 hv1
    have hroot := hR v h0 hv1
    obtain ⟨q1, q2, q3, q4⟩ := hang_par hV hhang
    have hF1 : aboveF es pa (k + 1) u v = if u = v then true else aboveF es pa k u (par es pa v) := by
      show (if v < 0 then false else if u = v then true else aboveF es pa k u (par es pa v)) = _
      rw [if_neg (by omega)]
    rw [hF1] at hF
    refine DC.skip ?_
    refine Fin.then ?_
    refine DC.block ?_
    refine DC.seq ?_
    refine DC.seq ?_
    refine DC.region ?_
    refine Seq.pur rfl rfl (p_move rfl rfl) ?_
    refine Seq.pur rfl rfl (p_move rfl rfl) ?_
    refine Seq.pur rfl rfl (p_eql rfl rfl rfl) ?_
    refine Seq.nil ?_
    refine Fin.then ?_
    refine DC.cond rfl (fun c2 => ?_) (fun c2 => ?_)
    · refine DC.seq ?_
      refine DC.region ?_
      refine Seq.pur rfl rfl (p_assign rfl rfl) ?_
      refine Seq.nil ?_
      refine Fin.then ?_
      refine DC.ret ?_
      refine Fin.ret_then <| Fin.ret_block <| Fin.ret_then <| Fin.ret_block <| Fin.ret_then <| ?_
      refine Fin.weak (E' := [(8, _)]) ⟨rfl, trivial⟩ .nil ?_
      refine Fin.end1 (.inl rfl) rfl rfl ?_
      exact ⟨rfl, by rw [← hF, if_pos (by simpa using c2)]⟩
    · refine DC.skip ?_
      refine Fin.then ?_
      refine DC.region ?_
      refine Seq.val rfl rfl (v_loads (vs := [_, _]) rfl rfl ag25 sz25 rfl (hass_blk rfl)) ?_
      refine Seq.val rfl rfl (v_loads (vs := [_, _, _, _]) rfl rfl ag55 sz55 rfl (hass_blk rfl)) ?_
      refine Seq.pur rfl rfl (p_move rfl rfl) ?_
      -- calls tangram/tangramref07.up
      refine Seq.rel0 rfl rfl (r_call en69 rfl rfl rfl (fun w' hw => rUp_calls (hA.keep0 hw) h0 hv1 q1)) ?_
      rintro _ rfl
      refine Seq.pur rfl rfl (p_assign rfl rfl) ?_
      refine Seq.nil ?_
      refine Fin.inBlock ?_
      have hne : ¬ u = v := by simpa using c2
      rw [if_neg hne] at hF
      simp only [rootB, decide_eq_true_eq] at hroot
      obtain ⟨z1, z2, z3⟩ := hroot
      have hkv := hk h0
      have hdec : 0 ≤ par es pa v → getI he (par es pa v) + 1 = getI he v := by
        intro hp0
        have hpa : ¬ getI pa v < 0 := fun h => by have := q4.2 h; omega
        have hpe : par es pa v = fromV es (getI pa v) := by unfold par; rw [if_neg hpa]
        unfold hangB at hhang
        rw [if_neg (by omega)] at hhang
        split at hhang
        · cases hhang
        · simp only [decide_eq_true_eq] at hhang
          obtain ⟨_, h5⟩ := hhang
          rw [← hpe] at h5
          have hr2 := hR (par es pa v) hp0 q3
          simp only [rootB, decide_eq_true_eq] at hr2
          have hN := hV.hi
          rw [h5, wr, wrap_of (by omega)]
      obtain ⟨k', rfl⟩ : ∃ k', k = k' + 1 := ⟨k - 1, by omega⟩
      refine Fin.again (k', par es pa v) (by dsimp only; omega) ⟨q2, q3, fun h => by have := hdec h; dsimp only at *; omega, hF⟩ ⟨rfl, rfl, rfl, rfl, trivial⟩ (Pick.all _)
  · refine DC.exit ?_
    refine Fin.exit_then <| Fin.exit_then <| Fin.exit_here <| ?_
    refine Fin.then ?_
    refine DC.seq ?_
    refine DC.region ?_
    refine Seq.pur rfl rfl (p_assign rfl rfl) ?_
    refine Seq.nil ?_
    refine Fin.then ?_
    refine DC.ret ?_
    refine Fin.weak (E' := [(8, _)]) ⟨rfl, trivial⟩ .nil ?_
    refine Fin.end1 (.inl rfl) rfl rfl ?_
    have hn : v < 0 := by simp at c1; omega
    have : aboveF es pa (k + 1) u v = false := by
      show (if v < 0 then false else if u = v then true else aboveF es pa k u (par es pa v)) = _
      rw [if_pos hn]
    exact ⟨rfl, by rw [← hF, this]⟩

theorem range_false {N v : Nat} {f : Nat → Bool} (h : v < N) (hf : f v = false) : (List.range N).all f = false := by
  rw [List.all_eq_false]
  exact ⟨v, List.mem_range.2 h, by simp [hf]⟩
theorem range_true {N : Nat} {f : Nat → Bool} (h : ∀ v, v < N → f v = true) : (List.range N).all f = true := by
  rw [List.all_eq_true]
  intro v hv
  exact h v (List.mem_range.1 hv)
theorem rhangs_calls (hA : FA w N es va v0 v1 v2 v3 pa he od oi) :
    Calls Try.prog 60 #[.agg #[.int .i64 N, va], .agg #[v0, v1, v2, v3]] w (Ret w [] fun x L => L = [] ∧ x = .bool (hangsF es pa he oi N)) := by
  have hV := hA.vld
  have hfew := hV.few
  have hN1 := hV.hi
  have l0 := hA.l0
  have l1 := hA.l1
  have l3 := hA.l3
  have hgg := hA.g
  obtain ⟨A, cap, rfl, hr, hlc, hcm, hl⟩ := hgg
  refine calls_of (args := [_, _]) (L := []) Try.func60 rfl Try.ntmps60 rfl (Own.start _ _) ?_
  refine DC.seq ?_
  refine DC.region ?_
  refine Seq.new rfl rfl (n_box rfl rfl rfl) fun g2 => ?_
  refine Seq.new rfl rfl (n_box rfl rfl rfl) fun g3 => ?_
  refine Seq.pur rfl rfl (p_assign rfl rfl) ?_
  refine Seq.nil ?_
  refine Fin.then ?_
  refine DC.seq ?_
  refine DC.seq ?_
  refine DC.region ?_
  refine Seq.pur rfl rfl (p_assign rfl rfl) ?_
  refine Seq.nil ?_
  refine Fin.then ?_
  refine DC.block ?_
  refine DC.loop (ι := Nat) (fun v => v ≤ N ∧ ∀ x : Nat, x < v → hangB es pa he oi x = true)
    (fun v => [(2, .pointer (some ⟨g2, 0, none⟩)), (3, .pointer (some ⟨g3, 0, none⟩)), (5, .int .i64 v)])
    (fun v => [blk g3 55 #[v0, v1, v2, v3], blk g2 25 #[.int .i64 N, .slice A es.length cap]]) (fun v => N - v) 0 ⟨Nat.zero_le _, fun _ h => absurd h (Nat.not_lt_zero _)⟩ ⟨rfl, rfl, rfl, trivial⟩ (Pick.all _) ?_
  rintro v ⟨hv, hha⟩
  refine DC.seq ?_
  refine DC.seq ?_
  refine DC.region ?_
  refine Seq.pur rfl rfl (p_move rfl rfl) ?_
  refine Seq.pur rfl rfl (p_field rfl rfl fi25_0 (by first | exact add_at0 _ _ | exact add_at _ _ _ | rfl)) ?_
  refine Seq.val rfl rfl (v_load rfl rfl ag3 (by first | exact has_blk rfl | exact has_old' (by assumption))) ?_
  refine Seq.pur rfl rfl (p_lss rfl rfl rfl) ?_
  refine Seq.nil ?_
  refine Fin.then ?_
  refine DC.cond rfl (fun c2 => ?_) (fun c2 => ?_)
  · have hlt : v < N := by simpa using c2
    obtain ⟨a0, c0', rfl, x0⟩ := hA.p.cell (i := (v : Int)) (by omega) (by omega)
    obtain ⟨a1, c1', rfl, x1⟩ := hA.h.cell (i := (v : Int)) (by omega) (by omega)
    have fin : hangB es pa he oi v = true → ∀ x : Nat, x < v + 1 → hangB es pa he oi x = true := fun h x hx => by
      rcases Nat.lt_succ_iff_lt_or_eq.1 hx with hx | rfl
      · exact hha x hx
      · exact h
    have bad : hangB es pa he oi v = false → hangsF es pa he oi N = false := fun h => range_false hlt h
    refine DC.skip ?_
    refine Fin.then ?_
    refine DC.seq ?_
    refine DC.block ?_
    refine DC.seq ?_
    refine DC.region ?_
    refine Seq.pur rfl rfl (p_field rfl rfl fi55_0 (by first | exact add_at0 _ _ | exact add_at _ _ _ | rfl)) ?_
    refine Seq.val rfl rfl (v_load rfl rfl ag34 (by first | exact has_blk rfl | exact has_old' (by assumption))) ?_
    refine Seq.pur rfl rfl (p_move rfl rfl) ?_
    refine Seq.pur rfl rfl (p_index1 (ad' := a0.add (v : Int).toNat) rfl rfl rfl Try.underlying34 sz3 (by omega) (by omega) rfl) ?_
    refine Seq.val rfl rfl (v_load rfl rfl ag3 (has_old' x0)) ?_
    refine Seq.pur rfl rfl (p_assign rfl rfl) ?_
    refine Seq.nil ?_
    refine Fin.then ?_
    refine DC.seq ?_
    refine DC.seq ?_
    refine DC.region ?_
    refine Seq.pur rfl rfl (p_move rfl rfl) ?_
    refine Seq.pur rfl rfl (p_eql rfl rfl rfl) ?_
    refine Seq.nil ?_
    refine Fin.then ?_
    refine DC.cond rfl (fun c5 => ?_) (fun c5 => ?_)
    · have e1 : getI pa v = -1 := by simpa using c5
      have hb : hangB es pa he oi v = decide (getI he v = 0) := by unfold hangB; rw [if_pos e1]
      refine DC.seq ?_
      refine DC.seq ?_
      refine DC.region ?_
      refine Seq.pur rfl rfl (p_field rfl rfl fi55_1 (by first | exact add_at0 _ _ | exact add_at _ _ _ | rfl)) ?_
      refine Seq.val rfl rfl (v_load rfl rfl ag34 (by first | exact has_blk rfl | exact has_old' (by assumption))) ?_
      refine Seq.pur rfl rfl (p_move rfl rfl) ?_
      refine Seq.pur rfl rfl (p_index1 (ad' := a1.add (v : Int).toNat) rfl rfl rfl Try.underlying34 sz3 (by omega) (by omega) rfl) ?_
      refine Seq.val rfl rfl (v_load rfl rfl ag3 (has_old' x1)) ?_
      refine Seq.pur rfl rfl (p_neq rfl rfl rfl) ?_
      refine Seq.nil ?_
      refine Fin.then ?_
      refine DC.cond rfl (fun c6 => ?_) (fun c6 => ?_)
      · refine DC.seq ?_
        refine DC.region ?_
        refine Seq.pur rfl rfl (p_assign rfl rfl) ?_
        refine Seq.nil ?_
        refine Fin.then ?_
        refine DC.ret ?_
        refine Fin.ret_then <| Fin.ret_then <| Fin.ret_block <| Fin.ret_then <| Fin.ret_then <| Fin.ret_block <| Fin.ret_then <| ?_
        refine Fin.weak (E' := [(4, _)]) ⟨rfl, trivial⟩ .nil ?_
        refine Fin.end1 (.inl rfl) rfl rfl ?_
        exact ⟨rfl, by rw [bad (by rw [hb]; simp at c6; simp [c6])]⟩
      · refine DC.skip ?_
        refine Fin.then ?_
        refine DC.exit ?_
        refine Fin.exit_then <| Fin.exit_here <| ?_
        refine Fin.then ?_
        refine DC.region ?_
        refine Seq.pur rfl rfl (p_move rfl rfl) ?_
        refine Seq.pur rfl rfl (p_add rfl rfl rfl (by omega)) ?_
        refine Seq.pur rfl rfl (p_assign rfl rfl) ?_
        refine Seq.nil ?_
        refine Fin.again (v + 1) (by omega) ⟨by omega, fin (by rw [hb]; simp at c6; simp [c6])⟩ ⟨rfl, rfl, rfl, trivial⟩ (Pick.all _)
    · have e1 : ¬ getI pa v = -1 := by simpa using c5
      refine DC.skip ?_
      refine Fin.then ?_
      refine DC.seq ?_
      refine DC.seq ?_
      refine DC.region ?_
      refine Seq.pur rfl rfl (p_move rfl rfl) ?_
      refine Seq.pur rfl rfl (p_lss rfl rfl rfl) ?_
      refine Seq.pur rfl rfl (p_move rfl rfl) ?_
      refine Seq.split 28 rfl (fun k8_2 => ?_) (fun k8_2 => ?_)
      · refine Seq.skip rfl rfl ?_
        refine Seq.skip rfl rfl ?_
        refine Seq.skip rfl rfl ?_
        refine Seq.skip rfl rfl ?_
        refine Seq.skip rfl rfl ?_
        refine Seq.skip rfl rfl ?_
        refine Seq.pur rfl rfl (p_pick_t rfl rfl rfl) ?_
        refine Seq.pur rfl rfl (p_move rfl rfl) ?_
        refine Seq.skip rfl rfl ?_
        refine Seq.skip rfl rfl ?_
        refine Seq.skip rfl rfl ?_
        refine Seq.skip rfl rfl ?_
        refine Seq.skip rfl rfl ?_
        refine Seq.pur rfl rfl (p_pick_t rfl rfl rfl) ?_
        refine Seq.pur rfl rfl (p_move rfl rfl) ?_
        refine Seq.skip rfl rfl ?_
        refine Seq.skip rfl rfl ?_
        refine Seq.skip rfl rfl ?_
        refine Seq.skip rfl rfl ?_
        refine Seq.skip rfl rfl ?_
        refine Seq.skip rfl rfl ?_
        refine Seq.skip rfl rfl ?_
        refine Seq.skip rfl rfl ?_
        refine Seq.pur rfl rfl (p_pick_t rfl rfl rfl) ?_
        refine Seq.nil ?_
        refine Fin.then ?_
        refine DC.cond_t rfl ?_
        refine DC.seq ?_
        refine DC.region ?_
        refine Seq.pur rfl rfl (p_assign rfl rfl) ?_
        refine Seq.nil ?_
        refine Fin.then ?_
        refine DC.ret ?_
        refine Fin.ret_then <| Fin.ret_block <| Fin.ret_then <| Fin.ret_then <| Fin.ret_block <| Fin.ret_then <| ?_
        refine Fin.weak (E' := [(4, _)]) ⟨rfl, trivial⟩ .nil ?_
        refine Fin.end1 (.inl rfl) rfl rfl ?_
        exact ⟨rfl, by rw [bad (by unfold hangB; rw [if_neg e1, if_pos (by simp at k8_2; omega)])]⟩
      · refine Seq.pur rfl rfl (p_move rfl rfl) ?_
        refine Seq.pur rfl rfl (p_field rfl rfl fi25_1 (by first | exact add_at0 _ _ | exact add_at _ _ _ | rfl)) ?_
        refine Seq.val rfl rfl (v_load rfl rfl ag23 (by first | exact has_blk rfl | exact has_old' (by assumption))) ?_
        refine Seq.pur rfl rfl (p_len rfl rfl Try.underlying23) ?_
        refine Seq.pur rfl rfl (p_mul rfl rfl rfl (by omega)) ?_
        refine Seq.pur rfl rfl (p_geq rfl rfl rfl) ?_
        refine Seq.pur rfl rfl (p_pick_f rfl rfl rfl) ?_
        refine Seq.pur rfl rfl (p_move rfl rfl) ?_
        refine Seq.split 36 rfl (fun k8_10 => ?_) (fun k8_10 => ?_)
        · refine Seq.skip rfl rfl ?_
          refine Seq.skip rfl rfl ?_
          refine Seq.skip rfl rfl ?_
          refine Seq.skip rfl rfl ?_
          refine Seq.skip rfl rfl ?_
          refine Seq.pur rfl rfl (p_pick_t rfl rfl rfl) ?_
          refine Seq.pur rfl rfl (p_move rfl rfl) ?_
          refine Seq.skip rfl rfl ?_
          refine Seq.skip rfl rfl ?_
          refine Seq.skip rfl rfl ?_
          refine Seq.skip rfl rfl ?_
          refine Seq.skip rfl rfl ?_
          refine Seq.skip rfl rfl ?_
          refine Seq.skip rfl rfl ?_
          refine Seq.skip rfl rfl ?_
          refine Seq.pur rfl rfl (p_pick_t rfl rfl rfl) ?_
          refine Seq.nil ?_
          refine Fin.then ?_
          refine DC.cond_t rfl ?_
          refine DC.seq ?_
          refine DC.region ?_
          refine Seq.pur rfl rfl (p_assign rfl rfl) ?_
          refine Seq.nil ?_
          refine Fin.then ?_
          refine DC.ret ?_
          refine Fin.ret_then <| Fin.ret_block <| Fin.ret_then <| Fin.ret_then <| Fin.ret_block <| Fin.ret_then <| ?_
          refine Fin.weak (E' := [(4, _)]) ⟨rfl, trivial⟩ .nil ?_
          refine Fin.end1 (.inl rfl) rfl rfl ?_
          exact ⟨rfl, by rw [bad (by unfold hangB; rw [if_neg e1, if_pos (by simp at k8_10; omega)])]⟩
        · have e2 : 0 ≤ getI pa v := by simpa using k8_2
          have e3 : getI pa v < 2 * (es.length : Int) := by simpa using k8_10
          obtain ⟨a3, c3', rfl, x3⟩ := hA.o.cell (i := getI pa v / 2) (by omega) (by omega)
          refine Seq.val rfl rfl (v_loads (vs := [_, _]) rfl rfl ag25 sz25 rfl (hass_blk rfl)) ?_
          refine Seq.pur rfl rfl (p_move rfl rfl) ?_
          -- calls tangram/tangramref04.To
          refine Seq.rel0 rfl rfl (r_call en29 rfl rfl rfl (fun w' hw => rTo_calls (hA.g.keep0 hw) e2 (by omega))) ?_
          rintro _ rfl
          refine Seq.pur rfl rfl (p_move rfl rfl) ?_
          refine Seq.pur rfl rfl (p_neq rfl rfl rfl) ?_
          refine Seq.pur rfl rfl (p_pick_f rfl rfl rfl) ?_
          refine Seq.pur rfl rfl (p_move rfl rfl) ?_
          refine Seq.split 43 rfl (fun k8_17 => ?_) (fun k8_17 => ?_)
          · refine Seq.skip rfl rfl ?_
            refine Seq.skip rfl rfl ?_
            refine Seq.skip rfl rfl ?_
            refine Seq.skip rfl rfl ?_
            refine Seq.skip rfl rfl ?_
            refine Seq.skip rfl rfl ?_
            refine Seq.skip rfl rfl ?_
            refine Seq.skip rfl rfl ?_
            refine Seq.pur rfl rfl (p_pick_t rfl rfl rfl) ?_
            refine Seq.nil ?_
            refine Fin.then ?_
            refine DC.cond_t rfl ?_
            refine DC.seq ?_
            refine DC.region ?_
            refine Seq.pur rfl rfl (p_assign rfl rfl) ?_
            refine Seq.nil ?_
            refine Fin.then ?_
            refine DC.ret ?_
            refine Fin.ret_then <| Fin.ret_block <| Fin.ret_then <| Fin.ret_then <| Fin.ret_block <| Fin.ret_then <| ?_
            refine Fin.weak (E' := [(4, _)]) ⟨rfl, trivial⟩ .nil ?_
            refine Fin.end1 (.inl rfl) rfl rfl ?_
            exact ⟨rfl, by rw [bad (by unfold hangB; rw [if_neg e1]; split; rfl; simp at k8_17; simp [k8_17])]⟩
          · refine Seq.pur rfl rfl (p_field rfl rfl fi55_3 (by first | exact add_at0 _ _ | exact add_at _ _ _ | rfl)) ?_
            refine Seq.val rfl rfl (v_load rfl rfl ag34 (by first | exact has_blk rfl | exact has_old' (by assumption))) ?_
            refine Seq.pur rfl rfl (p_move rfl rfl) ?_
            refine Seq.pur rfl rfl (p_quo rfl rfl rfl (by omega) (by omega)) ?_
            refine Seq.pur rfl rfl (p_index1 (ad' := a3.add (getI pa v / 2).toNat) rfl rfl rfl Try.underlying34 sz3 (by omega) (by omega) rfl) ?_
            refine Seq.val rfl rfl (v_load rfl rfl ag3 (has_old' x3)) ?_
            refine Seq.pur rfl rfl (p_move rfl rfl) ?_
            refine Seq.pur rfl rfl (p_neq rfl rfl rfl) ?_
            refine Seq.pur rfl rfl (p_pick_f rfl rfl rfl) ?_
            refine Seq.nil ?_
            refine Fin.then ?_
            refine DC.cond rfl (fun c8 => ?_) (fun c8 => ?_)
            · refine DC.seq ?_
              refine DC.region ?_
              refine Seq.pur rfl rfl (p_assign rfl rfl) ?_
              refine Seq.nil ?_
              refine Fin.then ?_
              refine DC.ret ?_
              refine Fin.ret_then <| Fin.ret_block <| Fin.ret_then <| Fin.ret_then <| Fin.ret_block <| Fin.ret_then <| ?_
              refine Fin.weak (E' := [(4, _)]) ⟨rfl, trivial⟩ .nil ?_
              refine Fin.end1 (.inl rfl) rfl rfl ?_
              exact ⟨rfl, by rw [bad (by unfold hangB; rw [if_neg e1, if_pos (by simp at c8; exact .inr (.inr c8))])]⟩
            · have e4 : getI oi (getI pa v / 2) = getI pa v := by simpa using c8
              have e5 : toV es (getI pa v) = v := by simpa using k8_17
              have hgb : hangB es pa he oi v = decide (getI he v = wr (getI he (fromV es (getI pa v)) + 1)) := by unfold hangB; rw [if_neg e1, if_neg (by omega)]; simp [e5]
              have hfr := fromV_range hV e2 (by omega)
              obtain ⟨a1', c1'', he1, x1'⟩ := hA.h.cell (i := fromV es (getI pa v)) hfr.1 (by omega)
              cases he1
              refine DC.skip ?_
              refine Fin.then ?_
              refine DC.seq ?_
              refine DC.flow (cl := [.q, .v, .q, .q, .v, .q, .v, .v, .q, .r, .q, .v, .q, .q]) (A := [0, 1, 0, 7, 15, 0, 32, 0, 0, 384, 992, 2016, 4064, 8191]) (order := [0, 1, 2, 3, 4, 5, 6, 7, 8, 9, 10, 11, 12, 13]) [] mixed (by kernel_rfl) (fun w hw => hw.pick .nil) ?_
              refine Flow.pur rfl rfl rfl (p_field rfl rfl fi55_1 (by first | exact add_at0 _ _ | exact add_at _ _ _ | rfl)) ?_
              refine Flow.valS rfl rfl rfl rfl (v_load rfl rfl ag34 (by first | exact has_blk rfl | exact has_old' (by assumption))) ?_
              refine Flow.pur rfl rfl rfl (p_move rfl rfl) ?_
              refine Flow.pur rfl rfl rfl (p_index1 (ad' := a1.add (v : Int).toNat) rfl rfl rfl Try.underlying34 sz3 (by omega) (by omega) rfl) ?_
              refine Flow.valS rfl rfl rfl rfl (v_load rfl rfl ag3 (has_old' x1)) ?_
              refine Flow.pur rfl rfl rfl (p_field rfl rfl fi55_1 (by first | exact add_at0 _ _ | exact add_at _ _ _ | rfl)) ?_
              refine Flow.valS rfl rfl rfl rfl (v_load rfl rfl ag34 (by first | exact has_blk rfl | exact has_old' (by assumption))) ?_
              refine Flow.valS rfl rfl rfl rfl (v_loads (vs := [_, _]) rfl rfl ag25 sz25 rfl (hass_blk rfl)) ?_
              refine Flow.pur rfl rfl rfl (p_move rfl rfl) ?_
              -- calls tangram/tangramref04.From
              refine Flow.rel0 rfl rfl rfl rfl (r_call en51 rfl rfl rfl (fun w' hw => rFrom_calls (hA.g.keep0 hw) e2 (by omega))) ?_
              rintro _ rfl
              refine Flow.pur rfl rfl rfl (p_index1 (ad' := a1.add (fromV es (getI pa v)).toNat) rfl rfl rfl Try.underlying34 sz3 (by omega) (by omega) rfl) ?_
              refine Flow.valS rfl rfl rfl rfl (v_load rfl rfl ag3 (has_old' x1')) ?_
              refine Flow.pur rfl rfl rfl (p_addw rfl rfl rfl) ?_
              refine Flow.pur rfl rfl rfl (p_neq rfl rfl rfl) ?_
              refine Flow.end rfl ?_
              simp only [List.map_cons, List.map_nil, List.nil_append, List.cons_append, List.append_nil]
              refine Fin.then ?_
              refine DC.cond rfl (fun c10 => ?_) (fun c10 => ?_)
              · refine DC.seq ?_
                refine DC.region ?_
                refine Seq.pur rfl rfl (p_assign rfl rfl) ?_
                refine Seq.nil ?_
                refine Fin.then ?_
                refine DC.ret ?_
                refine Fin.ret_block <| Fin.ret_then <| Fin.ret_then <| Fin.ret_block <| Fin.ret_then <| ?_
                refine Fin.weak (E' := [(4, _)]) ⟨rfl, trivial⟩ .nil ?_
                refine Fin.end1 (.inl rfl) rfl rfl ?_
                exact ⟨rfl, by rw [bad (by rw [hgb]; simp at c10; exact decide_eq_false c10)]⟩
              · refine DC.skip ?_
                refine Fin.inBlock ?_
                refine Fin.then ?_
                refine DC.region ?_
                refine Seq.pur rfl rfl (p_move rfl rfl) ?_
                refine Seq.pur rfl rfl (p_add rfl rfl rfl (by omega)) ?_
                refine Seq.pur rfl rfl (p_assign rfl rfl) ?_
                refine Seq.nil ?_
                refine Fin.again (v + 1) (by omega) ⟨by omega, fin (by rw [hgb]; simp at c10; exact decide_eq_true c10)⟩ ⟨rfl, rfl, rfl, trivial⟩ (Pick.all _)
  · refine DC.exit ?_
    refine Fin.exit_then <| Fin.exit_then <| Fin.exit_here <| ?_
    refine Fin.then ?_
    refine DC.seq ?_
    refine DC.region ?_
    refine Seq.pur rfl rfl (p_assign rfl rfl) ?_
    refine Seq.nil ?_
    refine Fin.then ?_
    refine DC.ret ?_
    refine Fin.weak (E' := [(4, _)]) ⟨rfl, trivial⟩ .nil ?_
    refine Fin.end1 (.inl rfl) rfl rfl ?_
    have hve : v = N := by simp at c2; omega
    subst hve
    exact ⟨rfl, by rw [show hangsF es pa he oi v = true from range_true hha]⟩

theorem rrooted_calls (hA : FA w N es va v0 v1 v2 v3 pa he od oi) :
    Calls Try.prog 61 #[.agg #[.int .i64 N, va], .agg #[v0, v1, v2, v3]] w (Ret w [] fun x L => L = [] ∧ x = .bool (rootF pa he N)) := by
  have hV := hA.vld
  have hN1 := hV.hi
  have l0 := hA.l0
  have l1 := hA.l1
  refine calls_of (args := [_, _]) (L := []) Try.func61 rfl Try.ntmps61 rfl (Own.start _ _) ?_
  refine DC.seq ?_
  refine DC.region ?_
  refine Seq.new rfl rfl (n_box rfl rfl rfl) fun g2 => ?_
  refine Seq.new rfl rfl (n_box rfl rfl rfl) fun g3 => ?_
  refine Seq.pur rfl rfl (p_assign rfl rfl) ?_
  refine Seq.nil ?_
  refine Fin.then ?_
  refine DC.seq ?_
  refine DC.seq ?_
  refine DC.region ?_
  refine Seq.pur rfl rfl (p_assign rfl rfl) ?_
  refine Seq.nil ?_
  refine Fin.then ?_
  refine DC.block ?_
  refine DC.loop (ι := Nat) (fun v => v ≤ N ∧ ∀ x : Nat, x < v → rootB pa he N x = true)
    (fun v => [(2, .pointer (some ⟨g2, 0, none⟩)), (3, .pointer (some ⟨g3, 0, none⟩)), (5, .int .i64 v)])
    (fun v => [blk g3 55 #[v0, v1, v2, v3], blk g2 25 #[.int .i64 N, va]]) (fun v => N - v) 0 ⟨Nat.zero_le _, fun _ h => absurd h (Nat.not_lt_zero _)⟩ ⟨rfl, rfl, rfl, trivial⟩ (Pick.all _) ?_
  rintro v ⟨hv, hha⟩
  refine DC.seq ?_
  refine DC.seq ?_
  refine DC.region ?_
  refine Seq.pur rfl rfl (p_move rfl rfl) ?_
  refine Seq.pur rfl rfl (p_field rfl rfl fi25_0 (by first | exact add_at0 _ _ | exact add_at _ _ _ | rfl)) ?_
  refine Seq.val rfl rfl (v_load rfl rfl ag3 (by first | exact has_blk rfl | exact has_old' (by assumption))) ?_
  refine Seq.pur rfl rfl (p_lss rfl rfl rfl) ?_
  refine Seq.nil ?_
  refine Fin.then ?_
  refine DC.cond rfl (fun c2 => ?_) (fun c2 => ?_)
  · have hlt : v < N := by simpa using c2
    obtain ⟨a0, c0', rfl, x0⟩ := hA.p.cell (i := (v : Int)) (by omega) (by omega)
    obtain ⟨a1, c1', rfl, x1⟩ := hA.h.cell (i := (v : Int)) (by omega) (by omega)
    have fin : rootB pa he N v = true → ∀ x : Nat, x < v + 1 → rootB pa he N x = true := fun h x hx => by
      rcases Nat.lt_succ_iff_lt_or_eq.1 hx with hx | rfl
      · exact hha x hx
      · exact h
    have bad : rootB pa he N v = false → rootF pa he N = false := fun h => range_false hlt h
    refine DC.skip ?_
    refine Fin.then ?_
    refine DC.seq ?_
    refine DC.block ?_
    refine DC.seq ?_
    refine DC.flow (cl := [.q, .v, .q, .q, .v, .q, .q, .q, .v, .q, .q, .v, .q, .v, .q, .q, .q, .q, .v, .q, .q, .v, .q, .q, .v, .q, .q, .v, .q, .q, .q]) (A := [0, 1, 0, 7, 15, 31, 63, 127, 255, 127, 1023, 2047, 127, 4223, 16383, 32767, 65535, 131071, 262143, 131071, 1048575, 2097151, 4194303, 131071, 8519679, 131071, 58851327, 125960191, 260177919, 536870911, 1073741823]) (order := [0, 1, 2, 3, 4, 5, 6, 7, 8, 9, 10, 11, 12, 13, 14, 15, 16, 17, 18, 19, 20, 21, 22, 23, 24, 25, 26, 27, 28, 29, 30]) [] mixed (by kernel_rfl) (fun w hw => hw.pick .nil) ?_
    refine Flow.pur rfl rfl rfl (p_field rfl rfl fi55_1 (by first | exact add_at0 _ _ | exact add_at _ _ _ | rfl)) ?_
    refine Flow.valS rfl rfl rfl rfl (v_load rfl rfl ag34 (by first | exact has_blk rfl | exact has_old' (by assumption))) ?_
    refine Flow.pur rfl rfl rfl (p_move rfl rfl) ?_
    refine Flow.pur rfl rfl rfl (p_index1 (ad' := a1.add (v : Int).toNat) rfl rfl rfl Try.underlying34 sz3 (by omega) (by omega) rfl) ?_
    refine Flow.valS rfl rfl rfl rfl (v_load rfl rfl ag3 (has_old' x1)) ?_
    refine Flow.pur rfl rfl rfl (p_lss rfl rfl rfl) ?_
    refine Flow.pur rfl rfl rfl (p_move rfl rfl) ?_
    refine Flow.split 18 rfl (fun k4_6 => ?_) (fun k4_6 => ?_)
    · refine Flow.skip rfl rfl rfl ?_
      refine Flow.skip rfl rfl rfl ?_
      refine Flow.skip rfl rfl rfl ?_
      refine Flow.skip rfl rfl rfl ?_
      refine Flow.skip rfl rfl rfl ?_
      refine Flow.skip rfl rfl rfl ?_
      refine Flow.skip rfl rfl rfl ?_
      refine Flow.skip rfl rfl rfl ?_
      refine Flow.pur rfl rfl rfl (p_pick_t rfl rfl rfl) ?_
      refine Flow.pur rfl rfl rfl (p_move rfl rfl) ?_
      refine Flow.skip rfl rfl rfl ?_
      refine Flow.skip rfl rfl rfl ?_
      refine Flow.skip rfl rfl rfl ?_
      refine Flow.skip rfl rfl rfl ?_
      refine Flow.skip rfl rfl rfl ?_
      refine Flow.skip rfl rfl rfl ?_
      refine Flow.skip rfl rfl rfl ?_
      refine Flow.skip rfl rfl rfl ?_
      refine Flow.skip rfl rfl rfl ?_
      refine Flow.skip rfl rfl rfl ?_
      refine Flow.skip rfl rfl rfl ?_
      refine Flow.skip rfl rfl rfl ?_
      refine Flow.skip rfl rfl rfl ?_
      refine Flow.pur rfl rfl rfl (p_pick_t rfl rfl rfl) ?_
      refine Flow.end rfl ?_
      simp only [List.map_cons, List.map_nil, List.nil_append, List.cons_append, List.append_nil]
      refine Fin.then ?_
      refine DC.cond_t rfl ?_
      refine DC.seq ?_
      refine DC.region ?_
      refine Seq.pur rfl rfl (p_assign rfl rfl) ?_
      refine Seq.nil ?_
      refine Fin.then ?_
      refine DC.ret ?_
      refine Fin.ret_block <| Fin.ret_then <| Fin.ret_then <| Fin.ret_block <| Fin.ret_then <| ?_
      refine Fin.weak (E' := [(4, _)]) ⟨rfl, trivial⟩ .nil ?_
      refine Fin.end1 (.inl rfl) rfl rfl ?_
      exact ⟨rfl, by rw [bad (by simp at k4_6; simp [rootB]; omega)]⟩
    · refine Flow.pur rfl rfl rfl (p_field rfl rfl fi55_1 (by first | exact add_at0 _ _ | exact add_at _ _ _ | rfl)) ?_
      refine Flow.valS rfl rfl rfl rfl (v_load rfl rfl ag34 (by first | exact has_blk rfl | exact has_old' (by assumption))) ?_
      refine Flow.pur rfl rfl rfl (p_move rfl rfl) ?_
      refine Flow.pur rfl rfl rfl (p_index1 (ad' := a1.add (v : Int).toNat) rfl rfl rfl Try.underlying34 sz3 (by omega) (by omega) rfl) ?_
      refine Flow.valS rfl rfl rfl rfl (v_load rfl rfl ag3 (has_old' x1)) ?_
      refine Flow.pur rfl rfl rfl (p_field rfl rfl fi25_0 (by first | exact add_at0 _ _ | exact add_at _ _ _ | rfl)) ?_
      refine Flow.valS rfl rfl rfl rfl (v_load rfl rfl ag3 (by first | exact has_blk rfl | exact has_old' (by assumption))) ?_
      refine Flow.pur rfl rfl rfl (p_geq rfl rfl rfl) ?_
      refine Flow.pur rfl rfl rfl (p_pick_f rfl rfl rfl) ?_
      refine Flow.pur rfl rfl rfl (p_move rfl rfl) ?_
      refine Flow.split 28 rfl (fun k4_16 => ?_) (fun k4_16 => ?_)
      · refine Flow.skip rfl rfl rfl ?_
        refine Flow.skip rfl rfl rfl ?_
        refine Flow.skip rfl rfl rfl ?_
        refine Flow.skip rfl rfl rfl ?_
        refine Flow.skip rfl rfl rfl ?_
        refine Flow.skip rfl rfl rfl ?_
        refine Flow.skip rfl rfl rfl ?_
        refine Flow.skip rfl rfl rfl ?_
        refine Flow.skip rfl rfl rfl ?_
        refine Flow.skip rfl rfl rfl ?_
        refine Flow.skip rfl rfl rfl ?_
        refine Flow.skip rfl rfl rfl ?_
        refine Flow.skip rfl rfl rfl ?_
        refine Flow.pur rfl rfl rfl (p_pick_t rfl rfl rfl) ?_
        refine Flow.end rfl ?_
        simp only [List.map_cons, List.map_nil, List.nil_append, List.cons_append, List.append_nil]
        refine Fin.then ?_
        refine DC.cond_t rfl ?_
        refine DC.seq ?_
        refine DC.region ?_
        refine Seq.pur rfl rfl (p_assign rfl rfl) ?_
        refine Seq.nil ?_
        refine Fin.then ?_
        refine DC.ret ?_
        refine Fin.ret_block <| Fin.ret_then <| Fin.ret_then <| Fin.ret_block <| Fin.ret_then <| ?_
        refine Fin.weak (E' := [(4, _)]) ⟨rfl, trivial⟩ .nil ?_
        refine Fin.end1 (.inl rfl) rfl rfl ?_
        exact ⟨rfl, by rw [bad (by simp at k4_16; simp [rootB]; omega)]⟩
      · refine Flow.pur rfl rfl rfl (p_field rfl rfl fi55_1 (by first | exact add_at0 _ _ | exact add_at _ _ _ | rfl)) ?_
        refine Flow.valS rfl rfl rfl rfl (v_load rfl rfl ag34 (by first | exact has_blk rfl | exact has_old' (by assumption))) ?_
        refine Flow.pur rfl rfl rfl (p_move rfl rfl) ?_
        refine Flow.pur rfl rfl rfl (p_index1 (ad' := a1.add (v : Int).toNat) rfl rfl rfl Try.underlying34 sz3 (by omega) (by omega) rfl) ?_
        refine Flow.valS rfl rfl rfl rfl (v_load rfl rfl ag3 (has_old' x1)) ?_
        refine Flow.pur rfl rfl rfl (p_eql rfl rfl rfl) ?_
        refine Flow.pur rfl rfl rfl (p_field rfl rfl fi55_0 (by first | exact add_at0 _ _ | exact add_at _ _ _ | rfl)) ?_
        refine Flow.valS rfl rfl rfl rfl (v_load rfl rfl ag34 (by first | exact has_blk rfl | exact has_old' (by assumption))) ?_
        refine Flow.pur rfl rfl rfl (p_move rfl rfl) ?_
        refine Flow.pur rfl rfl rfl (p_index1 (ad' := a0.add (v : Int).toNat) rfl rfl rfl Try.underlying34 sz3 (by omega) (by omega) rfl) ?_
        refine Flow.valS rfl rfl rfl rfl (v_load rfl rfl ag3 (has_old' x0)) ?_
        refine Flow.pur rfl rfl rfl (p_eql rfl rfl rfl) ?_
        refine Flow.pur rfl rfl rfl (p_neq_b rfl rfl rfl Try.underlying4) ?_
        refine Flow.pur rfl rfl rfl (p_pick_f rfl rfl rfl) ?_
        refine Flow.end rfl ?_
        simp only [List.map_cons, List.map_nil, List.nil_append, List.cons_append, List.append_nil]
        refine Fin.then ?_
        refine DC.cond rfl (fun c4 => ?_) (fun c4 => ?_)
        · refine DC.seq ?_
          refine DC.region ?_
          refine Seq.pur rfl rfl (p_assign rfl rfl) ?_
          refine Seq.nil ?_
          refine Fin.then ?_
          refine DC.ret ?_
          refine Fin.ret_block <| Fin.ret_then <| Fin.ret_then <| Fin.ret_block <| Fin.ret_then <| ?_
          refine Fin.weak (E' := [(4, _)]) ⟨rfl, trivial⟩ .nil ?_
          refine Fin.end1 (.inl rfl) rfl rfl ?_
          exact ⟨rfl, by rw [bad (by simp at k4_6 k4_16 c4; simp only [rootB, decide_eq_false_iff_not]; rintro ⟨_, _, h⟩; exact c4 h)]⟩
        · refine DC.skip ?_
          refine Fin.inBlock ?_
          refine Fin.then ?_
          refine DC.region ?_
          refine Seq.pur rfl rfl (p_move rfl rfl) ?_
          refine Seq.pur rfl rfl (p_add rfl rfl rfl (by omega)) ?_
          refine Seq.pur rfl rfl (p_assign rfl rfl) ?_
          refine Seq.nil ?_
          refine Fin.again (v + 1) (by omega) ⟨by omega, fin (by simp at k4_6 k4_16 c4; simp only [rootB, decide_eq_true_eq]; exact ⟨k4_6, k4_16, c4⟩)⟩ ⟨rfl, rfl, rfl, trivial⟩ (Pick.all _)
  · refine DC.exit ?_
    refine Fin.exit_then <| Fin.exit_then <| Fin.exit_here <| ?_
    refine Fin.then ?_
    refine DC.seq ?_
    refine DC.region ?_
    refine Seq.pur rfl rfl (p_assign rfl rfl) ?_
    refine Seq.nil ?_
    refine Fin.then ?_
    refine DC.ret ?_
    refine Fin.weak (E' := [(4, _)]) ⟨rfl, trivial⟩ .nil ?_
    refine Fin.end1 (.inl rfl) rfl rfl ?_
    have hve : v = N := by simp at c2; omega
    subst hve
    exact ⟨rfl, by rw [show rootF pa he v = true from range_true hha]⟩
end
end Go.Fl
