/- dfs.ends, dfs.places, dfs.hangs. -/
import Derived.Test.YtbkhejfnhbjhpaaFlVf
import Derived.Test.YtbkhejfnhbjhpaaWalk1
import Derived.Test.YtbkhejfnhbjhpaaFo1
set_option linter.unusedVariables false
set_option linter.unusedSimpArgs false
set_option maxRecDepth 100000
namespace Go.Fl
open Go Go.Proofs

theorem ends_calls {N h : Int} {es : List Pr} {va : Value} {w : World} (hg : PrV w va es) (h0 : 0 ≤ h) (h1 : h < es.length * 2) :
    Calls Try.prog 59 #[.agg #[.int .i64 N, va], .int .i64 h] w (Ret w [] fun v L => L = [] ∧ v = .tuple #[.int .i64 (fromV es h), .int .i64 (toV es h)]) := by
  obtain ⟨A, cap, rfl, hr, hlc, hcm, hl⟩ := hg
  obtain ⟨hn, rfl⟩ := Int.eq_ofNat_of_zero_le h0
  obtain ⟨e, he, hf⟩ := frs_at (es := es) (h := hn) (by omega)
  have hfv : fromV es hn = if hn % 2 = 0 then e.1 else e.2 := by unfold fromV; rw [if_pos h0, Int.toNat_natCast, hf]; rfl
  have htv : toV es hn = if hn % 2 = 0 then e.2 else e.1 := by
    obtain ⟨f1, f2⟩ := frs_get he
    unfold toV tw
    rw [if_pos h0]
    by_cases hp : hn % 2 = 0
    · rw [if_pos hp, if_pos (by omega)]
      unfold fromV
      rw [if_pos (by omega), show ((hn : Int) + 1).toNat = 2 * (hn / 2) + 1 by omega, f2]; rfl
    · rw [if_neg hp, if_neg (by omega)]
      unfold fromV
      rw [if_pos (by omega), show ((hn : Int) - 1).toNat = 2 * (hn / 2) by omega, f1]; rfl
  obtain ⟨ad, rfl, hU, hV⟩ := hr.pair he
  have hd : ((hn : Int) / 2).toNat = hn / 2 := by omega
  refine calls_of (args := [_, _]) (L := []) Try.func59 rfl Try.ntmps59 rfl (Own.start _ _) ?_
  refine DC.seq ?_
  refine DC.region ?_
  refine Seq.new rfl rfl (n_box rfl rfl rfl) fun g2 => ?_
  refine Seq.pur rfl rfl (p_assign rfl rfl) ?_
  refine Seq.pur rfl rfl (p_assign rfl rfl) ?_
  refine Seq.nil ?_
  refine Fin.then ?_
  refine DC.seq ?_
  refine DC.region ?_
  refine Seq.pur rfl rfl (p_field rfl rfl fi25_1 (by first | exact add_at0 _ _ | exact add_at _ _ _ | rfl)) ?_
  refine Seq.val rfl rfl (v_load rfl rfl ag23 (by first | exact has_blk rfl | exact has_old' (by assumption))) ?_
  refine Seq.pur rfl rfl (p_move rfl rfl) ?_
  refine Seq.pur rfl rfl (p_quo rfl rfl rfl (by omega) (by omega)) ?_
  refine Seq.pur rfl rfl (p_index (ad' := ad.add (hn / 2 * 2)) rfl rfl rfl Try.underlying23 sz39 (by omega) (by omega) (by rw [hd])) ?_
  refine Seq.val rfl rfl (v_loads (vs := [_, _]) rfl rfl ag39 sz39 rfl (hass2 hU hV (by simp))) ?_
  refine Seq.new rfl rfl (n_alloc rfl ze39 rfl) fun g6 => ?_
  refine Seq.sto rfl rfl (s_stores (cs' := #[_, _]) rfl rfl rfl sz39 rfl (Nat.le_of_ble_eq_true rfl) rfl) ?_
  refine Seq.nil ?_
  refine Fin.then ?_
  refine DC.seq ?_
  refine DC.seq ?_
  refine DC.region ?_
  refine Seq.pur rfl rfl (p_move rfl rfl) ?_
  refine Seq.pur rfl rfl (p_rem rfl rfl rfl (by omega) (by omega)) ?_
  refine Seq.pur rfl rfl (p_eql rfl rfl rfl) ?_
  refine Seq.nil ?_
  refine Fin.then ?_
  refine DC.cond rfl (fun c2 => ?_) (fun c2 => ?_)
  · refine DC.seq ?_
    refine DC.flow (cl := [.q, .v, .q, .v, .q, .q]) (A := [0, 1, 0, 4, 3, 31]) (order := [0, 1, 2, 3, 4, 5]) [] mixed (by kernel_rfl) (fun w hw => hw.pick .nil) ?_
    refine Flow.pur rfl rfl rfl (p_field rfl rfl fi39_0 (by first | exact add_at0 _ _ | exact add_at _ _ _ | rfl)) ?_
    refine Flow.valS rfl rfl rfl rfl (v_load rfl rfl ag3 (by first | exact has_blk rfl | exact has_old' (by assumption))) ?_
    refine Flow.pur rfl rfl rfl (p_field rfl rfl fi39_1 (by first | exact add_at0 _ _ | exact add_at _ _ _ | rfl)) ?_
    refine Flow.valS rfl rfl rfl rfl (v_load rfl rfl ag3 (by first | exact has_blk rfl | exact has_old' (by assumption))) ?_
    refine Flow.pur rfl rfl rfl (p_assign rfl rfl) ?_
    refine Flow.pur rfl rfl rfl (p_assign rfl rfl) ?_
    refine Flow.end rfl ?_
    simp only [List.map_cons, List.map_nil, List.nil_append, List.cons_append, List.append_nil]
    refine Fin.then ?_
    refine DC.ret ?_
    refine Fin.ret_then <| ?_
    refine Fin.weak (E' := [(4, _), (5, _)]) ⟨rfl, rfl, trivial⟩ .nil ?_
    refine Fin.end2 (.inl rfl) rfl rfl rfl ?_
    have : hn % 2 = 0 := by simp at c2; omega
    exact ⟨rfl, by rw [hfv, htv, if_pos this, if_pos this]⟩
  · refine DC.skip ?_
    refine Fin.then ?_
    refine DC.seq ?_
    refine DC.flow (cl := [.q, .v, .q, .v, .q, .q]) (A := [0, 1, 0, 4, 3, 31]) (order := [0, 1, 2, 3, 4, 5]) [] mixed (by kernel_rfl) (fun w hw => hw.pick .nil) ?_
    refine Flow.pur rfl rfl rfl (p_field rfl rfl fi39_1 (by first | exact add_at0 _ _ | exact add_at _ _ _ | rfl)) ?_
    refine Flow.valS rfl rfl rfl rfl (v_load rfl rfl ag3 (by first | exact has_blk rfl | exact has_old' (by assumption))) ?_
    refine Flow.pur rfl rfl rfl (p_field rfl rfl fi39_0 (by first | exact add_at0 _ _ | exact add_at _ _ _ | rfl)) ?_
    refine Flow.valS rfl rfl rfl rfl (v_load rfl rfl ag3 (by first | exact has_blk rfl | exact has_old' (by assumption))) ?_
    refine Flow.pur rfl rfl rfl (p_assign rfl rfl) ?_
    refine Flow.pur rfl rfl rfl (p_assign rfl rfl) ?_
    refine Flow.end rfl ?_
    simp only [List.map_cons, List.map_nil, List.nil_append, List.cons_append, List.append_nil]
    refine Fin.then ?_
    refine DC.ret ?_
    refine Fin.weak (E' := [(4, _), (5, _)]) ⟨rfl, rfl, trivial⟩ .nil ?_
    refine Fin.end2 (.inl rfl) rfl rfl rfl ?_
    have : ¬ hn % 2 = 0 := by simp at c2; omega
    exact ⟨rfl, by rw [hfv, htv, if_neg this, if_neg this]⟩

structure PlI where
  i : Nat
  at' : List Int
theorem places_calls {N : Nat} {va v0 v1 v2 v3 : Value} {od : List Int} {w : World} (hN : N ≤ 1048576) (h2 : SlV w v2 od) :
    Calls Try.prog 56 #[.agg #[.int .i64 N, va], .agg #[v0, v1, v2, v3]] w (Ret w [] fun v L =>
      (placesF N od 0 (List.replicate N (-1)) = none ∧ v = .tuple #[.slice none 0 0, .bool false] ∧ L = []) ∨
      (∃ g at', placesF N od 0 (List.replicate N (-1)) = some at' ∧ at'.length = N ∧ v = .tuple #[.slice (some ⟨g, 0, none⟩) N N, .bool true] ∧ L = [blk g 3 (ints at').toArray])) := by
  obtain ⟨A, cap, rfl, hr, hlc, hcm, hl⟩ := h2
  refine calls_of (args := [_, _]) (L := []) Try.func56 rfl Try.ntmps56 rfl (Own.start _ _) ?_
  refine DC.seq ?_
  refine DC.region ?_
  refine Seq.new rfl rfl (n_box rfl rfl rfl) fun g2 => ?_
  refine Seq.new rfl rfl (n_box rfl rfl rfl) fun g3 => ?_
  refine Seq.pur rfl rfl (p_assign rfl rfl) ?_
  refine Seq.pur rfl rfl (p_assign rfl rfl) ?_
  refine Seq.nil ?_
  refine Fin.then ?_
  refine DC.seq ?_
  refine DC.region ?_
  refine Seq.pur rfl rfl (p_field rfl rfl fi25_0 (by first | exact add_at0 _ _ | exact add_at _ _ _ | rfl)) ?_
  refine Seq.val rfl rfl (v_load rfl rfl ag3 (by first | exact has_blk rfl | exact has_old' (by assumption))) ?_
  -- calls tangram/dfs.filled
  refine Seq.rel rfl rfl (r_call en58 rfl rfl rfl (fun w' hw => filled_calls N (-1) w' (by omega))) ?_
  rintro _ _ ⟨g, rfl, rfl⟩
  simp only [List.cons_append, List.nil_append]
  refine Seq.pur rfl rfl (p_assign rfl rfl) ?_
  refine Seq.nil ?_
  refine Fin.then ?_
  refine DC.seq ?_
  refine DC.seq ?_
  refine DC.region ?_
  refine Seq.pur rfl rfl (p_field rfl rfl fi55_2 (by first | exact add_at0 _ _ | exact add_at _ _ _ | rfl)) ?_
  refine Seq.val rfl rfl (v_load rfl rfl ag34 (by first | exact has_blk rfl | exact has_old' (by assumption))) ?_
  refine Seq.pur rfl rfl (p_len rfl rfl Try.underlying34) ?_
  refine Seq.pur rfl rfl (p_move rfl rfl) ?_
  refine Seq.nil ?_
  refine Fin.then ?_
  refine DC.block ?_
  refine DC.loop (ι := PlI) (fun j => j.i ≤ od.length ∧ j.at'.length = N ∧ placesF N (od.drop j.i) j.i j.at' = placesF N od 0 (List.replicate N (-1)))
    (fun j => [(2, .pointer (some ⟨g2, 0, none⟩)), (6, .slice (some ⟨g, 0, none⟩) N N), (13, .slice A od.length cap), (14, .int .i64 od.length), (15, .int .i64 j.i)])
    (fun j => [blk g 3 (ints j.at').toArray, blk g2 25 #[.int .i64 N, va]])
    (fun j => od.length - j.i) ⟨0, List.replicate N (-1)⟩ ⟨Nat.zero_le _, by simp, rfl⟩ ⟨rfl, rfl, rfl, rfl, rfl, trivial⟩ (.cons 0 rfl (.cons 1 rfl .nil)) ?_
  rintro ⟨i, at'⟩ ⟨hi, hal, hF⟩
  dsimp only at hi hal hF ⊢
  refine DC.seq ?_
  refine DC.region ?_
  refine Seq.pur rfl rfl (p_lss rfl rfl rfl) ?_
  refine Seq.nil ?_
  refine Fin.then ?_
  refine DC.seq ?_
  refine DC.cond rfl (fun c3 => ?_) (fun c3 => ?_)
  · have hlt : i < od.length := by simpa using c3
    obtain ⟨x, hx⟩ : ∃ x, od[i]? = some x := ⟨_, List.getElem?_eq_getElem hlt⟩
    obtain ⟨ad, rfl, hX⟩ := hr.int hx
    have hdrop : od.drop i = x :: od.drop (i + 1) := by rw [List.drop_eq_getElem_cons hlt, (List.getElem?_eq_some_iff.1 hx).2]
    rw [hdrop, placesF_cons] at hF
    refine DC.skip ?_
    refine Fin.then ?_
    refine DC.seq ?_
    refine DC.block ?_
    refine DC.seq ?_
    refine DC.region ?_
    refine Seq.pur rfl rfl (p_move rfl rfl) ?_
    refine Seq.pur rfl rfl (p_index1 (ad' := ad.add i) rfl rfl rfl Try.underlying34 sz3 (by omega) (by omega) rfl) ?_
    refine Seq.val rfl rfl (v_load rfl rfl ag3 (has_old' hX)) ?_
    refine Seq.pur rfl rfl (p_assign rfl rfl) ?_
    refine Seq.pur rfl rfl (p_assign rfl rfl) ?_
    refine Seq.nil ?_
    refine Fin.then ?_
    refine DC.seq ?_
    refine DC.seq ?_
    refine DC.region ?_
    refine Seq.pur rfl rfl (p_move rfl rfl) ?_
    refine Seq.pur rfl rfl (p_lss rfl rfl rfl) ?_
    refine Seq.pur rfl rfl (p_move rfl rfl) ?_
    refine Seq.split 22 rfl (fun k5_2 => ?_) (fun k5_2 => ?_)
    · refine Seq.skip rfl rfl ?_
      refine Seq.skip rfl rfl ?_
      refine Seq.skip rfl rfl ?_
      refine Seq.skip rfl rfl ?_
      refine Seq.pur rfl rfl (p_pick_t rfl rfl rfl) ?_
      refine Seq.pur rfl rfl (p_move rfl rfl) ?_
      refine Seq.skip rfl rfl ?_
      refine Seq.skip rfl rfl ?_
      refine Seq.skip rfl rfl ?_
      refine Seq.skip rfl rfl ?_
      refine Seq.skip rfl rfl ?_
      refine Seq.pur rfl rfl (p_pick_t rfl rfl rfl) ?_
      refine Seq.nil ?_
      refine Fin.then ?_
      refine DC.cond_t rfl ?_
      refine DC.seq ?_
      refine DC.region ?_
      refine Seq.pur rfl rfl (p_assign rfl rfl) ?_
      refine Seq.pur rfl rfl (p_assign rfl rfl) ?_
      refine Seq.nil ?_
      refine Fin.then ?_
      refine DC.ret ?_
      refine Fin.ret_then <| Fin.ret_block <| Fin.ret_then <| Fin.ret_then <| Fin.ret_block <| Fin.ret_then <| ?_
      refine Fin.weak (E' := [(4, _), (5, _)]) ⟨rfl, rfl, trivial⟩ .nil ?_
      refine Fin.end2 (.inl rfl) rfl rfl rfl ?_
      refine .inl ⟨?_, rfl, rfl⟩
      rw [if_pos (by simp at k5_2; omega)] at hF; exact hF.symm
    · refine Seq.pur rfl rfl (p_move rfl rfl) ?_
      refine Seq.pur rfl rfl (p_field rfl rfl fi25_0 (by first | exact add_at0 _ _ | exact add_at _ _ _ | rfl)) ?_
      refine Seq.val rfl rfl (v_load rfl rfl ag3 (by first | exact has_blk rfl | exact has_old' (by assumption))) ?_
      refine Seq.pur rfl rfl (p_geq rfl rfl rfl) ?_
      refine Seq.pur rfl rfl (p_pick_f rfl rfl rfl) ?_
      refine Seq.pur rfl rfl (p_move rfl rfl) ?_
      refine Seq.split 28 rfl (fun k5_8 => ?_) (fun k5_8 => ?_)
      · refine Seq.skip rfl rfl ?_
        refine Seq.skip rfl rfl ?_
        refine Seq.skip rfl rfl ?_
        refine Seq.skip rfl rfl ?_
        refine Seq.skip rfl rfl ?_
        refine Seq.pur rfl rfl (p_pick_t rfl rfl rfl) ?_
        refine Seq.nil ?_
        refine Fin.then ?_
        refine DC.cond_t rfl ?_
        refine DC.seq ?_
        refine DC.region ?_
        refine Seq.pur rfl rfl (p_assign rfl rfl) ?_
        refine Seq.pur rfl rfl (p_assign rfl rfl) ?_
        refine Seq.nil ?_
        refine Fin.then ?_
        refine DC.ret ?_
        refine Fin.ret_then <| Fin.ret_block <| Fin.ret_then <| Fin.ret_then <| Fin.ret_block <| Fin.ret_then <| ?_
        refine Fin.weak (E' := [(4, _), (5, _)]) ⟨rfl, rfl, trivial⟩ .nil ?_
        refine Fin.end2 (.inl rfl) rfl rfl rfl ?_
        refine .inl ⟨?_, rfl, rfl⟩
        rw [if_pos (by simp at k5_8; omega)] at hF; exact hF.symm
      · have hx0 : 0 ≤ x := by simpa using k5_2
        have hxN : x < N := by simpa using k5_8
        have hax := getI_some (l := at') (i := x) (by omega)
        refine Seq.pur rfl rfl (p_move rfl rfl) ?_
        refine Seq.pur rfl rfl (p_move rfl rfl) ?_
        refine Seq.pur rfl rfl (p_index1 (ad' := ⟨g, x.toNat, none⟩) rfl rfl rfl Try.underlying34 sz3 (by omega) (by omega) (by rw [add_at0])) ?_
        refine Seq.val rfl rfl (v_load rfl rfl ag3 (has_row (ints_arr hax))) ?_
        refine Seq.pur rfl rfl (p_geq rfl rfl rfl) ?_
        refine Seq.pur rfl rfl (p_pick_f rfl rfl rfl) ?_
        refine Seq.nil ?_
        refine Fin.then ?_
        refine DC.cond rfl (fun c5 => ?_) (fun c5 => ?_)
        · refine DC.seq ?_
          refine DC.region ?_
          refine Seq.pur rfl rfl (p_assign rfl rfl) ?_
          refine Seq.pur rfl rfl (p_assign rfl rfl) ?_
          refine Seq.nil ?_
          refine Fin.then ?_
          refine DC.ret ?_
          refine Fin.ret_then <| Fin.ret_block <| Fin.ret_then <| Fin.ret_then <| Fin.ret_block <| Fin.ret_then <| ?_
          refine Fin.weak (E' := [(4, _), (5, _)]) ⟨rfl, rfl, trivial⟩ .nil ?_
          refine Fin.end2 (.inl rfl) rfl rfl rfl ?_
          refine .inl ⟨?_, rfl, rfl⟩
          rw [if_pos (by simp at c5; omega)] at hF; exact hF.symm
        · refine DC.skip ?_
          refine Fin.then ?_
          refine DC.region ?_
          refine Seq.pur rfl rfl (p_move rfl rfl) ?_
          refine Seq.pur rfl rfl (p_move rfl rfl) ?_
          refine Seq.pur rfl rfl (p_move rfl rfl) ?_
          refine Seq.pur rfl rfl (p_index1 (ad' := ⟨g, x.toNat, none⟩) rfl rfl rfl Try.underlying34 sz3 (by omega) (by omega) (by rw [add_at0])) ?_
          refine Seq.sto rfl rfl (s_store (cs' := (ints (at'.set x.toNat i)).toArray) rfl rfl rfl sz3 rfl (by simp; omega) row_set0) ?_
          refine Seq.nil ?_
          refine Fin.inBlock ?_
          refine Fin.then ?_
          refine DC.region ?_
          refine Seq.pur rfl rfl (p_add rfl rfl rfl (by omega)) ?_
          refine Seq.pur rfl rfl (p_move rfl rfl) ?_
          refine Seq.nil ?_
          rw [if_neg (by simp at c5; omega)] at hF
          refine Fin.again (PlI.mk (i + 1) (at'.set x.toNat i)) (by dsimp only; omega) ⟨by dsimp only; omega, by simp [hal], hF⟩ ⟨rfl, rfl, rfl, rfl, rfl, trivial⟩ (Pick.all _)
  · refine DC.exit ?_
    refine Fin.exit_then <| Fin.exit_then <| Fin.exit_here <| ?_
    refine Fin.then ?_
    refine DC.seq ?_
    refine DC.region ?_
    refine Seq.pur rfl rfl (p_move rfl rfl) ?_
    refine Seq.pur rfl rfl (p_assign rfl rfl) ?_
    refine Seq.pur rfl rfl (p_assign rfl rfl) ?_
    refine Seq.nil ?_
    refine Fin.then ?_
    refine DC.ret ?_
    refine Fin.weak (E' := [(4, _), (5, _)]) ⟨rfl, rfl, trivial⟩ (.cons 0 rfl .nil) ?_
    refine Fin.end2 (.inl rfl) rfl rfl rfl ?_
    have hie : i = od.length := by simp at c3; omega
    subst hie
    rw [List.drop_length] at hF
    exact .inr ⟨g, at', hF.symm, hal, rfl, rfl⟩

section
variable {w : World} {va v0 v1 v2 v3 : Value} {N : Nat} {es : List Pr} {pa he oi : List Int}
theorem hangs_calls {v : Int} (hg : PrV w va es) (hV : Vld N es) (h0 : SlV w v0 pa) (h1 : SlV w v1 he) (h3 : SlV w v3 oi) (l0 : pa.length = N) (l1 : he.length = N) (l3 : oi.length = es.length) (hv0 : 0 ≤ v) (hv1 : v < N) :
    Calls Try.prog 57 #[.agg #[.int .i64 N, va], .agg #[v0, v1, v2, v3], .int .i64 v] w (Ret w [] fun x L => L = [] ∧ x = .bool (hangB es pa he oi v)) := by
  have hfew := hV.few
  have hN1 := hV.hi
  obtain ⟨a0, c0', rfl, x0⟩ := h0.cell hv0 (by omega)
  obtain ⟨a1, c1', rfl, x1⟩ := h1.cell hv0 (by omega)
  obtain ⟨A, cap, hva, hr, hlc, hcm, hl⟩ := hg
  refine calls_of (args := [_, _, _]) (L := []) Try.func57 rfl Try.ntmps57 rfl (Own.start _ _) ?_
  subst hva
  refine DC.seq ?_
  refine DC.region ?_
  refine Seq.new rfl rfl (n_box rfl rfl rfl) fun g3 => ?_
  refine Seq.new rfl rfl (n_box rfl rfl rfl) fun g4 => ?_
  refine Seq.pur rfl rfl (p_assign rfl rfl) ?_
  refine Seq.nil ?_
  refine Fin.then ?_
  refine DC.seq ?_
  refine DC.region ?_
  refine Seq.pur rfl rfl (p_field rfl rfl fi55_0 (by first | exact add_at0 _ _ | exact add_at _ _ _ | rfl)) ?_
  refine Seq.val rfl rfl (v_load rfl rfl ag34 (by first | exact has_blk rfl | exact has_old' (by assumption))) ?_
  refine Seq.pur rfl rfl (p_move rfl rfl) ?_
  refine Seq.pur rfl rfl (p_index1 (ad' := a0.add v.toNat) rfl rfl rfl Try.underlying34 sz3 (by omega) (by omega) rfl) ?_
  refine Seq.val rfl rfl (v_load rfl rfl ag3 (has_old' x0)) ?_
  refine Seq.pur rfl rfl (p_assign rfl rfl) ?_
  refine Seq.nil ?_
  refine Fin.then ?_
  refine DC.seq ?_
  refine DC.seq ?_
  refine DC.region ?_
  refine Seq.pur rfl rfl (p_move rfl rfl) ?_
  refine Seq.pur rfl rfl (p_eql rfl rfl rfl) ?_
  refine Seq.nil ?_
  refine Fin.then ?_
  refine DC.cond rfl (fun c2 => ?_) (fun c2 => ?_)
  · refine DC.seq ?_
    refine DC.region ?_
    refine Seq.pur rfl rfl (p_field rfl rfl fi55_1 (by first | exact add_at0 _ _ | exact add_at _ _ _ | rfl)) ?_
    refine Seq.val rfl rfl (v_load rfl rfl ag34 (by first | exact has_blk rfl | exact has_old' (by assumption))) ?_
    refine Seq.pur rfl rfl (p_move rfl rfl) ?_
    refine Seq.pur rfl rfl (p_index1 (ad' := a1.add v.toNat) rfl rfl rfl Try.underlying34 sz3 (by omega) (by omega) rfl) ?_
    refine Seq.val rfl rfl (v_load rfl rfl ag3 (has_old' x1)) ?_
    refine Seq.pur rfl rfl (p_eql rfl rfl rfl) ?_
    refine Seq.pur rfl rfl (p_assign rfl rfl) ?_
    refine Seq.nil ?_
    refine Fin.then ?_
    refine DC.ret ?_
    refine Fin.ret_then <| ?_
    refine Fin.weak (E' := [(6, _)]) ⟨rfl, trivial⟩ .nil ?_
    refine Fin.end1 (.inl rfl) rfl rfl ?_
    have e1 : getI pa v = -1 := by simpa using c2
    exact ⟨rfl, by unfold hangB; rw [if_pos e1]⟩
  · have e1 : ¬ getI pa v = -1 := by simpa using c2
    refine DC.skip ?_
    refine Fin.then ?_
    refine DC.seq ?_
    refine DC.seq ?_
    refine DC.region ?_
    refine Seq.pur rfl rfl (p_move rfl rfl) ?_
    refine Seq.pur rfl rfl (p_lss rfl rfl rfl) ?_
    refine Seq.pur rfl rfl (p_move rfl rfl) ?_
    refine Seq.split 25 rfl (fun k4_2 => ?_) (fun k4_2 => ?_)
    · refine Seq.skip rfl rfl ?_
      refine Seq.skip rfl rfl ?_
      refine Seq.skip rfl rfl ?_
      refine Seq.skip rfl rfl ?_
      refine Seq.skip rfl rfl ?_
      refine Seq.skip rfl rfl ?_
      refine Seq.pur rfl rfl (p_pick_t rfl rfl rfl) ?_
      refine Seq.pur rfl rfl (p_move rfl rfl) ?_
      refine Seq.skip rfl rfl ?_
      refine Seq.skip rfl rfl ?_
      refine Seq.skip rfl rfl ?_
      refine Seq.skip rfl rfl ?_
      refine Seq.skip rfl rfl ?_
      refine Seq.skip rfl rfl ?_
      refine Seq.skip rfl rfl ?_
      refine Seq.skip rfl rfl ?_
      refine Seq.pur rfl rfl (p_pick_t rfl rfl rfl) ?_
      refine Seq.nil ?_
      refine Fin.then ?_
      refine DC.cond_t rfl ?_
      refine DC.seq ?_
      refine DC.region ?_
      refine Seq.pur rfl rfl (p_assign rfl rfl) ?_
      refine Seq.nil ?_
      refine Fin.then ?_
      refine DC.ret ?_
      refine Fin.ret_then <| ?_
      refine Fin.weak (E' := [(6, _)]) ⟨rfl, trivial⟩ .nil ?_
      refine Fin.end1 (.inl rfl) rfl rfl ?_
      exact ⟨rfl, by unfold hangB; rw [if_neg e1, if_pos (by simp at k4_2; omega)]⟩
    · refine Seq.pur rfl rfl (p_move rfl rfl) ?_
      refine Seq.pur rfl rfl (p_field rfl rfl fi25_1 (by first | exact add_at0 _ _ | exact add_at _ _ _ | rfl)) ?_
      refine Seq.val rfl rfl (v_load rfl rfl ag23 (by first | exact has_blk rfl | exact has_old' (by assumption))) ?_
      refine Seq.pur rfl rfl (p_len rfl rfl Try.underlying23) ?_
      refine Seq.pur rfl rfl (p_mul rfl rfl rfl (by omega)) ?_
      refine Seq.pur rfl rfl (p_geq rfl rfl rfl) ?_
      refine Seq.pur rfl rfl (p_pick_f rfl rfl rfl) ?_
      refine Seq.pur rfl rfl (p_move rfl rfl) ?_
      refine Seq.split 33 rfl (fun k4_10 => ?_) (fun k4_10 => ?_)
      · refine Seq.skip rfl rfl ?_
        refine Seq.skip rfl rfl ?_
        refine Seq.skip rfl rfl ?_
        refine Seq.skip rfl rfl ?_
        refine Seq.skip rfl rfl ?_
        refine Seq.skip rfl rfl ?_
        refine Seq.skip rfl rfl ?_
        refine Seq.skip rfl rfl ?_
        refine Seq.pur rfl rfl (p_pick_t rfl rfl rfl) ?_
        refine Seq.nil ?_
        refine Fin.then ?_
        refine DC.cond_t rfl ?_
        refine DC.seq ?_
        refine DC.region ?_
        refine Seq.pur rfl rfl (p_assign rfl rfl) ?_
        refine Seq.nil ?_
        refine Fin.then ?_
        refine DC.ret ?_
        refine Fin.ret_then <| ?_
        refine Fin.weak (E' := [(6, _)]) ⟨rfl, trivial⟩ .nil ?_
        refine Fin.end1 (.inl rfl) rfl rfl ?_
        exact ⟨rfl, by unfold hangB; rw [if_neg e1, if_pos (by simp at k4_10; omega)]⟩
      · have e2 : 0 ≤ getI pa v := by simpa using k4_2
        have e3 : getI pa v < 2 * (es.length : Int) := by simpa using k4_10
        obtain ⟨a3, c3', rfl, x3⟩ := h3.cell (i := getI pa v / 2) (by omega) (by omega)
        refine Seq.pur rfl rfl (p_field rfl rfl fi55_3 (by first | exact add_at0 _ _ | exact add_at _ _ _ | rfl)) ?_
        refine Seq.val rfl rfl (v_load rfl rfl ag34 (by first | exact has_blk rfl | exact has_old' (by assumption))) ?_
        refine Seq.pur rfl rfl (p_move rfl rfl) ?_
        refine Seq.pur rfl rfl (p_quo rfl rfl rfl (by omega) (by omega)) ?_
        refine Seq.pur rfl rfl (p_index1 (ad' := a3.add (getI pa v / 2).toNat) rfl rfl rfl Try.underlying34 sz3 (by omega) (by omega) rfl) ?_
        refine Seq.val rfl rfl (v_load rfl rfl ag3 (has_old' x3)) ?_
        refine Seq.pur rfl rfl (p_move rfl rfl) ?_
        refine Seq.pur rfl rfl (p_neq rfl rfl rfl) ?_
        refine Seq.pur rfl rfl (p_pick_f rfl rfl rfl) ?_
        refine Seq.nil ?_
        refine Fin.then ?_
        refine DC.cond rfl (fun c4 => ?_) (fun c4 => ?_)
        · refine DC.seq ?_
          refine DC.region ?_
          refine Seq.pur rfl rfl (p_assign rfl rfl) ?_
          refine Seq.nil ?_
          refine Fin.then ?_
          refine DC.ret ?_
          refine Fin.ret_then <| ?_
          refine Fin.weak (E' := [(6, _)]) ⟨rfl, trivial⟩ .nil ?_
          refine Fin.end1 (.inl rfl) rfl rfl ?_
          exact ⟨rfl, by unfold hangB; rw [if_neg e1, if_pos (by simp at c4; exact .inr (.inr c4))]⟩
        · have e4 : getI oi (getI pa v / 2) = getI pa v := by simpa using c4
          have hgb : hangB es pa he oi v = decide (toV es (getI pa v) = v ∧ getI he v = wr (getI he (fromV es (getI pa v)) + 1)) := by unfold hangB; rw [if_neg e1, if_neg (by omega)]
          have hfr := fromV_range hV e2 (by omega)
          obtain ⟨a1', c1'', he1, x1'⟩ := h1.cell (i := fromV es (getI pa v)) hfr.1 (by omega)
          cases he1
          refine DC.skip ?_
          refine Fin.then ?_
          refine DC.seq ?_
          refine DC.region ?_
          refine Seq.val rfl rfl (v_loads (vs := [_, _]) rfl rfl ag25 sz25 rfl (hass_blk rfl)) ?_
          refine Seq.pur rfl rfl (p_move rfl rfl) ?_
          -- calls tangram/dfs.ends
          refine Seq.rel0 rfl rfl (r_call en59 rfl rfl rfl (fun w' hw => ends_calls (PrV.keep0 ⟨A, cap, rfl, hr, hlc, hcm, hl⟩ hw) e2 (by omega))) ?_
          rintro _ rfl
          refine Seq.pur rfl rfl (p_move rfl rfl) ?_
          refine Seq.pur rfl rfl (p_extract rfl rfl rfl) ?_
          refine Seq.pur rfl rfl (p_extract rfl rfl rfl) ?_
          refine Seq.pur rfl rfl (p_assign rfl rfl) ?_
          refine Seq.pur rfl rfl (p_assign rfl rfl) ?_
          refine Seq.nil ?_
          refine Fin.then ?_
          refine DC.seq ?_
          refine DC.flow (cl := [.q, .q, .q, .q, .q, .v, .q, .q, .v, .q, .v, .q, .q, .v, .q, .q, .q, .q]) (A := [0, 0, 3, 7, 15, 31, 15, 127, 255, 15, 527, 15, 3599, 7695, 15887, 32767, 65535, 131071]) (order := [0, 1, 2, 3, 4, 5, 6, 7, 8, 9, 10, 11, 12, 13, 14, 15, 16, 17]) [] mixed (by kernel_rfl) (fun w hw => hw.pick .nil) ?_
          refine Flow.pur rfl rfl rfl (p_move rfl rfl) ?_
          refine Flow.pur rfl rfl rfl (p_move rfl rfl) ?_
          refine Flow.pur rfl rfl rfl (p_eql rfl rfl rfl) ?_
          refine Flow.pur rfl rfl rfl (p_move rfl rfl) ?_
          refine Flow.split 52 rfl (fun k7_3 => ?_) (fun k7_3 => ?_)
          · refine Flow.pur rfl rfl rfl (p_field rfl rfl fi55_1 (by first | exact add_at0 _ _ | exact add_at _ _ _ | rfl)) ?_
            refine Flow.valS rfl rfl rfl rfl (v_load rfl rfl ag34 (by first | exact has_blk rfl | exact has_old' (by assumption))) ?_
            refine Flow.pur rfl rfl rfl (p_move rfl rfl) ?_
            refine Flow.pur rfl rfl rfl (p_index1 (ad' := a1.add v.toNat) rfl rfl rfl Try.underlying34 sz3 (by omega) (by omega) rfl) ?_
            refine Flow.valS rfl rfl rfl rfl (v_load rfl rfl ag3 (has_old' x1)) ?_
            refine Flow.pur rfl rfl rfl (p_field rfl rfl fi55_1 (by first | exact add_at0 _ _ | exact add_at _ _ _ | rfl)) ?_
            refine Flow.valS rfl rfl rfl rfl (v_load rfl rfl ag34 (by first | exact has_blk rfl | exact has_old' (by assumption))) ?_
            refine Flow.pur rfl rfl rfl (p_move rfl rfl) ?_
            refine Flow.pur rfl rfl rfl (p_index1 (ad' := a1.add (fromV es (getI pa v)).toNat) rfl rfl rfl Try.underlying34 sz3 (by omega) (by omega) rfl) ?_
            refine Flow.valS rfl rfl rfl rfl (v_load rfl rfl ag3 (has_old' x1')) ?_
            refine Flow.pur rfl rfl rfl (p_addw rfl rfl rfl) ?_
            refine Flow.pur rfl rfl rfl (p_eql rfl rfl rfl) ?_
            refine Flow.pur rfl rfl rfl (p_pick_t rfl rfl rfl) ?_
            refine Flow.pur rfl rfl rfl (p_assign rfl rfl) ?_
            refine Flow.end rfl ?_
            simp only [List.map_cons, List.map_nil, List.nil_append, List.cons_append, List.append_nil]
            refine Fin.then ?_
            refine DC.ret ?_
            refine Fin.weak (E' := [(6, _)]) ⟨rfl, trivial⟩ .nil ?_
            refine Fin.end1 (.inl rfl) rfl rfl ?_
            have e5 : toV es (getI pa v) = v := by simpa using k7_3
            exact ⟨rfl, by rw [hgb]; simp [e5, wr]⟩
          · refine Flow.skip rfl rfl rfl ?_
            refine Flow.skip rfl rfl rfl ?_
            refine Flow.skip rfl rfl rfl ?_
            refine Flow.skip rfl rfl rfl ?_
            refine Flow.skip rfl rfl rfl ?_
            refine Flow.skip rfl rfl rfl ?_
            refine Flow.skip rfl rfl rfl ?_
            refine Flow.skip rfl rfl rfl ?_
            refine Flow.skip rfl rfl rfl ?_
            refine Flow.skip rfl rfl rfl ?_
            refine Flow.skip rfl rfl rfl ?_
            refine Flow.skip rfl rfl rfl ?_
            refine Flow.pur rfl rfl rfl (p_pick_f rfl rfl rfl) ?_
            refine Flow.pur rfl rfl rfl (p_assign rfl rfl) ?_
            refine Flow.end rfl ?_
            simp only [List.map_cons, List.map_nil, List.nil_append, List.cons_append, List.append_nil]
            refine Fin.then ?_
            refine DC.ret ?_
            refine Fin.weak (E' := [(6, _)]) ⟨rfl, trivial⟩ .nil ?_
            refine Fin.end1 (.inl rfl) rfl rfl ?_
            have e5 : ¬ toV es (getI pa v) = v := by simpa using k7_3
            exact ⟨rfl, by rw [hgb]; simp [e5]⟩
end
end Go.Fl
