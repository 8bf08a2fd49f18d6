/- Half, the reference's Half, vertex. -/
import Derived.Test.YtbkhejfnhbjhpaaFlHf
import Derived.Test.YtbkhejfnhbjhpaaCsr2
set_option linter.unusedVariables false
set_option linter.unusedSimpArgs false
set_option maxRecDepth 100000
namespace Go.Fl
open Go Go.Proofs

section
variable {N : Int} {es : List Pr} {M : AdjM} {p : Option Addr} {w : World}
theorem from_cell {h : Int} (hA : AdjAt w 73 3 M) (hP : AdjP N es M) (h0 : 0 ≤ h) (h1 : h < es.length * 2) : w.cell? ⟨M.g0, (tw h).toNat, none⟩ = some (.int .i64 (toV es h)) := by
  have htw := tw_range h0 h1
  obtain ⟨y, hy, hf⟩ := fromV_at es htw.1 htw.2
  rw [← hP.fr] at hy
  have e : toV es h = y := by unfold toV; rw [if_pos h0, hf]
  rw [e]
  exact cellh hA.h0 (ints_arr hy)
def HalfD (es : List Pr) (u v : Int) (r : Value) : Prop :=
  ∃ k b, r = .tuple #[.int .i64 k, .bool b] ∧ ((b = true ∧ IsHalf es u v k) ∨ (b = false ∧ k = 0 ∧ ∀ h, ¬ IsHalf es u v h))
theorem Half_calls (h : AV w N es M p) (u v : Int) : Calls Try.prog 28 #[.pointer p, .int .i64 u, .int .i64 v] w (Ret w [] fun r L => L = [] ∧ HalfD es u v r) := by
  have hV := h.vld
  have hfew := hV.few
  have hof := outs_few hV u
  refine calls_of (args := [_, _, _]) (L := []) Try.func28 rfl Try.ntmps28 rfl (Own.start _ _) ?_
  refine DC.seq ?_
  refine DC.region ?_
  refine Seq.pur rfl rfl (p_assign rfl rfl) ?_
  refine Seq.pur rfl rfl (p_assign rfl rfl) ?_
  refine Seq.nil ?_
  refine Fin.then ?_
  refine DC.seq ?_
  refine DC.region ?_
  refine Seq.pur rfl rfl (p_move rfl rfl) ?_
  refine Seq.pur rfl rfl (p_move rfl rfl) ?_
  -- calls (*tangram/csr.Adj).leave
  refine Seq.rel0 rfl rfl (r_call en48 rfl rfl rfl (fun w' hw => leave_calls (h.keep hw) u)) ?_
  rintro _ ⟨A, cap, rfl, hcap, hmax, hA'⟩
  refine Seq.pur rfl rfl (p_assign rfl rfl) ?_
  refine Seq.nil ?_
  refine Fin.then ?_
  refine DC.seq ?_
  refine DC.region ?_
  refine Seq.pur rfl rfl (p_move rfl rfl) ?_
  refine Seq.pur rfl rfl (p_len rfl rfl Try.underlying34) ?_
  refine Seq.pur rfl rfl (p_assign rfl rfl) ?_
  refine Seq.pur rfl rfl (p_assign rfl rfl) ?_
  refine Seq.nil ?_
  refine Fin.then ?_
  refine DC.seq ?_
  refine DC.block ?_
  refine DC.loop (ι := Nat × Nat) (fun q => q.1 ≤ q.2 ∧ q.2 ≤ (outs es u).length ∧ (∀ i, i < q.1 → ∀ k, (outs es u)[i]? = some k → toV es k < v) ∧ (∀ i, q.2 ≤ i → ∀ k, (outs es u)[i]? = some k → v ≤ toV es k))
    (fun q => [(0, .pointer p), (2, .int .i64 v), (8, .slice A (outs es u).length cap), (9, .int .i64 q.1), (10, .int .i64 q.2)]) (fun _ => []) (fun q => q.2 - q.1) (0, (outs es u).length) ⟨Nat.zero_le _, Nat.le_refl _, fun i hi => by omega, fun i hi k hk => by have := (List.getElem?_eq_some_iff.1 hk).1; dsimp only at hi; omega⟩ ⟨rfl, rfl, rfl, rfl, rfl, trivial⟩ .nil ?_
  rintro ⟨lo, hi⟩ ⟨h1, h2, h3, h4⟩
  dsimp only at h1 h2 h3 h4 ⊢
  refine DC.seq ?_
  refine DC.seq ?_
  refine DC.region ?_
  refine Seq.pur rfl rfl (p_move rfl rfl) ?_
  refine Seq.pur rfl rfl (p_move rfl rfl) ?_
  refine Seq.pur rfl rfl (p_lss rfl rfl rfl) ?_
  refine Seq.nil ?_
  refine Fin.then ?_
  refine DC.cond rfl (fun c3 => ?_) (fun c3 => ?_)
  · have hlt : lo < hi := by simpa using c3
    obtain ⟨s, hv0, hv1, hs, rfl⟩ := hA' (by omega)
    obtain ⟨mid, hmid⟩ : ∃ mid : Nat, ((lo : Int) + hi) / 2 = mid := ⟨(lo + hi) / 2, by omega⟩
    have hm1 : lo ≤ mid := by omega
    have hm2 : mid < hi := by omega
    obtain ⟨x, hx⟩ : ∃ x, (outs es u)[mid]? = some x := ⟨_, List.getElem?_eq_getElem (by omega)⟩
    have hxm := (mem_outs hV).1 (List.mem_of_getElem? hx)
    cases h with
    | nil hN he => omega
    | «at» hA hP =>
    have hfl : M.fr.length = es.length * 2 := by rw [hP.fr, frs_length]
    have htw := tw_range hxm.1 hxm.2.1
    have htw' := htw
    unfold tw at htw'
    refine DC.skip ?_
    refine Fin.then ?_
    refine DC.block ?_
    refine DC.seq ?_
    refine DC.region ?_
    refine Seq.pur rfl rfl (p_move rfl rfl) ?_
    refine Seq.pur rfl rfl (p_move rfl rfl) ?_
    refine Seq.pur rfl rfl (p_add rfl rfl rfl (by omega)) ?_
    refine Seq.pur rfl rfl (p_quo (i := (lo : Int) + hi) (j := 2) rfl rfl rfl (by omega) (by omega)) ?_
    rw [hmid]
    refine Seq.pur rfl rfl (p_assign rfl rfl) ?_
    refine Seq.nil ?_
    refine Fin.then ?_
    refine DC.seq ?_
    refine DC.flow (cl := [.q, .q, .q, .v, .q, .q, .q, .v, .q, .q, .v, .q, .q]) (A := [0, 1, 3, 7, 0, 0, 48, 112, 240, 511, 1023, 0, 4095]) (order := [0, 1, 2, 3, 4, 5, 6, 7, 8, 9, 10, 11, 12]) [] mixed (by kernel_rfl) (fun w hw => hw.pick .nil) ?_
    refine Flow.pur rfl rfl rfl (p_move rfl rfl) ?_
    refine Flow.pur rfl rfl rfl (p_nil rfl rfl) ?_
    refine Flow.pur rfl rfl rfl (p_field rfl rfl fi73_0 (by first | exact add_at0 _ _ | exact add_at _ _ _ | rfl)) ?_
    refine Flow.valS rfl rfl rfl rfl (v_load rfl rfl ag34 (has_heap hA.hp rfl)) ?_
    refine Flow.pur rfl rfl rfl (p_move rfl rfl) ?_
    refine Flow.pur rfl rfl rfl (p_move rfl rfl) ?_
    refine Flow.pur rfl rfl rfl (p_index1 (ad' := ⟨M.g2, s.toNat + mid, none⟩) rfl rfl rfl Try.underlying34 sz3 (by omega) (by omega) (by simp [Addr.add])) ?_
    refine Flow.valS rfl rfl rfl rfl (v_load rfl rfl ag3 (has_old' (out_cell (.at hA hP) hv0 hv1 hs hx))) ?_
    refine Flow.pur rfl rfl rfl (p_xor1 (i := x) rfl rfl rfl (by omega)) ?_
    refine Flow.pur rfl rfl rfl (p_index1 (ad' := ⟨M.g0, (tw x).toNat, none⟩) rfl rfl rfl Try.underlying34 sz3 htw'.1 (by have := htw'.2; omega) (by rw [add_at0]; simp [tw])) ?_
    refine Flow.valS rfl rfl rfl rfl (v_load rfl rfl ag3 (has_old' (from_cell hA hP hxm.1 hxm.2.1))) ?_
    refine Flow.pur rfl rfl rfl (p_move rfl rfl) ?_
    refine Flow.pur rfl rfl rfl (p_lss rfl rfl rfl) ?_
    refine Flow.end rfl ?_
    simp only [List.map_cons, List.map_nil, List.nil_append, List.cons_append, List.append_nil]
    refine Fin.then ?_
    refine DC.cond rfl (fun c5 => ?_) (fun c5 => ?_)
    · refine DC.region ?_
      refine Seq.pur rfl rfl (p_move rfl rfl) ?_
      refine Seq.pur rfl rfl (p_add rfl rfl rfl (by omega)) ?_
      refine Seq.pur rfl rfl (p_assign rfl rfl) ?_
      refine Seq.nil ?_
      refine Fin.inBlock ?_
      refine Fin.again (mid + 1, hi) (by dsimp only; omega) ⟨by dsimp only; omega, h2, fun i hi' k hk => ?_, h4⟩ ⟨rfl, rfl, rfl, rfl, rfl, trivial⟩ .nil
      have hxv : toV es x < v := by simpa using c5
      dsimp only at hi'
      by_cases hi2 : i = mid
      · subst hi2; rw [hx] at hk; cases hk; exact hxv
      · have := to_rises hV hk hx (by omega); omega
    · refine DC.region ?_
      refine Seq.pur rfl rfl (p_move rfl rfl) ?_
      refine Seq.pur rfl rfl (p_assign rfl rfl) ?_
      refine Seq.nil ?_
      refine Fin.inBlock ?_
      refine Fin.again (lo, mid) (by dsimp only; omega) ⟨by dsimp only; omega, by dsimp only; omega, h3, fun i hi' k hk => ?_⟩ ⟨rfl, rfl, rfl, rfl, rfl, trivial⟩ .nil
      have hxv : v ≤ toV es x := by simpa using c5
      dsimp only at hi'
      by_cases hi2 : i = mid
      · subst hi2; rw [hx] at hk; cases hk; exact hxv
      · have := to_rises hV hx hk (by omega); omega
  · have hge : lo = hi := by simp at c3; omega
    subst hge
    clear h1
    refine DC.exit ?_
    refine Fin.exit_then <| Fin.exit_then <| Fin.exit_here <| ?_
    refine Fin.then ?_
    refine DC.seq ?_
    refine DC.seq ?_
    refine DC.flow (cl := [.q, .q, .q, .q, .q, .q, .q, .q, .v, .q, .q, .q, .v, .q, .q, .v, .q, .q, .q]) (A := [0, 0, 2, 7, 15, 31, 63, 127, 255, 31, 31, 1567, 3615, 7711, 16383, 32767, 31, 131071, 262143]) (order := [0, 1, 2, 3, 4, 5, 6, 7, 8, 9, 10, 11, 12, 13, 14, 15, 16, 17, 18]) [] mixed (by kernel_rfl) (fun w hw => hw.pick .nil) ?_
    refine Flow.pur rfl rfl rfl (p_move rfl rfl) ?_
    refine Flow.pur rfl rfl rfl (p_move rfl rfl) ?_
    refine Flow.pur rfl rfl rfl (p_len rfl rfl Try.underlying34) ?_
    refine Flow.pur rfl rfl rfl (p_lss rfl rfl rfl) ?_
    refine Flow.pur rfl rfl rfl (p_move rfl rfl) ?_
    refine Flow.split 44 rfl (fun k8_4 => ?_) (fun k8_4 => ?_)
    · have hlt : lo < (outs es u).length := by simpa using k8_4
      obtain ⟨s, hv0, hv1, hs, rfl⟩ := hA' (by omega)
      obtain ⟨x, hx⟩ : ∃ x, (outs es u)[lo]? = some x := ⟨_, List.getElem?_eq_getElem (by omega)⟩
      have hxm := (mem_outs hV).1 (List.mem_of_getElem? hx)
      cases h with
      | nil hN he => omega
      | «at» hA hP =>
      have hfl : M.fr.length = es.length * 2 := by rw [hP.fr, frs_length]
      have htw := tw_range hxm.1 hxm.2.1
      have htw' := htw
      unfold tw at htw'
      refine Flow.pur rfl rfl rfl (p_move rfl rfl) ?_
      refine Flow.pur rfl rfl rfl (p_nil rfl rfl) ?_
      refine Flow.pur rfl rfl rfl (p_field rfl rfl fi73_0 (by first | exact add_at0 _ _ | exact add_at _ _ _ | rfl)) ?_
      refine Flow.valS rfl rfl rfl rfl (v_load rfl rfl ag34 (has_heap hA.hp rfl)) ?_
      refine Flow.pur rfl rfl rfl (p_move rfl rfl) ?_
      refine Flow.pur rfl rfl rfl (p_move rfl rfl) ?_
      refine Flow.pur rfl rfl rfl (p_index1 (ad' := ⟨M.g2, s.toNat + lo, none⟩) rfl rfl rfl Try.underlying34 sz3 (by omega) (by omega) (by simp [Addr.add])) ?_
      refine Flow.valS rfl rfl rfl rfl (v_load rfl rfl ag3 (has_old' (out_cell (.at hA hP) hv0 hv1 hs hx))) ?_
      refine Flow.pur rfl rfl rfl (p_xor1 (i := x) rfl rfl rfl (by omega)) ?_
      refine Flow.pur rfl rfl rfl (p_index1 (ad' := ⟨M.g0, (tw x).toNat, none⟩) rfl rfl rfl Try.underlying34 sz3 htw'.1 (by have := htw'.2; omega) (by rw [add_at0]; simp [tw])) ?_
      refine Flow.valS rfl rfl rfl rfl (v_load rfl rfl ag3 (has_old' (from_cell hA hP hxm.1 hxm.2.1))) ?_
      refine Flow.pur rfl rfl rfl (p_move rfl rfl) ?_
      refine Flow.pur rfl rfl rfl (p_eql rfl rfl rfl) ?_
      refine Flow.pur rfl rfl rfl (p_pick_t rfl rfl rfl) ?_
      refine Flow.end rfl ?_
      simp only [List.map_cons, List.map_nil, List.nil_append, List.cons_append, List.append_nil]
      refine Fin.then ?_
      refine DC.cond rfl (fun c8 => ?_) (fun c8 => ?_)
      · refine DC.seq ?_
        refine DC.region ?_
        refine Seq.pur rfl rfl (p_move rfl rfl) ?_
        refine Seq.pur rfl rfl (p_move rfl rfl) ?_
        refine Seq.pur rfl rfl (p_index1 (ad' := ⟨M.g2, s.toNat + lo, none⟩) rfl rfl rfl Try.underlying34 sz3 (by omega) (by omega) (by simp [Addr.add])) ?_
        refine Seq.val rfl rfl (v_load rfl rfl ag3 (has_old' (out_cell (.at hA hP) hv0 hv1 hs hx))) ?_
        refine Seq.pur rfl rfl (p_assign rfl rfl) ?_
        refine Seq.pur rfl rfl (p_assign rfl rfl) ?_
        refine Seq.nil ?_
        refine Fin.then ?_
        refine DC.ret ?_
        refine Fin.ret_then <| ?_
        refine Fin.end2 (.inl rfl) rfl rfl rfl ?_
        have hxv : toV es x = v := by simpa using c8
        exact ⟨rfl, x, true, rfl, .inl ⟨rfl, hxm.1, hxm.2.1, hxm.2.2, hxv⟩⟩
      · refine DC.skip ?_
        refine Fin.then ?_
        refine DC.seq ?_
        refine DC.region ?_
        refine Seq.pur rfl rfl (p_assign rfl rfl) ?_
        refine Seq.pur rfl rfl (p_assign rfl rfl) ?_
        refine Seq.nil ?_
        refine Fin.then ?_
        refine DC.ret ?_
        refine Fin.end2 (.inl rfl) rfl rfl rfl ?_
        have hxv : ¬ toV es x = v := by simpa using c8
        refine ⟨rfl, 0, false, rfl, .inr ⟨rfl, rfl, fun k hk => ?_⟩⟩
        obtain ⟨i, hi⟩ := List.getElem?_of_mem ((mem_outs hV).2 ⟨hk.lo, hk.hi, hk.fr⟩)
        have hto := hk.to
        by_cases c : i < lo
        · have := h3 i c k hi; omega
        · by_cases c2 : i = lo
          · subst c2; rw [hx] at hi; cases hi; exact hxv hto
          · have := to_rises hV hx hi (by omega)
            have := h4 lo (Nat.le_refl _) x hx
            omega
    · refine Flow.skip rfl rfl rfl ?_
      refine Flow.skip rfl rfl rfl ?_
      refine Flow.skip rfl rfl rfl ?_
      refine Flow.skip rfl rfl rfl ?_
      refine Flow.skip rfl rfl rfl ?_
      refine Flow.skip rfl rfl rfl ?_
      refine Flow.skip rfl rfl rfl ?_
      refine Flow.skip rfl rfl rfl ?_
      refine Flow.skip rfl rfl rfl ?_
      refine Flow.skip rfl rfl rfl ?_
      refine Flow.skip rfl rfl rfl ?_
      refine Flow.skip rfl rfl rfl ?_
      refine Flow.skip rfl rfl rfl ?_
      refine Flow.pur rfl rfl rfl (p_pick_f rfl rfl rfl) ?_
      refine Flow.end rfl ?_
      simp only [List.map_cons, List.map_nil, List.nil_append, List.cons_append, List.append_nil]
      refine Fin.then ?_
      refine DC.cond_f rfl ?_
      refine DC.skip ?_
      refine Fin.then ?_
      refine DC.seq ?_
      refine DC.region ?_
      refine Seq.pur rfl rfl (p_assign rfl rfl) ?_
      refine Seq.pur rfl rfl (p_assign rfl rfl) ?_
      refine Seq.nil ?_
      refine Fin.then ?_
      refine DC.ret ?_
      refine Fin.end2 (.inl rfl) rfl rfl rfl ?_
      have hlt : lo = (outs es u).length := by simp at k8_4; omega
      refine ⟨rfl, 0, false, rfl, .inr ⟨rfl, rfl, fun k hk => ?_⟩⟩
      obtain ⟨i, hi⟩ := List.getElem?_of_mem ((mem_outs hV).2 ⟨hk.lo, hk.hi, hk.fr⟩)
      have hto := hk.to
      have := (List.getElem?_eq_some_iff.1 hi).1
      have := h3 i (by omega) k hi
      omega
theorem rHalf_calls {va : Value} (hg : PrV w va es) (hf : es.length ≤ 4194304) (u v : Int) : Calls Try.prog 52 #[.agg #[.int .i64 N, va], .int .i64 u, .int .i64 v] w (Ret w [] fun r L => L = [] ∧ r = .int .i64 (rhalfF u v 0 es)) := by
  obtain ⟨A, cap, rfl, hr, hlc, hcm, hl⟩ := hg
  refine calls_of (args := [_, _, _]) (L := []) Try.func52 rfl Try.ntmps52 rfl (Own.start _ _) ?_
  refine DC.seq ?_
  refine DC.region ?_
  refine Seq.new rfl rfl (n_box rfl rfl rfl) fun g3 => ?_
  refine Seq.pur rfl rfl (p_assign rfl rfl) ?_
  refine Seq.nil ?_
  refine Fin.then ?_
  refine DC.seq ?_
  refine DC.seq ?_
  refine DC.region ?_
  refine Seq.pur rfl rfl (p_assign rfl rfl) ?_
  refine Seq.nil ?_
  refine Fin.then ?_
  refine DC.block ?_
  refine DC.loop (ι := Nat) (fun i => i ≤ es.length ∧ rhalfF u v 0 es = rhalfF u v i (es.drop i))
    (fun i => [(1, .int .i64 u), (2, .int .i64 v), (3, .pointer (some ⟨g3, 0, none⟩)), (7, .int .i64 i)])
    (fun i => [blk g3 25 #[.int .i64 N, .slice A es.length cap]]) (fun i => es.length - i) 0 ⟨Nat.zero_le _, rfl⟩
    ⟨rfl, rfl, rfl, rfl, trivial⟩ (Pick.all _) ?_
  rintro i ⟨hi, hok⟩
  refine DC.seq ?_
  refine DC.seq ?_
  refine DC.region ?_
  refine Seq.pur rfl rfl (p_move rfl rfl) ?_
  refine Seq.pur rfl rfl (p_field rfl rfl fi25_1 (by first | exact add_at0 _ _ | exact add_at _ _ _ | rfl)) ?_
  refine Seq.val rfl rfl (v_load rfl rfl ag23 (by first | exact has_blk rfl | exact has_old' (by assumption))) ?_
  refine Seq.pur rfl rfl (p_len rfl rfl Try.underlying23) ?_
  refine Seq.pur rfl rfl (p_lss rfl rfl rfl) ?_
  refine Seq.nil ?_
  refine Fin.then ?_
  refine DC.cond rfl (fun c2 => ?_) (fun c2 => ?_)
  · have hlt : i < es.length := by simpa using c2
    obtain ⟨e, he⟩ : ∃ e, es[i]? = some e := ⟨_, List.getElem?_eq_getElem hlt⟩
    have hstep : rhalfF u v i (es.drop i) = if e.1 = u ∧ e.2 = v then 2 * (i : Int) else if e.1 = v ∧ e.2 = u then 2 * (i : Int) + 1 else rhalfF u v (i + 1) (es.drop (i + 1)) := by
      rw [List.drop_eq_getElem_cons hlt]
      have e2 : es[i] = e := by rw [List.getElem?_eq_getElem hlt] at he; exact Option.some.inj he
      rw [e2]; rfl
    obtain ⟨ad, rfl, hU, hVe⟩ := hr.pair he
    refine DC.skip ?_
    refine Fin.then ?_
    refine DC.cut (ι := Unit) (fun _ => ¬ (e.1 = u ∧ e.2 = v) ∧ ¬ (e.1 = v ∧ e.2 = u)) (fun _ => [(1, .int .i64 u), (2, .int .i64 v), (3, .pointer (some ⟨g3, 0, none⟩)), (7, .int .i64 i)])
      (fun _ => [blk g3 25 #[.int .i64 N, .slice (some ad) es.length cap]]) ?first7 ?rest7
    case first7 =>
      refine DC.block ?_
      refine DC.seq ?_
      refine DC.seq ?_
      refine DC.region ?_
      refine Seq.pur rfl rfl (p_field rfl rfl fi25_1 (by first | exact add_at0 _ _ | exact add_at _ _ _ | rfl)) ?_
      refine Seq.val rfl rfl (v_load rfl rfl ag23 (by first | exact has_blk rfl | exact has_old' (by assumption))) ?_
      refine Seq.pur rfl rfl (p_move rfl rfl) ?_
      refine Seq.pur rfl rfl (p_index (ad' := ad.add (i * 2)) rfl rfl rfl Try.underlying23 sz39 (by omega) (by omega) rfl) ?_
      refine Seq.pur rfl rfl (p_field (ad' := ad.add (i * 2)) rfl rfl fi39_0 (by simp [Addr.add])) ?_
      refine Seq.val rfl rfl (v_load rfl rfl ag3 (has_old' hU)) ?_
      refine Seq.pur rfl rfl (p_move rfl rfl) ?_
      refine Seq.pur rfl rfl (p_eql rfl rfl rfl) ?_
      refine Seq.pur rfl rfl (p_move rfl rfl) ?_
      refine Seq.split 23 rfl (fun k4_8 => ?_) (fun k4_8 => ?_)
      · refine Seq.pur rfl rfl (p_field rfl rfl fi25_1 (by first | exact add_at0 _ _ | exact add_at _ _ _ | rfl)) ?_
        refine Seq.val rfl rfl (v_load rfl rfl ag23 (by first | exact has_blk rfl | exact has_old' (by assumption))) ?_
        refine Seq.pur rfl rfl (p_move rfl rfl) ?_
        refine Seq.pur rfl rfl (p_index (ad' := ad.add (i * 2)) rfl rfl rfl Try.underlying23 sz39 (by omega) (by omega) rfl) ?_
        refine Seq.pur rfl rfl (p_field (ad' := ad.add (i * 2 + 1)) rfl rfl fi39_1 (add_add _ _ _ (by decide))) ?_
        refine Seq.val rfl rfl (v_load rfl rfl ag3 (has_old' hVe)) ?_
        refine Seq.pur rfl rfl (p_move rfl rfl) ?_
        refine Seq.pur rfl rfl (p_eql rfl rfl rfl) ?_
        refine Seq.pur rfl rfl (p_pick_t rfl rfl rfl) ?_
        refine Seq.nil ?_
        refine Fin.then ?_
        refine DC.cond rfl (fun c4 => ?_) (fun c4 => ?_)
        · refine DC.seq ?_
          refine DC.region ?_
          refine Seq.pur rfl rfl (p_move rfl rfl) ?_
          refine Seq.pur rfl rfl (p_mul rfl rfl rfl (by omega)) ?_
          refine Seq.pur rfl rfl (p_assign rfl rfl) ?_
          refine Seq.nil ?_
          refine Fin.then ?_
          refine DC.ret ?_
          refine Fin.ret_then <| Fin.ret_block <| Fin.ret_then <| Fin.ret_then <| Fin.ret_block <| Fin.ret_then <| ?_
          refine Fin.weak (E' := [(6, _)]) ⟨rfl, trivial⟩ .nil ?_
          refine Fin.end1 (.inl rfl) rfl rfl ?_
          exact ⟨rfl, by rw [hok, hstep, if_pos ⟨by simpa using k4_8, by simpa using c4⟩]⟩
        · refine DC.skip ?_
          refine Fin.then ?_
          refine DC.seq ?_
          refine DC.region ?_
          refine Seq.pur rfl rfl (p_field rfl rfl fi25_1 (by first | exact add_at0 _ _ | exact add_at _ _ _ | rfl)) ?_
          refine Seq.val rfl rfl (v_load rfl rfl ag23 (by first | exact has_blk rfl | exact has_old' (by assumption))) ?_
          refine Seq.pur rfl rfl (p_move rfl rfl) ?_
          refine Seq.pur rfl rfl (p_index (ad' := ad.add (i * 2)) rfl rfl rfl Try.underlying23 sz39 (by omega) (by omega) rfl) ?_
          refine Seq.pur rfl rfl (p_field (ad' := ad.add (i * 2)) rfl rfl fi39_0 (by simp [Addr.add])) ?_
          refine Seq.val rfl rfl (v_load rfl rfl ag3 (has_old' hU)) ?_
          refine Seq.pur rfl rfl (p_move rfl rfl) ?_
          refine Seq.pur rfl rfl (p_eql rfl rfl rfl) ?_
          refine Seq.pur rfl rfl (p_move rfl rfl) ?_
          refine Seq.split 43 rfl (fun k6_8 => ?_) (fun k6_8 => ?_)
          · refine Seq.pur rfl rfl (p_field rfl rfl fi25_1 (by first | exact add_at0 _ _ | exact add_at _ _ _ | rfl)) ?_
            refine Seq.val rfl rfl (v_load rfl rfl ag23 (by first | exact has_blk rfl | exact has_old' (by assumption))) ?_
            refine Seq.pur rfl rfl (p_move rfl rfl) ?_
            refine Seq.pur rfl rfl (p_index (ad' := ad.add (i * 2)) rfl rfl rfl Try.underlying23 sz39 (by omega) (by omega) rfl) ?_
            refine Seq.pur rfl rfl (p_field (ad' := ad.add (i * 2 + 1)) rfl rfl fi39_1 (add_add _ _ _ (by decide))) ?_
            refine Seq.val rfl rfl (v_load rfl rfl ag3 (has_old' hVe)) ?_
            refine Seq.pur rfl rfl (p_move rfl rfl) ?_
            refine Seq.pur rfl rfl (p_eql rfl rfl rfl) ?_
            refine Seq.pur rfl rfl (p_pick_t rfl rfl rfl) ?_
            refine Seq.nil ?_
            refine Fin.then ?_
            refine DC.cond rfl (fun c6 => ?_) (fun c6 => ?_)
            · refine DC.seq ?_
              refine DC.region ?_
              refine Seq.pur rfl rfl (p_move rfl rfl) ?_
              refine Seq.pur rfl rfl (p_mul rfl rfl rfl (by omega)) ?_
              refine Seq.pur rfl rfl (p_add rfl rfl rfl (by omega)) ?_
              refine Seq.pur rfl rfl (p_assign rfl rfl) ?_
              refine Seq.nil ?_
              refine Fin.then ?_
              refine DC.ret ?_
              refine Fin.ret_block <| Fin.ret_then <| Fin.ret_then <| Fin.ret_block <| Fin.ret_then <| ?_
              refine Fin.weak (E' := [(6, _)]) ⟨rfl, trivial⟩ .nil ?_
              refine Fin.end1 (.inl rfl) rfl rfl ?_
              have hn1 : ¬ (e.1 = u ∧ e.2 = v) := fun h => by simp at c4; exact c4 h.2
              exact ⟨rfl, by rw [hok, hstep, if_neg hn1, if_pos ⟨by simpa using k6_8, by simpa using c6⟩]⟩
            · refine DC.skip ?_
              refine Fin.inBlock ?_
              refine Fin.meet () ⟨fun h => by simp at c4; exact c4 h.2, fun h => by simp at c6; exact c6 h.2⟩ ⟨rfl, rfl, rfl, rfl, trivial⟩ (Pick.all _)
          · refine Seq.skip rfl rfl ?_
            refine Seq.skip rfl rfl ?_
            refine Seq.skip rfl rfl ?_
            refine Seq.skip rfl rfl ?_
            refine Seq.skip rfl rfl ?_
            refine Seq.skip rfl rfl ?_
            refine Seq.skip rfl rfl ?_
            refine Seq.skip rfl rfl ?_
            refine Seq.pur rfl rfl (p_pick_f rfl rfl rfl) ?_
            refine Seq.nil ?_
            refine Fin.then ?_
            refine DC.cond_f rfl ?_
            refine DC.skip ?_
            refine Fin.inBlock ?_
            refine Fin.meet () ⟨fun h => by simp at c4; exact c4 h.2, fun h => by simp at k6_8; exact k6_8 h.1⟩ ⟨rfl, rfl, rfl, rfl, trivial⟩ (Pick.all _)
      · refine Seq.skip rfl rfl ?_
        refine Seq.skip rfl rfl ?_
        refine Seq.skip rfl rfl ?_
        refine Seq.skip rfl rfl ?_
        refine Seq.skip rfl rfl ?_
        refine Seq.skip rfl rfl ?_
        refine Seq.skip rfl rfl ?_
        refine Seq.skip rfl rfl ?_
        refine Seq.pur rfl rfl (p_pick_f rfl rfl rfl) ?_
        refine Seq.nil ?_
        refine Fin.then ?_
        refine DC.cond_f rfl ?_
        refine DC.skip ?_
        refine Fin.then ?_
        refine DC.seq ?_
        refine DC.region ?_
        refine Seq.pur rfl rfl (p_field rfl rfl fi25_1 (by first | exact add_at0 _ _ | exact add_at _ _ _ | rfl)) ?_
        refine Seq.val rfl rfl (v_load rfl rfl ag23 (by first | exact has_blk rfl | exact has_old' (by assumption))) ?_
        refine Seq.pur rfl rfl (p_move rfl rfl) ?_
        refine Seq.pur rfl rfl (p_index (ad' := ad.add (i * 2)) rfl rfl rfl Try.underlying23 sz39 (by omega) (by omega) rfl) ?_
        refine Seq.pur rfl rfl (p_field (ad' := ad.add (i * 2)) rfl rfl fi39_0 (by simp [Addr.add])) ?_
        refine Seq.val rfl rfl (v_load rfl rfl ag3 (has_old' hU)) ?_
        refine Seq.pur rfl rfl (p_move rfl rfl) ?_
        refine Seq.pur rfl rfl (p_eql rfl rfl rfl) ?_
        refine Seq.pur rfl rfl (p_move rfl rfl) ?_
        refine Seq.split 43 rfl (fun k6_8 => ?_) (fun k6_8 => ?_)
        · refine Seq.pur rfl rfl (p_field rfl rfl fi25_1 (by first | exact add_at0 _ _ | exact add_at _ _ _ | rfl)) ?_
          refine Seq.val rfl rfl (v_load rfl rfl ag23 (by first | exact has_blk rfl | exact has_old' (by assumption))) ?_
          refine Seq.pur rfl rfl (p_move rfl rfl) ?_
          refine Seq.pur rfl rfl (p_index (ad' := ad.add (i * 2)) rfl rfl rfl Try.underlying23 sz39 (by omega) (by omega) rfl) ?_
          refine Seq.pur rfl rfl (p_field (ad' := ad.add (i * 2 + 1)) rfl rfl fi39_1 (add_add _ _ _ (by decide))) ?_
          refine Seq.val rfl rfl (v_load rfl rfl ag3 (has_old' hVe)) ?_
          refine Seq.pur rfl rfl (p_move rfl rfl) ?_
          refine Seq.pur rfl rfl (p_eql rfl rfl rfl) ?_
          refine Seq.pur rfl rfl (p_pick_t rfl rfl rfl) ?_
          refine Seq.nil ?_
          refine Fin.then ?_
          refine DC.cond rfl (fun c6 => ?_) (fun c6 => ?_)
          · refine DC.seq ?_
            refine DC.region ?_
            refine Seq.pur rfl rfl (p_move rfl rfl) ?_
            refine Seq.pur rfl rfl (p_mul rfl rfl rfl (by omega)) ?_
            refine Seq.pur rfl rfl (p_add rfl rfl rfl (by omega)) ?_
            refine Seq.pur rfl rfl (p_assign rfl rfl) ?_
            refine Seq.nil ?_
            refine Fin.then ?_
            refine DC.ret ?_
            refine Fin.ret_block <| Fin.ret_then <| Fin.ret_then <| Fin.ret_block <| Fin.ret_then <| ?_
            refine Fin.weak (E' := [(6, _)]) ⟨rfl, trivial⟩ .nil ?_
            refine Fin.end1 (.inl rfl) rfl rfl ?_
            have hn1 : ¬ (e.1 = u ∧ e.2 = v) := fun h => by simp at k4_8; exact k4_8 h.1
            exact ⟨rfl, by rw [hok, hstep, if_neg hn1, if_pos ⟨by simpa using k6_8, by simpa using c6⟩]⟩
          · refine DC.skip ?_
            refine Fin.inBlock ?_
            refine Fin.meet () ⟨fun h => by simp at k4_8; exact k4_8 h.1, fun h => by simp at c6; exact c6 h.2⟩ ⟨rfl, rfl, rfl, rfl, trivial⟩ (Pick.all _)
        · refine Seq.skip rfl rfl ?_
          refine Seq.skip rfl rfl ?_
          refine Seq.skip rfl rfl ?_
          refine Seq.skip rfl rfl ?_
          refine Seq.skip rfl rfl ?_
          refine Seq.skip rfl rfl ?_
          refine Seq.skip rfl rfl ?_
          refine Seq.skip rfl rfl ?_
          refine Seq.pur rfl rfl (p_pick_f rfl rfl rfl) ?_
          refine Seq.nil ?_
          refine Fin.then ?_
          refine DC.cond_f rfl ?_
          refine DC.skip ?_
          refine Fin.inBlock ?_
          refine Fin.meet () ⟨fun h => by simp at k4_8; exact k4_8 h.1, fun h => by simp at k6_8; exact k6_8 h.1⟩ ⟨rfl, rfl, rfl, rfl, trivial⟩ (Pick.all _)
    case rest7 =>
      rintro _ ⟨hn1, hn2⟩
      refine DC.region ?_
      refine Seq.pur rfl rfl (p_move rfl rfl) ?_
      refine Seq.pur rfl rfl (p_add rfl rfl rfl (by omega)) ?_
      refine Seq.pur rfl rfl (p_assign rfl rfl) ?_
      refine Seq.nil ?_
      refine Fin.again (i + 1) (by omega) ⟨by omega, by rw [hok, hstep, if_neg hn1, if_neg hn2]⟩ ⟨rfl, rfl, rfl, rfl, trivial⟩ (Pick.all _)
  · refine DC.exit ?_
    refine Fin.exit_then <| Fin.exit_then <| Fin.exit_here <| ?_
    refine Fin.then ?_
    refine DC.seq ?_
    refine DC.region ?_
    refine Seq.pur rfl rfl (p_assign rfl rfl) ?_
    refine Seq.nil ?_
    refine Fin.then ?_
    refine DC.ret ?_
    refine Fin.weak (E' := [(6, _)]) ⟨rfl, trivial⟩ .nil ?_
    refine Fin.end1 (.inl rfl) rfl rfl ?_
    have hie : i = es.length := by simp at c2; omega
    exact ⟨rfl, by rw [hok, hie, List.drop_length]; rfl⟩
/-- Is all that is told of a vertex as the list says? -/
theorem vertex_calls2 {va : Value} {l : List Int} (h : AV w N es M p) (hs : SlV w va l) (x : Int) : Calls Try.prog 27 #[.pointer p, .int .i64 x, va] w (Ret w [] fun r L => L = [] ∧ r = .bool (decide (outs es x = l))) := by
  have hof := outs_few h.vld x
  have hsf := hs.few
  have qs := hs
  obtain ⟨A, ca, rfl, hr, h1, h2, h3⟩ := qs
  have htake : ((outs es x).take ((l.length : Int).toNat + 1) = l) ↔ outs es x = l := by
    rw [Int.toNat_natCast]
    constructor
    · intro e
      have e2 := congrArg List.length e
      rw [List.length_take] at e2
      rw [← e, List.take_of_length_le (by omega)]
    · intro e; rw [← e, List.take_of_length_le (by omega)]
  refine calls_of (args := [_, _, _]) (L := []) Try.func27 rfl Try.ntmps27 rfl (Own.start _ _) ?_
  refine DC.seq ?_
  refine DC.region ?_
  refine Seq.pur rfl rfl (p_assign rfl rfl) ?_
  refine Seq.nil ?_
  refine Fin.then ?_
  refine DC.seq ?_
  refine DC.region ?_
  refine Seq.pur rfl rfl (p_move rfl rfl) ?_
  refine Seq.pur rfl rfl (p_move rfl rfl) ?_
  refine Seq.pur rfl rfl (p_move rfl rfl) ?_
  refine Seq.pur rfl rfl (p_len rfl rfl Try.underlying34) ?_
  -- calls tangram/tangramlaw04.out
  refine Seq.rel rfl rfl (r_call en19 rfl rfl rfl (fun w' hw => out_calls (h.keep hw) x l.length)) ?_
  rintro _ _ ⟨u, rfl, rfl⟩
  simp only [List.cons_append, List.nil_append]
  refine Seq.pur rfl rfl (p_move rfl rfl) ?_
  refine Seq.pur rfl rfl (p_extract rfl rfl rfl) ?_
  refine Seq.pur rfl rfl (p_extract rfl rfl rfl) ?_
  refine Seq.pur rfl rfl (p_assign rfl rfl) ?_
  refine Seq.pur rfl rfl (p_assign rfl rfl) ?_
  refine Seq.nil ?_
  refine Fin.then ?_
  refine DC.seq ?_
  refine DC.seq ?_
  refine DC.region ?_
  refine Seq.pur rfl rfl (p_move rfl rfl) ?_
  refine Seq.pur rfl rfl (p_not rfl rfl) ?_
  refine Seq.pur rfl rfl (p_move rfl rfl) ?_
  refine Seq.split 20 rfl (fun k2_2 => ?_) (fun k2_2 => ?_)
  · exact absurd k2_2 (by decide)
    --closed
  · refine Seq.pur rfl rfl (p_move rfl rfl) ?_
    refine Seq.pur rfl rfl (p_move rfl rfl) ?_
    -- calls tangram/tangramref01.SameInts
    refine Seq.rel0 rfl rfl (r_call en50 rfl rfl rfl (fun w' hw => SameInts_calls (slv_own hw 0 rfl (by rw [List.length_take]; omega)) (hs.keep0 hw))) ?_
    rintro _ rfl
    refine Seq.pur rfl rfl (p_not rfl rfl) ?_
    refine Seq.pur rfl rfl (p_pick_f rfl rfl rfl) ?_
    refine Seq.pur rfl rfl (p_move rfl rfl) ?_
    refine Seq.split 26 rfl (fun k2_8 => ?_) (fun k2_8 => ?_)
    · refine Seq.skip rfl rfl ?_
      refine Seq.skip rfl rfl ?_
      refine Seq.skip rfl rfl ?_
      refine Seq.skip rfl rfl ?_
      refine Seq.skip rfl rfl ?_
      refine Seq.skip rfl rfl ?_
      refine Seq.pur rfl rfl (p_pick_t rfl rfl rfl) ?_
      refine Seq.nil ?_
      refine Fin.then ?_
      refine DC.cond_t rfl ?_
      refine DC.seq ?_
      refine DC.region ?_
      refine Seq.pur rfl rfl (p_assign rfl rfl) ?_
      refine Seq.nil ?_
      refine Fin.then ?_
      refine DC.ret ?_
      refine Fin.ret_then <| ?_
      refine Fin.weak (E' := [(6, _)]) ⟨rfl, trivial⟩ .nil ?_
      refine Fin.end1 (.inl rfl) rfl rfl ?_
      have hne : ¬ (outs es x = l) := fun e => by have := htake.2 e; simp at k2_8; exact k2_8 this
      exact ⟨rfl, by rw [decide_eq_false hne]⟩
    · refine Seq.pur rfl rfl (p_move rfl rfl) ?_
      refine Seq.pur rfl rfl (p_move rfl rfl) ?_
      -- calls (*tangram/csr.Adj).Degree
      refine Seq.rel0 rfl rfl (r_call en18 rfl rfl rfl (fun w' hw => Degree_calls (h.keep hw) x)) ?_
      rintro _ rfl
      refine Seq.pur rfl rfl (p_move rfl rfl) ?_
      refine Seq.pur rfl rfl (p_len rfl rfl Try.underlying34) ?_
      refine Seq.pur rfl rfl (p_neq rfl rfl rfl) ?_
      refine Seq.pur rfl rfl (p_pick_f rfl rfl rfl) ?_
      refine Seq.nil ?_
      refine Fin.then ?_
      refine DC.cond rfl (fun c2 => ?_) (fun c2 => ?_)
      · refine DC.seq ?_
        refine DC.region ?_
        refine Seq.pur rfl rfl (p_assign rfl rfl) ?_
        refine Seq.nil ?_
        refine Fin.then ?_
        refine DC.ret ?_
        refine Fin.ret_then <| ?_
        refine Fin.weak (E' := [(6, _)]) ⟨rfl, trivial⟩ .nil ?_
        refine Fin.end1 (.inl rfl) rfl rfl ?_
        have hne : ¬ (outs es x = l) := fun e => by rw [e] at c2; simp at c2
        exact ⟨rfl, by rw [decide_eq_false hne]⟩
      · have hyes : outs es x = l := by
          apply htake.1
          simpa using k2_8
        refine DC.skip ?_
        refine Fin.then ?_
        refine DC.seq ?_
        refine DC.region ?_
        refine Seq.pur rfl rfl (p_assign rfl rfl) ?_
        refine Seq.nil ?_
        refine Fin.then ?_
        refine DC.cut (ι := Unit) (fun _ => True) (fun _ => [(0, .pointer p), (1, .int .i64 x), (9, .int .i64 ((outs es x)[0]?.getD (-1)))]) (fun _ => []) ?first ?rest
        case first =>
          refine DC.seq ?_
          refine DC.region ?_
          refine Seq.pur rfl rfl (p_move rfl rfl) ?_
          refine Seq.pur rfl rfl (p_len rfl rfl Try.underlying34) ?_
          refine Seq.pur rfl rfl (p_gtr rfl rfl rfl) ?_
          refine Seq.nil ?_
          refine Fin.then ?_
          refine DC.cond rfl (fun c5 => ?_) (fun c5 => ?_)
          · have hpos : 0 < l.length := by simpa using c5
            obtain ⟨y, hy⟩ : ∃ y, l[0]? = some y := ⟨_, List.getElem?_eq_getElem hpos⟩
            obtain ⟨ad, rfl, hX⟩ := hr.int hy
            refine DC.region ?_
            refine Seq.pur rfl rfl (p_move rfl rfl) ?_
            refine Seq.pur rfl rfl (p_index1 (ad' := ad.add 0) rfl rfl rfl Try.underlying34 sz3 (by omega) (by omega) rfl) ?_
            refine Seq.val rfl rfl (v_load rfl rfl ag3 (has_old' hX)) ?_
            refine Seq.pur rfl rfl (p_assign rfl rfl) ?_
            refine Seq.nil ?_
            refine Fin.meet () trivial ⟨rfl, rfl, by rw [hyes, hy]; rfl, trivial⟩ .nil
          · refine DC.skip ?_
            have hl0 : l = [] := by
              have : ¬ 0 < l.length := by simpa using c5
              exact List.eq_nil_of_length_eq_zero (by omega)
            refine Fin.meet () trivial ⟨rfl, rfl, by rw [hyes, hl0]; rfl, trivial⟩ .nil
        case rest =>
          intro _ _
          refine DC.seq ?_
          refine DC.region ?_
          refine Seq.pur rfl rfl (p_move rfl rfl) ?_
          refine Seq.pur rfl rfl (p_move rfl rfl) ?_
          -- calls (*tangram/csr.Adj).First
          refine Seq.rel0 rfl rfl (r_call en20 rfl rfl rfl (fun w' hw => First_calls (h.keep hw) x)) ?_
          rintro _ rfl
          refine Seq.pur rfl rfl (p_move rfl rfl) ?_
          refine Seq.pur rfl rfl (p_eql rfl rfl rfl) ?_
          refine Seq.pur rfl rfl (p_assign rfl rfl) ?_
          refine Seq.nil ?_
          refine Fin.then ?_
          refine DC.ret ?_
          refine Fin.weak (E' := [(6, _)]) ⟨rfl, trivial⟩ .nil ?_
          refine Fin.end1 (.inl rfl) rfl rfl ?_
          exact ⟨rfl, by rw [decide_eq_true hyes]; simp⟩
theorem vertex_none (h : AV w N es M p) (x : Int) : Calls Try.prog 27 #[.pointer p, .int .i64 x, .slice none 0 0] w (Ret w [] fun r L => L = [] ∧ r = .bool (decide (outs es x = []))) :=
  vertex_calls2 h ⟨none, 0, rfl, fun j u hj => by simp [ints] at hj, Nat.le_refl _, by omega, by simp⟩ x
theorem after_out (h : AV w N es M p) {x : Int} (hx : ¬ (0 ≤ x ∧ x < es.length * 2)) : Calls Try.prog 23 #[.pointer p, .int .i64 x] w (Ret w [] fun v L => L = [] ∧ v = .int .i64 (-1)) :=
  Calls.mono (After_calls h x) fun e w' hr => Retm hr fun v L ⟨h1, r, h2, h3, h4⟩ => ⟨h1, by rw [h2, h4 hx]⟩
def nl (xs : List Int) : Int := min xs.length 60
theorem beyond_calls {va vn : Value} {xs : List Int} (h : AV w N es M p) (hg : PrV w va es) (hn : SlV w vn xs) (hw63 : ∀ x ∈ xs, (Lit.int .i64 x).wf = true) : Calls Try.prog 30 #[.pointer p, .agg #[.int .i64 N, va], vn] w (Ret w [] fun r L => L = [] ∧ r = .bool true) := by
  have hV := h.vld
  have hfew := hV.few
  have hNhi := hV.hi
  have fg := hg.few
  have qg := hg
  obtain ⟨B, cb, rfl, hr, hlc, hcm, hl⟩ := qg
  have qn := hn
  obtain ⟨A, ca, rfl, hrn, h1, h2, h3⟩ := qn
  refine calls_of (args := [_, _, _]) (L := []) Try.func30 rfl Try.ntmps30 rfl (Own.start _ _) ?_
  refine DC.seq ?_
  refine DC.region ?_
  refine Seq.new rfl rfl (n_box rfl rfl rfl) fun g4 => ?_
  refine Seq.pur rfl rfl (p_assign rfl rfl) ?_
  refine Seq.nil ?_
  refine Fin.then ?_
  refine DC.seq ?_
  refine DC.seq ?_
  refine DC.region ?_
  refine Seq.pur rfl rfl (p_assign rfl rfl) ?_
  refine Seq.nil ?_
  refine Fin.then ?_
  refine DC.block ?_
  refine DC.loop (ι := Nat) (fun i => i ≤ xs.length) (fun i => [(0, .pointer p), (2, .slice A xs.length ca), (4, .pointer (some ⟨g4, 0, none⟩)), (7, .int .i64 i)]) (fun i => [blk g4 25 #[.int .i64 N, .slice B es.length cb]]) (fun i => xs.length - i) 0 (Nat.zero_le _) ⟨rfl, rfl, rfl, rfl, trivial⟩ (Pick.all _) ?_
  intro i hi
  refine DC.seq ?_
  refine DC.seq ?_
  refine DC.region ?_
  refine Seq.pur rfl rfl (p_move rfl rfl) ?_
  refine Seq.pur rfl rfl (p_move rfl rfl) ?_
  refine Seq.pur rfl rfl (p_len rfl rfl Try.underlying34) ?_
  refine Seq.pur rfl rfl (p_lss rfl rfl rfl) ?_
  refine Seq.pur rfl rfl (p_move rfl rfl) ?_
  refine Seq.split 17 rfl (fun k2_4 => ?_) (fun k2_4 => ?_)
  · refine Seq.pur rfl rfl (p_move rfl rfl) ?_
    refine Seq.pur rfl rfl (p_lss rfl rfl rfl) ?_
    refine Seq.pur rfl rfl (p_pick_t rfl rfl rfl) ?_
    refine Seq.nil ?_
    refine Fin.then ?_
    refine DC.cond rfl (fun c2 => ?_) (fun c2 => ?_)
    · have hlt : i < xs.length := by simpa using k2_4
      obtain ⟨x, hx⟩ : ∃ x, xs[i]? = some x := ⟨_, List.getElem?_eq_getElem hlt⟩
      obtain ⟨ad, rfl, hX⟩ := hrn.int hx
      refine DC.skip ?_
      refine Fin.then ?_
      refine DC.seq ?_
      refine DC.block ?_
      refine DC.seq ?_
      refine DC.region ?_
      refine Seq.pur rfl rfl (p_move rfl rfl) ?_
      refine Seq.pur rfl rfl (p_move rfl rfl) ?_
      refine Seq.pur rfl rfl (p_index1 (ad' := ad.add i) rfl rfl rfl Try.underlying34 sz3 (by omega) (by omega) rfl) ?_
      refine Seq.val rfl rfl (v_load rfl rfl ag3 (has_old' hX)) ?_
      refine Seq.pur rfl rfl (p_assign rfl rfl) ?_
      refine Seq.nil ?_
      refine Fin.then ?_
      refine DC.cut (ι := Unit) (fun _ => True) (fun _ => [(0, .pointer p), (2, .slice (some ad) xs.length ca), (4, .pointer (some ⟨g4, 0, none⟩)), (7, .int .i64 i), (8, .int .i64 x)]) (fun _ => [blk g4 25 #[.int .i64 N, .slice B es.length cb]]) ?first6 ?rest6
      case first6 =>
        refine DC.seq ?_
        refine DC.region ?_
        refine Seq.pur rfl rfl (p_move rfl rfl) ?_
        refine Seq.pur rfl rfl (p_lss rfl rfl rfl) ?_
        refine Seq.pur rfl rfl (p_move rfl rfl) ?_
        refine Seq.split 29 rfl (fun k5_2 => ?_) (fun k5_2 => ?_)
        · refine Seq.skip rfl rfl ?_
          refine Seq.skip rfl rfl ?_
          refine Seq.skip rfl rfl ?_
          refine Seq.skip rfl rfl ?_
          refine Seq.pur rfl rfl (p_pick_t rfl rfl rfl) ?_
          refine Seq.pur rfl rfl (p_move rfl rfl) ?_
          refine Seq.pur rfl rfl (p_move rfl rfl) ?_
          refine Seq.pur rfl rfl (p_move rfl rfl) ?_
          -- calls tangram/tangramlaw04.vertex
          refine Seq.rel0 rfl rfl (r_call en27 rfl rfl rfl (fun w' hw => vertex_none (h.keep hw) x)) ?_
          rintro _ rfl
          refine Seq.pur rfl rfl (p_not rfl rfl) ?_
          refine Seq.pur rfl rfl (p_pick_t rfl rfl rfl) ?_
          refine Seq.nil ?_
          refine Fin.then ?_
          refine DC.cond rfl (fun c5 => ?_) (fun c5 => ?_)
          · exact absurd c5 (by rw [outs_out hV (by first | (simp at k5_8; omega) | (simp at k5_2; omega))]; simp)
            --closed
          · refine DC.skip ?_
            refine Fin.meet () trivial ⟨rfl, rfl, rfl, rfl, rfl, trivial⟩ (Pick.all _)
        · refine Seq.pur rfl rfl (p_move rfl rfl) ?_
          refine Seq.pur rfl rfl (p_field rfl rfl fi25_0 (by first | exact add_at0 _ _ | exact add_at _ _ _ | rfl)) ?_
          refine Seq.val rfl rfl (v_load rfl rfl ag3 (by first | exact has_blk rfl | exact has_old' (by assumption))) ?_
          refine Seq.pur rfl rfl (p_geq rfl rfl rfl) ?_
          refine Seq.pur rfl rfl (p_pick_f rfl rfl rfl) ?_
          refine Seq.pur rfl rfl (p_move rfl rfl) ?_
          refine Seq.split 35 rfl (fun k5_8 => ?_) (fun k5_8 => ?_)
          · refine Seq.pur rfl rfl (p_move rfl rfl) ?_
            refine Seq.pur rfl rfl (p_move rfl rfl) ?_
            -- calls tangram/tangramlaw04.vertex
            refine Seq.rel0 rfl rfl (r_call en27 rfl rfl rfl (fun w' hw => vertex_none (h.keep hw) x)) ?_
            rintro _ rfl
            refine Seq.pur rfl rfl (p_not rfl rfl) ?_
            refine Seq.pur rfl rfl (p_pick_t rfl rfl rfl) ?_
            refine Seq.nil ?_
            refine Fin.then ?_
            refine DC.cond rfl (fun c5 => ?_) (fun c5 => ?_)
            · exact absurd c5 (by rw [outs_out hV (by first | (simp at k5_8; omega) | (simp at k5_2; omega))]; simp)
              --closed
            · refine DC.skip ?_
              refine Fin.meet () trivial ⟨rfl, rfl, rfl, rfl, rfl, trivial⟩ (Pick.all _)
          · refine Seq.skip rfl rfl ?_
            refine Seq.skip rfl rfl ?_
            refine Seq.skip rfl rfl ?_
            refine Seq.skip rfl rfl ?_
            refine Seq.pur rfl rfl (p_pick_f rfl rfl rfl) ?_
            refine Seq.nil ?_
            refine Fin.then ?_
            refine DC.cond_f rfl ?_
            refine DC.skip ?_
            refine Fin.meet () trivial ⟨rfl, rfl, rfl, rfl, rfl, trivial⟩ (Pick.all _)
      case rest6 =>
        intro _ _
        refine DC.cut (ι := Unit) (fun _ => True) (fun _ => [(0, .pointer p), (2, .slice (some ad) xs.length ca), (4, .pointer (some ⟨g4, 0, none⟩)), (7, .int .i64 i), (8, .int .i64 x)]) (fun _ => [blk g4 25 #[.int .i64 N, .slice B es.length cb]]) ?first8 ?rest8
        case first8 =>
          refine DC.seq ?_
          refine DC.region ?_
          refine Seq.pur rfl rfl (p_move rfl rfl) ?_
          refine Seq.pur rfl rfl (p_lss rfl rfl rfl) ?_
          refine Seq.pur rfl rfl (p_move rfl rfl) ?_
          refine Seq.split 43 rfl (fun k7_2 => ?_) (fun k7_2 => ?_)
          · refine Seq.skip rfl rfl ?_
            refine Seq.skip rfl rfl ?_
            refine Seq.skip rfl rfl ?_
            refine Seq.skip rfl rfl ?_
            refine Seq.skip rfl rfl ?_
            refine Seq.skip rfl rfl ?_
            refine Seq.pur rfl rfl (p_pick_t rfl rfl rfl) ?_
            refine Seq.pur rfl rfl (p_move rfl rfl) ?_
            refine Seq.pur rfl rfl (p_move rfl rfl) ?_
            refine Seq.pur rfl rfl (p_move rfl rfl) ?_
            -- calls (*tangram/csr.Adj).From
            refine Seq.rel0 rfl rfl (r_call en21 rfl rfl rfl (fun w' hw => From_calls (h.keep hw) x)) ?_
            rintro _ rfl
            rw [fromV_out es (h := x) (by first | (simp at k7_10; omega) | (simp at k7_2; omega))]
            refine Seq.pur rfl rfl (p_neq rfl rfl rfl) ?_
            refine Seq.pur rfl rfl (p_move rfl rfl) ?_
            refine Seq.split 56 rfl (fun k7_15 => ?_) (fun k7_15 => ?_)
            · exact absurd k7_15 (by decide)
              --closed
            · refine Seq.pur rfl rfl (p_move rfl rfl) ?_
              refine Seq.pur rfl rfl (p_move rfl rfl) ?_
              -- calls (*tangram/csr.Adj).To
              refine Seq.rel0 rfl rfl (r_call en22 rfl rfl rfl (fun w' hw => To_calls (h.keep hw) x)) ?_
              rintro _ rfl
              rw [toV_out es (h := x) (by first | (simp at k7_10; omega) | (simp at k7_2; omega))]
              refine Seq.pur rfl rfl (p_neq rfl rfl rfl) ?_
              refine Seq.pur rfl rfl (p_pick_f rfl rfl rfl) ?_
              refine Seq.pur rfl rfl (p_move rfl rfl) ?_
              refine Seq.split 62 rfl (fun k7_21 => ?_) (fun k7_21 => ?_)
              · exact absurd k7_21 (by decide)
                --closed
              · refine Seq.pur rfl rfl (p_move rfl rfl) ?_
                refine Seq.pur rfl rfl (p_move rfl rfl) ?_
                -- calls (*tangram/csr.Adj).After
                refine Seq.rel0 rfl rfl (r_call en23 rfl rfl rfl (fun w' hw => after_out (h.keep hw) (x := x) (by first | (simp at k7_10; omega) | (simp at k7_2; omega)))) ?_
                rintro _ rfl
                refine Seq.pur rfl rfl (p_neq rfl rfl rfl) ?_
                refine Seq.pur rfl rfl (p_pick_f rfl rfl rfl) ?_
                refine Seq.pur rfl rfl (p_pick_t rfl rfl rfl) ?_
                refine Seq.nil ?_
                refine Fin.then ?_
                refine DC.cond rfl (fun c7 => ?_) (fun c7 => ?_)
                · exact absurd c7 (by decide)
                  --closed
                · refine DC.skip ?_
                  refine Fin.meet () trivial ⟨rfl, rfl, rfl, rfl, rfl, trivial⟩ (Pick.all _)
          · refine Seq.pur rfl rfl (p_move rfl rfl) ?_
            refine Seq.pur rfl rfl (p_field rfl rfl fi25_1 (by first | exact add_at0 _ _ | exact add_at _ _ _ | rfl)) ?_
            refine Seq.val rfl rfl (v_load rfl rfl ag23 (by first | exact has_blk rfl | exact has_old' (by assumption))) ?_
            refine Seq.pur rfl rfl (p_len rfl rfl Try.underlying23) ?_
            refine Seq.pur rfl rfl (p_mul rfl rfl rfl (by omega)) ?_
            refine Seq.pur rfl rfl (p_geq rfl rfl rfl) ?_
            refine Seq.pur rfl rfl (p_pick_f rfl rfl rfl) ?_
            refine Seq.pur rfl rfl (p_move rfl rfl) ?_
            refine Seq.split 51 rfl (fun k7_10 => ?_) (fun k7_10 => ?_)
            · refine Seq.pur rfl rfl (p_move rfl rfl) ?_
              refine Seq.pur rfl rfl (p_move rfl rfl) ?_
              -- calls (*tangram/csr.Adj).From
              refine Seq.rel0 rfl rfl (r_call en21 rfl rfl rfl (fun w' hw => From_calls (h.keep hw) x)) ?_
              rintro _ rfl
              rw [fromV_out es (h := x) (by first | (simp at k7_10; omega) | (simp at k7_2; omega))]
              refine Seq.pur rfl rfl (p_neq rfl rfl rfl) ?_
              refine Seq.pur rfl rfl (p_move rfl rfl) ?_
              refine Seq.split 56 rfl (fun k7_15 => ?_) (fun k7_15 => ?_)
              · exact absurd k7_15 (by decide)
                --closed
              · refine Seq.pur rfl rfl (p_move rfl rfl) ?_
                refine Seq.pur rfl rfl (p_move rfl rfl) ?_
                -- calls (*tangram/csr.Adj).To
                refine Seq.rel0 rfl rfl (r_call en22 rfl rfl rfl (fun w' hw => To_calls (h.keep hw) x)) ?_
                rintro _ rfl
                rw [toV_out es (h := x) (by first | (simp at k7_10; omega) | (simp at k7_2; omega))]
                refine Seq.pur rfl rfl (p_neq rfl rfl rfl) ?_
                refine Seq.pur rfl rfl (p_pick_f rfl rfl rfl) ?_
                refine Seq.pur rfl rfl (p_move rfl rfl) ?_
                refine Seq.split 62 rfl (fun k7_21 => ?_) (fun k7_21 => ?_)
                · exact absurd k7_21 (by decide)
                  --closed
                · refine Seq.pur rfl rfl (p_move rfl rfl) ?_
                  refine Seq.pur rfl rfl (p_move rfl rfl) ?_
                  -- calls (*tangram/csr.Adj).After
                  refine Seq.rel0 rfl rfl (r_call en23 rfl rfl rfl (fun w' hw => after_out (h.keep hw) (x := x) (by first | (simp at k7_10; omega) | (simp at k7_2; omega)))) ?_
                  rintro _ rfl
                  refine Seq.pur rfl rfl (p_neq rfl rfl rfl) ?_
                  refine Seq.pur rfl rfl (p_pick_f rfl rfl rfl) ?_
                  refine Seq.pur rfl rfl (p_pick_t rfl rfl rfl) ?_
                  refine Seq.nil ?_
                  refine Fin.then ?_
                  refine DC.cond rfl (fun c7 => ?_) (fun c7 => ?_)
                  · exact absurd c7 (by decide)
                    --closed
                  · refine DC.skip ?_
                    refine Fin.meet () trivial ⟨rfl, rfl, rfl, rfl, rfl, trivial⟩ (Pick.all _)
            · refine Seq.skip rfl rfl ?_
              refine Seq.skip rfl rfl ?_
              refine Seq.skip rfl rfl ?_
              refine Seq.skip rfl rfl ?_
              refine Seq.skip rfl rfl ?_
              refine Seq.skip rfl rfl ?_
              refine Seq.skip rfl rfl ?_
              refine Seq.skip rfl rfl ?_
              refine Seq.skip rfl rfl ?_
              refine Seq.skip rfl rfl ?_
              refine Seq.skip rfl rfl ?_
              refine Seq.skip rfl rfl ?_
              refine Seq.skip rfl rfl ?_
              refine Seq.skip rfl rfl ?_
              refine Seq.skip rfl rfl ?_
              refine Seq.skip rfl rfl ?_
              refine Seq.pur rfl rfl (p_pick_f rfl rfl rfl) ?_
              refine Seq.nil ?_
              refine Fin.then ?_
              refine DC.cond_f rfl ?_
              refine DC.skip ?_
              refine Fin.meet () trivial ⟨rfl, rfl, rfl, rfl, rfl, trivial⟩ (Pick.all _)
        case rest8 =>
          intro _ _
          refine DC.seq ?_
          refine DC.region ?_
          refine Seq.pur rfl rfl (p_assign rfl rfl) ?_
          refine Seq.nil ?_
          refine Fin.then ?_
          refine DC.block ?_
          refine DC.loop (ι := Nat) (fun j => j ≤ xs.length) (fun j => [(0, .pointer p), (2, .slice (some ad) xs.length ca), (4, .pointer (some ⟨g4, 0, none⟩)), (7, .int .i64 i), (8, .int .i64 x), (9, .int .i64 j)]) (fun _ => [blk g4 25 #[.int .i64 N, .slice B es.length cb]]) (fun j => xs.length - j) 0 (Nat.zero_le _) ⟨rfl, rfl, rfl, rfl, rfl, rfl, trivial⟩ (Pick.all _) ?_
          intro j hj
          refine DC.seq ?_
          refine DC.seq ?_
          refine DC.region ?_
          refine Seq.pur rfl rfl (p_move rfl rfl) ?_
          refine Seq.pur rfl rfl (p_move rfl rfl) ?_
          refine Seq.pur rfl rfl (p_len rfl rfl Try.underlying34) ?_
          refine Seq.pur rfl rfl (p_lss rfl rfl rfl) ?_
          refine Seq.pur rfl rfl (p_move rfl rfl) ?_
          refine Seq.split 73 rfl (fun k10_4 => ?_) (fun k10_4 => ?_)
          · refine Seq.pur rfl rfl (p_move rfl rfl) ?_
            refine Seq.pur rfl rfl (p_lss rfl rfl rfl) ?_
            refine Seq.pur rfl rfl (p_pick_t rfl rfl rfl) ?_
            refine Seq.nil ?_
            refine Fin.then ?_
            refine DC.cond rfl (fun c10 => ?_) (fun c10 => ?_)
            · have hjt : j < xs.length := by simpa using k10_4
              obtain ⟨y, hy⟩ : ∃ y, xs[j]? = some y := ⟨_, List.getElem?_eq_getElem hjt⟩
              obtain ⟨ad', had, hY⟩ := hrn.int hy
              obtain rfl : ad' = ad := by cases had; rfl
              refine DC.skip ?_
              refine Fin.then ?_
              refine DC.seq ?_
              refine DC.block ?_
              refine DC.seq ?_
              refine DC.region ?_
              refine Seq.pur rfl rfl (p_move rfl rfl) ?_
              refine Seq.pur rfl rfl (p_move rfl rfl) ?_
              refine Seq.pur rfl rfl (p_move rfl rfl) ?_
              refine Seq.pur rfl rfl (p_move rfl rfl) ?_
              refine Seq.pur rfl rfl (p_index1 (ad' := ad'.add j) rfl rfl rfl Try.underlying34 sz3 (by omega) (by omega) rfl) ?_
              refine Seq.val rfl rfl (v_load rfl rfl ag3 (has_old' hY)) ?_
              -- calls (*tangram/csr.Adj).Half
              refine Seq.rel0 rfl rfl (r_call en28 rfl rfl rfl (fun w' hw => Half_calls (h.keep hw) x y)) ?_
              rintro _ ⟨k, b, rfl, hk⟩
              obtain ⟨rfl, rfl⟩ : b = decide (0 ≤ rhalfF x y 0 es) ∧ k = max (rhalfF x y 0 es) 0 := by
                rcases hk with ⟨rfl, hk⟩ | ⟨rfl, rfl, hk⟩
                · rw [rhalf_is hV hk]
                  have := hk.lo
                  exact ⟨by simp [this], by omega⟩
                · rcases rhalf_spec (es := es) x y with h1 | ⟨h1, _⟩
                  · exact absurd h1 (hk _)
                  · rw [h1]; exact ⟨by decide, by decide⟩
              refine Seq.pur rfl rfl (p_move rfl rfl) ?_
              refine Seq.pur rfl rfl (p_extract rfl rfl rfl) ?_
              refine Seq.pur rfl rfl (p_extract rfl rfl rfl) ?_
              refine Seq.pur rfl rfl (p_assign rfl rfl) ?_
              refine Seq.pur rfl rfl (p_assign rfl rfl) ?_
              refine Seq.nil ?_
              refine Fin.then ?_
              refine DC.seq ?_
              refine DC.flow (cl := [.v, .q, .q, .q, .q, .v, .r, .q]) (A := [0, 0, 0, 0, 12, 28, 63, 127]) (order := [0, 1, 2, 3, 4, 5, 6, 7]) [] mixed (by kernel_rfl) (fun w hw => hw.pick .nil) ?_
              refine Flow.valS rfl rfl rfl rfl (v_loads (vs := [_, _]) rfl rfl ag25 sz25 rfl (hass_blk rfl)) ?_
              refine Flow.pur rfl rfl rfl (p_move rfl rfl) ?_
              refine Flow.pur rfl rfl rfl (p_move rfl rfl) ?_
              refine Flow.pur rfl rfl rfl (p_move rfl rfl) ?_
              refine Flow.pur rfl rfl rfl (p_index1 (ad' := ad'.add j) rfl rfl rfl Try.underlying34 sz3 (by omega) (by omega) rfl) ?_
              refine Flow.valS rfl rfl rfl rfl (v_load rfl rfl ag3 (has_old' hY)) ?_
              -- calls tangram/tangramref04.Half
              refine Flow.rel0 rfl rfl rfl rfl (r_call en52 rfl rfl rfl (fun w' hw => rHalf_calls (hg.keep0 hw) hfew x y)) ?_
              rintro _ rfl
              refine Flow.pur rfl rfl rfl (p_assign rfl rfl) ?_
              refine Flow.end rfl ?_
              simp only [List.map_cons, List.map_nil, List.nil_append, List.cons_append, List.append_nil]
              refine Fin.then ?_
              refine DC.seq ?_
              refine DC.region ?_
              refine Seq.pur rfl rfl (p_move rfl rfl) ?_
              refine Seq.pur rfl rfl (p_move rfl rfl) ?_
              refine Seq.pur rfl rfl (p_geq rfl rfl rfl) ?_
              refine Seq.pur rfl rfl (p_neq_b rfl rfl rfl Try.underlying4) ?_
              refine Seq.pur rfl rfl (p_move rfl rfl) ?_
              refine Seq.split 100 rfl (fun k14_4 => ?_) (fun k14_4 => ?_)
              · exact absurd k14_4 (by simp)
                --closed
              · refine Seq.pur rfl rfl (p_move rfl rfl) ?_
                refine Seq.pur rfl rfl (p_move rfl rfl) ?_
                refine Seq.pur rfl rfl (p_max rfl rfl rfl) ?_
                refine Seq.pur rfl rfl (p_neq rfl rfl rfl) ?_
                refine Seq.pur rfl rfl (p_pick_f rfl rfl rfl) ?_
                refine Seq.nil ?_
                refine Fin.then ?_
                refine DC.cond rfl (fun c14 => ?_) (fun c14 => ?_)
                · exact absurd c14 (by simp)
                  --closed
                · refine DC.skip ?_
                  refine Fin.inBlock ?_
                  refine Fin.then ?_
                  refine DC.region ?_
                  refine Seq.pur rfl rfl (p_move rfl rfl) ?_
                  refine Seq.pur rfl rfl (p_add rfl rfl rfl (by omega)) ?_
                  refine Seq.pur rfl rfl (p_assign rfl rfl) ?_
                  refine Seq.nil ?_
                  refine Fin.again (j + 1) (by omega) (by omega) ⟨rfl, rfl, rfl, rfl, rfl, rfl, trivial⟩ (Pick.all _)
            · refine DC.exit ?_
              refine Fin.exit_then <| Fin.exit_then <| Fin.exit_here <| ?_
              refine Fin.inBlock ?_
              refine Fin.then ?_
              refine DC.region ?_
              refine Seq.pur rfl rfl (p_move rfl rfl) ?_
              refine Seq.pur rfl rfl (p_add rfl rfl rfl (by omega)) ?_
              refine Seq.pur rfl rfl (p_assign rfl rfl) ?_
              refine Seq.nil ?_
              refine Fin.again (i + 1) (by omega) (by omega) ⟨rfl, rfl, rfl, rfl, trivial⟩ (Pick.all _)
          · refine Seq.skip rfl rfl ?_
            refine Seq.skip rfl rfl ?_
            refine Seq.pur rfl rfl (p_pick_f rfl rfl rfl) ?_
            refine Seq.nil ?_
            refine Fin.then ?_
            refine DC.cond_f rfl ?_
            refine DC.exit ?_
            refine Fin.exit_then <| Fin.exit_then <| Fin.exit_here <| ?_
            refine Fin.inBlock ?_
            refine Fin.then ?_
            refine DC.region ?_
            refine Seq.pur rfl rfl (p_move rfl rfl) ?_
            refine Seq.pur rfl rfl (p_add rfl rfl rfl (by omega)) ?_
            refine Seq.pur rfl rfl (p_assign rfl rfl) ?_
            refine Seq.nil ?_
            refine Fin.again (i + 1) (by omega) (by omega) ⟨rfl, rfl, rfl, rfl, trivial⟩ (Pick.all _)
    · refine DC.exit ?_
      refine Fin.exit_then <| Fin.exit_then <| Fin.exit_here <| ?_
      refine Fin.then ?_
      refine DC.seq ?_
      refine DC.region ?_
      refine Seq.pur rfl rfl (p_assign rfl rfl) ?_
      refine Seq.nil ?_
      refine Fin.then ?_
      refine DC.ret ?_
      refine Fin.weak (E' := [(6, _)]) ⟨rfl, trivial⟩ .nil ?_
      refine Fin.end1 (.inl rfl) rfl rfl ?_
      exact ⟨rfl, rfl⟩
  · refine Seq.skip rfl rfl ?_
    refine Seq.skip rfl rfl ?_
    refine Seq.pur rfl rfl (p_pick_f rfl rfl rfl) ?_
    refine Seq.nil ?_
    refine Fin.then ?_
    refine DC.cond_f rfl ?_
    refine DC.exit ?_
    refine Fin.exit_then <| Fin.exit_then <| Fin.exit_here <| ?_
    refine Fin.then ?_
    refine DC.seq ?_
    refine DC.region ?_
    refine Seq.pur rfl rfl (p_assign rfl rfl) ?_
    refine Seq.nil ?_
    refine Fin.then ?_
    refine DC.ret ?_
    refine Fin.weak (E' := [(6, _)]) ⟨rfl, trivial⟩ .nil ?_
    refine Fin.end1 (.inl rfl) rfl rfl ?_
    exact ⟨rfl, rfl⟩
end
end Go.Fl
