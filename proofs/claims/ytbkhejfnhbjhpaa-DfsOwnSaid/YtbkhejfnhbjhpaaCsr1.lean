/- The small methods of csr.Adj. -/
import Derived.Test.YtbkhejfnhbjhpaaFlAdj
import Derived.Test.YtbkhejfnhbjhpaaTypes
set_option linter.unusedVariables false
set_option linter.unusedSimpArgs false
set_option maxRecDepth 100000
namespace Go.Fl
open Go Go.Proofs

abbrev AV (w : World) := AdjV w 73 3
section
variable {N : Int} {es : List Pr} {M : AdjM} {p : Option Addr} {w : World}

theorem N_calls (h : AV w N es M p) : Calls Try.prog 25 #[.pointer p] w (Ret w [] fun v L => L = [] ∧ v = .int .i64 N) := by
  refine calls_of (args := [_]) (L := []) Try.func25 rfl Try.ntmps25 rfl (Own.start _ _) ?_
  refine DC.seq ?_
  refine DC.region ?_
  refine Seq.pur rfl rfl (p_assign rfl rfl) ?_
  refine Seq.nil ?_
  refine Fin.then ?_
  refine DC.seq ?_
  refine DC.seq ?_
  refine DC.region ?_
  refine Seq.pur rfl rfl (p_move rfl rfl) ?_
  refine Seq.pur rfl rfl (p_eql_nil rfl rfl rfl Try.underlying26) ?_
  refine Seq.nil ?_
  refine Fin.then ?_
  refine DC.cond rfl (fun c1 => ?_) (fun c1 => ?_)
  · cases h with
    | «at» hA hP => cases c1
    | nil hN he =>
    refine DC.seq ?_
    refine DC.region ?_
    refine Seq.pur rfl rfl (p_assign rfl rfl) ?_
    refine Seq.nil ?_
    refine Fin.then ?_
    refine DC.ret ?_
    refine Fin.ret_then <| ?_
    refine Fin.end1 (.inl rfl) rfl rfl ?_
    subst hN; exact ⟨rfl, rfl⟩
  · cases h with
    | nil hN he => cases c1
    | «at» hA hP =>
    have hlo := hP.vld.lo
    have hhi := hP.vld.hi
    have hsl := hP.stl
    refine DC.skip ?_
    refine Fin.then ?_
    refine DC.seq ?_
    refine DC.region ?_
    refine Seq.pur rfl rfl (p_move rfl rfl) ?_
    refine Seq.pur rfl rfl (p_nil rfl rfl) ?_
    refine Seq.pur rfl rfl (p_field rfl rfl fi73_1 (by first | exact add_at0 _ _ | exact add_at _ _ _ | rfl)) ?_
    refine Seq.val rfl rfl (v_load rfl rfl ag34 (has_heap hA.hp rfl)) ?_
    refine Seq.pur rfl rfl (p_len rfl rfl Try.underlying34) ?_
    refine Seq.pur rfl rfl (p_sub rfl rfl rfl (by omega)) ?_
    refine Seq.pur rfl rfl (p_assign rfl rfl) ?_
    refine Seq.nil ?_
    refine Fin.then ?_
    refine DC.ret ?_
    refine Fin.end1 (.inl rfl) rfl rfl ?_
    exact ⟨rfl, by congr 1; omega⟩
theorem M_calls (h : AV w N es M p) : Calls Try.prog 24 #[.pointer p] w (Ret w [] fun v L => L = [] ∧ v = .int .i64 es.length) := by
  refine calls_of (args := [_]) (L := []) Try.func24 rfl Try.ntmps24 rfl (Own.start _ _) ?_
  refine DC.seq ?_
  refine DC.region ?_
  refine Seq.pur rfl rfl (p_assign rfl rfl) ?_
  refine Seq.nil ?_
  refine Fin.then ?_
  refine DC.seq ?_
  refine DC.seq ?_
  refine DC.region ?_
  refine Seq.pur rfl rfl (p_move rfl rfl) ?_
  refine Seq.pur rfl rfl (p_eql_nil rfl rfl rfl Try.underlying26) ?_
  refine Seq.nil ?_
  refine Fin.then ?_
  refine DC.cond rfl (fun c1 => ?_) (fun c1 => ?_)
  · cases h with
    | «at» hA hP => cases c1
    | nil hN he =>
    refine DC.seq ?_
    refine DC.region ?_
    refine Seq.pur rfl rfl (p_assign rfl rfl) ?_
    refine Seq.nil ?_
    refine Fin.then ?_
    refine DC.ret ?_
    refine Fin.ret_then <| ?_
    refine Fin.end1 (.inl rfl) rfl rfl ?_
    subst he; exact ⟨rfl, rfl⟩
  · cases h with
    | nil hN he => cases c1
    | «at» hA hP =>
    have hlo := hP.vld.few
    have hsl := hP.fr
    have hfl : M.fr.length = es.length * 2 := by rw [hsl, frs_length]
    refine DC.skip ?_
    refine Fin.then ?_
    refine DC.seq ?_
    refine DC.region ?_
    refine Seq.pur rfl rfl (p_move rfl rfl) ?_
    refine Seq.pur rfl rfl (p_nil rfl rfl) ?_
    refine Seq.pur rfl rfl (p_field rfl rfl fi73_0 (by first | exact add_at0 _ _ | exact add_at _ _ _ | rfl)) ?_
    refine Seq.val rfl rfl (v_load rfl rfl ag34 (has_heap hA.hp rfl)) ?_
    refine Seq.pur rfl rfl (p_len rfl rfl Try.underlying34) ?_
    refine Seq.pur rfl rfl (p_quo rfl rfl rfl (by omega) (by omega)) ?_
    refine Seq.pur rfl rfl (p_assign rfl rfl) ?_
    refine Seq.nil ?_
    refine Fin.then ?_
    refine DC.ret ?_
    refine Fin.end1 (.inl rfl) rfl rfl ?_
    exact ⟨rfl, by congr 1; omega⟩
theorem vertex_calls (h : AV w N es M p) (x : Int) : Calls Try.prog 70 #[.pointer p, .int .i64 x] w (Ret w [] fun v L => L = [] ∧ v = .bool (decide (0 ≤ x ∧ x < N))) := by
  refine calls_of (args := [_, _]) (L := []) Try.func70 rfl Try.ntmps70 rfl (Own.start _ _) ?_
  refine DC.seq ?_
  refine DC.region ?_
  refine Seq.pur rfl rfl (p_assign rfl rfl) ?_
  refine Seq.nil ?_
  refine Fin.then ?_
  refine DC.seq ?_
  refine DC.region ?_
  refine Seq.pur rfl rfl (p_move rfl rfl) ?_
  refine Seq.pur rfl rfl (p_geq rfl rfl rfl) ?_
  refine Seq.pur rfl rfl (p_move rfl rfl) ?_
  refine Seq.split 7 rfl (fun k1_2 => ?_) (fun k1_2 => ?_)
  · refine Seq.pur rfl rfl (p_move rfl rfl) ?_
    refine Seq.pur rfl rfl (p_move rfl rfl) ?_
    -- calls (*tangram/csr.Adj).N
    refine Seq.rel0 rfl rfl (r_call en25 rfl rfl rfl (fun w' hw => N_calls (h.keep hw))) ?_
    rintro _ rfl
    refine Seq.pur rfl rfl (p_lss rfl rfl rfl) ?_
    refine Seq.pur rfl rfl (p_pick_t rfl rfl rfl) ?_
    refine Seq.pur rfl rfl (p_assign rfl rfl) ?_
    refine Seq.nil ?_
    refine Fin.then ?_
    refine DC.ret ?_
    refine Fin.end1 (.inl rfl) rfl rfl ?_
    exact ⟨rfl, by simp at k1_2; simp [k1_2]⟩
  · refine Seq.skip rfl rfl ?_
    refine Seq.skip rfl rfl ?_
    refine Seq.skip rfl rfl ?_
    refine Seq.skip rfl rfl ?_
    refine Seq.pur rfl rfl (p_pick_f rfl rfl rfl) ?_
    refine Seq.pur rfl rfl (p_assign rfl rfl) ?_
    refine Seq.nil ?_
    refine Fin.then ?_
    refine DC.ret ?_
    refine Fin.end1 (.inl rfl) rfl rfl ?_
    exact ⟨rfl, by simp at k1_2; simp; omega⟩
theorem half_calls (h : AV w N es M p) (x : Int) : Calls Try.prog 49 #[.pointer p, .int .i64 x] w (Ret w [] fun v L => L = [] ∧ v = .bool (decide (0 ≤ x ∧ x < es.length * 2))) := by
  have hfew := h.vld.few
  refine calls_of (args := [_, _]) (L := []) Try.func49 rfl Try.ntmps49 rfl (Own.start _ _) ?_
  refine DC.seq ?_
  refine DC.region ?_
  refine Seq.pur rfl rfl (p_assign rfl rfl) ?_
  refine Seq.nil ?_
  refine Fin.then ?_
  refine DC.seq ?_
  refine DC.region ?_
  refine Seq.pur rfl rfl (p_move rfl rfl) ?_
  refine Seq.pur rfl rfl (p_geq rfl rfl rfl) ?_
  refine Seq.pur rfl rfl (p_move rfl rfl) ?_
  refine Seq.split 7 rfl (fun k1_2 => ?_) (fun k1_2 => ?_)
  · refine Seq.pur rfl rfl (p_move rfl rfl) ?_
    refine Seq.pur rfl rfl (p_move rfl rfl) ?_
    -- calls (*tangram/csr.Adj).M
    refine Seq.rel0 rfl rfl (r_call en24 rfl rfl rfl (fun w' hw => M_calls (h.keep hw))) ?_
    rintro _ rfl
    refine Seq.pur rfl rfl (p_mul rfl rfl rfl (by omega)) ?_
    refine Seq.pur rfl rfl (p_lss rfl rfl rfl) ?_
    refine Seq.pur rfl rfl (p_pick_t rfl rfl rfl) ?_
    refine Seq.pur rfl rfl (p_assign rfl rfl) ?_
    refine Seq.nil ?_
    refine Fin.then ?_
    refine DC.ret ?_
    refine Fin.end1 (.inl rfl) rfl rfl ?_
    exact ⟨rfl, by simp at k1_2; congr 1; rw [decide_eq_decide]; omega⟩
  · refine Seq.skip rfl rfl ?_
    refine Seq.skip rfl rfl ?_
    refine Seq.skip rfl rfl ?_
    refine Seq.skip rfl rfl ?_
    refine Seq.skip rfl rfl ?_
    refine Seq.pur rfl rfl (p_pick_f rfl rfl rfl) ?_
    refine Seq.pur rfl rfl (p_assign rfl rfl) ?_
    refine Seq.nil ?_
    refine Fin.then ?_
    refine DC.ret ?_
    refine Fin.end1 (.inl rfl) rfl rfl ?_
    exact ⟨rfl, by simp at k1_2; simp; omega⟩
/-- What leave answers: where the list of a vertex lies. -/
def LeaveV (N : Int) (es : List Pr) (M : AdjM) (x : Int) (v : Value) : Prop :=
  ∃ A cap, v = .slice A (outs es x).length cap ∧ (outs es x).length ≤ cap ∧ cap ≤ 9223372036854775807 ∧ (0 < (outs es x).length → ∃ s, 0 ≤ x ∧ x < N ∧ M.st[x.toNat]? = some s ∧ A = some ⟨M.g2, s.toNat, none⟩)
theorem leave_calls (h : AV w N es M p) (x : Int) : Calls Try.prog 48 #[.pointer p, .int .i64 x] w (Ret w [] fun v L => L = [] ∧ LeaveV N es M x v) := by
  have hfew := h.vld.few
  have hNhi := h.vld.hi
  refine calls_of (args := [_, _]) (L := []) Try.func48 rfl Try.ntmps48 rfl (Own.start _ _) ?_
  refine DC.seq ?_
  refine DC.region ?_
  refine Seq.pur rfl rfl (p_assign rfl rfl) ?_
  refine Seq.nil ?_
  refine Fin.then ?_
  refine DC.seq ?_
  refine DC.seq ?_
  refine DC.region ?_
  refine Seq.pur rfl rfl (p_move rfl rfl) ?_
  refine Seq.pur rfl rfl (p_move rfl rfl) ?_
  -- calls (*tangram/csr.Adj).vertex
  refine Seq.rel0 rfl rfl (r_call en70 rfl rfl rfl (fun w' hw => vertex_calls (h.keep hw) x)) ?_
  rintro _ rfl
  refine Seq.pur rfl rfl (p_not rfl rfl) ?_
  refine Seq.nil ?_
  refine Fin.then ?_
  refine DC.cond rfl (fun c1 => ?_) (fun c1 => ?_)
  · refine DC.seq ?_
    refine DC.region ?_
    refine Seq.pur rfl rfl (p_assign rfl rfl) ?_
    refine Seq.nil ?_
    refine Fin.then ?_
    refine DC.ret ?_
    refine Fin.ret_then <| ?_
    refine Fin.end1 (.inl rfl) rfl rfl ?_
    have h0 := outs_out h.vld (v := x) (by simp at c1; omega)
    exact ⟨rfl, none, 0, by rw [h0]; rfl, by simp [h0], by omega, by simp [h0]⟩
  · have hx : 0 ≤ x ∧ x < N := by simpa using c1
    cases h with
    | nil hN he => omega
    | «at» hA hP =>
    obtain ⟨hx0, hx1⟩ := hx
    obtain ⟨vx, rfl⟩ := Int.eq_ofNat_of_zero_le hx0
    have hstl := hP.stl
    have houl := hP.oul
    obtain ⟨s, hs⟩ : ∃ s, M.st[vx]? = some s := ⟨_, List.getElem?_eq_getElem (by omega)⟩
    have hs2 := hP.stn vx s hx1 hs
    have b1 := hP.bd _ _ hs
    have b2 := hP.bd _ _ hs2
    obtain ⟨sn, rfl⟩ := Int.eq_ofNat_of_zero_le b1.1
    refine DC.skip ?_
    refine Fin.then ?_
    refine DC.seq ?_
    refine DC.flow (cl := [.q, .q, .q, .v, .q, .q, .q, .v, .q, .q, .v, .q, .q, .q, .v, .q, .q, .q, .v, .q, .q]) (A := [0, 1, 3, 7, 0, 16, 48, 112, 0, 496, 1008, 0, 2048, 6144, 14336, 0, 32768, 129024, 260096, 524287, 1048575]) (order := [0, 1, 2, 3, 4, 5, 6, 7, 8, 9, 10, 11, 12, 13, 14, 15, 16, 17, 18, 19, 20]) [] mixed (by kernel_rfl) (fun w hw => hw.pick .nil) ?_
    refine Flow.pur rfl rfl rfl (p_move rfl rfl) ?_
    refine Flow.pur rfl rfl rfl (p_nil rfl rfl) ?_
    refine Flow.pur rfl rfl rfl (p_field rfl rfl fi73_2 (by first | exact add_at0 _ _ | exact add_at _ _ _ | rfl)) ?_
    refine Flow.valS rfl rfl rfl rfl (v_load rfl rfl ag34 (has_heap hA.hp rfl)) ?_
    refine Flow.pur rfl rfl rfl (p_move rfl rfl) ?_
    refine Flow.pur rfl rfl rfl (p_nil rfl rfl) ?_
    refine Flow.pur rfl rfl rfl (p_field rfl rfl fi73_1 (by first | exact add_at0 _ _ | exact add_at _ _ _ | rfl)) ?_
    refine Flow.valS rfl rfl rfl rfl (v_load rfl rfl ag34 (has_heap hA.hp rfl)) ?_
    refine Flow.pur rfl rfl rfl (p_move rfl rfl) ?_
    refine Flow.pur rfl rfl rfl (p_index1 rfl rfl rfl Try.underlying34 sz3 (by omega) (by omega) (by first | exact add_at0 _ _ | exact add_at _ _ _ | rfl)) ?_
    refine Flow.valS rfl rfl rfl rfl (v_load rfl rfl ag3 (has_heap hA.h1 (ints_arr hs))) ?_
    refine Flow.pur rfl rfl rfl (p_move rfl rfl) ?_
    refine Flow.pur rfl rfl rfl (p_nil rfl rfl) ?_
    refine Flow.pur rfl rfl rfl (p_field rfl rfl fi73_1 (by first | exact add_at0 _ _ | exact add_at _ _ _ | rfl)) ?_
    refine Flow.valS rfl rfl rfl rfl (v_load rfl rfl ag34 (has_heap hA.hp rfl)) ?_
    refine Flow.pur rfl rfl rfl (p_move rfl rfl) ?_
    refine Flow.pur rfl rfl rfl (p_add rfl rfl rfl (by omega)) ?_
    refine Flow.pur rfl rfl rfl (p_index1 rfl rfl rfl Try.underlying34 sz3 (by omega) (by omega) (by first | exact add_at0 _ _ | exact add_at _ _ _ | rfl)) ?_
    refine Flow.valS rfl rfl rfl rfl (v_load rfl rfl ag3 (has_heap hA.h1 (ints_arr hs2))) ?_
    refine Flow.pur rfl rfl rfl (p_slice (lo := sn) (hi := sn + (outs es vx).length) rfl rfl rfl rfl Try.underlying34 sz3 (by omega) (by omega)) ?_
    refine Flow.pur rfl rfl rfl (p_assign rfl rfl) ?_
    refine Flow.end rfl ?_
    simp only [List.map_cons, List.map_nil, List.nil_append, List.cons_append, List.append_nil]
    refine Fin.then ?_
    refine DC.ret ?_
    refine Fin.end1 (.inl rfl) rfl rfl ?_
    refine ⟨rfl, _, _, by rw [show sn + (outs es (vx : Int)).length - sn = (outs es (vx : Int)).length by omega], by omega, by omega, fun hpos => ⟨sn, hx0, hx1, hs, ?_⟩⟩
    rw [if_neg (by omega)]
    simp [add_at]
theorem Degree_calls (h : AV w N es M p) (x : Int) : Calls Try.prog 18 #[.pointer p, .int .i64 x] w (Ret w [] fun v L => L = [] ∧ v = .int .i64 (outs es x).length) := by
  refine calls_of (args := [_, _]) (L := []) Try.func18 rfl Try.ntmps18 rfl (Own.start _ _) ?_
  refine DC.seq ?_
  refine DC.region ?_
  refine Seq.pur rfl rfl (p_assign rfl rfl) ?_
  refine Seq.nil ?_
  refine Fin.then ?_
  refine DC.seq ?_
  refine DC.region ?_
  refine Seq.pur rfl rfl (p_move rfl rfl) ?_
  refine Seq.pur rfl rfl (p_move rfl rfl) ?_
  -- calls (*tangram/csr.Adj).leave
  refine Seq.rel0 rfl rfl (r_call en48 rfl rfl rfl (fun w' hw => leave_calls (h.keep hw) x)) ?_
  rintro _ ⟨A, cap, rfl, hcap, hmax, hA⟩
  refine Seq.pur rfl rfl (p_len rfl rfl Try.underlying34) ?_
  refine Seq.pur rfl rfl (p_assign rfl rfl) ?_
  refine Seq.nil ?_
  refine Fin.then ?_
  refine DC.ret ?_
  refine Fin.end1 (.inl rfl) rfl rfl ?_
  exact ⟨rfl, rfl⟩
theorem From_calls (h : AV w N es M p) (x : Int) : Calls Try.prog 21 #[.pointer p, .int .i64 x] w (Ret w [] fun v L => L = [] ∧ v = .int .i64 (fromV es x)) := by
  refine calls_of (args := [_, _]) (L := []) Try.func21 rfl Try.ntmps21 rfl (Own.start _ _) ?_
  refine DC.seq ?_
  refine DC.region ?_
  refine Seq.pur rfl rfl (p_assign rfl rfl) ?_
  refine Seq.nil ?_
  refine Fin.then ?_
  refine DC.seq ?_
  refine DC.seq ?_
  refine DC.region ?_
  refine Seq.pur rfl rfl (p_move rfl rfl) ?_
  refine Seq.pur rfl rfl (p_move rfl rfl) ?_
  -- calls (*tangram/csr.Adj).half
  refine Seq.rel0 rfl rfl (r_call en49 rfl rfl rfl (fun w' hw => half_calls (h.keep hw) x)) ?_
  rintro _ rfl
  refine Seq.pur rfl rfl (p_not rfl rfl) ?_
  refine Seq.nil ?_
  refine Fin.then ?_
  refine DC.cond rfl (fun c1 => ?_) (fun c1 => ?_)
  · refine DC.seq ?_
    refine DC.region ?_
    refine Seq.pur rfl rfl (p_assign rfl rfl) ?_
    refine Seq.nil ?_
    refine Fin.then ?_
    refine DC.ret ?_
    refine Fin.ret_then <| ?_
    refine Fin.end1 (.inl rfl) rfl rfl ?_
    exact ⟨rfl, by rw [fromV_out es (by simp at c1; omega)]⟩
  · have hx : 0 ≤ x ∧ x < es.length * 2 := by simpa using c1
    cases h with
    | nil hN he => subst he; simp at hx; omega
    | «at» hA hP =>
    have hfl : M.fr.length = es.length * 2 := by rw [hP.fr, frs_length]
    obtain ⟨y, hy, hf⟩ := fromV_at es hx.1 hx.2
    rw [← hP.fr] at hy
    refine DC.skip ?_
    refine Fin.then ?_
    refine DC.seq ?_
    refine DC.region ?_
    refine Seq.pur rfl rfl (p_move rfl rfl) ?_
    refine Seq.pur rfl rfl (p_nil rfl rfl) ?_
    refine Seq.pur rfl rfl (p_field rfl rfl fi73_0 (by first | exact add_at0 _ _ | exact add_at _ _ _ | rfl)) ?_
    refine Seq.val rfl rfl (v_load rfl rfl ag34 (has_heap hA.hp rfl)) ?_
    refine Seq.pur rfl rfl (p_move rfl rfl) ?_
    refine Seq.pur rfl rfl (p_index1 rfl rfl rfl Try.underlying34 sz3 (by omega) (by omega) (by first | exact add_at0 _ _ | exact add_at _ _ _ | rfl)) ?_
    refine Seq.val rfl rfl (v_load rfl rfl ag3 (has_heap hA.h0 (ints_arr hy))) ?_
    refine Seq.pur rfl rfl (p_assign rfl rfl) ?_
    refine Seq.nil ?_
    refine Fin.then ?_
    refine DC.ret ?_
    refine Fin.end1 (.inl rfl) rfl rfl ?_
    exact ⟨rfl, by rw [hf]⟩
theorem To_calls (h : AV w N es M p) (x : Int) : Calls Try.prog 22 #[.pointer p, .int .i64 x] w (Ret w [] fun v L => L = [] ∧ v = .int .i64 (toV es x)) := by
  have hfew := h.vld.few
  refine calls_of (args := [_, _]) (L := []) Try.func22 rfl Try.ntmps22 rfl (Own.start _ _) ?_
  refine DC.seq ?_
  refine DC.region ?_
  refine Seq.pur rfl rfl (p_assign rfl rfl) ?_
  refine Seq.nil ?_
  refine Fin.then ?_
  refine DC.seq ?_
  refine DC.seq ?_
  refine DC.region ?_
  refine Seq.pur rfl rfl (p_move rfl rfl) ?_
  refine Seq.pur rfl rfl (p_move rfl rfl) ?_
  -- calls (*tangram/csr.Adj).half
  refine Seq.rel0 rfl rfl (r_call en49 rfl rfl rfl (fun w' hw => half_calls (h.keep hw) x)) ?_
  rintro _ rfl
  refine Seq.pur rfl rfl (p_not rfl rfl) ?_
  refine Seq.nil ?_
  refine Fin.then ?_
  refine DC.cond rfl (fun c1 => ?_) (fun c1 => ?_)
  · refine DC.seq ?_
    refine DC.region ?_
    refine Seq.pur rfl rfl (p_assign rfl rfl) ?_
    refine Seq.nil ?_
    refine Fin.then ?_
    refine DC.ret ?_
    refine Fin.ret_then <| ?_
    refine Fin.end1 (.inl rfl) rfl rfl ?_
    exact ⟨rfl, by rw [toV_out es (by simp at c1; omega)]⟩
  · have hx : 0 ≤ x ∧ x < es.length * 2 := by simpa using c1
    cases h with
    | nil hN he => subst he; simp at hx; omega
    | «at» hA hP =>
    have hfl : M.fr.length = es.length * 2 := by rw [hP.fr, frs_length]
    have htw := tw_range hx.1 hx.2
    obtain ⟨y, hy, hf⟩ := fromV_at es htw.1 htw.2
    rw [← hP.fr] at hy
    have htw' := htw
    unfold tw at htw'
    refine DC.skip ?_
    refine Fin.then ?_
    refine DC.seq ?_
    refine DC.region ?_
    refine Seq.pur rfl rfl (p_move rfl rfl) ?_
    refine Seq.pur rfl rfl (p_nil rfl rfl) ?_
    refine Seq.pur rfl rfl (p_field rfl rfl fi73_0 (by first | exact add_at0 _ _ | exact add_at _ _ _ | rfl)) ?_
    refine Seq.val rfl rfl (v_load rfl rfl ag34 (has_heap hA.hp rfl)) ?_
    refine Seq.pur rfl rfl (p_move rfl rfl) ?_
    refine Seq.pur rfl rfl (p_xor1 rfl rfl rfl (by omega)) ?_
    refine Seq.pur rfl rfl (p_index1 (ad' := ⟨M.g0, (tw x).toNat, none⟩) rfl rfl rfl Try.underlying34 sz3 htw'.1 (by have := htw'.2; omega) (by rw [add_at0]; simp [tw])) ?_
    refine Seq.val rfl rfl (v_load rfl rfl ag3 (has_heap hA.h0 (ints_arr hy))) ?_
    refine Seq.pur rfl rfl (p_assign rfl rfl) ?_
    refine Seq.nil ?_
    refine Fin.then ?_
    refine DC.ret ?_
    refine Fin.end1 (.inl rfl) rfl rfl ?_
    exact ⟨rfl, by unfold toV; rw [if_pos hx.1, hf]⟩
theorem First_calls (h : AV w N es M p) (x : Int) : Calls Try.prog 20 #[.pointer p, .int .i64 x] w (Ret w [] fun v L => L = [] ∧ v = .int .i64 ((outs es x)[0]?.getD (-1))) := by
  have hfew := h.vld.few
  refine calls_of (args := [_, _]) (L := []) Try.func20 rfl Try.ntmps20 rfl (Own.start _ _) ?_
  refine DC.seq ?_
  refine DC.region ?_
  refine Seq.pur rfl rfl (p_assign rfl rfl) ?_
  refine Seq.nil ?_
  refine Fin.then ?_
  refine DC.seq ?_
  refine DC.seq ?_
  refine DC.region ?_
  refine Seq.pur rfl rfl (p_move rfl rfl) ?_
  refine Seq.pur rfl rfl (p_move rfl rfl) ?_
  -- calls (*tangram/csr.Adj).Degree
  refine Seq.rel0 rfl rfl (r_call en18 rfl rfl rfl (fun w' hw => Degree_calls (h.keep hw) x)) ?_
  rintro _ rfl
  refine Seq.pur rfl rfl (p_eql rfl rfl rfl) ?_
  refine Seq.nil ?_
  refine Fin.then ?_
  refine DC.cond rfl (fun c1 => ?_) (fun c1 => ?_)
  · refine DC.seq ?_
    refine DC.region ?_
    refine Seq.pur rfl rfl (p_assign rfl rfl) ?_
    refine Seq.nil ?_
    refine Fin.then ?_
    refine DC.ret ?_
    refine Fin.ret_then <| ?_
    refine Fin.end1 (.inl rfl) rfl rfl ?_
    have h0 : outs es x = [] := by simpa using c1
    exact ⟨rfl, by rw [h0]; rfl⟩
  · have h0 : outs es x ≠ [] := by simpa using c1
    have hx : 0 ≤ x ∧ x < N := Classical.byContradiction fun hn => h0 (outs_out h.vld hn)
    cases h with
    | nil hN he => omega
    | «at» hA hP =>
    obtain ⟨hx0, hx1⟩ := hx
    obtain ⟨vx, rfl⟩ := Int.eq_ofNat_of_zero_le hx0
    have hstl := hP.stl
    have houl := hP.oul
    have hlen : 0 < (outs es vx).length := List.length_pos_iff.2 h0
    obtain ⟨s, hs⟩ : ∃ s, M.st[vx]? = some s := ⟨_, List.getElem?_eq_getElem (by omega)⟩
    have b1 := hP.bd _ _ hs
    obtain ⟨sn, rfl⟩ := Int.eq_ofNat_of_zero_le b1.1
    obtain ⟨y, hy⟩ : ∃ y, (outs es (vx : Int))[0]? = some y := ⟨_, List.getElem?_eq_getElem hlen⟩
    obtain ⟨ho, _⟩ := hP.ou vx _ hx1 hs 0 y hy
    have hin := (List.getElem?_eq_some_iff.1 ho).1
    simp only [Int.toNat_natCast, Nat.add_zero] at ho hin
    refine DC.skip ?_
    refine Fin.then ?_
    refine DC.seq ?_
    refine DC.flow (cl := [.q, .q, .q, .v, .q, .q, .q, .v, .q, .q, .v, .q, .v, .q]) (A := [0, 1, 3, 7, 0, 16, 48, 112, 0, 496, 1008, 2047, 4095, 8191]) (order := [0, 1, 2, 3, 4, 5, 6, 7, 8, 9, 10, 11, 12, 13]) [] mixed (by kernel_rfl) (fun w hw => hw.pick .nil) ?_
    refine Flow.pur rfl rfl rfl (p_move rfl rfl) ?_
    refine Flow.pur rfl rfl rfl (p_nil rfl rfl) ?_
    refine Flow.pur rfl rfl rfl (p_field rfl rfl fi73_2 (by first | exact add_at0 _ _ | exact add_at _ _ _ | rfl)) ?_
    refine Flow.valS rfl rfl rfl rfl (v_load rfl rfl ag34 (has_heap hA.hp rfl)) ?_
    refine Flow.pur rfl rfl rfl (p_move rfl rfl) ?_
    refine Flow.pur rfl rfl rfl (p_nil rfl rfl) ?_
    refine Flow.pur rfl rfl rfl (p_field rfl rfl fi73_1 (by first | exact add_at0 _ _ | exact add_at _ _ _ | rfl)) ?_
    refine Flow.valS rfl rfl rfl rfl (v_load rfl rfl ag34 (has_heap hA.hp rfl)) ?_
    refine Flow.pur rfl rfl rfl (p_move rfl rfl) ?_
    refine Flow.pur rfl rfl rfl (p_index1 rfl rfl rfl Try.underlying34 sz3 (by omega) (by omega) (by first | exact add_at0 _ _ | exact add_at _ _ _ | rfl)) ?_
    refine Flow.valS rfl rfl rfl rfl (v_load rfl rfl ag3 (has_heap hA.h1 (ints_arr hs))) ?_
    refine Flow.pur rfl rfl rfl (p_index1 rfl rfl rfl Try.underlying34 sz3 (by omega) (by omega) (by first | exact add_at0 _ _ | exact add_at _ _ _ | rfl)) ?_
    refine Flow.valS rfl rfl rfl rfl (v_load rfl rfl ag3 (has_heap hA.h2 (ints_arr ho))) ?_
    refine Flow.pur rfl rfl rfl (p_assign rfl rfl) ?_
    refine Flow.end rfl ?_
    simp only [List.map_cons, List.map_nil, List.nil_append, List.cons_append, List.append_nil]
    refine Fin.then ?_
    refine DC.ret ?_
    refine Fin.end1 (.inl rfl) rfl rfl ?_
    exact ⟨rfl, by rw [hy]; rfl⟩
theorem After_calls (h : AV w N es M p) (x : Int) : Calls Try.prog 23 #[.pointer p, .int .i64 x] w (Ret w [] fun v L => L = [] ∧ ∃ r, v = .int .i64 r ∧
    (∀ (u : Int) (k : Nat), (outs es u)[k]? = some x → r = (outs es u)[k + 1]?.getD (-1)) ∧ (¬ (0 ≤ x ∧ x < es.length * 2) → r = -1)) := by
  have hfew := h.vld.few
  refine calls_of (args := [_, _]) (L := []) Try.func23 rfl Try.ntmps23 rfl (Own.start _ _) ?_
  refine DC.seq ?_
  refine DC.region ?_
  refine Seq.pur rfl rfl (p_assign rfl rfl) ?_
  refine Seq.nil ?_
  refine Fin.then ?_
  refine DC.seq ?_
  refine DC.seq ?_
  refine DC.region ?_
  refine Seq.pur rfl rfl (p_move rfl rfl) ?_
  refine Seq.pur rfl rfl (p_move rfl rfl) ?_
  -- calls (*tangram/csr.Adj).half
  refine Seq.rel0 rfl rfl (r_call en49 rfl rfl rfl (fun w' hw => half_calls (h.keep hw) x)) ?_
  rintro _ rfl
  refine Seq.pur rfl rfl (p_not rfl rfl) ?_
  refine Seq.nil ?_
  refine Fin.then ?_
  refine DC.cond rfl (fun c1 => ?_) (fun c1 => ?_)
  · refine DC.seq ?_
    refine DC.region ?_
    refine Seq.pur rfl rfl (p_assign rfl rfl) ?_
    refine Seq.nil ?_
    refine Fin.then ?_
    refine DC.ret ?_
    refine Fin.ret_then <| ?_
    refine Fin.end1 (.inl rfl) rfl rfl ?_
    have hx : ¬ (0 ≤ x ∧ x < es.length * 2) := by simp at c1; omega
    refine ⟨rfl, -1, rfl, fun u k hk => ?_, fun _ => rfl⟩
    have := (mem_outs h.vld).1 (List.mem_of_getElem? hk)
    exact absurd ⟨this.1, this.2.1⟩ hx
  · have hx : 0 ≤ x ∧ x < es.length * 2 := by simpa using c1
    cases h with
    | nil hN he => subst he; simp at hx; omega
    | «at» hA hP =>
    have hfl : M.fr.length = es.length * 2 := by rw [hP.fr, frs_length]
    have hstl := hP.stl
    have houl := hP.oul
    have hpll := hP.pll
    have hhi := hP.vld.hi
    obtain ⟨y, hy, hf⟩ := fromV_at es hx.1 hx.2
    rw [← hP.fr] at hy
    have hmem := (mem_outs hP.vld).2 ⟨hx.1, hx.2, hf⟩
    obtain ⟨k, hk⟩ := List.getElem?_of_mem hmem
    have hyr : 0 ≤ y ∧ y < N := Classical.byContradiction fun hn => by rw [outs_out hP.vld hn] at hk; simp at hk
    obtain ⟨vx, rfl⟩ := Int.eq_ofNat_of_zero_le hyr.1
    obtain ⟨s, hs⟩ : ∃ s, M.st[vx]? = some s := ⟨_, List.getElem?_eq_getElem (by omega)⟩
    have hs2 := hP.stn vx s hyr.2 hs
    have b1 := hP.bd _ _ hs
    have b2 := hP.bd _ _ hs2
    obtain ⟨sn, rfl⟩ := Int.eq_ofNat_of_zero_le b1.1
    obtain ⟨ho, hpl⟩ := hP.ou vx _ hyr.2 hs k x hk
    have hkl := (List.getElem?_eq_some_iff.1 hk).1
    have huniq : ∀ (u : Int) (j : Nat), (outs es u)[j]? = some x → u = vx ∧ j = k := by
      intro u j hj
      have hu := (mem_outs hP.vld).1 (List.mem_of_getElem? hj)
      have : u = vx := by rw [← hu.2.2, hf]
      subst this
      have h2 := (hP.ou vx _ hyr.2 hs j x hj).2
      rw [hpl] at h2
      have := Option.some.inj h2
      exact ⟨rfl, by omega⟩
    refine DC.skip ?_
    refine Fin.then ?_
    refine DC.seq ?_
    refine DC.region ?_
    refine Seq.pur rfl rfl (p_move rfl rfl) ?_
    refine Seq.pur rfl rfl (p_nil rfl rfl) ?_
    refine Seq.pur rfl rfl (p_field rfl rfl fi73_3 (by first | exact add_at0 _ _ | exact add_at _ _ _ | rfl)) ?_
    refine Seq.val rfl rfl (v_load rfl rfl ag34 (has_heap hA.hp rfl)) ?_
    refine Seq.pur rfl rfl (p_move rfl rfl) ?_
    refine Seq.pur rfl rfl (p_index1 rfl rfl rfl Try.underlying34 sz3 (by omega) (by omega) (by first | exact add_at0 _ _ | exact add_at _ _ _ | rfl)) ?_
    refine Seq.val rfl rfl (v_load rfl rfl ag3 (has_heap hA.h3 (ints_arr hpl))) ?_
    refine Seq.pur rfl rfl (p_add rfl rfl rfl (by omega)) ?_
    refine Seq.pur rfl rfl (p_assign rfl rfl) ?_
    refine Seq.nil ?_
    refine Fin.then ?_
    refine DC.seq ?_
    refine DC.seq ?_
    refine DC.flow (cl := [.q, .q, .q, .q, .v, .q, .q, .q, .v, .q, .q, .v, .q, .q, .v, .q]) (A := [0, 0, 2, 6, 14, 0, 32, 96, 224, 0, 992, 2016, 4064, 8190, 16382, 32767]) (order := [0, 1, 2, 3, 4, 5, 6, 7, 8, 9, 10, 11, 12, 13, 14, 15]) [] mixed (by kernel_rfl) (fun w hw => hw.pick .nil) ?_
    refine Flow.pur rfl rfl rfl (p_move rfl rfl) ?_
    refine Flow.pur rfl rfl rfl (p_move rfl rfl) ?_
    refine Flow.pur rfl rfl rfl (p_nil rfl rfl) ?_
    refine Flow.pur rfl rfl rfl (p_field rfl rfl fi73_1 (by first | exact add_at0 _ _ | exact add_at _ _ _ | rfl)) ?_
    refine Flow.valS rfl rfl rfl rfl (v_load rfl rfl ag34 (has_heap hA.hp rfl)) ?_
    refine Flow.pur rfl rfl rfl (p_move rfl rfl) ?_
    refine Flow.pur rfl rfl rfl (p_nil rfl rfl) ?_
    refine Flow.pur rfl rfl rfl (p_field rfl rfl fi73_0 (by first | exact add_at0 _ _ | exact add_at _ _ _ | rfl)) ?_
    refine Flow.valS rfl rfl rfl rfl (v_load rfl rfl ag34 (has_heap hA.hp rfl)) ?_
    refine Flow.pur rfl rfl rfl (p_move rfl rfl) ?_
    refine Flow.pur rfl rfl rfl (p_index1 rfl rfl rfl Try.underlying34 sz3 (by omega) (by omega) (by first | exact add_at0 _ _ | exact add_at _ _ _ | rfl)) ?_
    refine Flow.valS rfl rfl rfl rfl (v_load rfl rfl ag3 (has_heap hA.h0 (ints_arr hy))) ?_
    refine Flow.pur rfl rfl rfl (p_add rfl rfl rfl (by omega)) ?_
    refine Flow.pur rfl rfl rfl (p_index1 rfl rfl rfl Try.underlying34 sz3 (by omega) (by omega) (by first | exact add_at0 _ _ | exact add_at _ _ _ | rfl)) ?_
    refine Flow.valS rfl rfl rfl rfl (v_load rfl rfl ag3 (has_heap hA.h1 (ints_arr hs2))) ?_
    refine Flow.pur rfl rfl rfl (p_geq rfl rfl rfl) ?_
    refine Flow.end rfl ?_
    simp only [List.map_cons, List.map_nil, List.nil_append, List.cons_append, List.append_nil]
    refine Fin.then ?_
    refine DC.cond rfl (fun c4 => ?_) (fun c4 => ?_)
    · refine DC.seq ?_
      refine DC.region ?_
      refine Seq.pur rfl rfl (p_assign rfl rfl) ?_
      refine Seq.nil ?_
      refine Fin.then ?_
      refine DC.ret ?_
      refine Fin.ret_then <| ?_
      refine Fin.end1 (.inl rfl) rfl rfl ?_
      have hlast : k + 1 = (outs es (vx : Int)).length := by simp at c4; omega
      refine ⟨rfl, -1, rfl, fun u j hj => ?_, fun hn => absurd hx hn⟩
      obtain ⟨rfl, rfl⟩ := huniq u j hj
      rw [List.getElem?_eq_none (by omega)]; rfl
    · have hnl : k + 1 < (outs es (vx : Int)).length := by simp at c4; omega
      obtain ⟨z, hz⟩ : ∃ z, (outs es (vx : Int))[k + 1]? = some z := ⟨_, List.getElem?_eq_getElem hnl⟩
      obtain ⟨ho2, _⟩ := hP.ou vx _ hyr.2 hs (k + 1) z hz
      have hin := (List.getElem?_eq_some_iff.1 ho2).1
      simp only [Int.toNat_natCast] at ho2 hin
      refine DC.skip ?_
      refine Fin.then ?_
      refine DC.seq ?_
      refine DC.region ?_
      refine Seq.pur rfl rfl (p_move rfl rfl) ?_
      refine Seq.pur rfl rfl (p_nil rfl rfl) ?_
      refine Seq.pur rfl rfl (p_field rfl rfl fi73_2 (by first | exact add_at0 _ _ | exact add_at _ _ _ | rfl)) ?_
      refine Seq.val rfl rfl (v_load rfl rfl ag34 (has_heap hA.hp rfl)) ?_
      refine Seq.pur rfl rfl (p_move rfl rfl) ?_
      refine Seq.pur rfl rfl (p_index1 (ad' := ⟨M.g2, sn + (k + 1), none⟩) rfl rfl rfl Try.underlying34 sz3 (by omega) (by omega) (by rw [add_at0]; first | rfl | (congr 1; omega))) ?_
      refine Seq.val rfl rfl (v_load rfl rfl ag3 (has_heap hA.h2 (ints_arr ho2))) ?_
      refine Seq.pur rfl rfl (p_assign rfl rfl) ?_
      refine Seq.nil ?_
      refine Fin.then ?_
      refine DC.ret ?_
      refine Fin.end1 (.inl rfl) rfl rfl ?_
      refine ⟨rfl, z, rfl, fun u j hj => ?_, fun hn => absurd hx hn⟩
      obtain ⟨rfl, rfl⟩ := huniq u j hj
      rw [hz]; rfl
end
end Go.Fl
