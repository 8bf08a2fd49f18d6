/- simple.compare and simple.Valid, and the reference's Valid. -/
import Derived.Test.YtbkhejfnhbjhpaaFlRead
import Derived.Test.YtbkhejfnhbjhpaaTypes
set_option linter.unusedVariables false
set_option linter.unusedSimpArgs false
set_option maxRecDepth 100000
namespace Go.Fl
open Go Go.Proofs

theorem compare_calls (a b c d : Int) (w : World) (h : 0 ≤ a ∧ a ≤ 1048576 ∧ 0 ≤ b ∧ b ≤ 1048576 ∧ 0 ≤ c ∧ c ≤ 1048576 ∧ 0 ≤ d ∧ d ≤ 1048576) :
    Calls Try.prog 71 #[.agg #[.int .i64 a, .int .i64 b], .agg #[.int .i64 c, .int .i64 d]] w (Ret w [] fun v L => L = [] ∧ v = .int .i64 (if a = c then b - d else a - c)) := by
  refine calls_of (args := [_, _]) (L := []) Try.func71 rfl Try.ntmps71 rfl (Own.start _ _) ?_
  refine DC.seq ?_
  refine DC.region ?_
  refine Seq.new rfl rfl (n_box rfl rfl rfl) fun g2 => ?_
  refine Seq.new rfl rfl (n_box rfl rfl rfl) fun g3 => ?_
  refine Seq.pur rfl rfl (p_assign rfl rfl) ?_
  refine Seq.nil ?_
  refine Fin.then ?_
  refine DC.seq ?_
  refine DC.seq ?_
  refine DC.region ?_
  refine Seq.pur rfl rfl (p_field rfl rfl fi39_0 (by first | exact add_at0 _ _ | exact add_at _ _ _ | rfl)) ?_
  refine Seq.val rfl rfl (v_load rfl rfl ag3 (by first | exact has_blk rfl | exact has_old' (by assumption))) ?_
  refine Seq.pur rfl rfl (p_field rfl rfl fi39_0 (by first | exact add_at0 _ _ | exact add_at _ _ _ | rfl)) ?_
  refine Seq.val rfl rfl (v_load rfl rfl ag3 (by first | exact has_blk rfl | exact has_old' (by assumption))) ?_
  refine Seq.pur rfl rfl (p_neq rfl rfl rfl) ?_
  refine Seq.nil ?_
  refine Fin.then ?_
  refine DC.cond rfl (fun c1 => ?_) (fun c1 => ?_)
  · refine DC.seq ?_
    refine DC.region ?_
    refine Seq.pur rfl rfl (p_field rfl rfl fi39_0 (by first | exact add_at0 _ _ | exact add_at _ _ _ | rfl)) ?_
    refine Seq.val rfl rfl (v_load rfl rfl ag3 (by first | exact has_blk rfl | exact has_old' (by assumption))) ?_
    refine Seq.pur rfl rfl (p_field rfl rfl fi39_0 (by first | exact add_at0 _ _ | exact add_at _ _ _ | rfl)) ?_
    refine Seq.val rfl rfl (v_load rfl rfl ag3 (by first | exact has_blk rfl | exact has_old' (by assumption))) ?_
    refine Seq.pur rfl rfl (p_sub rfl rfl rfl (by omega)) ?_
    refine Seq.pur rfl rfl (p_assign rfl rfl) ?_
    refine Seq.nil ?_
    refine Fin.then ?_
    refine DC.ret ?_
    refine Fin.ret_then <| ?_
    refine Fin.weak (E' := [(4, _)]) ⟨rfl, trivial⟩ .nil ?_
    refine Fin.end1 (.inl rfl) rfl rfl ?_
    exact ⟨rfl, by rw [if_neg (by simpa using c1)]⟩
  · refine DC.skip ?_
    refine Fin.then ?_
    refine DC.seq ?_
    refine DC.region ?_
    refine Seq.pur rfl rfl (p_field rfl rfl fi39_1 (by first | exact add_at0 _ _ | exact add_at _ _ _ | rfl)) ?_
    refine Seq.val rfl rfl (v_load rfl rfl ag3 (by first | exact has_blk rfl | exact has_old' (by assumption))) ?_
    refine Seq.pur rfl rfl (p_field rfl rfl fi39_1 (by first | exact add_at0 _ _ | exact add_at _ _ _ | rfl)) ?_
    refine Seq.val rfl rfl (v_load rfl rfl ag3 (by first | exact has_blk rfl | exact has_old' (by assumption))) ?_
    refine Seq.pur rfl rfl (p_sub rfl rfl rfl (by omega)) ?_
    refine Seq.pur rfl rfl (p_assign rfl rfl) ?_
    refine Seq.nil ?_
    refine Fin.then ?_
    refine DC.ret ?_
    refine Fin.weak (E' := [(4, _)]) ⟨rfl, trivial⟩ .nil ?_
    refine Fin.end1 (.inl rfl) rfl rfl ?_
    exact ⟨rfl, by rw [if_pos (by simpa using c1)]⟩

theorem valid_calls (N : Int) (es : List Pr) (A : Option Addr) (cap : Nat) (w : World) (hr : Rd w A (prs es)) (hl : es.length ≤ 9223372036854775807) :
    Calls Try.prog 53 #[.agg #[.int .i64 N, .slice A es.length cap]] w (Ret w [] fun v L => L = [] ∧ ∃ b, v = .bool b ∧ (b = true ↔ Vld N es)) := by
  refine calls_of (args := [_]) (L := []) Try.func53 rfl Try.ntmps53 rfl (Own.start _ _) ?_
  refine DC.seq ?_
  refine DC.region ?_
  refine Seq.new rfl rfl (n_box rfl rfl rfl) fun g1 => ?_
  refine Seq.pur rfl rfl (p_assign rfl rfl) ?_
  refine Seq.nil ?_
  refine Fin.then ?_
  refine DC.seq ?_
  refine DC.seq ?_
  refine DC.region ?_
  refine Seq.pur rfl rfl (p_field rfl rfl fi25_0 (by first | exact add_at0 _ _ | exact add_at _ _ _ | rfl)) ?_
  refine Seq.val rfl rfl (v_load rfl rfl ag3 (by first | exact has_blk rfl | exact has_old' (by assumption))) ?_
  refine Seq.pur rfl rfl (p_lss rfl rfl rfl) ?_
  refine Seq.pur rfl rfl (p_move rfl rfl) ?_
  refine Seq.split 8 rfl (fun k1_3 => ?_) (fun k1_3 => ?_)
  · refine Seq.skip rfl rfl ?_
    refine Seq.skip rfl rfl ?_
    refine Seq.skip rfl rfl ?_
    refine Seq.pur rfl rfl (p_pick_t rfl rfl rfl) ?_
    refine Seq.pur rfl rfl (p_move rfl rfl) ?_
    refine Seq.skip rfl rfl ?_
    refine Seq.skip rfl rfl ?_
    refine Seq.skip rfl rfl ?_
    refine Seq.skip rfl rfl ?_
    refine Seq.pur rfl rfl (p_pick_t rfl rfl rfl) ?_
    refine Seq.nil ?_
    refine Fin.then ?_
    refine DC.cond_t rfl ?_
    refine DC.seq ?_
    refine DC.region ?_
    refine Seq.pur rfl rfl (p_assign rfl rfl) ?_
    refine Seq.nil ?_
    refine Fin.then ?_
    refine DC.ret ?_
    refine Fin.ret_then <| ?_
    refine Fin.weak (E' := [(2, _)]) ⟨rfl, trivial⟩ .nil ?_
    refine Fin.end1 (.inl rfl) rfl rfl ?_
    exact ⟨rfl, false, rfl, by simp; intro h; have := h.lo; simp at k1_3; omega⟩
  · refine Seq.pur rfl rfl (p_field rfl rfl fi25_0 (by first | exact add_at0 _ _ | exact add_at _ _ _ | rfl)) ?_
    refine Seq.val rfl rfl (v_load rfl rfl ag3 (by first | exact has_blk rfl | exact has_old' (by assumption))) ?_
    refine Seq.pur rfl rfl (p_gtr rfl rfl rfl) ?_
    refine Seq.pur rfl rfl (p_pick_f rfl rfl rfl) ?_
    refine Seq.pur rfl rfl (p_move rfl rfl) ?_
    refine Seq.split 13 rfl (fun k1_8 => ?_) (fun k1_8 => ?_)
    · refine Seq.skip rfl rfl ?_
      refine Seq.skip rfl rfl ?_
      refine Seq.skip rfl rfl ?_
      refine Seq.skip rfl rfl ?_
      refine Seq.pur rfl rfl (p_pick_t rfl rfl rfl) ?_
      refine Seq.nil ?_
      refine Fin.then ?_
      refine DC.cond_t rfl ?_
      refine DC.seq ?_
      refine DC.region ?_
      refine Seq.pur rfl rfl (p_assign rfl rfl) ?_
      refine Seq.nil ?_
      refine Fin.then ?_
      refine DC.ret ?_
      refine Fin.ret_then <| ?_
      refine Fin.weak (E' := [(2, _)]) ⟨rfl, trivial⟩ .nil ?_
      refine Fin.end1 (.inl rfl) rfl rfl ?_
      exact ⟨rfl, false, rfl, by simp; intro h; have := h.hi; simp at k1_8; omega⟩
    · refine Seq.pur rfl rfl (p_field rfl rfl fi25_1 (by first | exact add_at0 _ _ | exact add_at _ _ _ | rfl)) ?_
      refine Seq.val rfl rfl (v_load rfl rfl ag23 (by first | exact has_blk rfl | exact has_old' (by assumption))) ?_
      refine Seq.pur rfl rfl (p_len rfl rfl Try.underlying23) ?_
      refine Seq.pur rfl rfl (p_gtr rfl rfl rfl) ?_
      refine Seq.pur rfl rfl (p_pick_f rfl rfl rfl) ?_
      refine Seq.nil ?_
      refine Fin.then ?_
      refine DC.cond rfl (fun c1 => ?_) (fun c1 => ?_)
      · refine DC.seq ?_
        refine DC.region ?_
        refine Seq.pur rfl rfl (p_assign rfl rfl) ?_
        refine Seq.nil ?_
        refine Fin.then ?_
        refine DC.ret ?_
        refine Fin.ret_then <| ?_
        refine Fin.weak (E' := [(2, _)]) ⟨rfl, trivial⟩ .nil ?_
        refine Fin.end1 (.inl rfl) rfl rfl ?_
        exact ⟨rfl, false, rfl, by simp; intro h; have := h.few; simp at c1; omega⟩
      · refine DC.skip ?_
        refine Fin.then ?_
        refine DC.seq ?_
        refine DC.seq ?_
        refine DC.region ?_
        refine Seq.pur rfl rfl (p_field rfl rfl fi25_1 (by first | exact add_at0 _ _ | exact add_at _ _ _ | rfl)) ?_
        refine Seq.val rfl rfl (v_load rfl rfl ag23 (by first | exact has_blk rfl | exact has_old' (by assumption))) ?_
        refine Seq.pur rfl rfl (p_len rfl rfl Try.underlying23) ?_
        refine Seq.pur rfl rfl (p_move rfl rfl) ?_
        refine Seq.nil ?_
        refine Fin.then ?_
        refine DC.block ?_
        refine DC.loop (ι := Nat) (fun i => i ≤ es.length ∧ (∀ (j : Nat) e, j < i → es[j]? = some e → OkE N e) ∧ (∀ (j : Nat) a b, j + 1 < i → es[j]? = some a → es[j + 1]? = some b → Lex a b))
          (fun i => [(1, .pointer (some ⟨g1, 0, none⟩)), (20, .slice A es.length cap), (21, .int .i64 es.length), (22, .int .i64 i)])
          (fun i => [blk g1 25 #[.int .i64 N, .slice A es.length cap]]) (fun i => es.length - i) 0 ⟨Nat.zero_le _, fun _ _ h => absurd h (Nat.not_lt_zero _), fun _ _ _ h => absurd h (Nat.not_lt_zero _)⟩
          ⟨rfl, rfl, rfl, rfl, trivial⟩ (.cons 0 rfl .nil) ?_
        rintro i ⟨hi, hok, hup⟩
        refine DC.seq ?_
        refine DC.region ?_
        refine Seq.pur rfl rfl (p_lss rfl rfl rfl) ?_
        refine Seq.nil ?_
        refine Fin.then ?_
        refine DC.seq ?_
        refine DC.cond rfl (fun c4 => ?_) (fun c4 => ?_)
        · have hlt : i < es.length := by simpa using c4
          obtain ⟨e, he⟩ : ∃ e, es[i]? = some e := ⟨_, List.getElem?_eq_getElem hlt⟩
          obtain ⟨ad, rfl, hU, hV⟩ := hr.pair he
          refine DC.skip ?_
          refine Fin.then ?_
          refine DC.seq ?_
          refine DC.block ?_
          refine DC.seq ?_
          refine DC.region ?_
          refine Seq.pur rfl rfl (p_move rfl rfl) ?_
          refine Seq.pur rfl rfl (p_index rfl rfl rfl Try.underlying23 sz39 (by omega) (by omega) (by first | exact add_at0 _ _ | exact add_at _ _ _ | rfl)) ?_
          refine Seq.val rfl rfl (v_loads (vs := [_, _]) rfl rfl ag39 sz39 rfl (hass2 hU hV (by simp))) ?_
          refine Seq.new rfl rfl (n_alloc rfl ze39 rfl) fun g4 => ?_
          refine Seq.pur rfl rfl (p_assign rfl rfl) ?_
          refine Seq.sto rfl rfl (s_stores (cs' := #[_, _]) rfl rfl rfl sz39 rfl (Nat.le_of_ble_eq_true rfl) rfl) ?_
          refine Seq.nil ?_
          refine Fin.then ?_
          refine DC.seq ?_
          refine DC.flow (cl := [.q, .v, .q, .q, .q, .v, .q, .v, .q, .q, .q, .q, .v, .q, .v, .q, .q, .q, .q, .q, .q, .q, .v, .q, .q, .q, .v, .v, .r, .q, .q, .q]) (A := [0, 1, 3, 7, 15, 31, 15, 79, 255, 511, 1023, 2047, 4095, 2047, 10239, 32767, 65535, 131071, 262143, 524287, 1048575, 2097151, 4194303, 2097151, 10485759, 33554431, 67108863, 2097151, 268435455, 536870911, 1073741823, 2147483647]) (order := [0, 1, 2, 3, 4, 5, 6, 7, 8, 9, 10, 11, 12, 13, 14, 15, 16, 17, 18, 19, 20, 21, 22, 23, 24, 25, 26, 27, 28, 29, 30, 31]) [] mixed (by kernel_rfl) (fun w hw => hw.pick .nil) ?_
          refine Flow.pur rfl rfl rfl (p_field rfl rfl fi39_0 (by first | exact add_at0 _ _ | exact add_at _ _ _ | rfl)) ?_
          refine Flow.valS rfl rfl rfl rfl (v_load rfl rfl ag3 (by first | exact has_blk rfl | exact has_old' (by assumption))) ?_
          refine Flow.pur rfl rfl rfl (p_lss rfl rfl rfl) ?_
          refine Flow.pur rfl rfl rfl (p_move rfl rfl) ?_
          refine Flow.split 30 rfl (fun k6_3 => ?_) (fun k6_3 => ?_)
          · refine Flow.skip rfl rfl rfl ?_
            refine Flow.skip rfl rfl rfl ?_
            refine Flow.skip rfl rfl rfl ?_
            refine Flow.skip rfl rfl rfl ?_
            refine Flow.skip rfl rfl rfl ?_
            refine Flow.pur rfl rfl rfl (p_pick_t rfl rfl rfl) ?_
            refine Flow.pur rfl rfl rfl (p_move rfl rfl) ?_
            refine Flow.skip rfl rfl rfl ?_
            refine Flow.skip rfl rfl rfl ?_
            refine Flow.skip rfl rfl rfl ?_
            refine Flow.skip rfl rfl rfl ?_
            refine Flow.skip rfl rfl rfl ?_
            refine Flow.pur rfl rfl rfl (p_pick_t rfl rfl rfl) ?_
            refine Flow.pur rfl rfl rfl (p_move rfl rfl) ?_
            refine Flow.skip rfl rfl rfl ?_
            refine Flow.skip rfl rfl rfl ?_
            refine Flow.skip rfl rfl rfl ?_
            refine Flow.skip rfl rfl rfl ?_
            refine Flow.skip rfl rfl rfl ?_
            refine Flow.skip rfl rfl rfl ?_
            refine Flow.skip rfl rfl rfl ?_
            refine Flow.skip rfl rfl rfl ?_
            refine Flow.skip rfl rfl rfl ?_
            refine Flow.skip rfl rfl rfl ?_
            refine Flow.skip rfl rfl rfl ?_
            refine Flow.skip rfl rfl rfl ?_
            refine Flow.skip rfl rfl rfl ?_
            refine Flow.pur rfl rfl rfl (p_pick_t rfl rfl rfl) ?_
            refine Flow.end rfl ?_
            simp only [List.map_cons, List.map_nil, List.nil_append, List.cons_append, List.append_nil]
            refine Fin.then ?_
            refine DC.cond_t rfl ?_
            refine DC.seq ?_
            refine DC.region ?_
            refine Seq.pur rfl rfl (p_assign rfl rfl) ?_
            refine Seq.nil ?_
            refine Fin.then ?_
            refine DC.ret ?_
            refine Fin.ret_block <| Fin.ret_then <| Fin.ret_then <| Fin.ret_block <| Fin.ret_then <| ?_
            refine Fin.weak (E' := [(2, _)]) ⟨rfl, trivial⟩ .nil ?_
            refine Fin.end1 (.inl rfl) rfl rfl ?_
            exact ⟨rfl, false, rfl, by simp; intro h; have := (h.ok i e he).lo; simp at k6_3; omega⟩
          · refine Flow.pur rfl rfl rfl (p_field rfl rfl fi39_0 (by first | exact add_at0 _ _ | exact add_at _ _ _ | rfl)) ?_
            refine Flow.valS rfl rfl rfl rfl (v_load rfl rfl ag3 (by first | exact has_blk rfl | exact has_old' (by assumption))) ?_
            refine Flow.pur rfl rfl rfl (p_field rfl rfl fi39_1 (by first | exact add_at0 _ _ | exact add_at _ _ _ | rfl)) ?_
            refine Flow.valS rfl rfl rfl rfl (v_load rfl rfl ag3 (by first | exact has_blk rfl | exact has_old' (by assumption))) ?_
            refine Flow.pur rfl rfl rfl (p_geq rfl rfl rfl) ?_
            refine Flow.pur rfl rfl rfl (p_pick_f rfl rfl rfl) ?_
            refine Flow.pur rfl rfl rfl (p_move rfl rfl) ?_
            refine Flow.split 37 rfl (fun k6_10 => ?_) (fun k6_10 => ?_)
            · refine Flow.skip rfl rfl rfl ?_
              refine Flow.skip rfl rfl rfl ?_
              refine Flow.skip rfl rfl rfl ?_
              refine Flow.skip rfl rfl rfl ?_
              refine Flow.skip rfl rfl rfl ?_
              refine Flow.pur rfl rfl rfl (p_pick_t rfl rfl rfl) ?_
              refine Flow.pur rfl rfl rfl (p_move rfl rfl) ?_
              refine Flow.skip rfl rfl rfl ?_
              refine Flow.skip rfl rfl rfl ?_
              refine Flow.skip rfl rfl rfl ?_
              refine Flow.skip rfl rfl rfl ?_
              refine Flow.skip rfl rfl rfl ?_
              refine Flow.skip rfl rfl rfl ?_
              refine Flow.skip rfl rfl rfl ?_
              refine Flow.skip rfl rfl rfl ?_
              refine Flow.skip rfl rfl rfl ?_
              refine Flow.skip rfl rfl rfl ?_
              refine Flow.skip rfl rfl rfl ?_
              refine Flow.skip rfl rfl rfl ?_
              refine Flow.skip rfl rfl rfl ?_
              refine Flow.pur rfl rfl rfl (p_pick_t rfl rfl rfl) ?_
              refine Flow.end rfl ?_
              simp only [List.map_cons, List.map_nil, List.nil_append, List.cons_append, List.append_nil]
              refine Fin.then ?_
              refine DC.cond_t rfl ?_
              refine DC.seq ?_
              refine DC.region ?_
              refine Seq.pur rfl rfl (p_assign rfl rfl) ?_
              refine Seq.nil ?_
              refine Fin.then ?_
              refine DC.ret ?_
              refine Fin.ret_block <| Fin.ret_then <| Fin.ret_then <| Fin.ret_block <| Fin.ret_then <| ?_
              refine Fin.weak (E' := [(2, _)]) ⟨rfl, trivial⟩ .nil ?_
              refine Fin.end1 (.inl rfl) rfl rfl ?_
              exact ⟨rfl, false, rfl, by simp; intro h; have := (h.ok i e he).lt; simp at k6_10; omega⟩
            · refine Flow.pur rfl rfl rfl (p_field rfl rfl fi39_1 (by first | exact add_at0 _ _ | exact add_at _ _ _ | rfl)) ?_
              refine Flow.valS rfl rfl rfl rfl (v_load rfl rfl ag3 (by first | exact has_blk rfl | exact has_old' (by assumption))) ?_
              refine Flow.pur rfl rfl rfl (p_field rfl rfl fi25_0 (by first | exact add_at0 _ _ | exact add_at _ _ _ | rfl)) ?_
              refine Flow.valS rfl rfl rfl rfl (v_load rfl rfl ag3 (by first | exact has_blk rfl | exact has_old' (by assumption))) ?_
              refine Flow.pur rfl rfl rfl (p_geq rfl rfl rfl) ?_
              refine Flow.pur rfl rfl rfl (p_pick_f rfl rfl rfl) ?_
              refine Flow.pur rfl rfl rfl (p_move rfl rfl) ?_
              refine Flow.split 44 rfl (fun k6_17 => ?_) (fun k6_17 => ?_)
              · refine Flow.skip rfl rfl rfl ?_
                refine Flow.skip rfl rfl rfl ?_
                refine Flow.skip rfl rfl rfl ?_
                refine Flow.skip rfl rfl rfl ?_
                refine Flow.skip rfl rfl rfl ?_
                refine Flow.skip rfl rfl rfl ?_
                refine Flow.skip rfl rfl rfl ?_
                refine Flow.skip rfl rfl rfl ?_
                refine Flow.skip rfl rfl rfl ?_
                refine Flow.skip rfl rfl rfl ?_
                refine Flow.skip rfl rfl rfl ?_
                refine Flow.skip rfl rfl rfl ?_
                refine Flow.skip rfl rfl rfl ?_
                refine Flow.pur rfl rfl rfl (p_pick_t rfl rfl rfl) ?_
                refine Flow.end rfl ?_
                simp only [List.map_cons, List.map_nil, List.nil_append, List.cons_append, List.append_nil]
                refine Fin.then ?_
                refine DC.cond_t rfl ?_
                refine DC.seq ?_
                refine DC.region ?_
                refine Seq.pur rfl rfl (p_assign rfl rfl) ?_
                refine Seq.nil ?_
                refine Fin.then ?_
                refine DC.ret ?_
                refine Fin.ret_block <| Fin.ret_then <| Fin.ret_then <| Fin.ret_block <| Fin.ret_then <| ?_
                refine Fin.weak (E' := [(2, _)]) ⟨rfl, trivial⟩ .nil ?_
                refine Fin.end1 (.inl rfl) rfl rfl ?_
                exact ⟨rfl, false, rfl, by simp; intro h; have := (h.ok i e he).hi; simp at k6_17; omega⟩
              · refine Flow.pur rfl rfl rfl (p_move rfl rfl) ?_
                refine Flow.pur rfl rfl rfl (p_gtr rfl rfl rfl) ?_
                refine Flow.pur rfl rfl rfl (p_move rfl rfl) ?_
                refine Flow.split 47 rfl (fun k6_20 => ?_) (fun k6_20 => ?_)
                · have hpos : 0 < i := by simpa using k6_20
                  obtain ⟨d, hd⟩ : ∃ d, es[i - 1]? = some d := ⟨_, List.getElem?_eq_getElem (by omega)⟩
                  obtain ⟨ad', h', hU', hV'⟩ := hr.pair hd
                  cases h'
                  have h1 := hok (i - 1) d (by omega) hd
                  have h1a := h1.lo
                  have h1b := h1.lt
                  have h1c := h1.hi
                  have h2a : 0 ≤ e.1 := by simpa using k6_3
                  have h2b : e.1 < e.2 := by simpa using k6_10
                  have h2c : e.2 < N := by simpa using k6_17
                  have h3 : N ≤ 1048576 := by simpa using k1_8
                  have hii : ((i : Int) - 1).toNat = i - 1 := by omega
                  refine Flow.pur rfl rfl rfl (p_field rfl rfl fi25_1 (by first | exact add_at0 _ _ | exact add_at _ _ _ | rfl)) ?_
                  refine Flow.valS rfl rfl rfl rfl (v_load rfl rfl ag23 (by first | exact has_blk rfl | exact has_old' (by assumption))) ?_
                  refine Flow.pur rfl rfl rfl (p_move rfl rfl) ?_
                  refine Flow.pur rfl rfl rfl (p_sub rfl rfl rfl (by omega)) ?_
                  refine Flow.pur rfl rfl rfl (p_index (ad' := ad.add ((i - 1) * 2)) rfl rfl rfl Try.underlying23 sz39 (by omega) (by omega) (by rw [hii])) ?_
                  refine Flow.valS rfl rfl rfl rfl (v_loads (vs := [_, _]) rfl rfl ag39 sz39 rfl (hass2 hU' hV' (by simp))) ?_
                  refine Flow.valS rfl rfl rfl rfl (v_loads (vs := [_, _]) rfl rfl ag39 sz39 rfl (hass_blk rfl)) ?_
                  -- calls tangram/simple.compare
                  refine Flow.rel0 rfl rfl rfl rfl (r_call en71 rfl rfl rfl (fun w hw => compare_calls d.1 d.2 e.1 e.2 w (by omega))) ?_
                  rintro _ rfl
                  refine Flow.pur rfl rfl rfl (p_geq rfl rfl rfl) ?_
                  refine Flow.pur rfl rfl rfl (p_pick_t rfl rfl rfl) ?_
                  refine Flow.pur rfl rfl rfl (p_pick_f rfl rfl rfl) ?_
                  refine Flow.end rfl ?_
                  simp only [List.map_cons, List.map_nil, List.nil_append, List.cons_append, List.append_nil]
                  refine Fin.then ?_
                  refine DC.cond rfl (fun c6 => ?_) (fun c6 => ?_)
                  · refine DC.seq ?_
                    refine DC.region ?_
                    refine Seq.pur rfl rfl (p_assign rfl rfl) ?_
                    refine Seq.nil ?_
                    refine Fin.then ?_
                    refine DC.ret ?_
                    refine Fin.ret_block <| Fin.ret_then <| Fin.ret_then <| Fin.ret_block <| Fin.ret_then <| ?_
                    refine Fin.weak (E' := [(2, _)]) ⟨rfl, trivial⟩ .nil ?_
                    refine Fin.end1 (.inl rfl) rfl rfl ?_
                    refine ⟨rfl, false, rfl, by simp; intro h; have := h.up (i - 1) d e hd (by rw [show i - 1 + 1 = i by omega]; exact he); unfold Lex at this; simp at c6; split at c6 <;> omega⟩
                  · refine DC.skip ?_
                    refine Fin.inBlock ?_
                    refine Fin.then ?_
                    refine DC.region ?_
                    refine Seq.pur rfl rfl (p_add rfl rfl rfl (by omega)) ?_
                    refine Seq.pur rfl rfl (p_move rfl rfl) ?_
                    refine Seq.nil ?_
                    refine Fin.again (i + 1) (by omega) ⟨by omega, ?_, ?_⟩ ⟨rfl, rfl, rfl, rfl, trivial⟩ (.cons 1 rfl .nil)
                    · intro j x hj hx
                      rcases Nat.lt_succ_iff_lt_or_eq.1 hj with hj | rfl
                      · exact hok j x hj hx
                      · rw [he] at hx; cases hx; exact ⟨h2a, h2b, h2c⟩
                    · intro j a b hj ha hb
                      rcases Nat.lt_succ_iff_lt_or_eq.1 hj with hj | hj
                      · exact hup j a b hj ha hb
                      · obtain rfl : j = i - 1 := by omega
                        rw [hd] at ha; cases ha
                        rw [show i - 1 + 1 = i by omega, he] at hb; cases hb
                        unfold Lex
                        simp at c6
                        split at c6 <;> omega
                · refine Flow.skip rfl rfl rfl ?_
                  refine Flow.skip rfl rfl rfl ?_
                  refine Flow.skip rfl rfl rfl ?_
                  refine Flow.skip rfl rfl rfl ?_
                  refine Flow.skip rfl rfl rfl ?_
                  refine Flow.skip rfl rfl rfl ?_
                  refine Flow.skip rfl rfl rfl ?_
                  refine Flow.skip rfl rfl rfl ?_
                  refine Flow.skip rfl rfl rfl ?_
                  refine Flow.pur rfl rfl rfl (p_pick_f rfl rfl rfl) ?_
                  refine Flow.pur rfl rfl rfl (p_pick_f rfl rfl rfl) ?_
                  refine Flow.end rfl ?_
                  simp only [List.map_cons, List.map_nil, List.nil_append, List.cons_append, List.append_nil]
                  refine Fin.then ?_
                  refine DC.cond_f rfl ?_
                  refine DC.skip ?_
                  refine Fin.inBlock ?_
                  refine Fin.then ?_
                  refine DC.region ?_
                  refine Seq.pur rfl rfl (p_add rfl rfl rfl (by omega)) ?_
                  refine Seq.pur rfl rfl (p_move rfl rfl) ?_
                  refine Seq.nil ?_
                  have h0 : i = 0 := by simp at k6_20; omega
                  subst h0
                  have h2a : 0 ≤ e.1 := by simpa using k6_3
                  have h2b : e.1 < e.2 := by simpa using k6_10
                  have h2c : e.2 < N := by simpa using k6_17
                  refine Fin.again 1 (by omega) ⟨by omega, ?_, ?_⟩ ⟨rfl, rfl, rfl, rfl, trivial⟩ (.cons 1 rfl .nil)
                  · intro j x hj hx
                    obtain rfl : j = 0 := by omega
                    rw [he] at hx; cases hx; exact ⟨h2a, h2b, h2c⟩
                  · intro j a b hj; omega
        · refine DC.exit ?_
          refine Fin.exit_then <| Fin.exit_then <| Fin.exit_here <| ?_
          refine Fin.then ?_
          refine DC.seq ?_
          refine DC.region ?_
          refine Seq.pur rfl rfl (p_assign rfl rfl) ?_
          refine Seq.nil ?_
          refine Fin.then ?_
          refine DC.ret ?_
          refine Fin.weak (E' := [(2, _)]) ⟨rfl, trivial⟩ .nil ?_
          refine Fin.end1 (.inl rfl) rfl rfl ?_
          have hie : i = es.length := by simp at c4; omega
          subst hie
          refine ⟨rfl, true, rfl, by simp; exact ⟨by simpa using k1_3, by simpa using k1_8, by simp at c1; omega, fun j e hj => hok j e (List.getElem?_eq_some_iff.1 hj).1 hj, fun j a b ha hb => hup j a b (List.getElem?_eq_some_iff.1 hb).1 ha hb⟩⟩
end Go.Fl
