/- tangramref04: Valid, From, To. -/
import Derived.Test.YtbkhejfnhbjhpaaFo1
import Derived.Test.YtbkhejfnhbjhpaaTypes
set_option linter.unusedVariables false
set_option linter.unusedSimpArgs false
set_option maxRecDepth 100000
namespace Go.Fl
open Go Go.Proofs

theorem rValid_calls {N : Int} {es : List Pr} {va : Value} {w : World} (hg : PrV w va es) :
    Calls Try.prog 16 #[.agg #[.int .i64 N, va]] w (Ret w [] fun v L => L = [] ∧ ∃ b, v = .bool b ∧ (b = true ↔ Vld N es)) := by
  obtain ⟨A, cap, rfl, hr, hlc, hcm, hl⟩ := hg
  refine calls_of (args := [_]) (L := []) Try.func16 rfl Try.ntmps16 rfl (Own.start _ _) ?_
  refine DC.seq ?_
  refine DC.region ?_
  refine Seq.new rfl rfl (n_box rfl rfl rfl) fun g1 => ?_
  refine Seq.pur rfl rfl (p_assign rfl rfl) ?_
  refine Seq.nil ?_
  refine Fin.then ?_
  refine DC.seq ?_
  refine DC.seq ?_
  refine DC.region ?_
  refine Seq.pur rfl rfl (p_field rfl rfl fi25_0 (by first | exact add_at0 _ _ | exact add_at _ _ _ | rfl)) ?_
  refine Seq.val rfl rfl (v_load rfl rfl ag3 (by first | exact has_blk rfl | exact has_old' (by assumption))) ?_
  refine Seq.pur rfl rfl (p_lss rfl rfl rfl) ?_
  refine Seq.pur rfl rfl (p_move rfl rfl) ?_
  refine Seq.split 9 rfl (fun k1_3 => ?_) (fun k1_3 => ?_)
  · refine Seq.skip rfl rfl ?_
    refine Seq.skip rfl rfl ?_
    refine Seq.skip rfl rfl ?_
    refine Seq.pur rfl rfl (p_pick_t rfl rfl rfl) ?_
    refine Seq.pur rfl rfl (p_move rfl rfl) ?_
    refine Seq.skip rfl rfl ?_
    refine Seq.skip rfl rfl ?_
    refine Seq.skip rfl rfl ?_
    refine Seq.skip rfl rfl ?_
    refine Seq.pur rfl rfl (p_pick_t rfl rfl rfl) ?_
    refine Seq.nil ?_
    refine Fin.then ?_
    refine DC.cond_t rfl ?_
    refine DC.seq ?_
    refine DC.region ?_
    refine Seq.pur rfl rfl (p_assign rfl rfl) ?_
    refine Seq.nil ?_
    refine Fin.then ?_
    refine DC.ret ?_
    refine Fin.ret_then <| ?_
    refine Fin.weak (E' := [(2, _)]) ⟨rfl, trivial⟩ .nil ?_
    refine Fin.end1 (.inl rfl) rfl rfl ?_
    exact ⟨rfl, false, rfl, by simp; intro h; have := h.lo; simp at k1_3; omega⟩
  · refine Seq.pur rfl rfl (p_field rfl rfl fi25_0 (by first | exact add_at0 _ _ | exact add_at _ _ _ | rfl)) ?_
    refine Seq.val rfl rfl (v_load rfl rfl ag3 (by first | exact has_blk rfl | exact has_old' (by assumption))) ?_
    refine Seq.pur rfl rfl (p_gtr rfl rfl rfl) ?_
    refine Seq.pur rfl rfl (p_pick_f rfl rfl rfl) ?_
    refine Seq.pur rfl rfl (p_move rfl rfl) ?_
    refine Seq.split 14 rfl (fun k1_8 => ?_) (fun k1_8 => ?_)
    · refine Seq.skip rfl rfl ?_
      refine Seq.skip rfl rfl ?_
      refine Seq.skip rfl rfl ?_
      refine Seq.skip rfl rfl ?_
      refine Seq.pur rfl rfl (p_pick_t rfl rfl rfl) ?_
      refine Seq.nil ?_
      refine Fin.then ?_
      refine DC.cond_t rfl ?_
      refine DC.seq ?_
      refine DC.region ?_
      refine Seq.pur rfl rfl (p_assign rfl rfl) ?_
      refine Seq.nil ?_
      refine Fin.then ?_
      refine DC.ret ?_
      refine Fin.ret_then <| ?_
      refine Fin.weak (E' := [(2, _)]) ⟨rfl, trivial⟩ .nil ?_
      refine Fin.end1 (.inl rfl) rfl rfl ?_
      exact ⟨rfl, false, rfl, by simp; intro h; have := h.hi; simp at k1_8; omega⟩
    · refine Seq.pur rfl rfl (p_field rfl rfl fi25_1 (by first | exact add_at0 _ _ | exact add_at _ _ _ | rfl)) ?_
      refine Seq.val rfl rfl (v_load rfl rfl ag23 (by first | exact has_blk rfl | exact has_old' (by assumption))) ?_
      refine Seq.pur rfl rfl (p_len rfl rfl Try.underlying23) ?_
      refine Seq.pur rfl rfl (p_gtr rfl rfl rfl) ?_
      refine Seq.pur rfl rfl (p_pick_f rfl rfl rfl) ?_
      refine Seq.nil ?_
      refine Fin.then ?_
      refine DC.cond rfl (fun c1 => ?_) (fun c1 => ?_)
      · refine DC.seq ?_
        refine DC.region ?_
        refine Seq.pur rfl rfl (p_assign rfl rfl) ?_
        refine Seq.nil ?_
        refine Fin.then ?_
        refine DC.ret ?_
        refine Fin.ret_then <| ?_
        refine Fin.weak (E' := [(2, _)]) ⟨rfl, trivial⟩ .nil ?_
        refine Fin.end1 (.inl rfl) rfl rfl ?_
        exact ⟨rfl, false, rfl, by simp; intro h; have := h.few; simp at c1; omega⟩
      · refine DC.skip ?_
        refine Fin.then ?_
        refine DC.seq ?_
        refine DC.seq ?_
        refine DC.region ?_
        refine Seq.pur rfl rfl (p_assign rfl rfl) ?_
        refine Seq.nil ?_
        refine Fin.then ?_
        refine DC.block ?_
        refine DC.loop (ι := Nat) (fun i => i ≤ es.length ∧ (∀ (j : Nat) e, j < i → es[j]? = some e → OkE N e) ∧ (∀ (j : Nat) a b, j + 1 < i → es[j]? = some a → es[j + 1]? = some b → Lex a b))
          (fun i => [(1, .pointer (some ⟨g1, 0, none⟩)), (3, .int .i64 i)])
          (fun i => [blk g1 25 #[.int .i64 N, .slice A es.length cap]]) (fun i => es.length - i) 0 ⟨Nat.zero_le _, fun _ _ h => absurd h (Nat.not_lt_zero _), fun _ _ _ h => absurd h (Nat.not_lt_zero _)⟩
          ⟨rfl, rfl, trivial⟩ (.cons 0 rfl .nil) ?_
        rintro i ⟨hi, hok, hup⟩
        refine DC.seq ?_
        refine DC.seq ?_
        refine DC.region ?_
        refine Seq.pur rfl rfl (p_move rfl rfl) ?_
        refine Seq.pur rfl rfl (p_field rfl rfl fi25_1 (by first | exact add_at0 _ _ | exact add_at _ _ _ | rfl)) ?_
        refine Seq.val rfl rfl (v_load rfl rfl ag23 (by first | exact has_blk rfl | exact has_old' (by assumption))) ?_
        refine Seq.pur rfl rfl (p_len rfl rfl Try.underlying23) ?_
        refine Seq.pur rfl rfl (p_lss rfl rfl rfl) ?_
        refine Seq.nil ?_
        refine Fin.then ?_
        refine DC.cond rfl (fun c4 => ?_) (fun c4 => ?_)
        · have hlt : i < es.length := by simpa using c4
          obtain ⟨e, he⟩ : ∃ e, es[i]? = some e := ⟨_, List.getElem?_eq_getElem hlt⟩
          obtain ⟨ad, rfl, hU, hV⟩ := hr.pair he
          refine DC.skip ?_
          refine Fin.then ?_
          refine DC.seq ?_
          refine DC.block ?_
          refine DC.seq ?_
          refine DC.region ?_
          refine Seq.pur rfl rfl (p_field rfl rfl fi25_1 (by first | exact add_at0 _ _ | exact add_at _ _ _ | rfl)) ?_
          refine Seq.val rfl rfl (v_load rfl rfl ag23 (by first | exact has_blk rfl | exact has_old' (by assumption))) ?_
          refine Seq.pur rfl rfl (p_move rfl rfl) ?_
          refine Seq.pur rfl rfl (p_index (ad' := ad.add (i * 2)) rfl rfl rfl Try.underlying23 sz39 (by omega) (by omega) rfl) ?_
          refine Seq.val rfl rfl (v_loads (vs := [_, _]) rfl rfl ag39 sz39 rfl (hass2 hU hV (by simp))) ?_
          refine Seq.new rfl rfl (n_alloc rfl ze39 rfl) fun g4 => ?_
          refine Seq.sto rfl rfl (s_stores (cs' := #[_, _]) rfl rfl rfl sz39 rfl (Nat.le_of_ble_eq_true rfl) rfl) ?_
          refine Seq.nil ?_
          refine Fin.then ?_
          refine DC.seq ?_
          refine DC.seq ?_
          refine DC.region ?_
          refine Seq.pur rfl rfl (p_field rfl rfl fi39_0 (by first | exact add_at0 _ _ | exact add_at _ _ _ | rfl)) ?_
          refine Seq.val rfl rfl (v_load rfl rfl ag3 (by first | exact has_blk rfl | exact has_old' (by assumption))) ?_
          refine Seq.pur rfl rfl (p_lss rfl rfl rfl) ?_
          refine Seq.pur rfl rfl (p_move rfl rfl) ?_
          refine Seq.split 35 rfl (fun k7_3 => ?_) (fun k7_3 => ?_)
          · refine Seq.skip rfl rfl ?_
            refine Seq.skip rfl rfl ?_
            refine Seq.skip rfl rfl ?_
            refine Seq.skip rfl rfl ?_
            refine Seq.skip rfl rfl ?_
            refine Seq.pur rfl rfl (p_pick_t rfl rfl rfl) ?_
            refine Seq.pur rfl rfl (p_move rfl rfl) ?_
            refine Seq.skip rfl rfl ?_
            refine Seq.skip rfl rfl ?_
            refine Seq.skip rfl rfl ?_
            refine Seq.skip rfl rfl ?_
            refine Seq.skip rfl rfl ?_
            refine Seq.pur rfl rfl (p_pick_t rfl rfl rfl) ?_
            refine Seq.nil ?_
            refine Fin.then ?_
            refine DC.cond_t rfl ?_
            refine DC.seq ?_
            refine DC.region ?_
            refine Seq.pur rfl rfl (p_assign rfl rfl) ?_
            refine Seq.nil ?_
            refine Fin.then ?_
            refine DC.ret ?_
            refine Fin.ret_then <| Fin.ret_block <| Fin.ret_then <| Fin.ret_then <| Fin.ret_block <| Fin.ret_then <| ?_
            refine Fin.weak (E' := [(2, _)]) ⟨rfl, trivial⟩ .nil ?_
            refine Fin.end1 (.inl rfl) rfl rfl ?_
            exact ⟨rfl, false, rfl, by simp; intro h; have := (h.ok i e he).lo; simp at k7_3; omega⟩
          · refine Seq.pur rfl rfl (p_field rfl rfl fi39_0 (by first | exact add_at0 _ _ | exact add_at _ _ _ | rfl)) ?_
            refine Seq.val rfl rfl (v_load rfl rfl ag3 (by first | exact has_blk rfl | exact has_old' (by assumption))) ?_
            refine Seq.pur rfl rfl (p_field rfl rfl fi39_1 (by first | exact add_at0 _ _ | exact add_at _ _ _ | rfl)) ?_
            refine Seq.val rfl rfl (v_load rfl rfl ag3 (by first | exact has_blk rfl | exact has_old' (by assumption))) ?_
            refine Seq.pur rfl rfl (p_geq rfl rfl rfl) ?_
            refine Seq.pur rfl rfl (p_pick_f rfl rfl rfl) ?_
            refine Seq.pur rfl rfl (p_move rfl rfl) ?_
            refine Seq.split 42 rfl (fun k7_10 => ?_) (fun k7_10 => ?_)
            · refine Seq.skip rfl rfl ?_
              refine Seq.skip rfl rfl ?_
              refine Seq.skip rfl rfl ?_
              refine Seq.skip rfl rfl ?_
              refine Seq.skip rfl rfl ?_
              refine Seq.pur rfl rfl (p_pick_t rfl rfl rfl) ?_
              refine Seq.nil ?_
              refine Fin.then ?_
              refine DC.cond_t rfl ?_
              refine DC.seq ?_
              refine DC.region ?_
              refine Seq.pur rfl rfl (p_assign rfl rfl) ?_
              refine Seq.nil ?_
              refine Fin.then ?_
              refine DC.ret ?_
              refine Fin.ret_then <| Fin.ret_block <| Fin.ret_then <| Fin.ret_then <| Fin.ret_block <| Fin.ret_then <| ?_
              refine Fin.weak (E' := [(2, _)]) ⟨rfl, trivial⟩ .nil ?_
              refine Fin.end1 (.inl rfl) rfl rfl ?_
              exact ⟨rfl, false, rfl, by simp; intro h; have := (h.ok i e he).lt; simp at k7_10; omega⟩
            · refine Seq.pur rfl rfl (p_field rfl rfl fi39_1 (by first | exact add_at0 _ _ | exact add_at _ _ _ | rfl)) ?_
              refine Seq.val rfl rfl (v_load rfl rfl ag3 (by first | exact has_blk rfl | exact has_old' (by assumption))) ?_
              refine Seq.pur rfl rfl (p_field rfl rfl fi25_0 (by first | exact add_at0 _ _ | exact add_at _ _ _ | rfl)) ?_
              refine Seq.val rfl rfl (v_load rfl rfl ag3 (by first | exact has_blk rfl | exact has_old' (by assumption))) ?_
              refine Seq.pur rfl rfl (p_geq rfl rfl rfl) ?_
              refine Seq.pur rfl rfl (p_pick_f rfl rfl rfl) ?_
              refine Seq.nil ?_
              refine Fin.then ?_
              refine DC.cond rfl (fun c7 => ?_) (fun c7 => ?_)
              · refine DC.seq ?_
                refine DC.region ?_
                refine Seq.pur rfl rfl (p_assign rfl rfl) ?_
                refine Seq.nil ?_
                refine Fin.then ?_
                refine DC.ret ?_
                refine Fin.ret_then <| Fin.ret_block <| Fin.ret_then <| Fin.ret_then <| Fin.ret_block <| Fin.ret_then <| ?_
                refine Fin.weak (E' := [(2, _)]) ⟨rfl, trivial⟩ .nil ?_
                refine Fin.end1 (.inl rfl) rfl rfl ?_
                exact ⟨rfl, false, rfl, by simp; intro h; have := (h.ok i e he).hi; simp at c7; omega⟩
              · refine DC.skip ?_
                refine Fin.then ?_
                refine DC.seq ?_
                refine DC.region ?_
                refine Seq.pur rfl rfl (p_move rfl rfl) ?_
                refine Seq.pur rfl rfl (p_gtr rfl rfl rfl) ?_
                refine Seq.nil ?_
                refine Fin.then ?_
                refine DC.cond rfl (fun c9 => ?_) (fun c9 => ?_)
                · have hpos : 0 < i := by simpa using c9
                  obtain ⟨d, hd⟩ : ∃ d, es[i - 1]? = some d := ⟨_, List.getElem?_eq_getElem (by omega)⟩
                  obtain ⟨ad', h', hU', hV'⟩ := hr.pair hd
                  cases h'
                  have h1 := hok (i - 1) d (by omega) hd
                  have h1a := h1.lo
                  have h1b := h1.lt
                  have h1c := h1.hi
                  have h2a : 0 ≤ e.1 := by simpa using k7_3
                  have h2b : e.1 < e.2 := by simpa using k7_10
                  have h2c : e.2 < N := by simpa using c7
                  have h3 : N ≤ 1048576 := by simpa using k1_8
                  have hii : ((i : Int) - 1).toNat = i - 1 := by omega
                  have fin : Lex d e → (∀ (j : Nat) x, j < i + 1 → es[j]? = some x → OkE N x) ∧ (∀ (j : Nat) a b, j + 1 < i + 1 → es[j]? = some a → es[j + 1]? = some b → Lex a b) := by
                    intro hlex
                    constructor
                    · intro j x hj hx
                      rcases Nat.lt_succ_iff_lt_or_eq.1 hj with hj | rfl
                      · exact hok j x hj hx
                      · rw [he] at hx; cases hx; exact ⟨h2a, h2b, h2c⟩
                    · intro j a b hj ha hb
                      rcases Nat.lt_succ_iff_lt_or_eq.1 hj with hj | hj
                      · exact hup j a b hj ha hb
                      · obtain rfl : j = i - 1 := by omega
                        rw [hd] at ha; cases ha
                        rw [show i - 1 + 1 = i by omega, he] at hb; cases hb
                        exact hlex
                  have bad : ¬ Lex d e → ¬ Vld N es := fun hn h => hn (h.up (i - 1) d e hd (by rw [show i - 1 + 1 = i by omega]; exact he))
                  refine DC.seq ?_
                  refine DC.region ?_
                  refine Seq.pur rfl rfl (p_field rfl rfl fi25_1 (by first | exact add_at0 _ _ | exact add_at _ _ _ | rfl)) ?_
                  refine Seq.val rfl rfl (v_load rfl rfl ag23 (by first | exact has_blk rfl | exact has_old' (by assumption))) ?_
                  refine Seq.pur rfl rfl (p_move rfl rfl) ?_
                  refine Seq.pur rfl rfl (p_sub rfl rfl rfl (by omega)) ?_
                  refine Seq.pur rfl rfl (p_index (ad' := ad.add ((i - 1) * 2)) rfl rfl rfl Try.underlying23 sz39 (by omega) (by omega) (by rw [hii])) ?_
                  refine Seq.val rfl rfl (v_loads (vs := [_, _]) rfl rfl ag39 sz39 rfl (hass2 hU' hV' (by simp))) ?_
                  refine Seq.new rfl rfl (n_alloc rfl ze39 rfl) fun g5 => ?_
                  refine Seq.sto rfl rfl (s_stores (cs' := #[_, _]) rfl rfl rfl sz39 rfl (Nat.le_of_ble_eq_true rfl) rfl) ?_
                  refine Seq.nil ?_
                  refine Fin.then ?_
                  refine DC.seq ?_
                  refine DC.region ?_
                  refine Seq.pur rfl rfl (p_field rfl rfl fi39_0 (by first | exact add_at0 _ _ | exact add_at _ _ _ | rfl)) ?_
                  refine Seq.val rfl rfl (v_load rfl rfl ag3 (by first | exact has_blk rfl | exact has_old' (by assumption))) ?_
                  refine Seq.pur rfl rfl (p_field rfl rfl fi39_0 (by first | exact add_at0 _ _ | exact add_at _ _ _ | rfl)) ?_
                  refine Seq.val rfl rfl (v_load rfl rfl ag3 (by first | exact has_blk rfl | exact has_old' (by assumption))) ?_
                  refine Seq.pur rfl rfl (p_gtr rfl rfl rfl) ?_
                  refine Seq.pur rfl rfl (p_move rfl rfl) ?_
                  refine Seq.split 62 rfl (fun k11_5 => ?_) (fun k11_5 => ?_)
                  · refine Seq.skip rfl rfl ?_
                    refine Seq.skip rfl rfl ?_
                    refine Seq.skip rfl rfl ?_
                    refine Seq.skip rfl rfl ?_
                    refine Seq.skip rfl rfl ?_
                    refine Seq.skip rfl rfl ?_
                    refine Seq.skip rfl rfl ?_
                    refine Seq.skip rfl rfl ?_
                    refine Seq.skip rfl rfl ?_
                    refine Seq.skip rfl rfl ?_
                    refine Seq.skip rfl rfl ?_
                    refine Seq.skip rfl rfl ?_
                    refine Seq.pur rfl rfl (p_pick_t rfl rfl rfl) ?_
                    refine Seq.nil ?_
                    refine Fin.then ?_
                    refine DC.cond_t rfl ?_
                    refine DC.seq ?_
                    refine DC.region ?_
                    refine Seq.pur rfl rfl (p_assign rfl rfl) ?_
                    refine Seq.nil ?_
                    refine Fin.then ?_
                    refine DC.ret ?_
                    refine Fin.ret_block <| Fin.ret_then <| Fin.ret_then <| Fin.ret_block <| Fin.ret_then <| ?_
                    refine Fin.weak (E' := [(2, _)]) ⟨rfl, trivial⟩ .nil ?_
                    refine Fin.end1 (.inl rfl) rfl rfl ?_
                    refine ⟨rfl, false, rfl, by simp; exact bad (by unfold Lex; simp at k11_5; omega)⟩
                  · refine Seq.pur rfl rfl (p_field rfl rfl fi39_0 (by first | exact add_at0 _ _ | exact add_at _ _ _ | rfl)) ?_
                    refine Seq.val rfl rfl (v_load rfl rfl ag3 (by first | exact has_blk rfl | exact has_old' (by assumption))) ?_
                    refine Seq.pur rfl rfl (p_field rfl rfl fi39_0 (by first | exact add_at0 _ _ | exact add_at _ _ _ | rfl)) ?_
                    refine Seq.val rfl rfl (v_load rfl rfl ag3 (by first | exact has_blk rfl | exact has_old' (by assumption))) ?_
                    refine Seq.pur rfl rfl (p_eql rfl rfl rfl) ?_
                    refine Seq.pur rfl rfl (p_move rfl rfl) ?_
                    refine Seq.split 68 rfl (fun k11_11 => ?_) (fun k11_11 => ?_)
                    · refine Seq.pur rfl rfl (p_field rfl rfl fi39_1 (by first | exact add_at0 _ _ | exact add_at _ _ _ | rfl)) ?_
                      refine Seq.val rfl rfl (v_load rfl rfl ag3 (by first | exact has_blk rfl | exact has_old' (by assumption))) ?_
                      refine Seq.pur rfl rfl (p_field rfl rfl fi39_1 (by first | exact add_at0 _ _ | exact add_at _ _ _ | rfl)) ?_
                      refine Seq.val rfl rfl (v_load rfl rfl ag3 (by first | exact has_blk rfl | exact has_old' (by assumption))) ?_
                      refine Seq.pur rfl rfl (p_geq rfl rfl rfl) ?_
                      refine Seq.pur rfl rfl (p_pick_t rfl rfl rfl) ?_
                      refine Seq.pur rfl rfl (p_pick_f rfl rfl rfl) ?_
                      refine Seq.nil ?_
                      refine Fin.then ?_
                      refine DC.cond rfl (fun c11 => ?_) (fun c11 => ?_)
                      · refine DC.seq ?_
                        refine DC.region ?_
                        refine Seq.pur rfl rfl (p_assign rfl rfl) ?_
                        refine Seq.nil ?_
                        refine Fin.then ?_
                        refine DC.ret ?_
                        refine Fin.ret_block <| Fin.ret_then <| Fin.ret_then <| Fin.ret_block <| Fin.ret_then <| ?_
                        refine Fin.weak (E' := [(2, _)]) ⟨rfl, trivial⟩ .nil ?_
                        refine Fin.end1 (.inl rfl) rfl rfl ?_
                        refine ⟨rfl, false, rfl, by simp; exact bad (by unfold Lex; simp at k11_5 k11_11 c11; omega)⟩
                      · refine DC.skip ?_
                        refine Fin.inBlock ?_
                        refine Fin.then ?_
                        refine DC.region ?_
                        refine Seq.pur rfl rfl (p_move rfl rfl) ?_
                        refine Seq.pur rfl rfl (p_add rfl rfl rfl (by omega)) ?_
                        refine Seq.pur rfl rfl (p_assign rfl rfl) ?_
                        refine Seq.nil ?_
                        obtain ⟨f1, f2⟩ := fin (by unfold Lex; simp at k11_5 k11_11 c11; omega)
                        refine Fin.again (i + 1) (by omega) ⟨by omega, f1, f2⟩ ⟨rfl, rfl, trivial⟩ (.cons 2 rfl .nil)
                    · refine Seq.skip rfl rfl ?_
                      refine Seq.skip rfl rfl ?_
                      refine Seq.skip rfl rfl ?_
                      refine Seq.skip rfl rfl ?_
                      refine Seq.skip rfl rfl ?_
                      refine Seq.pur rfl rfl (p_pick_f rfl rfl rfl) ?_
                      refine Seq.pur rfl rfl (p_pick_f rfl rfl rfl) ?_
                      refine Seq.nil ?_
                      refine Fin.then ?_
                      refine DC.cond_f rfl ?_
                      refine DC.skip ?_
                      refine Fin.inBlock ?_
                      refine Fin.then ?_
                      refine DC.region ?_
                      refine Seq.pur rfl rfl (p_move rfl rfl) ?_
                      refine Seq.pur rfl rfl (p_add rfl rfl rfl (by omega)) ?_
                      refine Seq.pur rfl rfl (p_assign rfl rfl) ?_
                      refine Seq.nil ?_
                      obtain ⟨f1, f2⟩ := fin (by unfold Lex; simp at k11_5 k11_11; omega)
                      refine Fin.again (i + 1) (by omega) ⟨by omega, f1, f2⟩ ⟨rfl, rfl, trivial⟩ (.cons 2 rfl .nil)
                · refine DC.skip ?_
                  refine Fin.inBlock ?_
                  refine Fin.then ?_
                  refine DC.region ?_
                  refine Seq.pur rfl rfl (p_move rfl rfl) ?_
                  refine Seq.pur rfl rfl (p_add rfl rfl rfl (by omega)) ?_
                  refine Seq.pur rfl rfl (p_assign rfl rfl) ?_
                  refine Seq.nil ?_
                  have h0 : i = 0 := by simp at c9; omega
                  subst h0
                  have h2a : 0 ≤ e.1 := by simpa using k7_3
                  have h2b : e.1 < e.2 := by simpa using k7_10
                  have h2c : e.2 < N := by simpa using c7
                  refine Fin.again 1 (by omega) ⟨by omega, ?_, ?_⟩ ⟨rfl, rfl, trivial⟩ (.cons 1 rfl .nil)
                  · intro j x hj hx
                    obtain rfl : j = 0 := by omega
                    rw [he] at hx; cases hx; exact ⟨h2a, h2b, h2c⟩
                  · intro j a b hj; omega
        · refine DC.exit ?_
          refine Fin.exit_then <| Fin.exit_then <| Fin.exit_here <| ?_
          refine Fin.then ?_
          refine DC.seq ?_
          refine DC.region ?_
          refine Seq.pur rfl rfl (p_assign rfl rfl) ?_
          refine Seq.nil ?_
          refine Fin.then ?_
          refine DC.ret ?_
          refine Fin.weak (E' := [(2, _)]) ⟨rfl, trivial⟩ .nil ?_
          refine Fin.end1 (.inl rfl) rfl rfl ?_
          have hie : i = es.length := by simp at c4; omega
          subst hie
          refine ⟨rfl, true, rfl, by simp; exact ⟨by simpa using k1_3, by simpa using k1_8, by simp at c1; omega, fun j e hj => hok j e (List.getElem?_eq_some_iff.1 hj).1 hj, fun j a b ha hb => hup j a b (List.getElem?_eq_some_iff.1 hb).1 ha hb⟩⟩

theorem rFrom_calls {N h : Int} {es : List Pr} {va : Value} {w : World} (hg : PrV w va es) (h0 : 0 ≤ h) (h1 : h < es.length * 2) :
    Calls Try.prog 51 #[.agg #[.int .i64 N, va], .int .i64 h] w (Ret w [] fun v L => L = [] ∧ v = .int .i64 (fromV es h)) := by
  obtain ⟨A, cap, rfl, hr, hlc, hcm, hl⟩ := hg
  obtain ⟨hn, rfl⟩ := Int.eq_ofNat_of_zero_le h0
  obtain ⟨e, he, hf⟩ := frs_at (es := es) (h := hn) (by omega)
  have hfv : fromV es hn = if hn % 2 = 0 then e.1 else e.2 := by unfold fromV; rw [if_pos h0, Int.toNat_natCast, hf]; rfl
  obtain ⟨ad, rfl, hU, hV⟩ := hr.pair he
  have hd : ((hn : Int) / 2).toNat = hn / 2 := by omega
  refine calls_of (args := [_, _]) (L := []) Try.func51 rfl Try.ntmps51 rfl (Own.start _ _) ?_
  refine DC.seq ?_
  refine DC.region ?_
  refine Seq.new rfl rfl (n_box rfl rfl rfl) fun g2 => ?_
  refine Seq.pur rfl rfl (p_assign rfl rfl) ?_
  refine Seq.nil ?_
  refine Fin.then ?_
  refine DC.seq ?_
  refine DC.seq ?_
  refine DC.region ?_
  refine Seq.pur rfl rfl (p_move rfl rfl) ?_
  refine Seq.pur rfl rfl (p_rem rfl rfl rfl (by omega) (by omega)) ?_
  refine Seq.pur rfl rfl (p_eql rfl rfl rfl) ?_
  refine Seq.nil ?_
  refine Fin.then ?_
  refine DC.cond rfl (fun c1 => ?_) (fun c1 => ?_)
  · refine DC.seq ?_
    refine DC.region ?_
    refine Seq.pur rfl rfl (p_field rfl rfl fi25_1 (by first | exact add_at0 _ _ | exact add_at _ _ _ | rfl)) ?_
    refine Seq.val rfl rfl (v_load rfl rfl ag23 (by first | exact has_blk rfl | exact has_old' (by assumption))) ?_
    refine Seq.pur rfl rfl (p_move rfl rfl) ?_
    refine Seq.pur rfl rfl (p_quo rfl rfl rfl (by omega) (by omega)) ?_
    refine Seq.pur rfl rfl (p_index (ad' := ad.add (hn / 2 * 2)) rfl rfl rfl Try.underlying23 sz39 (by omega) (by omega) (by rw [hd])) ?_
    refine Seq.pur rfl rfl (p_field (ad' := ad.add (hn / 2 * 2)) rfl rfl fi39_0 (by simp [Addr.add])) ?_
    refine Seq.val rfl rfl (v_load rfl rfl ag3 (has_old' hU)) ?_
    refine Seq.pur rfl rfl (p_assign rfl rfl) ?_
    refine Seq.nil ?_
    refine Fin.then ?_
    refine DC.ret ?_
    refine Fin.ret_then <| ?_
    refine Fin.weak (E' := [(4, _)]) ⟨rfl, trivial⟩ .nil ?_
    refine Fin.end1 (.inl rfl) rfl rfl ?_
    have : hn % 2 = 0 := by simp at c1; omega
    exact ⟨rfl, by rw [hfv, if_pos this]⟩
  · refine DC.skip ?_
    refine Fin.then ?_
    refine DC.seq ?_
    refine DC.region ?_
    refine Seq.pur rfl rfl (p_field rfl rfl fi25_1 (by first | exact add_at0 _ _ | exact add_at _ _ _ | rfl)) ?_
    refine Seq.val rfl rfl (v_load rfl rfl ag23 (by first | exact has_blk rfl | exact has_old' (by assumption))) ?_
    refine Seq.pur rfl rfl (p_move rfl rfl) ?_
    refine Seq.pur rfl rfl (p_quo rfl rfl rfl (by omega) (by omega)) ?_
    refine Seq.pur rfl rfl (p_index (ad' := ad.add (hn / 2 * 2)) rfl rfl rfl Try.underlying23 sz39 (by omega) (by omega) (by rw [hd])) ?_
    refine Seq.pur rfl rfl (p_field (ad' := ad.add (hn / 2 * 2 + 1)) rfl rfl fi39_1 (add_add _ _ _ (by decide))) ?_
    refine Seq.val rfl rfl (v_load rfl rfl ag3 (has_old' hV)) ?_
    refine Seq.pur rfl rfl (p_assign rfl rfl) ?_
    refine Seq.nil ?_
    refine Fin.then ?_
    refine DC.ret ?_
    refine Fin.weak (E' := [(4, _)]) ⟨rfl, trivial⟩ .nil ?_
    refine Fin.end1 (.inl rfl) rfl rfl ?_
    have : ¬ hn % 2 = 0 := by simp at c1; omega
    exact ⟨rfl, by rw [hfv, if_neg this]⟩
theorem rTo_calls {N h : Int} {es : List Pr} {va : Value} {w : World} (hg : PrV w va es) (h0 : 0 ≤ h) (h1 : h < es.length * 2) :
    Calls Try.prog 29 #[.agg #[.int .i64 N, va], .int .i64 h] w (Ret w [] fun v L => L = [] ∧ v = .int .i64 (toV es h)) := by
  have hf := hg.few
  have ht := tw_range h0 h1
  refine calls_of (args := [_, _]) (L := []) Try.func29 rfl Try.ntmps29 rfl (Own.start _ _) ?_
  refine DC.seq ?_
  refine DC.region ?_
  refine Seq.new rfl rfl (n_box rfl rfl rfl) fun g2 => ?_
  refine Seq.pur rfl rfl (p_assign rfl rfl) ?_
  refine Seq.nil ?_
  refine Fin.then ?_
  refine DC.seq ?_
  refine DC.region ?_
  refine Seq.val rfl rfl (v_loads (vs := [_, _]) rfl rfl ag25 sz25 rfl (hass_blk rfl)) ?_
  refine Seq.pur rfl rfl (p_move rfl rfl) ?_
  refine Seq.pur rfl rfl (p_xor1 rfl rfl rfl (by omega)) ?_
  -- calls tangram/tangramref04.From
  refine Seq.rel0 rfl rfl (r_call en51 rfl rfl rfl (fun w' hw => rFrom_calls (h := tw h) (hg.keep0 hw) ht.1 ht.2)) ?_
  rintro _ rfl
  refine Seq.pur rfl rfl (p_assign rfl rfl) ?_
  refine Seq.nil ?_
  refine Fin.then ?_
  refine DC.ret ?_
  refine Fin.weak (E' := [(4, _)]) ⟨rfl, trivial⟩ .nil ?_
  refine Fin.end1 (.inl rfl) rfl rfl ?_
  exact ⟨rfl, by unfold toV; rw [if_pos h0]⟩
end Go.Fl
