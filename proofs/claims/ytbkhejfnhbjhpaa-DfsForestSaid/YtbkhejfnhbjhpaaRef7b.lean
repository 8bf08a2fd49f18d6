/- tangramref07: leads, ordered, Valid. -/
import Derived.Test.YtbkhejfnhbjhpaaRef7a
set_option linter.unusedVariables false
set_option linter.unusedSimpArgs false
set_option maxRecDepth 100000
namespace Go.Fl
open Go Go.Proofs

theorem rleadF_cons (es : List Pr) (pa he : List Int) (N : Nat) (h : Int) (r : List Int) : rleadF es pa he N (h :: r) = if getI pa (toV es h) = h then rleadF es pa he N r else
    if getI he (fromV es h) ≤ getI he (toV es h) then false else
    if aboveF es pa (N + 1) (toV es h) (fromV es h) = true then rleadF es pa he N r else false := rfl
theorem sideF_cons (e h : Int) (r : List Int) : sideF e (h :: r) = if h ≠ 2 * e ∧ h ≠ 2 * e + 1 then false else sideF (e + 1) r := rfl
theorem sideF_mem : ∀ {oi : List Int} {e : Int}, sideF e oi = true → ∀ (j : Nat) h, oi[j]? = some h → h = 2 * (e + j) ∨ h = 2 * (e + j) + 1
  | [], e, hs, j, h, hj => by simp at hj
  | x :: r, e, hs, j, h, hj => by
    rw [sideF_cons] at hs
    split at hs
    · cases hs
    · match j, hj with
      | 0, hj => simp at hj; subst hj; omega
      | j + 1, hj =>
        simp at hj
        have := sideF_mem hs j h hj
        omega
section
variable {w : World} {N : Nat} {es : List Pr} {va v0 v1 v2 v3 : Value} {pa he od oi : List Int}
theorem rleads_calls (hA : FA w N es va v0 v1 v2 v3 pa he od oi) (hH : Hangs es pa he oi N) (hR : Rooted pa he N) :
    Calls Try.prog 63 #[.agg #[.int .i64 N, va], .agg #[v0, v1, v2, v3]] w (Ret w [] fun x L => L = [] ∧ x = .bool (sideF 0 oi && rleadF es pa he N oi)) := by
  have hV := hA.vld
  have hfew := hV.few
  have hN1 := hV.hi
  have l0 := hA.l0
  have l1 := hA.l1
  have l3 := hA.l3
  have hgg := hA.g
  have hoo := hA.o
  obtain ⟨A, cap, rfl, hr, hlc, hcm, hl⟩ := hgg
  obtain ⟨A3, c3', rfl, r3, x3, y3, z3⟩ := hoo
  refine calls_of (args := [_, _]) (L := []) Try.func63 rfl Try.ntmps63 rfl (Own.start _ _) ?_
  refine DC.seq ?_
  refine DC.region ?_
  refine Seq.new rfl rfl (n_box rfl rfl rfl) fun g2 => ?_
  refine Seq.new rfl rfl (n_box rfl rfl rfl) fun g3 => ?_
  refine Seq.pur rfl rfl (p_assign rfl rfl) ?_
  refine Seq.nil ?_
  refine Fin.then ?_
  refine DC.seq ?_
  refine DC.seq ?_
  refine DC.region ?_
  refine Seq.pur rfl rfl (p_assign rfl rfl) ?_
  refine Seq.nil ?_
  refine Fin.then ?_
  refine DC.block ?_
  refine DC.loop (ι := Nat) (fun e => e ≤ oi.length ∧ sideF e (oi.drop e) = sideF 0 oi)
    (fun e => [(2, .pointer (some ⟨g2, 0, none⟩)), (3, .pointer (some ⟨g3, 0, none⟩)), (5, .int .i64 e)])
    (fun e => [blk g3 55 #[v0, v1, v2, .slice A3 oi.length c3'], blk g2 25 #[.int .i64 N, .slice A es.length cap]]) (fun e => oi.length - e) 0 ⟨Nat.zero_le _, rfl⟩ ⟨rfl, rfl, rfl, trivial⟩ (Pick.all _) ?_
  rintro e ⟨hi, hL⟩
  refine DC.seq ?_
  refine DC.seq ?_
  refine DC.region ?_
  refine Seq.pur rfl rfl (p_move rfl rfl) ?_
  refine Seq.pur rfl rfl (p_field rfl rfl fi25_1 (by first | exact add_at0 _ _ | exact add_at _ _ _ | rfl)) ?_
  refine Seq.val rfl rfl (v_load rfl rfl ag23 (by first | exact has_blk rfl | exact has_old' (by assumption))) ?_
  refine Seq.pur rfl rfl (p_len rfl rfl Try.underlying23) ?_
  refine Seq.pur rfl rfl (p_lss rfl rfl rfl) ?_
  refine Seq.nil ?_
  refine Fin.then ?_
  refine DC.cond rfl (fun c2 => ?_) (fun c2 => ?_)
  · have hlt : e < oi.length := by simp at c2; omega
    obtain ⟨h, hh⟩ : ∃ h, oi[e]? = some h := ⟨_, List.getElem?_eq_getElem hlt⟩
    have hdrop : oi.drop e = h :: oi.drop (e + 1) := by rw [List.drop_eq_getElem_cons hlt, (List.getElem?_eq_some_iff.1 hh).2]
    rw [hdrop, sideF_cons] at hL
    obtain ⟨a3, rfl, x3'⟩ := r3.int hh
    refine DC.skip ?_
    refine Fin.then ?_
    refine DC.seq ?_
    refine DC.block ?_
    refine DC.seq ?_
    refine DC.region ?_
    refine Seq.pur rfl rfl (p_field rfl rfl fi55_3 (by first | exact add_at0 _ _ | exact add_at _ _ _ | rfl)) ?_
    refine Seq.val rfl rfl (v_load rfl rfl ag34 (by first | exact has_blk rfl | exact has_old' (by assumption))) ?_
    refine Seq.pur rfl rfl (p_move rfl rfl) ?_
    refine Seq.pur rfl rfl (p_index1 (ad' := a3.add e) rfl rfl rfl Try.underlying34 sz3 (by omega) (by omega) rfl) ?_
    refine Seq.val rfl rfl (v_load rfl rfl ag3 (has_old' x3')) ?_
    refine Seq.pur rfl rfl (p_assign rfl rfl) ?_
    refine Seq.nil ?_
    refine Fin.then ?_
    refine DC.seq ?_
    refine DC.region ?_
    refine Seq.pur rfl rfl (p_move rfl rfl) ?_
    refine Seq.pur rfl rfl (p_move rfl rfl) ?_
    refine Seq.pur rfl rfl (p_mul rfl rfl rfl (by omega)) ?_
    refine Seq.pur rfl rfl (p_neq rfl rfl rfl) ?_
    refine Seq.pur rfl rfl (p_move rfl rfl) ?_
    refine Seq.split 28 rfl (fun k5_4 => ?_) (fun k5_4 => ?_)
    · refine Seq.pur rfl rfl (p_move rfl rfl) ?_
      refine Seq.pur rfl rfl (p_move rfl rfl) ?_
      refine Seq.pur rfl rfl (p_mul rfl rfl rfl (by omega)) ?_
      refine Seq.pur rfl rfl (p_add rfl rfl rfl (by omega)) ?_
      refine Seq.pur rfl rfl (p_neq rfl rfl rfl) ?_
      refine Seq.pur rfl rfl (p_pick_t rfl rfl rfl) ?_
      refine Seq.nil ?_
      refine Fin.then ?_
      refine DC.cond rfl (fun c5 => ?_) (fun c5 => ?_)
      · refine DC.seq ?_
        refine DC.region ?_
        refine Seq.pur rfl rfl (p_assign rfl rfl) ?_
        refine Seq.nil ?_
        refine Fin.then ?_
        refine DC.ret ?_
        refine Fin.ret_block <| Fin.ret_then <| Fin.ret_then <| Fin.ret_block <| Fin.ret_then <| ?_
        refine Fin.weak (E' := [(4, _)]) ⟨rfl, trivial⟩ .nil ?_
        refine Fin.end1 (.inl rfl) rfl rfl ?_
        rw [if_pos (by simp at k5_4 c5; omega)] at hL
        exact ⟨rfl, by rw [← hL]; rfl⟩
      · refine DC.skip ?_
        refine Fin.inBlock ?_
        refine Fin.then ?_
        refine DC.region ?_
        refine Seq.pur rfl rfl (p_move rfl rfl) ?_
        refine Seq.pur rfl rfl (p_add rfl rfl rfl (by omega)) ?_
        refine Seq.pur rfl rfl (p_assign rfl rfl) ?_
        refine Seq.nil ?_
        rw [if_neg (by simp at k5_4 c5; omega)] at hL
        refine Fin.again (e + 1) (by omega) ⟨by omega, hL⟩ ⟨rfl, rfl, rfl, trivial⟩ (Pick.all _)
    · refine Seq.skip rfl rfl ?_
      refine Seq.skip rfl rfl ?_
      refine Seq.skip rfl rfl ?_
      refine Seq.skip rfl rfl ?_
      refine Seq.skip rfl rfl ?_
      refine Seq.pur rfl rfl (p_pick_f rfl rfl rfl) ?_
      refine Seq.nil ?_
      refine Fin.then ?_
      refine DC.cond_f rfl ?_
      refine DC.skip ?_
      refine Fin.inBlock ?_
      refine Fin.then ?_
      refine DC.region ?_
      refine Seq.pur rfl rfl (p_move rfl rfl) ?_
      refine Seq.pur rfl rfl (p_add rfl rfl rfl (by omega)) ?_
      refine Seq.pur rfl rfl (p_assign rfl rfl) ?_
      refine Seq.nil ?_
      rw [if_neg (by simp at k5_4; omega)] at hL
      refine Fin.again (e + 1) (by omega) ⟨by omega, hL⟩ ⟨rfl, rfl, rfl, trivial⟩ (Pick.all _)
  · have hie : e = oi.length := by simp at c2; omega
    have hside : sideF 0 oi = true := by rw [← hL, hie, List.drop_length]; rfl
    have hmem := sideF_mem hside
    rw [hside, Bool.true_and]
    clear hL hie c2 hi
    refine DC.exit ?_
    refine Fin.exit_then <| Fin.exit_then <| Fin.exit_here <| ?_
    refine Fin.then ?_
    refine DC.seq ?_
    refine DC.seq ?_
    refine DC.region ?_
    refine Seq.pur rfl rfl (p_assign rfl rfl) ?_
    refine Seq.nil ?_
    refine Fin.then ?_
    refine DC.block ?_
    refine DC.loop (ι := Nat) (fun e => e ≤ oi.length ∧ rleadF es pa he N (oi.drop e) = rleadF es pa he N oi)
      (fun e => [(2, .pointer (some ⟨g2, 0, none⟩)), (3, .pointer (some ⟨g3, 0, none⟩)), (7, .int .i64 e)])
      (fun e => [blk g3 55 #[v0, v1, v2, .slice A3 oi.length c3'], blk g2 25 #[.int .i64 N, .slice A es.length cap]]) (fun e => oi.length - e) 0 ⟨Nat.zero_le _, rfl⟩ ⟨rfl, rfl, rfl, trivial⟩ (Pick.all _) ?_
    rintro e ⟨hi, hL⟩
    refine DC.seq ?_
    refine DC.seq ?_
    refine DC.region ?_
    refine Seq.pur rfl rfl (p_move rfl rfl) ?_
    refine Seq.pur rfl rfl (p_field rfl rfl fi25_1 (by first | exact add_at0 _ _ | exact add_at _ _ _ | rfl)) ?_
    refine Seq.val rfl rfl (v_load rfl rfl ag23 (by first | exact has_blk rfl | exact has_old' (by assumption))) ?_
    refine Seq.pur rfl rfl (p_len rfl rfl Try.underlying23) ?_
    refine Seq.pur rfl rfl (p_lss rfl rfl rfl) ?_
    refine Seq.nil ?_
    refine Fin.then ?_
    refine DC.cond rfl (fun c8 => ?_) (fun c8 => ?_)
    · have hlt : e < oi.length := by simp at c8; omega
      obtain ⟨h, hh⟩ : ∃ h, oi[e]? = some h := ⟨_, List.getElem?_eq_getElem hlt⟩
      have hdrop : oi.drop e = h :: oi.drop (e + 1) := by rw [List.drop_eq_getElem_cons hlt, (List.getElem?_eq_some_iff.1 hh).2]
      rw [hdrop, rleadF_cons] at hL
      obtain ⟨a3, rfl, x3'⟩ := r3.int hh
      have hsd := hmem e h hh
      have hm0 : 0 ≤ h := by omega
      have hm1 : h < es.length * 2 := by omega
      have hfr := fromV_range hV hm0 hm1
      have htr := toV_range hV hm0 hm1
      obtain ⟨a0, c0', rfl, x0'⟩ := hA.p.cell (i := toV es h) htr.1 (by omega)
      obtain ⟨a1, c1', rfl, x1⟩ := hA.h.cell (i := toV es h) htr.1 (by omega)
      obtain ⟨a1', c1'', he1, x1'⟩ := hA.h.cell (i := fromV es h) hfr.1 (by omega)
      cases he1
      refine DC.skip ?_
      refine Fin.then ?_
      refine DC.seq ?_
      refine DC.block ?_
      refine DC.seq ?_
      refine DC.region ?_
      refine Seq.pur rfl rfl (p_field rfl rfl fi55_3 (by first | exact add_at0 _ _ | exact add_at _ _ _ | rfl)) ?_
      refine Seq.val rfl rfl (v_load rfl rfl ag34 (by first | exact has_blk rfl | exact has_old' (by assumption))) ?_
      refine Seq.pur rfl rfl (p_move rfl rfl) ?_
      refine Seq.pur rfl rfl (p_index1 (ad' := a3.add e) rfl rfl rfl Try.underlying34 sz3 (by omega) (by omega) rfl) ?_
      refine Seq.val rfl rfl (v_load rfl rfl ag3 (has_old' x3')) ?_
      refine Seq.pur rfl rfl (p_assign rfl rfl) ?_
      refine Seq.nil ?_
      refine Fin.then ?_
      refine DC.seq ?_
      refine DC.flow (cl := [.v, .q, .r, .v, .q, .r, .q, .q]) (A := [0, 0, 3, 0, 0, 31, 63, 127]) (order := [0, 1, 2, 3, 4, 5, 6, 7]) [] mixed (by kernel_rfl) (fun w hw => hw.pick .nil) ?_
      refine Flow.valS rfl rfl rfl rfl (v_loads (vs := [_, _]) rfl rfl ag25 sz25 rfl (hass_blk rfl)) ?_
      refine Flow.pur rfl rfl rfl (p_move rfl rfl) ?_
      -- calls tangram/tangramref04.To
      refine Flow.rel0 rfl rfl rfl rfl (r_call en29 rfl rfl rfl (fun w' hw => rTo_calls (hA.g.keep0 hw) hm0 hm1)) ?_
      rintro _ rfl
      refine Flow.valS rfl rfl rfl rfl (v_loads (vs := [_, _]) rfl rfl ag25 sz25 rfl (hass_blk rfl)) ?_
      refine Flow.pur rfl rfl rfl (p_move rfl rfl) ?_
      -- calls tangram/tangramref04.From
      refine Flow.rel0 rfl rfl rfl rfl (r_call en51 rfl rfl rfl (fun w' hw => rFrom_calls (hA.g.keep0 hw) hm0 hm1)) ?_
      rintro _ rfl
      refine Flow.pur rfl rfl rfl (p_assign rfl rfl) ?_
      refine Flow.pur rfl rfl rfl (p_assign rfl rfl) ?_
      refine Flow.end rfl ?_
      simp only [List.map_cons, List.map_nil, List.nil_append, List.cons_append, List.append_nil]
      refine Fin.then ?_
      refine DC.seq ?_
      refine DC.seq ?_
      refine DC.region ?_
      refine Seq.pur rfl rfl (p_field rfl rfl fi55_0 (by first | exact add_at0 _ _ | exact add_at _ _ _ | rfl)) ?_
      refine Seq.val rfl rfl (v_load rfl rfl ag34 (by first | exact has_blk rfl | exact has_old' (by assumption))) ?_
      refine Seq.pur rfl rfl (p_move rfl rfl) ?_
      refine Seq.pur rfl rfl (p_index1 (ad' := a0.add (toV es h).toNat) rfl rfl rfl Try.underlying34 sz3 (by omega) (by omega) rfl) ?_
      refine Seq.val rfl rfl (v_load rfl rfl ag3 (has_old' x0')) ?_
      refine Seq.pur rfl rfl (p_move rfl rfl) ?_
      refine Seq.pur rfl rfl (p_eql rfl rfl rfl) ?_
      refine Seq.nil ?_
      refine Fin.then ?_
      refine DC.cond rfl (fun c12 => ?_) (fun c12 => ?_)
      · refine DC.exit ?_
        refine Fin.exit_then <| Fin.exit_here <| ?_
        refine Fin.then ?_
        refine DC.region ?_
        refine Seq.pur rfl rfl (p_move rfl rfl) ?_
        refine Seq.pur rfl rfl (p_add rfl rfl rfl (by omega)) ?_
        refine Seq.pur rfl rfl (p_assign rfl rfl) ?_
        refine Seq.nil ?_
        rw [if_pos (by simpa using c12)] at hL
        refine Fin.again (e + 1) (by omega) ⟨by omega, hL⟩ ⟨rfl, rfl, rfl, trivial⟩ (Pick.all _)
      · refine DC.skip ?_
        refine Fin.then ?_
        refine DC.seq ?_
        refine DC.seq ?_
        refine DC.flow (cl := [.q, .v, .q, .q, .v, .q, .v, .q, .q, .v, .q]) (A := [0, 1, 0, 7, 15, 0, 32, 0, 224, 480, 1023]) (order := [0, 1, 2, 3, 4, 5, 6, 7, 8, 9, 10]) [] mixed (by kernel_rfl) (fun w hw => hw.pick .nil) ?_
        refine Flow.pur rfl rfl rfl (p_field rfl rfl fi55_1 (by first | exact add_at0 _ _ | exact add_at _ _ _ | rfl)) ?_
        refine Flow.valS rfl rfl rfl rfl (v_load rfl rfl ag34 (by first | exact has_blk rfl | exact has_old' (by assumption))) ?_
        refine Flow.pur rfl rfl rfl (p_move rfl rfl) ?_
        refine Flow.pur rfl rfl rfl (p_index1 (ad' := a1.add (toV es h).toNat) rfl rfl rfl Try.underlying34 sz3 (by omega) (by omega) rfl) ?_
        refine Flow.valS rfl rfl rfl rfl (v_load rfl rfl ag3 (has_old' x1)) ?_
        refine Flow.pur rfl rfl rfl (p_field rfl rfl fi55_1 (by first | exact add_at0 _ _ | exact add_at _ _ _ | rfl)) ?_
        refine Flow.valS rfl rfl rfl rfl (v_load rfl rfl ag34 (by first | exact has_blk rfl | exact has_old' (by assumption))) ?_
        refine Flow.pur rfl rfl rfl (p_move rfl rfl) ?_
        refine Flow.pur rfl rfl rfl (p_index1 (ad' := a1.add (fromV es h).toNat) rfl rfl rfl Try.underlying34 sz3 (by omega) (by omega) rfl) ?_
        refine Flow.valS rfl rfl rfl rfl (v_load rfl rfl ag3 (has_old' x1')) ?_
        refine Flow.pur rfl rfl rfl (p_geq rfl rfl rfl) ?_
        refine Flow.end rfl ?_
        simp only [List.map_cons, List.map_nil, List.nil_append, List.cons_append, List.append_nil]
        refine Fin.then ?_
        refine DC.cond rfl (fun c13 => ?_) (fun c13 => ?_)
        · refine DC.seq ?_
          refine DC.region ?_
          refine Seq.pur rfl rfl (p_assign rfl rfl) ?_
          refine Seq.nil ?_
          refine Fin.then ?_
          refine DC.ret ?_
          refine Fin.ret_then <| Fin.ret_block <| Fin.ret_then <| Fin.ret_then <| Fin.ret_block <| Fin.ret_then <| ?_
          refine Fin.weak (E' := [(4, _)]) ⟨rfl, trivial⟩ .nil ?_
          refine Fin.end1 (.inl rfl) rfl rfl ?_
          rw [if_neg (by simpa using c12), if_pos (by simpa using c13)] at hL
          exact ⟨rfl, by rw [← hL]⟩
        · refine DC.skip ?_
          refine Fin.then ?_
          refine DC.seq ?_
          refine DC.region ?_
          refine Seq.val rfl rfl (v_loads (vs := [_, _]) rfl rfl ag25 sz25 rfl (hass_blk rfl)) ?_
          refine Seq.val rfl rfl (v_loads (vs := [_, _, _, _]) rfl rfl ag55 sz55 rfl (hass_blk rfl)) ?_
          refine Seq.pur rfl rfl (p_move rfl rfl) ?_
          refine Seq.pur rfl rfl (p_move rfl rfl) ?_
          -- calls tangram/tangramref07.Above
          refine Seq.rel0 rfl rfl (r_call en46 rfl rfl rfl (fun w' hw => rAbove_calls (u := toV es h) (hA.keep0 hw) hH hR hfr.2 hfr.1 N (by have := hR _ hfr.1 hfr.2; simp only [rootB, decide_eq_true_eq] at this; omega))) ?_
          rintro _ rfl
          refine Seq.pur rfl rfl (p_assign rfl rfl) ?_
          refine Seq.nil ?_
          refine Fin.then ?_
          refine DC.seq ?_
          refine DC.region ?_
          refine Seq.pur rfl rfl (p_move rfl rfl) ?_
          refine Seq.pur rfl rfl (p_not rfl rfl) ?_
          refine Seq.nil ?_
          refine Fin.then ?_
          refine DC.cond rfl (fun c16 => ?_) (fun c16 => ?_)
          · refine DC.seq ?_
            refine DC.region ?_
            refine Seq.pur rfl rfl (p_assign rfl rfl) ?_
            refine Seq.nil ?_
            refine Fin.then ?_
            refine DC.ret ?_
            refine Fin.ret_block <| Fin.ret_then <| Fin.ret_then <| Fin.ret_block <| Fin.ret_then <| ?_
            refine Fin.weak (E' := [(4, _)]) ⟨rfl, trivial⟩ .nil ?_
            refine Fin.end1 (.inl rfl) rfl rfl ?_
            rw [if_neg (by simpa using c12), if_neg (by simp at c13; omega), if_neg (by simp at c16; simp [c16])] at hL
            exact ⟨rfl, by rw [← hL]⟩
          · refine DC.skip ?_
            refine Fin.inBlock ?_
            refine Fin.then ?_
            refine DC.region ?_
            refine Seq.pur rfl rfl (p_move rfl rfl) ?_
            refine Seq.pur rfl rfl (p_add rfl rfl rfl (by omega)) ?_
            refine Seq.pur rfl rfl (p_assign rfl rfl) ?_
            refine Seq.nil ?_
            rw [if_neg (by simpa using c12), if_neg (by simp at c13; omega), if_pos (by simpa using c16)] at hL
            refine Fin.again (e + 1) (by omega) ⟨by omega, hL⟩ ⟨rfl, rfl, rfl, trivial⟩ (Pick.all _)
    · refine DC.exit ?_
      refine Fin.exit_then <| Fin.exit_then <| Fin.exit_here <| ?_
      refine Fin.then ?_
      refine DC.seq ?_
      refine DC.region ?_
      refine Seq.pur rfl rfl (p_assign rfl rfl) ?_
      refine Seq.nil ?_
      refine Fin.then ?_
      refine DC.ret ?_
      refine Fin.weak (E' := [(4, _)]) ⟨rfl, trivial⟩ .nil ?_
      refine Fin.end1 (.inl rfl) rfl rfl ?_
      have hie : e = oi.length := by simp at c8; omega
      exact ⟨rfl, by rw [← hL, hie, List.drop_length]; rfl⟩

def bools (sb : List Bool) : List Value := sb.map Value.bool
structure OI where
  i : Nat
  sb : List Bool
  way : List Int
  gw : Nat
  cap : Nat
  sp : List Value
theorem bools_set (sb : List Bool) (i : Nat) (b : Bool) : (bools sb).toArray.setIfInBounds i (.bool b) = (bools (sb.set i b)).toArray := by
  apply Array.ext'; simp [bools, List.map_set]
theorem drop_ne {p x : Int} {r : List Int} (h : x ≠ p) : (x :: r).dropWhile (fun x => decide (x ≠ p)) = r.dropWhile (fun x => decide (x ≠ p)) := by
  rw [List.dropWhile_cons_of_pos (by simpa using h)]
theorem drop_eq {p : Int} {r : List Int} : (p :: r).dropWhile (fun x => decide (x ≠ p)) = p :: r := by
  rw [List.dropWhile_cons_of_neg (by simp)]
theorem rordered_calls (hA : FA w N es va v0 v1 v2 v3 pa he od oi) (hH : Hangs es pa he oi N) :
    Calls Try.prog 62 #[.agg #[.int .i64 N, va], .agg #[v0, v1, v2, v3]] w (Ret w [] fun x L => L = [] ∧ x = .bool (ordF es pa N od (List.replicate N false) [])) := by
  have hV := hA.vld
  have hN1 := hV.hi
  have l2 := hA.l2
  have hdd := hA.d
  obtain ⟨A2, c2', rfl, r2, x2, y2, z2⟩ := hdd
  refine calls_of (args := [_, _]) (L := []) Try.func62 rfl Try.ntmps62 rfl (Own.start _ _) ?_
  refine DC.seq ?_
  refine DC.region ?_
  refine Seq.new rfl rfl (n_box rfl rfl rfl) fun g2 => ?_
  refine Seq.new rfl rfl (n_box rfl rfl rfl) fun g3 => ?_
  refine Seq.pur rfl rfl (p_assign rfl rfl) ?_
  refine Seq.nil ?_
  refine Fin.then ?_
  refine DC.seq ?_
  refine DC.region ?_
  refine Seq.pur rfl rfl (p_field rfl rfl fi25_0 (by first | exact add_at0 _ _ | exact add_at _ _ _ | rfl)) ?_
  refine Seq.val rfl rfl (v_load rfl rfl ag3 (by first | exact has_blk rfl | exact has_old' (by assumption))) ?_
  refine Seq.new rfl rfl (n_make (k := N) (cs := (bools (List.replicate N false)).toArray) rfl rfl rfl Try.underlying77 sz4 by4 ze4 rfl (by omega) (by omega) (by rw [made_one _ rfl]; simp [bools])) fun g12 => ?_
  refine Seq.pur rfl rfl (p_assign rfl rfl) ?_
  refine Seq.nil ?_
  refine Fin.then ?_
  refine DC.seq ?_
  refine DC.region ?_
  refine Seq.pur rfl rfl (p_field rfl rfl fi25_0 (by first | exact add_at0 _ _ | exact add_at _ _ _ | rfl)) ?_
  refine Seq.val rfl rfl (v_load rfl rfl ag3 (by first | exact has_blk rfl | exact has_old' (by assumption))) ?_
  refine Seq.new rfl rfl (n_make2 (k := 0) (c := N) (cs := (ints ([] : List Int).reverse ++ ints (tab N fun _ => 0)).toArray) rfl rfl rfl Try.underlying34 sz3 by3 ze3 rfl rfl (Nat.zero_le _) (by omega) (by omega) (by rw [made_tab]; rfl)) fun g15 => ?_
  refine Seq.pur rfl rfl (p_assign rfl rfl) ?_
  refine Seq.nil ?_
  refine Fin.then ?_
  refine DC.seq ?_
  refine DC.seq ?_
  refine DC.region ?_
  refine Seq.pur rfl rfl (p_assign rfl rfl) ?_
  refine Seq.nil ?_
  refine Fin.then ?_
  refine DC.block ?_
  refine DC.loop (ι := OI) (fun j => j.i ≤ od.length ∧ j.sb.length = N ∧ j.way.length ≤ j.i ∧ j.way.length ≤ j.cap ∧ j.cap ≤ 9223372036854775807 ∧ j.way.length + j.sp.length = j.cap ∧ ordF es pa N (od.drop j.i) j.sb j.way = ordF es pa N od (List.replicate N false) [])
    (fun j => [(2, .pointer (some ⟨g2, 0, none⟩)), (3, .pointer (some ⟨g3, 0, none⟩)), (5, .slice (some ⟨g12, 0, none⟩) N N), (6, .slice (some ⟨j.gw, 0, none⟩) j.way.length j.cap), (7, .int .i64 j.i)])
    (fun j => [blk j.gw 3 (ints j.way.reverse ++ j.sp).toArray, blk g12 4 (bools j.sb).toArray, blk g3 55 #[v0, v1, .slice A2 od.length c2', v3], blk g2 25 #[.int .i64 N, va]])
    (fun j => od.length - j.i) ⟨0, List.replicate N false, [], g15, N, ints (tab N fun _ => 0)⟩ ⟨Nat.zero_le _, by simp, Nat.le_refl _, Nat.zero_le _, by dsimp only; omega, by simp, rfl⟩ ⟨rfl, rfl, rfl, rfl, rfl, trivial⟩ (Pick.all _) ?_
  rintro ⟨i, sb, way, gw, cap, sp⟩ ⟨hi, hsb, hwi, hwc, hcm, hsp, hF⟩
  dsimp only at hi hsb hwi hwc hcm hsp hF ⊢
  refine DC.seq ?_
  refine DC.seq ?_
  refine DC.region ?_
  refine Seq.pur rfl rfl (p_move rfl rfl) ?_
  refine Seq.pur rfl rfl (p_field rfl rfl fi55_2 (by first | exact add_at0 _ _ | exact add_at _ _ _ | rfl)) ?_
  refine Seq.val rfl rfl (v_load rfl rfl ag34 (by first | exact has_blk rfl | exact has_old' (by assumption))) ?_
  refine Seq.pur rfl rfl (p_len rfl rfl Try.underlying34) ?_
  refine Seq.pur rfl rfl (p_lss rfl rfl rfl) ?_
  refine Seq.nil ?_
  refine Fin.then ?_
  refine DC.cond rfl (fun c4 => ?_) (fun c4 => ?_)
  · have hlt : i < od.length := by simpa using c4
    obtain ⟨v, hv⟩ : ∃ v, od[i]? = some v := ⟨_, List.getElem?_eq_getElem hlt⟩
    have hdrop : od.drop i = v :: od.drop (i + 1) := by rw [List.drop_eq_getElem_cons hlt, (List.getElem?_eq_some_iff.1 hv).2]
    rw [hdrop, ordF_cons] at hF
    obtain ⟨a2, rfl, x2'⟩ := r2.int hv
    refine DC.skip ?_
    refine Fin.then ?_
    refine DC.seq ?_
    refine DC.block ?_
    refine DC.seq ?_
    refine DC.region ?_
    refine Seq.pur rfl rfl (p_field rfl rfl fi55_2 (by first | exact add_at0 _ _ | exact add_at _ _ _ | rfl)) ?_
    refine Seq.val rfl rfl (v_load rfl rfl ag34 (by first | exact has_blk rfl | exact has_old' (by assumption))) ?_
    refine Seq.pur rfl rfl (p_move rfl rfl) ?_
    refine Seq.pur rfl rfl (p_index1 (ad' := a2.add i) rfl rfl rfl Try.underlying34 sz3 (by omega) (by omega) rfl) ?_
    refine Seq.val rfl rfl (v_load rfl rfl ag3 (has_old' x2')) ?_
    refine Seq.pur rfl rfl (p_assign rfl rfl) ?_
    refine Seq.nil ?_
    refine Fin.then ?_
    refine DC.seq ?_
    refine DC.seq ?_
    refine DC.region ?_
    refine Seq.pur rfl rfl (p_move rfl rfl) ?_
    refine Seq.pur rfl rfl (p_lss rfl rfl rfl) ?_
    refine Seq.pur rfl rfl (p_move rfl rfl) ?_
    refine Seq.split 30 rfl (fun k7_2 => ?_) (fun k7_2 => ?_)
    · refine Seq.skip rfl rfl ?_
      refine Seq.skip rfl rfl ?_
      refine Seq.skip rfl rfl ?_
      refine Seq.skip rfl rfl ?_
      refine Seq.pur rfl rfl (p_pick_t rfl rfl rfl) ?_
      refine Seq.pur rfl rfl (p_move rfl rfl) ?_
      refine Seq.skip rfl rfl ?_
      refine Seq.skip rfl rfl ?_
      refine Seq.skip rfl rfl ?_
      refine Seq.skip rfl rfl ?_
      refine Seq.pur rfl rfl (p_pick_t rfl rfl rfl) ?_
      refine Seq.nil ?_
      refine Fin.then ?_
      refine DC.cond_t rfl ?_
      refine DC.seq ?_
      refine DC.region ?_
      refine Seq.pur rfl rfl (p_assign rfl rfl) ?_
      refine Seq.nil ?_
      refine Fin.then ?_
      refine DC.ret ?_
      refine Fin.ret_then <| Fin.ret_block <| Fin.ret_then <| Fin.ret_then <| Fin.ret_block <| Fin.ret_then <| ?_
      refine Fin.weak (E' := [(4, _)]) ⟨rfl, trivial⟩ .nil ?_
      refine Fin.end1 (.inl rfl) rfl rfl ?_
      rw [if_pos (by simp at k7_2; omega)] at hF
      exact ⟨rfl, by rw [← hF]⟩
    · refine Seq.pur rfl rfl (p_move rfl rfl) ?_
      refine Seq.pur rfl rfl (p_field rfl rfl fi25_0 (by first | exact add_at0 _ _ | exact add_at _ _ _ | rfl)) ?_
      refine Seq.val rfl rfl (v_load rfl rfl ag3 (by first | exact has_blk rfl | exact has_old' (by assumption))) ?_
      refine Seq.pur rfl rfl (p_geq rfl rfl rfl) ?_
      refine Seq.pur rfl rfl (p_pick_f rfl rfl rfl) ?_
      refine Seq.pur rfl rfl (p_move rfl rfl) ?_
      refine Seq.split 36 rfl (fun k7_8 => ?_) (fun k7_8 => ?_)
      · refine Seq.skip rfl rfl ?_
        refine Seq.skip rfl rfl ?_
        refine Seq.skip rfl rfl ?_
        refine Seq.skip rfl rfl ?_
        refine Seq.pur rfl rfl (p_pick_t rfl rfl rfl) ?_
        refine Seq.nil ?_
        refine Fin.then ?_
        refine DC.cond_t rfl ?_
        refine DC.seq ?_
        refine DC.region ?_
        refine Seq.pur rfl rfl (p_assign rfl rfl) ?_
        refine Seq.nil ?_
        refine Fin.then ?_
        refine DC.ret ?_
        refine Fin.ret_then <| Fin.ret_block <| Fin.ret_then <| Fin.ret_then <| Fin.ret_block <| Fin.ret_then <| ?_
        refine Fin.weak (E' := [(4, _)]) ⟨rfl, trivial⟩ .nil ?_
        refine Fin.end1 (.inl rfl) rfl rfl ?_
        rw [if_pos (by simp at k7_8; omega)] at hF
        exact ⟨rfl, by rw [← hF]⟩
      · have hv0 : 0 ≤ v := by simpa using k7_2
        have hv1 : v < N := by simpa using k7_8
        obtain ⟨bv, hbv⟩ : ∃ b, sb[v.toNat]? = some b := ⟨_, List.getElem?_eq_getElem (by omega)⟩
        refine Seq.pur rfl rfl (p_move rfl rfl) ?_
        refine Seq.pur rfl rfl (p_move rfl rfl) ?_
        refine Seq.pur rfl rfl (p_index1 (ad' := ⟨g12, v.toNat, none⟩) rfl rfl rfl Try.underlying77 sz4 (by omega) (by omega) (by rw [add_at0])) ?_
        refine Seq.val rfl rfl (v_load rfl rfl ag4 (has_row (v := .bool bv) (by simp [bools, hbv]))) ?_
        refine Seq.pur rfl rfl (p_pick_f rfl rfl rfl) ?_
        refine Seq.nil ?_
        refine Fin.then ?_
        refine DC.cond rfl (fun c7 => ?_) (fun c7 => ?_)
        · refine DC.seq ?_
          refine DC.region ?_
          refine Seq.pur rfl rfl (p_assign rfl rfl) ?_
          refine Seq.nil ?_
          refine Fin.then ?_
          refine DC.ret ?_
          refine Fin.ret_then <| Fin.ret_block <| Fin.ret_then <| Fin.ret_then <| Fin.ret_block <| Fin.ret_then <| ?_
          refine Fin.weak (E' := [(4, _)]) ⟨rfl, trivial⟩ .nil ?_
          refine Fin.end1 (.inl rfl) rfl rfl ?_
          rw [if_pos (.inr (.inr (by rw [hbv]; exact c7)))] at hF
          exact ⟨rfl, by rw [← hF]⟩
        · rw [if_neg (by rw [hbv, c7]; simp; omega)] at hF
          obtain ⟨q1, q2, q3, q4⟩ := hang_par hV (hH v hv0 hv1)
          obtain ⟨p, hp⟩ : ∃ p, p = par es pa v := ⟨_, rfl⟩
          rw [← hp] at hF q2 q3
          refine DC.skip ?_
          refine Fin.then ?_
          refine DC.seq ?_
          refine DC.region ?_
          refine Seq.pur rfl rfl (p_move rfl rfl) ?_
          refine Seq.pur rfl rfl (p_move rfl rfl) ?_
          refine Seq.pur rfl rfl (p_index1 (ad' := ⟨g12, v.toNat, none⟩) rfl rfl rfl Try.underlying77 sz4 (by omega) (by omega) (by rw [add_at0])) ?_
          refine Seq.sto rfl rfl (s_store (cs' := (bools (sb.set v.toNat true)).toArray) rfl rfl rfl sz4 rfl (by simp [bools]; omega) (bools_set _ _ _)) ?_
          refine Seq.nil ?_
          refine Fin.then ?_
          refine DC.seq ?_
          refine DC.region ?_
          refine Seq.val rfl rfl (v_loads (vs := [_, _]) rfl rfl ag25 sz25 rfl (hass_blk rfl)) ?_
          refine Seq.val rfl rfl (v_loads (vs := [_, _, _, _]) rfl rfl ag55 sz55 rfl (hass_blk rfl)) ?_
          refine Seq.pur rfl rfl (p_move rfl rfl) ?_
          -- calls tangram/tangramref07.up
          refine Seq.rel0 rfl rfl (r_call en69 rfl rfl rfl (fun w' hw => rUp_calls (hA.keep0 hw) hv0 hv1 q1)) ?_
          rintro _ rfl
          rw [← hp]
          refine Seq.pur rfl rfl (p_assign rfl rfl) ?_
          refine Seq.nil ?_
          refine Fin.then ?_
          refine DC.cut (ι := List Int × List Value) (fun j => j.1.length ≤ i ∧ j.1.length ≤ cap ∧ j.1.length + j.2.length = cap ∧ (p < 0 → j.1 = []) ∧ (0 ≤ p → j.1 = way))
            (fun j => [(2, .pointer (some ⟨g2, 0, none⟩)), (3, .pointer (some ⟨g3, 0, none⟩)), (5, .slice (some ⟨g12, 0, none⟩) N N), (6, .slice (some ⟨gw, 0, none⟩) j.1.length cap), (7, .int .i64 i), (8, .int .i64 v), (9, .int .i64 p)]) (fun j => [blk gw 3 (ints j.1.reverse ++ j.2).toArray, blk g12 4 (bools (sb.set v.toNat true)).toArray, blk g3 55 #[v0, v1, .slice (some a2) od.length c2', v3], blk g2 25 #[.int .i64 N, va]]) ?first ?rest
          case first =>
            refine DC.seq ?_
            refine DC.region ?_
            refine Seq.pur rfl rfl (p_move rfl rfl) ?_
            refine Seq.pur rfl rfl (p_lss rfl rfl rfl) ?_
            refine Seq.nil ?_
            refine Fin.then ?_
            refine DC.cond rfl (fun c11 => ?_) (fun c11 => ?_)
            · refine DC.region ?_
              refine Seq.pur rfl rfl (p_move rfl rfl) ?_
              refine Seq.pur rfl rfl (p_slice_to (hi := 0) rfl rfl rfl Try.underlying34 sz3 (Nat.zero_le _)) ?_
              refine Seq.pur rfl rfl (p_assign rfl rfl) ?_
              refine Seq.nil ?_
              refine Fin.meet (([], ints way.reverse ++ sp) : List Int × List Value) ⟨Nat.zero_le _, Nat.zero_le _, by simp [hsp], fun _ => rfl, fun h => by simp at c11; omega⟩ ⟨rfl, rfl, rfl, rfl, rfl, rfl, rfl, trivial⟩ (.cons' 0 rfl (by simp [ints]) (Pick.all _))
            · refine DC.skip ?_
              refine Fin.meet ((way, sp) : List Int × List Value) ⟨hwi, hwc, hsp, fun h => by simp at c11; omega, fun _ => rfl⟩ ⟨rfl, rfl, rfl, rfl, rfl, rfl, rfl, trivial⟩ (Pick.all _)
          case rest =>
            rintro ⟨way0, sp0⟩ ⟨w1, w2, w3, w4, w5⟩
            dsimp only at w1 w2 w3 w4 w5 ⊢
            refine DC.cut (ι := List Int × List Value) (fun j => j.1.length ≤ i ∧ j.1.length ≤ cap ∧ j.1.length + j.2.length = cap ∧ (p < 0 → j.1 = []) ∧ (0 ≤ p → j.1 = way.dropWhile (fun x => decide (x ≠ p))))
              (fun j => [(2, .pointer (some ⟨g2, 0, none⟩)), (3, .pointer (some ⟨g3, 0, none⟩)), (5, .slice (some ⟨g12, 0, none⟩) N N), (6, .slice (some ⟨gw, 0, none⟩) j.1.length cap), (7, .int .i64 i), (8, .int .i64 v), (9, .int .i64 p)]) (fun j => [blk gw 3 (ints j.1.reverse ++ j.2).toArray, blk g12 4 (bools (sb.set v.toNat true)).toArray, blk g3 55 #[v0, v1, .slice (some a2) od.length c2', v3], blk g2 25 #[.int .i64 N, va]]) ?first ?rest
            case first =>
              refine DC.block ?_
              refine DC.loop (ι := List Int × List Value) (fun j => j.1.length ≤ i ∧ j.1.length ≤ cap ∧ j.1.length + j.2.length = cap ∧ (p < 0 → j.1 = []) ∧ (0 ≤ p → j.1.dropWhile (fun x => decide (x ≠ p)) = way.dropWhile (fun x => decide (x ≠ p))))
                (fun j => [(2, .pointer (some ⟨g2, 0, none⟩)), (3, .pointer (some ⟨g3, 0, none⟩)), (5, .slice (some ⟨g12, 0, none⟩) N N), (6, .slice (some ⟨gw, 0, none⟩) j.1.length cap), (7, .int .i64 i), (8, .int .i64 v), (9, .int .i64 p)]) (fun j => [blk gw 3 (ints j.1.reverse ++ j.2).toArray, blk g12 4 (bools (sb.set v.toNat true)).toArray, blk g3 55 #[v0, v1, .slice (some a2) od.length c2', v3], blk g2 25 #[.int .i64 N, va]]) (fun j => j.1.length) (way0, sp0) ⟨w1, w2, w3, w4, fun h => by dsimp only; rw [w5 h]⟩ ⟨rfl, rfl, rfl, rfl, rfl, rfl, rfl, trivial⟩ (Pick.all _) ?_
              clear w1 w2 w3 w4 w5 way0 sp0
              rintro ⟨wa, sq⟩ ⟨w1, w2, w3, w4, w5⟩
              dsimp only at w1 w2 w3 w4 w5 ⊢
              refine DC.seq ?_
              refine DC.seq ?_
              refine DC.region ?_
              refine Seq.pur rfl rfl (p_move rfl rfl) ?_
              refine Seq.pur rfl rfl (p_geq rfl rfl rfl) ?_
              refine Seq.pur rfl rfl (p_move rfl rfl) ?_
              refine Seq.split 55 rfl (fun k13_2 => ?_) (fun k13_2 => ?_)
              · refine Seq.pur rfl rfl (p_move rfl rfl) ?_
                refine Seq.pur rfl rfl (p_len rfl rfl Try.underlying34) ?_
                refine Seq.pur rfl rfl (p_gtr rfl rfl rfl) ?_
                refine Seq.pur rfl rfl (p_pick_t rfl rfl rfl) ?_
                refine Seq.pur rfl rfl (p_move rfl rfl) ?_
                refine Seq.split 60 rfl (fun k13_7 => ?_) (fun k13_7 => ?_)
                · obtain ⟨x, wr', rfl⟩ : ∃ x r, wa = x :: r := by
                    cases wa with
                    | nil => simp at k13_7
                    | cons x r => exact ⟨x, r, rfl⟩
                  have hrow : ((ints (x :: wr').reverse ++ sq).toArray)[wr'.length]? = some (.int .i64 x) := by
                    have : (ints (x :: wr').reverse ++ sq) = ints wr'.reverse ++ (.int .i64 x :: sq) := by simp [ints]
                    rw [this]; simp [ints]
                  refine Seq.pur rfl rfl (p_move rfl rfl) ?_
                  refine Seq.pur rfl rfl (p_move rfl rfl) ?_
                  refine Seq.pur rfl rfl (p_len rfl rfl Try.underlying34) ?_
                  refine Seq.pur rfl rfl (p_sub rfl rfl rfl (by omega)) ?_
                  refine Seq.pur rfl rfl (p_index1 (ad' := ⟨gw, wr'.length, none⟩) rfl rfl rfl Try.underlying34 sz3 (by simp) (by simp; omega) (by rw [add_at0]; congr 1; simp)) ?_
                  refine Seq.val rfl rfl (v_load rfl rfl ag3 (has_row hrow)) ?_
                  refine Seq.pur rfl rfl (p_move rfl rfl) ?_
                  refine Seq.pur rfl rfl (p_neq rfl rfl rfl) ?_
                  refine Seq.pur rfl rfl (p_pick_t rfl rfl rfl) ?_
                  refine Seq.nil ?_
                  refine Fin.then ?_
                  refine DC.cond rfl (fun c13 => ?_) (fun c13 => ?_)
                  · refine DC.skip ?_
                    refine Fin.then ?_
                    refine DC.block ?_
                    refine DC.region ?_
                    refine Seq.pur rfl rfl (p_move rfl rfl) ?_
                    refine Seq.pur rfl rfl (p_move rfl rfl) ?_
                    refine Seq.pur rfl rfl (p_len rfl rfl Try.underlying34) ?_
                    refine Seq.pur rfl rfl (p_sub rfl rfl rfl (by omega)) ?_
                    refine Seq.pur rfl rfl (p_slice_to (hi := wr'.length) rfl rfl (by show some (Value.int .i64 _) = _; congr 2; simp) Try.underlying34 sz3 (by simp at w2; omega)) ?_
                    refine Seq.pur rfl rfl (p_assign rfl rfl) ?_
                    refine Seq.nil ?_
                    refine Fin.inBlock ?_
                    have hxp : x ≠ p := by simpa using c13
                    refine Fin.again ((wr', .int .i64 x :: sq) : List Int × List Value) (by simp) ⟨by simp at w1; dsimp only; omega, by simp at w2; dsimp only; omega, by simp at w3 ⊢; omega, fun h => by simp at k13_2; omega, fun h => by
                      have := w5 h
                      rw [drop_ne hxp] at this
                      exact this⟩ ⟨rfl, rfl, rfl, rfl, rfl, rfl, rfl, trivial⟩ (.cons' 0 rfl (by simp [ints]) (Pick.all _))
                  · refine DC.exit ?_
                    refine Fin.exit_then <| Fin.exit_then <| Fin.exit_here <| ?_
                    have hxp : x = p := by simpa using c13
                    subst hxp
                    refine Fin.meet ((x :: wr', sq) : List Int × List Value) ⟨w1, w2, w3, w4, fun h => by have := w5 h; rw [drop_eq] at this; exact this⟩ ⟨rfl, rfl, rfl, rfl, rfl, rfl, rfl, trivial⟩ (Pick.all _)
                · refine Seq.skip rfl rfl ?_
                  refine Seq.skip rfl rfl ?_
                  refine Seq.skip rfl rfl ?_
                  refine Seq.skip rfl rfl ?_
                  refine Seq.skip rfl rfl ?_
                  refine Seq.skip rfl rfl ?_
                  refine Seq.skip rfl rfl ?_
                  refine Seq.skip rfl rfl ?_
                  refine Seq.pur rfl rfl (p_pick_f rfl rfl rfl) ?_
                  refine Seq.nil ?_
                  refine Fin.then ?_
                  refine DC.cond_f rfl ?_
                  refine DC.exit ?_
                  refine Fin.exit_then <| Fin.exit_then <| Fin.exit_here <| ?_
                  have hwa : wa = [] := by cases wa with | nil => rfl | cons x r => simp at k13_7
                  subst hwa
                  refine Fin.meet (([], sq) : List Int × List Value) ⟨w1, w2, w3, w4, fun h => by have := w5 h; simpa using this⟩ ⟨rfl, rfl, rfl, rfl, rfl, rfl, rfl, trivial⟩ (Pick.all _)
              · refine Seq.skip rfl rfl ?_
                refine Seq.skip rfl rfl ?_
                refine Seq.skip rfl rfl ?_
                refine Seq.pur rfl rfl (p_pick_f rfl rfl rfl) ?_
                refine Seq.pur rfl rfl (p_move rfl rfl) ?_
                refine Seq.skip rfl rfl ?_
                refine Seq.skip rfl rfl ?_
                refine Seq.skip rfl rfl ?_
                refine Seq.skip rfl rfl ?_
                refine Seq.skip rfl rfl ?_
                refine Seq.skip rfl rfl ?_
                refine Seq.skip rfl rfl ?_
                refine Seq.skip rfl rfl ?_
                refine Seq.pur rfl rfl (p_pick_f rfl rfl rfl) ?_
                refine Seq.nil ?_
                refine Fin.then ?_
                refine DC.cond_f rfl ?_
                refine DC.exit ?_
                refine Fin.exit_then <| Fin.exit_then <| Fin.exit_here <| ?_
                refine Fin.meet ((wa, sq) : List Int × List Value) ⟨w1, w2, w3, w4, fun h => by simp at k13_2; omega⟩ ⟨rfl, rfl, rfl, rfl, rfl, rfl, rfl, trivial⟩ (Pick.all _)
            case rest =>
              rintro ⟨wy, sr⟩ ⟨v1', v2, v3', v4, v5⟩
              dsimp only at v1' v2 v3' v4 v5 ⊢
              refine DC.seq ?_
              refine DC.seq ?_
              refine DC.region ?_
              refine Seq.pur rfl rfl (p_move rfl rfl) ?_
              refine Seq.pur rfl rfl (p_geq rfl rfl rfl) ?_
              refine Seq.pur rfl rfl (p_move rfl rfl) ?_
              refine Seq.split 77 rfl (fun k15_2 => ?_) (fun k15_2 => ?_)
              · refine Seq.pur rfl rfl (p_move rfl rfl) ?_
                refine Seq.pur rfl rfl (p_len rfl rfl Try.underlying34) ?_
                refine Seq.pur rfl rfl (p_eql rfl rfl rfl) ?_
                refine Seq.pur rfl rfl (p_pick_t rfl rfl rfl) ?_
                refine Seq.nil ?_
                refine Fin.then ?_
                refine DC.cond rfl (fun c15 => ?_) (fun c15 => ?_)
                · refine DC.seq ?_
                  refine DC.region ?_
                  refine Seq.pur rfl rfl (p_assign rfl rfl) ?_
                  refine Seq.nil ?_
                  refine Fin.then ?_
                  refine DC.ret ?_
                  refine Fin.ret_then <| Fin.ret_block <| Fin.ret_then <| Fin.ret_then <| Fin.ret_block <| Fin.ret_then <| ?_
                  refine Fin.weak (E' := [(4, _)]) ⟨rfl, trivial⟩ .nil ?_
                  refine Fin.end1 (.inl rfl) rfl rfl ?_
                  have hp0 : 0 ≤ p := by simpa using k15_2
                  have hwy : wy = [] := by simp at c15; exact c15
                  rw [if_neg (by omega), ← v5 hp0, if_pos hwy] at hF
                  exact ⟨rfl, by rw [← hF]⟩
                · refine DC.skip ?_
                  refine Fin.then ?_
                  refine DC.region ?_
                  refine Seq.pur rfl rfl (p_move rfl rfl) ?_
                  refine Seq.pur rfl rfl (p_move rfl rfl) ?_
                  refine Seq.new rfl rfl (n_slit (cs := #[_]) rfl rfl Try.underlying34 sz3 ze3 rfl (by decide) (by decide) rfl rfl) fun g84 => ?_
                  refine Seq.gen rfl rfl (g_append (F := [blk g84 3 #[.int .i64 v], blk g12 4 (bools (sb.set v.toNat true)).toArray, blk g3 _ _, blk g2 _ _]) (vs := ints wy.reverse) (k := 1) (news := [.int .i64 v]) rfl rfl rfl Try.underlying34 sz3 by3 ze3 rfl (by decide) (by decide) (fun w hw => own_slc (vs := ints wy.reverse) (by simp) (by decide) v2 hcm (by simp; omega) (by simp only [List.toList_toArray, Nat.mul_one]; rw [← List.length_reverse, ← ints_length]; exact List.take_left) (hw.pick (.cons 1 rfl (.cons 0 rfl (Pick.all _))))) (.inl ⟨_, _, rfl, hass_blk rfl⟩) rfl (by intro u hu; simp at hu; subst hu; rfl) (by rw [ints_length, List.length_reverse]; omega)) ?_
                  rintro vw _ rfl
                  refine Seq.pur rfl rfl (p_assign rfl rfl) ?_
                  refine Seq.nil ?_
                  refine Fin.inBlock ?_
                  refine Fin.then ?_
                  refine DC.region ?_
                  refine Seq.pur rfl rfl (p_move rfl rfl) ?_
                  refine Seq.pur rfl rfl (p_add rfl rfl rfl (by omega)) ?_
                  refine Seq.pur rfl rfl (p_assign rfl rfl) ?_
                  refine Seq.nil ?_
                  have hp0 : 0 ≤ p := by simpa using k15_2
                  have hwy : wy ≠ [] := by intro e; subst e; simp at c15
                  rw [if_neg (by omega), ← v5 hp0, if_neg hwy] at hF
                  refine Fin.open (fun _ hn => by have := congrArg List.length hn; simp at this) ?_
                  rintro gx len cx sx rfl hlen hlc2 hcx hsx
                  obtain rfl : len = (v :: wy).length := by simp at hlen ⊢; omega
                  refine Fin.again (OI.mk (i + 1) (sb.set v.toNat true) (v :: wy) gx cx sx) (by dsimp only; omega) ⟨by dsimp only; omega, by simp [hsb], by simp; omega, hlc2, hcx, by simp at hsx ⊢; omega, hF⟩ ⟨rfl, rfl, rfl, rfl, rfl, trivial⟩ (.cons' 0 rfl (by simp [ints]) (.cons 1 rfl (.cons 1 rfl (.cons 1 rfl .nil))))
              · refine Seq.skip rfl rfl ?_
                refine Seq.skip rfl rfl ?_
                refine Seq.skip rfl rfl ?_
                refine Seq.pur rfl rfl (p_pick_f rfl rfl rfl) ?_
                refine Seq.nil ?_
                refine Fin.then ?_
                refine DC.cond_f rfl ?_
                refine DC.skip ?_
                refine Fin.then ?_
                refine DC.region ?_
                refine Seq.pur rfl rfl (p_move rfl rfl) ?_
                refine Seq.pur rfl rfl (p_move rfl rfl) ?_
                refine Seq.new rfl rfl (n_slit (cs := #[_]) rfl rfl Try.underlying34 sz3 ze3 rfl (by decide) (by decide) rfl rfl) fun g84 => ?_
                refine Seq.gen rfl rfl (g_append (F := [blk g84 3 #[.int .i64 v], blk g12 4 (bools (sb.set v.toNat true)).toArray, blk g3 _ _, blk g2 _ _]) (vs := ints wy.reverse) (k := 1) (news := [.int .i64 v]) rfl rfl rfl Try.underlying34 sz3 by3 ze3 rfl (by decide) (by decide) (fun w hw => own_slc (vs := ints wy.reverse) (by simp) (by decide) v2 hcm (by simp; omega) (by simp only [List.toList_toArray, Nat.mul_one]; rw [← List.length_reverse, ← ints_length]; exact List.take_left) (hw.pick (.cons 1 rfl (.cons 0 rfl (Pick.all _))))) (.inl ⟨_, _, rfl, hass_blk rfl⟩) rfl (by intro u hu; simp at hu; subst hu; rfl) (by rw [ints_length, List.length_reverse]; omega)) ?_
                rintro vw _ rfl
                refine Seq.pur rfl rfl (p_assign rfl rfl) ?_
                refine Seq.nil ?_
                refine Fin.inBlock ?_
                refine Fin.then ?_
                refine DC.region ?_
                refine Seq.pur rfl rfl (p_move rfl rfl) ?_
                refine Seq.pur rfl rfl (p_add rfl rfl rfl (by omega)) ?_
                refine Seq.pur rfl rfl (p_assign rfl rfl) ?_
                refine Seq.nil ?_
                have hp0 : p < 0 := by simp at k15_2; omega
                have hwy := v4 hp0
                subst hwy
                rw [if_pos hp0] at hF
                refine Fin.open (fun _ hn => by have := congrArg List.length hn; simp at this) ?_
                rintro gx len cx sx rfl hlen hlc2 hcx hsx
                obtain rfl : len = [v].length := by simp at hlen ⊢; omega
                refine Fin.again (OI.mk (i + 1) (sb.set v.toNat true) [v] gx cx sx) (by dsimp only; omega) ⟨by dsimp only; omega, by simp [hsb], by simp, hlc2, hcx, by simp at hsx ⊢; omega, hF⟩ ⟨rfl, rfl, rfl, rfl, rfl, trivial⟩ (.cons' 0 rfl (by simp [ints]) (.cons 1 rfl (.cons 1 rfl (.cons 1 rfl .nil))))
  · refine DC.exit ?_
    refine Fin.exit_then <| Fin.exit_then <| Fin.exit_here <| ?_
    refine Fin.then ?_
    refine DC.seq ?_
    refine DC.region ?_
    refine Seq.pur rfl rfl (p_assign rfl rfl) ?_
    refine Seq.nil ?_
    refine Fin.then ?_
    refine DC.ret ?_
    refine Fin.weak (E' := [(4, _)]) ⟨rfl, trivial⟩ .nil ?_
    refine Fin.end1 (.inl rfl) rfl rfl ?_
    have hie : i = od.length := by simp at c4; omega
    exact ⟨rfl, by rw [← hF, hie, List.drop_length]; rfl⟩
end
end Go.Fl
