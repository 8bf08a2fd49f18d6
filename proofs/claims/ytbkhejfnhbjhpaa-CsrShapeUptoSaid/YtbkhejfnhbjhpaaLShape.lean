/- The law CsrShape. -/
import Derived.Test.YtbkhejfnhbjhpaaCsr3
import Derived.Test.YtbkhejfnhbjhpaaRef1
set_option linter.unusedVariables false
set_option linter.unusedSimpArgs false
set_option maxRecDepth 100000
namespace Go.Fl
open Go Go.Proofs

section
variable {P : Program} {w0 : World} {K : List Nat} {n : Nat} {ds : List Deferred} {E : Env} {L : List Chunk}
theorem DC.know2 {Q : Exit → Act → World → Prop} {c : Code} {φ : Prop} (hf : ∀ w, Own w0 K w L → φ) (h : φ → DC P w0 K n ds Q c E L) : DC P w0 K n ds Q c E L := fun a w ha hw => h (hf w hw) a w ha hw
theorem has_elt {t l c j : Nat} {ad : Addr} {xs : List Int} {h : Int} (i : Nat) (hi : L[i]? = some (slc (.slice (some ad) l c) t 1 (ints xs))) (hf : xs.length ≤ 17592186044416) (hj : xs[j]? = some h) : Has w0 K L (ad.add j) (.int .i64 h) := by
  intro w hw
  obtain ⟨A, cap, he, hr, _⟩ := slv_own hw i hi hf
  cases he
  obtain ⟨ad', ha, hc⟩ := hr.int hj
  cases ha
  exact hc
end
theorem rValidS_no {N : Int} {es : List Pr} {va : Value} {w : World} (hg : PrV w va es) (hV : ¬ Vld N es) :
    Calls Try.prog 16 #[.agg #[.int .i64 N, va]] w (Ret w [] fun v L => L = [] ∧ v = .bool false) :=
  Calls.mono (rValid_calls (N := N) hg) fun e w' h => Retm h fun v L ⟨h1, b, h2, h3⟩ => ⟨h1, by cases b with | true => exact absurd (h3.1 rfl) hV | false => exact h2⟩
theorem afterS_in {N : Int} {es : List Pr} {M : AdjM} {p : Option Addr} {w : World} (h : AV w N es M p) {u x : Int} {k : Nat} (hx : (outs es u)[k]? = some x) :
    Calls Try.prog 23 #[.pointer p, .int .i64 x] w (Ret w [] fun v L => L = [] ∧ v = .int .i64 ((outs es u)[k + 1]?.getD (-1))) :=
  Calls.mono (After_calls h x) fun e w' hr => Retm hr fun v L ⟨h1, r, h2, h3, h4⟩ => ⟨h1, by rw [h2, h3 u k hx]⟩
/-- How often a half-edge has been met: before vertex v, and among the first i of v. -/
def seenF (es : List Pr) (v i : Nat) : Nat → Int := fun h => if fromV es h < v ∨ (fromV es h = v ∧ (h : Int) ∈ (outs es v).take i) then 1 else 0
theorem seen_zero {N : Int} {es : List Pr} (hV : Vld N es) (h : Nat) (hh : h < 2 * es.length) : seenF es 0 0 h = 0 := by
  unfold seenF
  obtain ⟨e, a, he, ha⟩ := half_ends (es := es) (h := (h : Int)) (by omega) (by omega)
  have ho := hV.ok e a he
  have o1 := ho.lo
  have o2 := ho.lt
  rw [if_neg]
  rintro (h1 | ⟨_, h1⟩)
  · rcases ha with ⟨_, q, _⟩ | ⟨_, q, _⟩ <;> omega
  · simp at h1
theorem seen_next {N : Int} {es : List Pr} (hV : Vld N es) (v h : Nat) (hh : h < 2 * es.length) : seenF es v (outs es v).length h = seenF es (v + 1) 0 h := by
  unfold seenF
  rw [List.take_length]
  have hm : (h : Int) ∈ outs es v ↔ fromV es h = v := by
    rw [mem_outs hV]
    constructor
    · exact fun h => h.2.2
    · exact fun h => ⟨by omega, by omega, h⟩
  simp only [List.take_zero, List.not_mem_nil, and_false, or_false]
  by_cases h1 : fromV es h < (v : Int) + 1
  · rw [if_pos (by rw [hm]; omega), if_pos (by push_cast; exact h1)]
  · rw [if_neg (by rw [hm]; omega), if_neg (by push_cast; exact h1)]
theorem seen_at {N : Int} {es : List Pr} (hV : Vld N es) {v i : Nat} {h : Int} (hh : (outs es v)[i]? = some h) : seenF es v i h.toNat = 0 := by
  obtain ⟨h0, h1, h2⟩ := (mem_outs hV).1 (List.mem_of_getElem? hh)
  unfold seenF
  rw [Int.toNat_of_nonneg h0, if_neg]
  rintro (h3 | ⟨_, h3⟩)
  · omega
  · obtain ⟨j, hj⟩ := List.getElem?_of_mem h3
    rw [List.getElem?_take] at hj
    split at hj
    · have := outs_uniq hh hj; omega
    · cases hj
theorem seen_upd {N : Int} {es : List Pr} (hV : Vld N es) {v i : Nat} {h : Int} (hh : (outs es v)[i]? = some h) (k : Nat) : upd (seenF es v i) h.toNat 1 k = seenF es v (i + 1) k := by
  obtain ⟨h0, h1, h2⟩ := (mem_outs hV).1 (List.mem_of_getElem? hh)
  unfold upd seenF
  have ht : (outs es v).take (i + 1) = (outs es v).take i ++ [h] := by rw [List.take_add_one, hh]; rfl
  rw [ht]
  by_cases hk : k = h.toNat
  · rw [if_pos hk, if_pos]
    right
    subst hk
    rw [Int.toNat_of_nonneg h0]
    exact ⟨h2, by simp⟩
  · rw [if_neg hk]
    have : (k : Int) ≠ h := by omega
    simp [this]
theorem seen_all {N : Int} {es : List Pr} (hV : Vld N es) (h : Nat) (hh : h < 2 * es.length) : seenF es N.toNat 0 h = 1 := by
  unfold seenF
  obtain ⟨e, a, he, ha⟩ := half_ends (es := es) (h := (h : Int)) (by omega) (by omega)
  have ho := hV.ok e a he
  have o1 := ho.hi
  have o2 := ho.lt
  have o3 := hV.lo
  rw [if_pos]
  left
  rcases ha with ⟨_, q, _⟩ | ⟨_, q, _⟩ <;> omega
theorem CsrShape_no {N : Int} {es : List Pr} {va : Value} {w : World} (hg : PrV w va es) (hV : ¬ Vld N es) :
    Calls Try.prog 5 #[.agg #[.int .i64 N, va]] w (Ret w [] fun v L => v = .bool true) := by
  have fg := hg.few
  have qg := hg
  obtain ⟨B, cb, rfl, hr, hlc, hcm, hl⟩ := qg
  refine calls_of (args := [_]) (L := []) Try.func5 rfl Try.ntmps5 rfl (Own.start _ _) ?_
  refine DC.seq ?_
  refine DC.region ?_
  refine Seq.new rfl rfl (n_box rfl rfl rfl) fun g1 => ?_
  refine Seq.pur rfl rfl (p_assign rfl rfl) ?_
  refine Seq.nil ?_
  refine Fin.then ?_
  refine DC.seq ?_
  refine DC.seq ?_
  refine DC.region ?_
  -- calls tangram/tangramlaw04.awake
  refine Seq.rel0 rfl rfl (r_call en14 rfl rfl rfl (fun w' hw => cawake_calls w')) ?_
  rintro _ rfl
  refine Seq.pur rfl rfl (p_not rfl rfl) ?_
  refine Seq.nil ?_
  refine Fin.then ?_
  refine DC.cond rfl (fun c1 => ?_) (fun c1 => ?_)
  · exact absurd c1 (by decide)
    --closed
  · refine DC.skip ?_
    refine Fin.then ?_
    refine DC.seq ?_
    refine DC.region ?_
    refine Seq.val rfl rfl (v_loads (vs := [_, _]) rfl rfl ag25 sz25 rfl (hass_blk rfl)) ?_
    -- calls tangram/tangramlaw04.adj
    refine Seq.rel0 rfl rfl (r_call en15 rfl rfl rfl (fun w' hw => adj_no (hg.keep0 hw) hV)) ?_
    rintro _ rfl
    refine Seq.pur rfl rfl (p_move rfl rfl) ?_
    refine Seq.pur rfl rfl (p_extract rfl rfl rfl) ?_
    refine Seq.pur rfl rfl (p_extract rfl rfl rfl) ?_
    refine Seq.pur rfl rfl (p_assign rfl rfl) ?_
    refine Seq.pur rfl rfl (p_assign rfl rfl) ?_
    refine Seq.nil ?_
    refine Fin.then ?_
    refine DC.seq ?_
    refine DC.seq ?_
    refine DC.region ?_
    refine Seq.pur rfl rfl (p_move rfl rfl) ?_
    refine Seq.pur rfl rfl (p_eql_nil rfl rfl rfl Try.underlying26) ?_
    refine Seq.nil ?_
    refine Fin.then ?_
    refine DC.cond rfl (fun c4 => ?_) (fun c4 => ?_)
    · refine DC.seq ?_
      refine DC.region ?_
      refine Seq.val rfl rfl (v_loads (vs := [_, _]) rfl rfl ag25 sz25 rfl (hass_blk rfl)) ?_
      -- calls tangram/tangramref04.Valid
      refine Seq.rel0 rfl rfl (r_call en16 rfl rfl rfl (fun w' hw => rValidS_no (hg.keep0 hw) hV)) ?_
      rintro _ rfl
      refine Seq.pur rfl rfl (p_not rfl rfl) ?_
      refine Seq.pur rfl rfl (p_assign rfl rfl) ?_
      refine Seq.nil ?_
      refine Fin.then ?_
      refine DC.ret ?_
      refine Fin.ret_then <| ?_
      refine Fin.end1 (.inl rfl) rfl rfl ?_
      rfl
    · exact absurd c4 (by decide)
      --closed
theorem CsrShape_yes {N : Int} {es : List Pr} {va : Value} {w : World} (hg : PrV w va es) (hV : Vld N es) :
    Calls Try.prog 5 #[.agg #[.int .i64 N, va]] w (Ret w [] fun v L => v = .bool true) := by
  have fg := hg.few
  have hN0 := hV.lo
  have hN1 := hV.hi
  have hfew := hV.few
  obtain ⟨Nn, rfl⟩ := Int.eq_ofNat_of_zero_le hN0
  have hpa := pre_all hV
  rw [Int.toNat_natCast] at hpa
  have qg := hg
  obtain ⟨B, cb, rfl, hr, hlc, hcm, hl⟩ := qg
  refine calls_of (args := [_]) (L := []) Try.func5 rfl Try.ntmps5 rfl (Own.start _ _) ?_
  refine DC.seq ?_
  refine DC.region ?_
  refine Seq.new rfl rfl (n_box rfl rfl rfl) fun g1 => ?_
  refine Seq.pur rfl rfl (p_assign rfl rfl) ?_
  refine Seq.nil ?_
  refine Fin.then ?_
  refine DC.seq ?_
  refine DC.seq ?_
  refine DC.region ?_
  -- calls tangram/tangramlaw04.awake
  refine Seq.rel0 rfl rfl (r_call en14 rfl rfl rfl (fun w' hw => cawake_calls w')) ?_
  rintro _ rfl
  refine Seq.pur rfl rfl (p_not rfl rfl) ?_
  refine Seq.nil ?_
  refine Fin.then ?_
  refine DC.cond rfl (fun c1 => ?_) (fun c1 => ?_)
  · exact absurd c1 (by decide)
    --closed
  · refine DC.skip ?_
    refine Fin.then ?_
    refine DC.seq ?_
    refine DC.region ?_
    refine Seq.val rfl rfl (v_loads (vs := [_, _]) rfl rfl ag25 sz25 rfl (hass_blk rfl)) ?_
    -- calls tangram/tangramlaw04.adj
    refine Seq.rel rfl rfl (r_call en15 rfl rfl rfl (fun w' hw => adj_yes (hg.keep0 hw) hV)) ?_
    rintro _ _ ⟨M, hM, rfl, rfl⟩
    simp only [adjL, List.cons_append, List.nil_append]
    refine Seq.pur rfl rfl (p_move rfl rfl) ?_
    refine Seq.pur rfl rfl (p_extract rfl rfl rfl) ?_
    refine Seq.pur rfl rfl (p_extract rfl rfl rfl) ?_
    refine Seq.pur rfl rfl (p_assign rfl rfl) ?_
    refine Seq.pur rfl rfl (p_assign rfl rfl) ?_
    refine Seq.nil ?_
    refine Fin.then ?_
    refine DC.seq ?_
    refine DC.seq ?_
    refine DC.region ?_
    refine Seq.pur rfl rfl (p_move rfl rfl) ?_
    refine Seq.pur rfl rfl (p_eql_nil rfl rfl rfl Try.underlying26) ?_
    refine Seq.nil ?_
    refine Fin.then ?_
    refine DC.cond rfl (fun c4 => ?_) (fun c4 => ?_)
    · exact absurd c4 (by simp)
      --closed
    · refine DC.skip ?_
      refine Fin.then ?_
      refine DC.seq ?_
      refine DC.region ?_
      refine Seq.pur rfl rfl (p_field rfl rfl fi25_1 (by first | exact add_at0 _ _ | exact add_at _ _ _ | rfl)) ?_
      refine Seq.val rfl rfl (v_load rfl rfl ag23 (by first | exact has_blk rfl | exact has_old' (by assumption))) ?_
      refine Seq.pur rfl rfl (p_len rfl rfl Try.underlying23) ?_
      refine Seq.pur rfl rfl (p_mul rfl rfl rfl (by omega)) ?_
      refine Seq.new rfl rfl (n_make (k := 2 * es.length) rfl rfl rfl Try.underlying34 sz3 by3 ze3 (by push_cast; rfl) (by omega) (by omega) (made_tab _)) fun g30 => ?_
      refine Seq.pur rfl rfl (p_assign rfl rfl) ?_
      refine Seq.nil ?_
      refine Fin.then ?_
      refine DC.seq ?_
      refine DC.region ?_
      refine Seq.pur rfl rfl (p_assign rfl rfl) ?_
      refine Seq.nil ?_
      refine Fin.then ?_
      refine DC.seq ?_
      refine DC.seq ?_
      refine DC.region ?_
      refine Seq.pur rfl rfl (p_assign rfl rfl) ?_
      refine Seq.nil ?_
      refine Fin.then ?_
      refine DC.block ?_
      refine DC.loop (ι := Nat) (fun v => v ≤ Nn) (fun v => [(1, .pointer (some ⟨g1, 0, none⟩)), (3, .pointer (some ⟨M.gp, 0, none⟩)), (5, .slice (some ⟨g30, 0, none⟩) (2 * es.length) (2 * es.length)), (6, .int .i64 (pre es v)), (7, .int .i64 v)]) (fun v => [blk g30 3 (ints (tab (2 * es.length) (seenF es v 0))).toArray, blk M.gp 73 #[sl M.g0 M.fr, sl M.g1 M.st, sl M.g2 M.ou, sl M.g3 M.pl], blk M.g0 3 (ints M.fr).toArray, blk M.g1 3 (ints M.st).toArray, blk M.g2 3 (ints M.ou).toArray, blk M.g3 3 (ints M.pl).toArray, blk g1 25 #[.int .i64 Nn, .slice B es.length cb]]) (fun v => Nn - v) 0 (Nat.zero_le _) ⟨rfl, rfl, rfl, rfl, rfl, trivial⟩
        (Pick.cons' 0 rfl (blk_tab fun i hi => (seen_zero hV i hi).symm) (Pick.all _)) ?_
      intro v hv
      have hpre := pre_mono es hv
      have hpn := pre_nonneg es v
      refine DC.seq ?_
      refine DC.seq ?_
      refine DC.region ?_
      refine Seq.pur rfl rfl (p_move rfl rfl) ?_
      refine Seq.pur rfl rfl (p_field rfl rfl fi25_0 (by first | exact add_at0 _ _ | exact add_at _ _ _ | rfl)) ?_
      refine Seq.val rfl rfl (v_load rfl rfl ag3 (by first | exact has_blk rfl | exact has_old' (by assumption))) ?_
      refine Seq.pur rfl rfl (p_lss rfl rfl rfl) ?_
      refine Seq.nil ?_
      refine Fin.then ?_
      refine DC.cond rfl (fun c9 => ?_) (fun c9 => ?_)
      · have hlt : v < Nn := by simpa using c9
        have hof := outs_few hV v
        refine DC.skip ?_
        refine Fin.then ?_
        refine DC.seq ?_
        refine DC.block ?_
        refine DC.seq ?_
        refine DC.region ?_
        refine Seq.pur rfl rfl (p_move rfl rfl) ?_
        refine Seq.pur rfl rfl (p_move rfl rfl) ?_
        refine Seq.pur rfl rfl (p_field rfl rfl fi25_1 (by first | exact add_at0 _ _ | exact add_at _ _ _ | rfl)) ?_
        refine Seq.val rfl rfl (v_load rfl rfl ag23 (by first | exact has_blk rfl | exact has_old' (by assumption))) ?_
        refine Seq.pur rfl rfl (p_len rfl rfl Try.underlying23) ?_
        refine Seq.pur rfl rfl (p_mul rfl rfl rfl (by omega)) ?_
        -- calls tangram/tangramlaw04.out
        refine Seq.rel rfl rfl (r_call en19 rfl rfl rfl (fun w' hw => out_calls (own_adjV hw (.cons 1 rfl (.cons 1 rfl (.cons 1 rfl (.cons 1 rfl (.cons 1 rfl .nil))))) hM) v (2 * (es.length : Int)))) ?_
        rintro _ _ ⟨u, rfl, rfl⟩
        have htk : (outs es v).take ((2 * (es.length : Int)).toNat + 1) = outs es v := List.take_of_length_le (by have := outs_le es v; omega)
        rw [htk]
        simp only [List.cons_append, List.nil_append]
        refine Seq.pur rfl rfl (p_move rfl rfl) ?_
        refine Seq.pur rfl rfl (p_extract rfl rfl rfl) ?_
        refine Seq.pur rfl rfl (p_extract rfl rfl rfl) ?_
        refine Seq.pur rfl rfl (p_assign rfl rfl) ?_
        refine Seq.pur rfl rfl (p_assign rfl rfl) ?_
        refine Seq.nil ?_
        refine Fin.then ?_
        refine DC.seq ?_
        refine DC.seq ?_
        refine DC.know2 (φ := ∃ A c, u = .slice A (outs es v).length c) (fun w hw => own_len 0 rfl hw) ?_
        rintro ⟨A, cu, rfl⟩
        refine DC.region ?_
        refine Seq.pur rfl rfl (p_move rfl rfl) ?_
        refine Seq.pur rfl rfl (p_not rfl rfl) ?_
        refine Seq.pur rfl rfl (p_move rfl rfl) ?_
        refine Seq.split 49 rfl (fun k12_2 => ?_) (fun k12_2 => ?_)
        · exact absurd k12_2 (by decide)
          --closed
        · refine Seq.pur rfl rfl (p_move rfl rfl) ?_
          refine Seq.pur rfl rfl (p_len rfl rfl Try.underlying34) ?_
          refine Seq.pur rfl rfl (p_move rfl rfl) ?_
          refine Seq.pur rfl rfl (p_move rfl rfl) ?_
          -- calls (*tangram/csr.Adj).Degree
          refine Seq.rel0 rfl rfl (r_call en18 rfl rfl rfl (fun w' hw => Degree_calls (own_adjV hw (.cons 2 rfl (.cons 2 rfl (.cons 2 rfl (.cons 2 rfl (.cons 2 rfl .nil))))) hM) v)) ?_
          rintro _ rfl
          refine Seq.pur rfl rfl (p_neq rfl rfl rfl) ?_
          refine Seq.pur rfl rfl (p_pick_f rfl rfl rfl) ?_
          refine Seq.nil ?_
          refine Fin.then ?_
          refine DC.cond rfl (fun c12 => ?_) (fun c12 => ?_)
          · exact absurd c12 (by simp)
            --closed
          · refine DC.skip ?_
            refine Fin.then ?_
            refine DC.seq ?_
            refine DC.region ?_
            refine Seq.pur rfl rfl (p_move rfl rfl) ?_
            refine Seq.pur rfl rfl (p_move rfl rfl) ?_
            refine Seq.pur rfl rfl (p_len rfl rfl Try.underlying34) ?_
            refine Seq.pur rfl rfl (p_add rfl rfl rfl (by omega)) ?_
            refine Seq.pur rfl rfl (p_assign rfl rfl) ?_
            refine Seq.nil ?_
            refine Fin.then ?_
            refine DC.seq ?_
            refine DC.region ?_
            refine Seq.pur rfl rfl (p_move rfl rfl) ?_
            refine Seq.pur rfl rfl (p_move rfl rfl) ?_
            -- calls (*tangram/csr.Adj).First
            refine Seq.rel0 rfl rfl (r_call en20 rfl rfl rfl (fun w' hw => First_calls (own_adjV hw (.cons 2 rfl (.cons 2 rfl (.cons 2 rfl (.cons 2 rfl (.cons 2 rfl .nil))))) hM) v)) ?_
            rintro _ rfl
            refine Seq.pur rfl rfl (p_assign rfl rfl) ?_
            refine Seq.nil ?_
            refine Fin.then ?_
            refine DC.seq ?_
            refine DC.seq ?_
            refine DC.region ?_
            refine Seq.pur rfl rfl (p_assign rfl rfl) ?_
            refine Seq.nil ?_
            refine Fin.then ?_
            refine DC.block ?_
            refine DC.loop (ι := Nat) (fun i => i ≤ (outs es v).length) (fun i => [(1, .pointer (some ⟨g1, 0, none⟩)), (3, .pointer (some ⟨M.gp, 0, none⟩)), (5, .slice (some ⟨g30, 0, none⟩) (2 * es.length) (2 * es.length)), (6, .int .i64 (pre es v + (outs es v).length)), (7, .int .i64 v), (8, .slice A (outs es v).length cu), (10, .int .i64 ((outs es v)[i]?.getD (-1))), (11, .int .i64 i)])
              (fun i => [slc (.slice A (outs es v).length cu) 3 1 (ints (outs es v)), blk g30 3 (ints (tab (2 * es.length) (seenF es v i))).toArray, blk M.gp 73 #[sl M.g0 M.fr, sl M.g1 M.st, sl M.g2 M.ou, sl M.g3 M.pl], blk M.g0 3 (ints M.fr).toArray, blk M.g1 3 (ints M.st).toArray, blk M.g2 3 (ints M.ou).toArray, blk M.g3 3 (ints M.pl).toArray, blk g1 25 #[.int .i64 Nn, .slice B es.length cb]]) (fun i => (outs es v).length - i) 0 (Nat.zero_le _) ⟨rfl, rfl, rfl, rfl, rfl, rfl, rfl, rfl, trivial⟩ (Pick.all _) ?_
            intro i hi
            refine DC.seq ?_
            refine DC.seq ?_
            refine DC.region ?_
            refine Seq.pur rfl rfl (p_move rfl rfl) ?_
            refine Seq.pur rfl rfl (p_move rfl rfl) ?_
            refine Seq.pur rfl rfl (p_len rfl rfl Try.underlying34) ?_
            refine Seq.pur rfl rfl (p_lss rfl rfl rfl) ?_
            refine Seq.nil ?_
            refine Fin.then ?_
            refine DC.cond rfl (fun c17 => ?_) (fun c17 => ?_)
            · have hit : i < (outs es v).length := by simpa using c17
              obtain ⟨h, hh⟩ : ∃ h, (outs es v)[i]? = some h := ⟨_, List.getElem?_eq_getElem hit⟩
              obtain ⟨hm0, hm1, hm2⟩ := (mem_outs hV).1 (List.mem_of_getElem? hh)
              obtain ⟨e, a, he, hea⟩ := half_ends hm0 hm1
              have hoe := hV.ok e a he
              have hoe1 := hoe.lt
              have htw := tw_range hm0 hm1
              have hfw : fromV es (tw h) = toV es h := by unfold toV; rw [if_pos hm0]
              have hs0 := seen_at hV hh
              have hhd : (outs es v)[i]?.getD (-1) = h := by rw [hh]; rfl
              rw [hhd]
              obtain ⟨ae, rfl, hU, hVe⟩ := hr.pair he
              refine DC.know2 (φ := ∃ ad, A = some ad) (fun w hw => by
                obtain ⟨A', c, h1, hc, _⟩ := slv_own hw 0 rfl (by omega)
                obtain ⟨ad, h2, _⟩ := hc.int hh
                cases h1
                exact ⟨ad, h2⟩) ?_
              rintro ⟨ad, rfl⟩
              refine DC.skip ?_
              refine Fin.then ?_
              refine DC.seq ?_
              refine DC.block ?_
              refine DC.seq ?_
              refine DC.seq ?_
              refine DC.region ?_
              refine Seq.pur rfl rfl (p_move rfl rfl) ?_
              refine Seq.pur rfl rfl (p_move rfl rfl) ?_
              refine Seq.pur rfl rfl (p_index1 (ad' := ad.add i) rfl rfl rfl Try.underlying34 sz3 (by omega) (by omega) rfl) ?_
              refine Seq.val rfl rfl (v_load rfl rfl ag3 (has_elt 0 rfl (by omega) hh)) ?_
              refine Seq.pur rfl rfl (p_move rfl rfl) ?_
              refine Seq.pur rfl rfl (p_neq rfl rfl rfl) ?_
              refine Seq.pur rfl rfl (p_move rfl rfl) ?_
              refine Seq.split 76 rfl (fun k19_6 => ?_) (fun k19_6 => ?_)
              · exact absurd k19_6 (by simp)
                --closed
              · refine Seq.pur rfl rfl (p_move rfl rfl) ?_
                refine Seq.pur rfl rfl (p_lss rfl rfl rfl) ?_
                refine Seq.pur rfl rfl (p_pick_f rfl rfl rfl) ?_
                refine Seq.pur rfl rfl (p_move rfl rfl) ?_
                refine Seq.split 80 rfl (fun k19_10 => ?_) (fun k19_10 => ?_)
                · exact absurd k19_10 (by simp; omega)
                  --closed
                · refine Seq.pur rfl rfl (p_move rfl rfl) ?_
                  refine Seq.pur rfl rfl (p_move rfl rfl) ?_
                  refine Seq.pur rfl rfl (p_len rfl rfl Try.underlying34) ?_
                  refine Seq.pur rfl rfl (p_geq rfl rfl rfl) ?_
                  refine Seq.pur rfl rfl (p_pick_f rfl rfl rfl) ?_
                  refine Seq.pur rfl rfl (p_move rfl rfl) ?_
                  refine Seq.split 86 rfl (fun k19_16 => ?_) (fun k19_16 => ?_)
                  · exact absurd k19_16 (by simp; omega)
                    --closed
                  · refine Seq.pur rfl rfl (p_move rfl rfl) ?_
                    refine Seq.pur rfl rfl (p_move rfl rfl) ?_
                    -- calls (*tangram/csr.Adj).From
                    refine Seq.rel0 rfl rfl (r_call en21 rfl rfl rfl (fun w' hw => From_calls (own_adjV hw (.cons 2 rfl (.cons 2 rfl (.cons 2 rfl (.cons 2 rfl (.cons 2 rfl .nil))))) hM) h)) ?_
                    rintro _ rfl
                    refine Seq.pur rfl rfl (p_move rfl rfl) ?_
                    refine Seq.pur rfl rfl (p_neq rfl rfl rfl) ?_
                    refine Seq.pur rfl rfl (p_pick_f rfl rfl rfl) ?_
                    refine Seq.pur rfl rfl (p_move rfl rfl) ?_
                    refine Seq.split 93 rfl (fun k19_23 => ?_) (fun k19_23 => ?_)
                    · exact absurd k19_23 (by simp; exact hm2)
                      --closed
                    · refine Seq.pur rfl rfl (p_move rfl rfl) ?_
                      refine Seq.pur rfl rfl (p_move rfl rfl) ?_
                      refine Seq.pur rfl rfl (p_xor1 (i := h) rfl rfl rfl (by omega)) ?_
                      -- calls (*tangram/csr.Adj).From
                      refine Seq.rel0 rfl rfl (r_call en21 rfl rfl rfl (fun w' hw => From_calls (own_adjV hw (.cons 2 rfl (.cons 2 rfl (.cons 2 rfl (.cons 2 rfl (.cons 2 rfl .nil))))) hM) (tw h))) ?_
                      rintro _ rfl
                      rw [hfw]
                      refine Seq.pur rfl rfl (p_move rfl rfl) ?_
                      refine Seq.pur rfl rfl (p_move rfl rfl) ?_
                      -- calls (*tangram/csr.Adj).To
                      refine Seq.rel0 rfl rfl (r_call en22 rfl rfl rfl (fun w' hw => To_calls (own_adjV hw (.cons 2 rfl (.cons 2 rfl (.cons 2 rfl (.cons 2 rfl (.cons 2 rfl .nil))))) hM) h)) ?_
                      rintro _ rfl
                      refine Seq.pur rfl rfl (p_neq rfl rfl rfl) ?_
                      refine Seq.pur rfl rfl (p_pick_f rfl rfl rfl) ?_
                      refine Seq.pur rfl rfl (p_move rfl rfl) ?_
                      refine Seq.split 103 rfl (fun k19_33 => ?_) (fun k19_33 => ?_)
                      · exact absurd k19_33 (by simp)
                        --closed
                      · refine Seq.pur rfl rfl (p_move rfl rfl) ?_
                        refine Seq.pur rfl rfl (p_gtr rfl rfl rfl) ?_
                        refine Seq.pur rfl rfl (p_move rfl rfl) ?_
                        refine Seq.split 106 rfl (fun k19_36 => ?_) (fun k19_36 => ?_)
                        · have hip : 0 < i := by simpa using k19_36
                          obtain ⟨h', hh'⟩ : ∃ h', (outs es v)[i - 1]? = some h' := ⟨_, List.getElem?_eq_getElem (by omega)⟩
                          have hrise := to_rises hV hh' hh (by omega)
                          refine Seq.pur rfl rfl (p_move rfl rfl) ?_
                          refine Seq.pur rfl rfl (p_move rfl rfl) ?_
                          refine Seq.pur rfl rfl (p_move rfl rfl) ?_
                          refine Seq.pur rfl rfl (p_sub rfl rfl rfl (by omega)) ?_
                          refine Seq.pur rfl rfl (p_index1 (ad' := ad.add (i - 1)) rfl rfl rfl Try.underlying34 sz3 (by omega) (by omega) (by congr 1; omega)) ?_
                          refine Seq.val rfl rfl (v_load rfl rfl ag3 (has_elt 0 rfl (by omega) hh')) ?_
                          -- calls (*tangram/csr.Adj).To
                          refine Seq.rel0 rfl rfl (r_call en22 rfl rfl rfl (fun w' hw => To_calls (own_adjV hw (.cons 2 rfl (.cons 2 rfl (.cons 2 rfl (.cons 2 rfl (.cons 2 rfl .nil))))) hM) h')) ?_
                          rintro _ rfl
                          refine Seq.pur rfl rfl (p_move rfl rfl) ?_
                          refine Seq.pur rfl rfl (p_move rfl rfl) ?_
                          -- calls (*tangram/csr.Adj).To
                          refine Seq.rel0 rfl rfl (r_call en22 rfl rfl rfl (fun w' hw => To_calls (own_adjV hw (.cons 2 rfl (.cons 2 rfl (.cons 2 rfl (.cons 2 rfl (.cons 2 rfl .nil))))) hM) h)) ?_
                          rintro _ rfl
                          refine Seq.pur rfl rfl (p_geq rfl rfl rfl) ?_
                          refine Seq.pur rfl rfl (p_pick_t rfl rfl rfl) ?_
                          refine Seq.pur rfl rfl (p_pick_f rfl rfl rfl) ?_
                          refine Seq.nil ?_
                          refine Fin.then ?_
                          refine DC.cond rfl (fun c19 => ?_) (fun c19 => ?_)
                          · exact absurd c19 (by simp; exact hrise)
                            --closed
                          · refine DC.skip ?_
                            refine Fin.then ?_
                            refine DC.seq ?_
                            refine DC.region ?_
                            refine Seq.pur rfl rfl (p_field rfl rfl fi25_1 (by first | exact add_at0 _ _ | exact add_at _ _ _ | rfl)) ?_
                            refine Seq.val rfl rfl (v_load rfl rfl ag23 (by first | exact has_blk rfl | exact has_old' (by assumption))) ?_
                            refine Seq.pur rfl rfl (p_move rfl rfl) ?_
                            refine Seq.pur rfl rfl (p_quo (i := h) (j := 2) rfl rfl rfl (by omega) (by omega)) ?_
                            refine Seq.pur rfl rfl (p_index (ad' := ae.add (e * 2)) rfl rfl rfl Try.underlying23 sz39 (by omega) (by have := (List.getElem?_eq_some_iff.1 he).1; omega) (by congr 1; omega)) ?_
                            refine Seq.val rfl rfl (v_loads (vs := [_, _]) rfl rfl ag39 sz39 rfl (hass2 hU hVe (by simp))) ?_
                            refine Seq.new rfl rfl (n_alloc rfl ze39 rfl) fun g12 => ?_
                            refine Seq.sto rfl rfl (s_stores (cs' := #[_, _]) rfl rfl rfl sz39 rfl (Nat.le_of_ble_eq_true rfl) rfl) ?_
                            refine Seq.nil ?_
                            refine Fin.then ?_
                            refine DC.seq ?_
                            refine DC.seq ?_
                            refine DC.flow (cl := [.q, .q, .v, .q, .q, .q, .q, .r, .q, .v, .q, .q, .q, .q, .q, .q, .q, .q, .q, .q, .v, .q, .q, .q, .q, .r, .q, .v, .q, .q, .q, .q, .q, .q, .q, .q]) (A := [0, 0, 2, 7, 15, 31, 31, 127, 31, 287, 1023, 2047, 4095, 8191, 16383, 32767, 65535, 131071, 262143, 262143, 786431, 2097151, 4194303, 8388607, 8388607, 33554431, 8388607, 75497471, 268435455, 536870911, 1073741823, 2147483647, 4294967295, 8589934591, 17179869183, 34359738367]) (order := [0, 1, 2, 3, 4, 5, 6, 7, 8, 9, 10, 11, 12, 13, 14, 15, 16, 17, 18, 19, 20, 21, 22, 23, 24, 25, 26, 27, 28, 29, 30, 31, 32, 33, 34, 35]) [] mixed (by kernel_rfl) (fun w hw => hw.pick .nil) ?_
                            refine Flow.pur rfl rfl rfl (p_move rfl rfl) ?_
                            refine Flow.pur rfl rfl rfl (p_field rfl rfl fi39_0 (by first | exact add_at0 _ _ | exact add_at _ _ _ | rfl)) ?_
                            refine Flow.valS rfl rfl rfl rfl (v_load rfl rfl ag3 (by first | exact has_blk rfl | exact has_old' (by assumption))) ?_
                            refine Flow.pur rfl rfl rfl (p_neq rfl rfl rfl) ?_
                            refine Flow.pur rfl rfl rfl (p_move rfl rfl) ?_
                            refine Flow.split 130 rfl (fun k22_4 => ?_) (fun k22_4 => ?_)
                            · refine Flow.skip rfl rfl rfl ?_
                              refine Flow.skip rfl rfl rfl ?_
                              refine Flow.skip rfl rfl rfl ?_
                              refine Flow.skip rfl rfl rfl ?_
                              refine Flow.skip rfl rfl rfl ?_
                              refine Flow.skip rfl rfl rfl ?_
                              refine Flow.pur rfl rfl rfl (p_pick_t rfl rfl rfl) ?_
                              refine Flow.pur rfl rfl rfl (p_move rfl rfl) ?_
                              refine Flow.skip rfl rfl rfl ?_
                              refine Flow.skip rfl rfl rfl ?_
                              refine Flow.skip rfl rfl rfl ?_
                              refine Flow.pur rfl rfl rfl (p_pick_t rfl rfl rfl) ?_
                              refine Flow.pur rfl rfl rfl (p_move rfl rfl) ?_
                              refine Flow.pur rfl rfl rfl (p_move rfl rfl) ?_
                              refine Flow.pur rfl rfl rfl (p_field rfl rfl fi39_1 (by first | exact add_at0 _ _ | exact add_at _ _ _ | rfl)) ?_
                              refine Flow.valS rfl rfl rfl rfl (v_load rfl rfl ag3 (by first | exact has_blk rfl | exact has_old' (by assumption))) ?_
                              refine Flow.pur rfl rfl rfl (p_neq rfl rfl rfl) ?_
                              refine Flow.pur rfl rfl rfl (p_move rfl rfl) ?_
                              refine Flow.split 148 rfl (fun k22_22 => ?_) (fun k22_22 => ?_)
                              · exact absurd k22_22 (by simp at k22_4 ⊢; rcases hea with ⟨q1, q2, q3⟩ | ⟨q1, q2, q3⟩ <;> omega)
                                --closed
                              · refine Flow.pur rfl rfl rfl (p_move rfl rfl) ?_
                                refine Flow.pur rfl rfl rfl (p_move rfl rfl) ?_
                                -- calls (*tangram/csr.Adj).To
                                refine Flow.rel0 rfl rfl rfl rfl (r_call en22 rfl rfl rfl (fun w' hw => To_calls (own_adjV hw (.cons 3 rfl (.cons 3 rfl (.cons 3 rfl (.cons 3 rfl (.cons 3 rfl .nil))))) hM) h)) ?_
                                rintro _ rfl
                                refine Flow.pur rfl rfl rfl (p_field rfl rfl fi39_0 (by first | exact add_at0 _ _ | exact add_at _ _ _ | rfl)) ?_
                                refine Flow.valS rfl rfl rfl rfl (v_load rfl rfl ag3 (by first | exact has_blk rfl | exact has_old' (by assumption))) ?_
                                refine Flow.pur rfl rfl rfl (p_neq rfl rfl rfl) ?_
                                refine Flow.pur rfl rfl rfl (p_pick_f rfl rfl rfl) ?_
                                refine Flow.pur rfl rfl rfl (p_move rfl rfl) ?_
                                refine Flow.split 156 rfl (fun k22_30 => ?_) (fun k22_30 => ?_)
                                · exact absurd k22_30 (by simp at k22_4 ⊢; rcases hea with ⟨q1, q2, q3⟩ | ⟨q1, q2, q3⟩ <;> omega)
                                  --closed
                                · refine Flow.pur rfl rfl rfl (p_move rfl rfl) ?_
                                  refine Flow.pur rfl rfl rfl (p_rem rfl rfl rfl (by omega) (by omega)) ?_
                                  refine Flow.pur rfl rfl rfl (p_neq rfl rfl rfl) ?_
                                  refine Flow.pur rfl rfl rfl (p_pick_f rfl rfl rfl) ?_
                                  refine Flow.pur rfl rfl rfl (p_pick_t rfl rfl rfl) ?_
                                  refine Flow.end rfl ?_
                                  simp only [List.map_cons, List.map_nil, List.nil_append, List.cons_append, List.append_nil]
                                  refine Fin.then ?_
                                  refine DC.cond rfl (fun c22 => ?_) (fun c22 => ?_)
                                  · exact absurd c22 (by simp at k22_4 ⊢; rcases hea with ⟨q1, q2, q3⟩ | ⟨q1, q2, q3⟩ <;> omega)
                                    --closed
                                  · refine DC.skip ?_
                                    refine Fin.then ?_
                                    refine DC.seq ?_
                                    refine DC.region ?_
                                    refine Seq.pur rfl rfl (p_move rfl rfl) ?_
                                    refine Seq.pur rfl rfl (p_move rfl rfl) ?_
                                    refine Seq.pur rfl rfl (p_index1 (ad' := ⟨g30, h.toNat, none⟩) rfl rfl rfl Try.underlying34 sz3 (by omega) (by omega) (add_at0 _ _)) ?_
                                    refine Seq.val rfl rfl (v_load rfl rfl ag3 (has_row (row_getT (n := 2 * es.length) (f := seenF es v i) (i := h.toNat) (by omega)))) ?_
                                    rw [hs0]
                                    refine Seq.pur rfl rfl (p_add rfl rfl rfl (by omega)) ?_
                                    refine Seq.pur rfl rfl (p_index1 (ad' := ⟨g30, h.toNat, none⟩) rfl rfl rfl Try.underlying34 sz3 (by omega) (by omega) (add_at0 _ _)) ?_
                                    refine Seq.sto rfl rfl (s_store (cs' := (ints (tab (2 * es.length) (upd (seenF es v i) h.toNat 1))).toArray) rfl rfl rfl sz3 rfl (by simp; omega) row_tab) ?_
                                    refine Seq.nil ?_
                                    refine Fin.then ?_
                                    refine DC.region ?_
                                    refine Seq.pur rfl rfl (p_move rfl rfl) ?_
                                    refine Seq.pur rfl rfl (p_move rfl rfl) ?_
                                    -- calls (*tangram/csr.Adj).After
                                    refine Seq.rel0 rfl rfl (r_call en23 rfl rfl rfl (fun w' hw => afterS_in (own_adjV hw (.cons 3 rfl (.cons 3 rfl (.cons 3 rfl (.cons 3 rfl (.cons 3 rfl .nil))))) hM) hh)) ?_
                                    rintro _ rfl
                                    refine Seq.pur rfl rfl (p_assign rfl rfl) ?_
                                    refine Seq.nil ?_
                                    refine Fin.inBlock ?_
                                    refine Fin.then ?_
                                    refine DC.region ?_
                                    refine Seq.pur rfl rfl (p_move rfl rfl) ?_
                                    refine Seq.pur rfl rfl (p_add rfl rfl rfl (by omega)) ?_
                                    refine Seq.pur rfl rfl (p_assign rfl rfl) ?_
                                    refine Seq.nil ?_
                                    refine Fin.again (i + 1) (by omega) (by omega) ⟨rfl, rfl, rfl, rfl, rfl, rfl, rfl, rfl, trivial⟩ (.cons 1 rfl (Pick.cons' 1 rfl (blk_tab fun k _ => seen_upd hV hh k) (.cons 1 rfl (.cons 1 rfl (.cons 1 rfl (.cons 1 rfl (.cons 1 rfl (.cons 1 rfl .nil))))))))
                            · refine Flow.pur rfl rfl rfl (p_move rfl rfl) ?_
                              refine Flow.pur rfl rfl rfl (p_move rfl rfl) ?_
                              -- calls (*tangram/csr.Adj).To
                              refine Flow.rel0 rfl rfl rfl rfl (r_call en22 rfl rfl rfl (fun w' hw => To_calls (own_adjV hw (.cons 3 rfl (.cons 3 rfl (.cons 3 rfl (.cons 3 rfl (.cons 3 rfl .nil))))) hM) h)) ?_
                              rintro _ rfl
                              refine Flow.pur rfl rfl rfl (p_field rfl rfl fi39_1 (by first | exact add_at0 _ _ | exact add_at _ _ _ | rfl)) ?_
                              refine Flow.valS rfl rfl rfl rfl (v_load rfl rfl ag3 (by first | exact has_blk rfl | exact has_old' (by assumption))) ?_
                              refine Flow.pur rfl rfl rfl (p_neq rfl rfl rfl) ?_
                              refine Flow.pur rfl rfl rfl (p_pick_f rfl rfl rfl) ?_
                              refine Flow.pur rfl rfl rfl (p_move rfl rfl) ?_
                              refine Flow.split 138 rfl (fun k22_12 => ?_) (fun k22_12 => ?_)
                              · exact absurd k22_12 (by simp at k22_4 ⊢; rcases hea with ⟨q1, q2, q3⟩ | ⟨q1, q2, q3⟩ <;> omega)
                                --closed
                              · refine Flow.pur rfl rfl rfl (p_move rfl rfl) ?_
                                refine Flow.pur rfl rfl rfl (p_rem rfl rfl rfl (by omega) (by omega)) ?_
                                refine Flow.pur rfl rfl rfl (p_neq rfl rfl rfl) ?_
                                refine Flow.pur rfl rfl rfl (p_pick_f rfl rfl rfl) ?_
                                refine Flow.pur rfl rfl rfl (p_move rfl rfl) ?_
                                refine Flow.split 143 rfl (fun k22_17 => ?_) (fun k22_17 => ?_)
                                · exact absurd k22_17 (by simp at k22_4 ⊢; rcases hea with ⟨q1, q2, q3⟩ | ⟨q1, q2, q3⟩ <;> omega)
                                  --closed
                                · refine Flow.skip rfl rfl rfl ?_
                                  refine Flow.skip rfl rfl rfl ?_
                                  refine Flow.skip rfl rfl rfl ?_
                                  refine Flow.skip rfl rfl rfl ?_
                                  refine Flow.skip rfl rfl rfl ?_
                                  refine Flow.skip rfl rfl rfl ?_
                                  refine Flow.skip rfl rfl rfl ?_
                                  refine Flow.skip rfl rfl rfl ?_
                                  refine Flow.skip rfl rfl rfl ?_
                                  refine Flow.skip rfl rfl rfl ?_
                                  refine Flow.skip rfl rfl rfl ?_
                                  refine Flow.skip rfl rfl rfl ?_
                                  refine Flow.skip rfl rfl rfl ?_
                                  refine Flow.skip rfl rfl rfl ?_
                                  refine Flow.skip rfl rfl rfl ?_
                                  refine Flow.skip rfl rfl rfl ?_
                                  refine Flow.skip rfl rfl rfl ?_
                                  refine Flow.pur rfl rfl rfl (p_pick_f rfl rfl rfl) ?_
                                  refine Flow.end rfl ?_
                                  simp only [List.map_cons, List.map_nil, List.nil_append, List.cons_append, List.append_nil]
                                  refine Fin.then ?_
                                  refine DC.cond_f rfl ?_
                                  refine DC.skip ?_
                                  refine Fin.then ?_
                                  refine DC.seq ?_
                                  refine DC.region ?_
                                  refine Seq.pur rfl rfl (p_move rfl rfl) ?_
                                  refine Seq.pur rfl rfl (p_move rfl rfl) ?_
                                  refine Seq.pur rfl rfl (p_index1 (ad' := ⟨g30, h.toNat, none⟩) rfl rfl rfl Try.underlying34 sz3 (by omega) (by omega) (add_at0 _ _)) ?_
                                  refine Seq.val rfl rfl (v_load rfl rfl ag3 (has_row (row_getT (n := 2 * es.length) (f := seenF es v i) (i := h.toNat) (by omega)))) ?_
                                  rw [hs0]
                                  refine Seq.pur rfl rfl (p_add rfl rfl rfl (by omega)) ?_
                                  refine Seq.pur rfl rfl (p_index1 (ad' := ⟨g30, h.toNat, none⟩) rfl rfl rfl Try.underlying34 sz3 (by omega) (by omega) (add_at0 _ _)) ?_
                                  refine Seq.sto rfl rfl (s_store (cs' := (ints (tab (2 * es.length) (upd (seenF es v i) h.toNat 1))).toArray) rfl rfl rfl sz3 rfl (by simp; omega) row_tab) ?_
                                  refine Seq.nil ?_
                                  refine Fin.then ?_
                                  refine DC.region ?_
                                  refine Seq.pur rfl rfl (p_move rfl rfl) ?_
                                  refine Seq.pur rfl rfl (p_move rfl rfl) ?_
                                  -- calls (*tangram/csr.Adj).After
                                  refine Seq.rel0 rfl rfl (r_call en23 rfl rfl rfl (fun w' hw => afterS_in (own_adjV hw (.cons 3 rfl (.cons 3 rfl (.cons 3 rfl (.cons 3 rfl (.cons 3 rfl .nil))))) hM) hh)) ?_
                                  rintro _ rfl
                                  refine Seq.pur rfl rfl (p_assign rfl rfl) ?_
                                  refine Seq.nil ?_
                                  refine Fin.inBlock ?_
                                  refine Fin.then ?_
                                  refine DC.region ?_
                                  refine Seq.pur rfl rfl (p_move rfl rfl) ?_
                                  refine Seq.pur rfl rfl (p_add rfl rfl rfl (by omega)) ?_
                                  refine Seq.pur rfl rfl (p_assign rfl rfl) ?_
                                  refine Seq.nil ?_
                                  refine Fin.again (i + 1) (by omega) (by omega) ⟨rfl, rfl, rfl, rfl, rfl, rfl, rfl, rfl, trivial⟩ (.cons 1 rfl (Pick.cons' 1 rfl (blk_tab fun k _ => seen_upd hV hh k) (.cons 1 rfl (.cons 1 rfl (.cons 1 rfl (.cons 1 rfl (.cons 1 rfl (.cons 1 rfl .nil))))))))
                        · refine Seq.skip rfl rfl ?_
                          refine Seq.skip rfl rfl ?_
                          refine Seq.skip rfl rfl ?_
                          refine Seq.skip rfl rfl ?_
                          refine Seq.skip rfl rfl ?_
                          refine Seq.skip rfl rfl ?_
                          refine Seq.skip rfl rfl ?_
                          refine Seq.skip rfl rfl ?_
                          refine Seq.skip rfl rfl ?_
                          refine Seq.skip rfl rfl ?_
                          refine Seq.skip rfl rfl ?_
                          refine Seq.pur rfl rfl (p_pick_f rfl rfl rfl) ?_
                          refine Seq.pur rfl rfl (p_pick_f rfl rfl rfl) ?_
                          refine Seq.nil ?_
                          refine Fin.then ?_
                          refine DC.cond_f rfl ?_
                          refine DC.skip ?_
                          refine Fin.then ?_
                          refine DC.seq ?_
                          refine DC.region ?_
                          refine Seq.pur rfl rfl (p_field rfl rfl fi25_1 (by first | exact add_at0 _ _ | exact add_at _ _ _ | rfl)) ?_
                          refine Seq.val rfl rfl (v_load rfl rfl ag23 (by first | exact has_blk rfl | exact has_old' (by assumption))) ?_
                          refine Seq.pur rfl rfl (p_move rfl rfl) ?_
                          refine Seq.pur rfl rfl (p_quo (i := h) (j := 2) rfl rfl rfl (by omega) (by omega)) ?_
                          refine Seq.pur rfl rfl (p_index (ad' := ae.add (e * 2)) rfl rfl rfl Try.underlying23 sz39 (by omega) (by have := (List.getElem?_eq_some_iff.1 he).1; omega) (by congr 1; omega)) ?_
                          refine Seq.val rfl rfl (v_loads (vs := [_, _]) rfl rfl ag39 sz39 rfl (hass2 hU hVe (by simp))) ?_
                          refine Seq.new rfl rfl (n_alloc rfl ze39 rfl) fun g12 => ?_
                          refine Seq.sto rfl rfl (s_stores (cs' := #[_, _]) rfl rfl rfl sz39 rfl (Nat.le_of_ble_eq_true rfl) rfl) ?_
                          refine Seq.nil ?_
                          refine Fin.then ?_
                          refine DC.seq ?_
                          refine DC.seq ?_
                          refine DC.flow (cl := [.q, .q, .v, .q, .q, .q, .q, .r, .q, .v, .q, .q, .q, .q, .q, .q, .q, .q, .q, .q, .v, .q, .q, .q, .q, .r, .q, .v, .q, .q, .q, .q, .q, .q, .q, .q]) (A := [0, 0, 2, 7, 15, 31, 31, 127, 31, 287, 1023, 2047, 4095, 8191, 16383, 32767, 65535, 131071, 262143, 262143, 786431, 2097151, 4194303, 8388607, 8388607, 33554431, 8388607, 75497471, 268435455, 536870911, 1073741823, 2147483647, 4294967295, 8589934591, 17179869183, 34359738367]) (order := [0, 1, 2, 3, 4, 5, 6, 7, 8, 9, 10, 11, 12, 13, 14, 15, 16, 17, 18, 19, 20, 21, 22, 23, 24, 25, 26, 27, 28, 29, 30, 31, 32, 33, 34, 35]) [] mixed (by kernel_rfl) (fun w hw => hw.pick .nil) ?_
                          refine Flow.pur rfl rfl rfl (p_move rfl rfl) ?_
                          refine Flow.pur rfl rfl rfl (p_field rfl rfl fi39_0 (by first | exact add_at0 _ _ | exact add_at _ _ _ | rfl)) ?_
                          refine Flow.valS rfl rfl rfl rfl (v_load rfl rfl ag3 (by first | exact has_blk rfl | exact has_old' (by assumption))) ?_
                          refine Flow.pur rfl rfl rfl (p_neq rfl rfl rfl) ?_
                          refine Flow.pur rfl rfl rfl (p_move rfl rfl) ?_
                          refine Flow.split 130 rfl (fun k22_4 => ?_) (fun k22_4 => ?_)
                          · refine Flow.skip rfl rfl rfl ?_
                            refine Flow.skip rfl rfl rfl ?_
                            refine Flow.skip rfl rfl rfl ?_
                            refine Flow.skip rfl rfl rfl ?_
                            refine Flow.skip rfl rfl rfl ?_
                            refine Flow.skip rfl rfl rfl ?_
                            refine Flow.pur rfl rfl rfl (p_pick_t rfl rfl rfl) ?_
                            refine Flow.pur rfl rfl rfl (p_move rfl rfl) ?_
                            refine Flow.skip rfl rfl rfl ?_
                            refine Flow.skip rfl rfl rfl ?_
                            refine Flow.skip rfl rfl rfl ?_
                            refine Flow.pur rfl rfl rfl (p_pick_t rfl rfl rfl) ?_
                            refine Flow.pur rfl rfl rfl (p_move rfl rfl) ?_
                            refine Flow.pur rfl rfl rfl (p_move rfl rfl) ?_
                            refine Flow.pur rfl rfl rfl (p_field rfl rfl fi39_1 (by first | exact add_at0 _ _ | exact add_at _ _ _ | rfl)) ?_
                            refine Flow.valS rfl rfl rfl rfl (v_load rfl rfl ag3 (by first | exact has_blk rfl | exact has_old' (by assumption))) ?_
                            refine Flow.pur rfl rfl rfl (p_neq rfl rfl rfl) ?_
                            refine Flow.pur rfl rfl rfl (p_move rfl rfl) ?_
                            refine Flow.split 148 rfl (fun k22_22 => ?_) (fun k22_22 => ?_)
                            · exact absurd k22_22 (by simp at k22_4 ⊢; rcases hea with ⟨q1, q2, q3⟩ | ⟨q1, q2, q3⟩ <;> omega)
                              --closed
                            · refine Flow.pur rfl rfl rfl (p_move rfl rfl) ?_
                              refine Flow.pur rfl rfl rfl (p_move rfl rfl) ?_
                              -- calls (*tangram/csr.Adj).To
                              refine Flow.rel0 rfl rfl rfl rfl (r_call en22 rfl rfl rfl (fun w' hw => To_calls (own_adjV hw (.cons 3 rfl (.cons 3 rfl (.cons 3 rfl (.cons 3 rfl (.cons 3 rfl .nil))))) hM) h)) ?_
                              rintro _ rfl
                              refine Flow.pur rfl rfl rfl (p_field rfl rfl fi39_0 (by first | exact add_at0 _ _ | exact add_at _ _ _ | rfl)) ?_
                              refine Flow.valS rfl rfl rfl rfl (v_load rfl rfl ag3 (by first | exact has_blk rfl | exact has_old' (by assumption))) ?_
                              refine Flow.pur rfl rfl rfl (p_neq rfl rfl rfl) ?_
                              refine Flow.pur rfl rfl rfl (p_pick_f rfl rfl rfl) ?_
                              refine Flow.pur rfl rfl rfl (p_move rfl rfl) ?_
                              refine Flow.split 156 rfl (fun k22_30 => ?_) (fun k22_30 => ?_)
                              · exact absurd k22_30 (by simp at k22_4 ⊢; rcases hea with ⟨q1, q2, q3⟩ | ⟨q1, q2, q3⟩ <;> omega)
                                --closed
                              · refine Flow.pur rfl rfl rfl (p_move rfl rfl) ?_
                                refine Flow.pur rfl rfl rfl (p_rem rfl rfl rfl (by omega) (by omega)) ?_
                                refine Flow.pur rfl rfl rfl (p_neq rfl rfl rfl) ?_
                                refine Flow.pur rfl rfl rfl (p_pick_f rfl rfl rfl) ?_
                                refine Flow.pur rfl rfl rfl (p_pick_t rfl rfl rfl) ?_
                                refine Flow.end rfl ?_
                                simp only [List.map_cons, List.map_nil, List.nil_append, List.cons_append, List.append_nil]
                                refine Fin.then ?_
                                refine DC.cond rfl (fun c22 => ?_) (fun c22 => ?_)
                                · exact absurd c22 (by simp at k22_4 ⊢; rcases hea with ⟨q1, q2, q3⟩ | ⟨q1, q2, q3⟩ <;> omega)
                                  --closed
                                · refine DC.skip ?_
                                  refine Fin.then ?_
                                  refine DC.seq ?_
                                  refine DC.region ?_
                                  refine Seq.pur rfl rfl (p_move rfl rfl) ?_
                                  refine Seq.pur rfl rfl (p_move rfl rfl) ?_
                                  refine Seq.pur rfl rfl (p_index1 (ad' := ⟨g30, h.toNat, none⟩) rfl rfl rfl Try.underlying34 sz3 (by omega) (by omega) (add_at0 _ _)) ?_
                                  refine Seq.val rfl rfl (v_load rfl rfl ag3 (has_row (row_getT (n := 2 * es.length) (f := seenF es v i) (i := h.toNat) (by omega)))) ?_
                                  rw [hs0]
                                  refine Seq.pur rfl rfl (p_add rfl rfl rfl (by omega)) ?_
                                  refine Seq.pur rfl rfl (p_index1 (ad' := ⟨g30, h.toNat, none⟩) rfl rfl rfl Try.underlying34 sz3 (by omega) (by omega) (add_at0 _ _)) ?_
                                  refine Seq.sto rfl rfl (s_store (cs' := (ints (tab (2 * es.length) (upd (seenF es v i) h.toNat 1))).toArray) rfl rfl rfl sz3 rfl (by simp; omega) row_tab) ?_
                                  refine Seq.nil ?_
                                  refine Fin.then ?_
                                  refine DC.region ?_
                                  refine Seq.pur rfl rfl (p_move rfl rfl) ?_
                                  refine Seq.pur rfl rfl (p_move rfl rfl) ?_
                                  -- calls (*tangram/csr.Adj).After
                                  refine Seq.rel0 rfl rfl (r_call en23 rfl rfl rfl (fun w' hw => afterS_in (own_adjV hw (.cons 3 rfl (.cons 3 rfl (.cons 3 rfl (.cons 3 rfl (.cons 3 rfl .nil))))) hM) hh)) ?_
                                  rintro _ rfl
                                  refine Seq.pur rfl rfl (p_assign rfl rfl) ?_
                                  refine Seq.nil ?_
                                  refine Fin.inBlock ?_
                                  refine Fin.then ?_
                                  refine DC.region ?_
                                  refine Seq.pur rfl rfl (p_move rfl rfl) ?_
                                  refine Seq.pur rfl rfl (p_add rfl rfl rfl (by omega)) ?_
                                  refine Seq.pur rfl rfl (p_assign rfl rfl) ?_
                                  refine Seq.nil ?_
                                  refine Fin.again (i + 1) (by omega) (by omega) ⟨rfl, rfl, rfl, rfl, rfl, rfl, rfl, rfl, trivial⟩ (.cons 1 rfl (Pick.cons' 1 rfl (blk_tab fun k _ => seen_upd hV hh k) (.cons 1 rfl (.cons 1 rfl (.cons 1 rfl (.cons 1 rfl (.cons 1 rfl (.cons 1 rfl .nil))))))))
                          · refine Flow.pur rfl rfl rfl (p_move rfl rfl) ?_
                            refine Flow.pur rfl rfl rfl (p_move rfl rfl) ?_
                            -- calls (*tangram/csr.Adj).To
                            refine Flow.rel0 rfl rfl rfl rfl (r_call en22 rfl rfl rfl (fun w' hw => To_calls (own_adjV hw (.cons 3 rfl (.cons 3 rfl (.cons 3 rfl (.cons 3 rfl (.cons 3 rfl .nil))))) hM) h)) ?_
                            rintro _ rfl
                            refine Flow.pur rfl rfl rfl (p_field rfl rfl fi39_1 (by first | exact add_at0 _ _ | exact add_at _ _ _ | rfl)) ?_
                            refine Flow.valS rfl rfl rfl rfl (v_load rfl rfl ag3 (by first | exact has_blk rfl | exact has_old' (by assumption))) ?_
                            refine Flow.pur rfl rfl rfl (p_neq rfl rfl rfl) ?_
                            refine Flow.pur rfl rfl rfl (p_pick_f rfl rfl rfl) ?_
                            refine Flow.pur rfl rfl rfl (p_move rfl rfl) ?_
                            refine Flow.split 138 rfl (fun k22_12 => ?_) (fun k22_12 => ?_)
                            · exact absurd k22_12 (by simp at k22_4 ⊢; rcases hea with ⟨q1, q2, q3⟩ | ⟨q1, q2, q3⟩ <;> omega)
                              --closed
                            · refine Flow.pur rfl rfl rfl (p_move rfl rfl) ?_
                              refine Flow.pur rfl rfl rfl (p_rem rfl rfl rfl (by omega) (by omega)) ?_
                              refine Flow.pur rfl rfl rfl (p_neq rfl rfl rfl) ?_
                              refine Flow.pur rfl rfl rfl (p_pick_f rfl rfl rfl) ?_
                              refine Flow.pur rfl rfl rfl (p_move rfl rfl) ?_
                              refine Flow.split 143 rfl (fun k22_17 => ?_) (fun k22_17 => ?_)
                              · exact absurd k22_17 (by simp at k22_4 ⊢; rcases hea with ⟨q1, q2, q3⟩ | ⟨q1, q2, q3⟩ <;> omega)
                                --closed
                              · refine Flow.skip rfl rfl rfl ?_
                                refine Flow.skip rfl rfl rfl ?_
                                refine Flow.skip rfl rfl rfl ?_
                                refine Flow.skip rfl rfl rfl ?_
                                refine Flow.skip rfl rfl rfl ?_
                                refine Flow.skip rfl rfl rfl ?_
                                refine Flow.skip rfl rfl rfl ?_
                                refine Flow.skip rfl rfl rfl ?_
                                refine Flow.skip rfl rfl rfl ?_
                                refine Flow.skip rfl rfl rfl ?_
                                refine Flow.skip rfl rfl rfl ?_
                                refine Flow.skip rfl rfl rfl ?_
                                refine Flow.skip rfl rfl rfl ?_
                                refine Flow.skip rfl rfl rfl ?_
                                refine Flow.skip rfl rfl rfl ?_
                                refine Flow.skip rfl rfl rfl ?_
                                refine Flow.skip rfl rfl rfl ?_
                                refine Flow.pur rfl rfl rfl (p_pick_f rfl rfl rfl) ?_
                                refine Flow.end rfl ?_
                                simp only [List.map_cons, List.map_nil, List.nil_append, List.cons_append, List.append_nil]
                                refine Fin.then ?_
                                refine DC.cond_f rfl ?_
                                refine DC.skip ?_
                                refine Fin.then ?_
                                refine DC.seq ?_
                                refine DC.region ?_
                                refine Seq.pur rfl rfl (p_move rfl rfl) ?_
                                refine Seq.pur rfl rfl (p_move rfl rfl) ?_
                                refine Seq.pur rfl rfl (p_index1 (ad' := ⟨g30, h.toNat, none⟩) rfl rfl rfl Try.underlying34 sz3 (by omega) (by omega) (add_at0 _ _)) ?_
                                refine Seq.val rfl rfl (v_load rfl rfl ag3 (has_row (row_getT (n := 2 * es.length) (f := seenF es v i) (i := h.toNat) (by omega)))) ?_
                                rw [hs0]
                                refine Seq.pur rfl rfl (p_add rfl rfl rfl (by omega)) ?_
                                refine Seq.pur rfl rfl (p_index1 (ad' := ⟨g30, h.toNat, none⟩) rfl rfl rfl Try.underlying34 sz3 (by omega) (by omega) (add_at0 _ _)) ?_
                                refine Seq.sto rfl rfl (s_store (cs' := (ints (tab (2 * es.length) (upd (seenF es v i) h.toNat 1))).toArray) rfl rfl rfl sz3 rfl (by simp; omega) row_tab) ?_
                                refine Seq.nil ?_
                                refine Fin.then ?_
                                refine DC.region ?_
                                refine Seq.pur rfl rfl (p_move rfl rfl) ?_
                                refine Seq.pur rfl rfl (p_move rfl rfl) ?_
                                -- calls (*tangram/csr.Adj).After
                                refine Seq.rel0 rfl rfl (r_call en23 rfl rfl rfl (fun w' hw => afterS_in (own_adjV hw (.cons 3 rfl (.cons 3 rfl (.cons 3 rfl (.cons 3 rfl (.cons 3 rfl .nil))))) hM) hh)) ?_
                                rintro _ rfl
                                refine Seq.pur rfl rfl (p_assign rfl rfl) ?_
                                refine Seq.nil ?_
                                refine Fin.inBlock ?_
                                refine Fin.then ?_
                                refine DC.region ?_
                                refine Seq.pur rfl rfl (p_move rfl rfl) ?_
                                refine Seq.pur rfl rfl (p_add rfl rfl rfl (by omega)) ?_
                                refine Seq.pur rfl rfl (p_assign rfl rfl) ?_
                                refine Seq.nil ?_
                                refine Fin.again (i + 1) (by omega) (by omega) ⟨rfl, rfl, rfl, rfl, rfl, rfl, rfl, rfl, trivial⟩ (.cons 1 rfl (Pick.cons' 1 rfl (blk_tab fun k _ => seen_upd hV hh k) (.cons 1 rfl (.cons 1 rfl (.cons 1 rfl (.cons 1 rfl (.cons 1 rfl (.cons 1 rfl .nil))))))))
            · have hie : i = (outs es v).length := by simp at c17; omega
              subst hie
              refine DC.exit ?_
              refine Fin.exit_then <| Fin.exit_then <| Fin.exit_here <| ?_
              refine Fin.then ?_
              refine DC.seq ?_
              refine DC.region ?_
              refine Seq.pur rfl rfl (p_move rfl rfl) ?_
              refine Seq.pur rfl rfl (p_neq rfl rfl rfl) ?_
              refine Seq.nil ?_
              refine Fin.then ?_
              refine DC.cond rfl (fun c26 => ?_) (fun c26 => ?_)
              · exact absurd c26 (by simp)
                --closed
              · refine DC.skip ?_
                refine Fin.inBlock ?_
                refine Fin.then ?_
                refine DC.region ?_
                refine Seq.pur rfl rfl (p_move rfl rfl) ?_
                refine Seq.pur rfl rfl (p_add rfl rfl rfl (by omega)) ?_
                refine Seq.pur rfl rfl (p_assign rfl rfl) ?_
                refine Seq.nil ?_
                refine Fin.again (v + 1) (by omega) (by omega) ⟨rfl, rfl, rfl, rfl, rfl, trivial⟩ (Pick.cons' 1 rfl (blk_tab fun k hk => seen_next hV v k hk) (.cons 1 rfl (.cons 1 rfl (.cons 1 rfl (.cons 1 rfl (.cons 1 rfl (.cons 1 rfl .nil)))))))
      · have hve : v = Nn := by simp at c9; omega
        obtain rfl : Nn = v := hve.symm
        refine DC.exit ?_
        refine Fin.exit_then <| Fin.exit_then <| Fin.exit_here <| ?_
        refine Fin.then ?_
        refine DC.seq ?_
        refine DC.seq ?_
        refine DC.region ?_
        refine Seq.pur rfl rfl (p_assign rfl rfl) ?_
        refine Seq.nil ?_
        refine Fin.then ?_
        refine DC.block ?_
        refine DC.loop (ι := Nat) (fun h => h ≤ 2 * es.length) (fun h => [(1, .pointer (some ⟨g1, 0, none⟩)), (3, .pointer (some ⟨M.gp, 0, none⟩)), (5, .slice (some ⟨g30, 0, none⟩) (2 * es.length) (2 * es.length)), (6, .int .i64 (pre es Nn)), (13, .int .i64 h)]) (fun _ => [blk g30 3 (ints (tab (2 * es.length) (seenF es Nn 0))).toArray, blk M.gp 73 #[sl M.g0 M.fr, sl M.g1 M.st, sl M.g2 M.ou, sl M.g3 M.pl], blk M.g0 3 (ints M.fr).toArray, blk M.g1 3 (ints M.st).toArray, blk M.g2 3 (ints M.ou).toArray, blk M.g3 3 (ints M.pl).toArray, blk g1 25 #[.int .i64 Nn, .slice B es.length cb]]) (fun h => 2 * es.length - h) 0 (Nat.zero_le _) ⟨rfl, rfl, rfl, rfl, rfl, trivial⟩ (Pick.all _) ?_
        intro h hh
        refine DC.seq ?_
        refine DC.seq ?_
        refine DC.region ?_
        refine Seq.pur rfl rfl (p_move rfl rfl) ?_
        refine Seq.pur rfl rfl (p_move rfl rfl) ?_
        refine Seq.pur rfl rfl (p_len rfl rfl Try.underlying34) ?_
        refine Seq.pur rfl rfl (p_lss rfl rfl rfl) ?_
        refine Seq.nil ?_
        refine Fin.then ?_
        refine DC.cond rfl (fun c29 => ?_) (fun c29 => ?_)
        · have hht : h < 2 * es.length := by simp at c29; omega
          have hs1 := seen_all hV h hht
          rw [Int.toNat_natCast] at hs1
          refine DC.skip ?_
          refine Fin.then ?_
          refine DC.seq ?_
          refine DC.block ?_
          refine DC.seq ?_
          refine DC.region ?_
          refine Seq.pur rfl rfl (p_move rfl rfl) ?_
          refine Seq.pur rfl rfl (p_move rfl rfl) ?_
          refine Seq.pur rfl rfl (p_index1 (ad' := ⟨g30, h, none⟩) rfl rfl rfl Try.underlying34 sz3 (by omega) (by omega) (add_at0 _ _)) ?_
          refine Seq.val rfl rfl (v_load rfl rfl ag3 (has_row (row_getT (n := 2 * es.length) (f := seenF es Nn 0) (i := h) hht))) ?_
          rw [hs1]
          refine Seq.pur rfl rfl (p_neq rfl rfl rfl) ?_
          refine Seq.nil ?_
          refine Fin.then ?_
          refine DC.cond rfl (fun c31 => ?_) (fun c31 => ?_)
          · exact absurd c31 (by simp)
            --closed
          · refine DC.skip ?_
            refine Fin.inBlock ?_
            refine Fin.then ?_
            refine DC.region ?_
            refine Seq.pur rfl rfl (p_move rfl rfl) ?_
            refine Seq.pur rfl rfl (p_add rfl rfl rfl (by omega)) ?_
            refine Seq.pur rfl rfl (p_assign rfl rfl) ?_
            refine Seq.nil ?_
            refine Fin.again (h + 1) (by omega) (by omega) ⟨rfl, rfl, rfl, rfl, rfl, trivial⟩ (Pick.all _)
        · refine DC.exit ?_
          refine Fin.exit_then <| Fin.exit_then <| Fin.exit_here <| ?_
          refine Fin.then ?_
          refine DC.seq ?_
          refine DC.region ?_
          refine Seq.pur rfl rfl (p_move rfl rfl) ?_
          refine Seq.pur rfl rfl (p_move rfl rfl) ?_
          -- calls (*tangram/csr.Adj).M
          refine Seq.rel0 rfl rfl (r_call en24 rfl rfl rfl (fun w' hw => M_calls (own_adjV hw (.cons 1 rfl (.cons 1 rfl (.cons 1 rfl (.cons 1 rfl (.cons 1 rfl .nil))))) hM))) ?_
          rintro _ rfl
          refine Seq.pur rfl rfl (p_mul rfl rfl rfl (by omega)) ?_
          refine Seq.pur rfl rfl (p_eql rfl rfl rfl) ?_
          refine Seq.pur rfl rfl (p_assign rfl rfl) ?_
          refine Seq.nil ?_
          refine Fin.then ?_
          refine DC.ret ?_
          refine Fin.end1 (.inl rfl) rfl rfl ?_
          simp; omega
theorem CsrShape_calls {N : Int} {es : List Pr} {va : Value} {w : World} (hg : PrV w va es) :
    Calls Try.prog 5 #[.agg #[.int .i64 N, va]] w (Ret w [] fun v L => v = .bool true) := by
  by_cases hV : Vld N es
  · exact CsrShape_yes hg hV
  · exact CsrShape_no hg hV
end Go.Fl
