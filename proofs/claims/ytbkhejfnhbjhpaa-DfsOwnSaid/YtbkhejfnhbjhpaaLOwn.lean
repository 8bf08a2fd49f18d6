/- The law DfsOwn. -/
import Derived.Test.YtbkhejfnhbjhpaaApart
import Derived.Test.YtbkhejfnhbjhpaaBack
import Derived.Test.YtbkhejfnhbjhpaaDValid2
import Derived.Test.YtbkhejfnhbjhpaaLKept
set_option linter.unusedVariables false
set_option linter.unusedSimpArgs false
set_option maxRecDepth 100000
namespace Go.Fl
open Go Go.Proofs

def WalkR (N : Int) (es : List Pr) (pa he od oi : List Int) (e : Int) : Prop :=
  (¬ Vld N es ∧ e = 1 ∧ pa = [] ∧ he = [] ∧ od = [] ∧ oi = []) ∨
  (Vld N es ∧ e = 0 ∧ ∃ s, Rts es N 0 (start N es.length) s ∧ Inv N es.length (es.length + N.toNat) s ∧ pa = s.pa ∧ he = s.he ∧ od = s.od ∧ oi = s.oi)
theorem WalkR.uniq {N : Int} {es : List Pr} {pa he od oi pb hb ob rb : List Int} {e f : Int} (h : WalkR N es pa he od oi e) (k : WalkR N es pb hb ob rb f) : pb = pa ∧ hb = he ∧ ob = od ∧ rb = oi ∧ f = e := by
  rcases h with ⟨h1, rfl, rfl, rfl, rfl, rfl⟩ | ⟨h1, rfl, s, h2, h3, rfl, rfl, rfl, rfl⟩
  · rcases k with ⟨k1, rfl, rfl, rfl, rfl, rfl⟩ | ⟨k1, _⟩
    · exact ⟨rfl, rfl, rfl, rfl, rfl⟩
    · exact absurd k1 h1
  · rcases k with ⟨k1, _⟩ | ⟨k1, rfl, s', k2, k3, rfl, rfl, rfl, rfl⟩
    · exact absurd h1 k1
    · obtain rfl := rts_det h2 k2
      exact ⟨rfl, rfl, rfl, rfl, rfl⟩
theorem WalkR.few {N : Int} {es : List Pr} {pa he od oi : List Int} {e : Int} (h : WalkR N es pa he od oi e) : pa.length ≤ 6000000 ∧ he.length ≤ 6000000 ∧ od.length ≤ 6000000 ∧ oi.length ≤ 6000000 := by
  rcases h with ⟨h1, rfl, rfl, rfl, rfl, rfl⟩ | ⟨h1, rfl, s, h2, h3, rfl, rfl, rfl, rfl⟩
  · simp
  · have a := h1.few
    have b := h1.hi
    have c := h3.pal
    have d := h3.hel
    have e := h3.oil
    have f := h3.few
    exact ⟨by omega, by omega, by omega, by omega⟩
theorem Walk_any {N : Int} {es : List Pr} {va : Value} {w : World} (hg : PrV w va es) :
    Calls Try.prog 43 #[.agg #[.int .i64 N, va]] w (Ret w [] fun v L => ∃ pa he od oi e v0 v1 v2 v3, WalkR N es pa he od oi e ∧ v = .tuple #[.agg #[v0, v1, v2, v3], .int .i64 e] ∧ L = forL v0 v1 v2 v3 pa he od oi) := by
  by_cases hV : Vld N es
  · refine Calls.mono (Walk_yes hg hV) fun e w' h => Retm h fun v L ⟨s, v0, v1, v2, v3, h1, h2, h3, h4⟩ => ?_
    exact ⟨s.pa, s.he, s.od, s.oi, 0, v0, v1, v2, v3, .inr ⟨hV, rfl, s, h1, h2, rfl, rfl, rfl, rfl⟩, h3, h4⟩
  · refine Calls.mono (Walk_no hg hV) ?_
    rintro e w' ⟨v, L, h1, ⟨rfl, h2⟩, h3⟩
    exact ⟨v, _, h1, ⟨[], [], [], [], 1, _, _, _, _, .inl ⟨hV, rfl, rfl, rfl, rfl, rfl⟩, h2, rfl⟩, own_nil (own_nil (own_nil (own_nil h3)))⟩

section
variable {P : Program} {w0 w : World} {K : List Nat} {n : Nat} {ds : List Deferred} {E : Env} {L F : List Chunk} {t : Nat}
theorem src_slc {A : Option Addr} {l c : Nat} {xs : List Int} (i : Nat) (hi : L[i]? = some (slc (.slice A l c) t 1 (ints xs))) (hl : l = xs.length) (hA : A = none → xs = []) : Src w0 K L (.slice A l c) xs.length (ints xs) := by
  subst hl
  cases A with
  | none =>
    have := hA rfl
    subst this
    exact .inr ⟨c, rfl, rfl, rfl⟩
  | some ad =>
    refine .inl ⟨ad, c, rfl, fun w hw j u hj => ?_⟩
    obtain ⟨A', len', cap', he, h1, hr, h2, h3⟩ := rd_own (hw.perm (perm_eraseIdx hi).symm)
    cases he
    obtain ⟨ad', h4, h5⟩ := hr j u hj
    cases h4
    exact h5
theorem own_none {A : Option Addr} {l c : Nat} {xs : List Int} (i : Nat) (hi : L[i]? = some (slc (.slice A l c) t 1 (ints xs))) (hw : Own w0 K w L) : A = none → xs = [] := by
  rintro rfl
  rcases own_open (hw.perm (perm_eraseIdx hi).symm) with ⟨_, h, _⟩ | ⟨g, len, cap, sp, h, _⟩
  · have : (ints xs).length = 0 := by rw [h]; rfl
    rw [ints_length] at this
    exact List.eq_nil_of_length_eq_zero this
  · cases h
theorem Seq.know {ops : Array Oper} {Q : Exit → Act → World → Prop} {l : List Oper} {φ : Prop} (hf : ∀ w, Own w0 K w L → φ) (h : φ → Seq P ops w0 K n ds Q l E L) : Seq P ops w0 K n ds Q l E L := fun a w ha hw => h (hf w hw) a w ha hw
theorem slv_pre {A : Option Addr} {len cap : Nat} {xs ys : List Int} (hw : Own w0 K w L) (i : Nat) (h : L[i]? = some (slc (.slice A len cap) t 1 (ints (xs ++ ys)))) (hf : xs.length ≤ 17592186044416) : SlV w (.slice A xs.length cap) xs := by
  obtain ⟨A', len', cap', he, h1, hr, h2, h3⟩ := rd_own (hw.perm (perm_eraseIdx h).symm)
  cases he
  rw [ints_length, List.length_append] at h1
  rw [ints_append] at hr
  exact ⟨A, cap, rfl, rd_prefix hr, by omega, h3, hf⟩
theorem has_el {t l c j : Nat} {ad : Addr} {xs : List Int} {h : Int} (i : Nat) (hi : L[i]? = some (slc (.slice (some ad) l c) t 1 (ints xs))) (hf : xs.length ≤ 17592186044416) (hj : xs[j]? = some h) : Has w0 K L (ad.add j) (.int .i64 h) := by
  intro w hw
  obtain ⟨A, cap, he, hr, _⟩ := slv_own hw i hi hf
  cases he
  obtain ⟨ad', ha, hc⟩ := hr.int hj
  cases ha
  exact hc
theorem Seq.len1 {ops : Array Oper} {Q : Exit → Act → World → Prop} {l : List Oper} {v : Value} {xs : List Int} (i : Nat) (hi : L[i]? = some (slc v t 1 (ints xs))) (h : ∀ A c, v = .slice A xs.length c → Seq P ops w0 K n ds Q l E L) : Seq P ops w0 K n ds Q l E L :=
  fun a w ha hw => by obtain ⟨A, c, e⟩ := own_len i hi hw; exact h A c e a w ha hw
end
theorem DfsOwn_calls {N : Int} {es : List Pr} {va : Value} {w : World} (hg : PrV w va es) :
    Calls Try.prog 11 #[.agg #[.int .i64 N, va]] w (Ret w [] fun v L => v = .bool true) := by
  have fg := hg.few
  have qg := hg
  obtain ⟨B, cb, rfl, hr, hlc, hcm, hl⟩ := qg
  refine calls_of (args := [_]) (L := []) Try.func11 rfl Try.ntmps11 rfl (Own.start _ _) ?_
  refine DC.seq ?_
  refine DC.region ?_
  refine Seq.new rfl rfl (n_box rfl rfl rfl) fun g1 => ?_
  refine Seq.pur rfl rfl (p_assign rfl rfl) ?_
  refine Seq.nil ?_
  refine Fin.then ?_
  refine DC.seq ?_
  refine DC.seq ?_
  refine DC.region ?_
  -- calls tangram/tangramlaw07.awake
  refine Seq.rel0 rfl rfl (r_call en34 rfl rfl rfl (fun w' hw => awake_calls w')) ?_
  rintro _ rfl
  refine Seq.pur rfl rfl (p_not rfl rfl) ?_
  refine Seq.nil ?_
  refine Fin.then ?_
  refine DC.cond rfl (fun c1 => ?_) (fun c1 => ?_)
  · exact absurd c1 (by decide)
    --closed
  · refine DC.skip ?_
    refine Fin.then ?_
    refine DC.seq ?_
    refine DC.region ?_
    refine Seq.val rfl rfl (v_loads (vs := [_, _]) rfl rfl ag25 sz25 rfl (hass_blk rfl)) ?_
    -- calls tangram/tangramref04.Copy
    refine Seq.rel rfl rfl (r_call en31 rfl rfl rfl (fun w' hw => GCopy_calls (hg.keep0 hw))) ?_
    rintro _ _ ⟨u0, rfl, rfl⟩
    simp only [List.cons_append, List.nil_append]
    refine Seq.shape 0 rfl ?_
    rintro ⟨Au, lu, cu, rfl⟩
    refine Seq.new rfl rfl (n_alloc rfl ze25 rfl) fun g3 => ?_
    refine Seq.sto rfl rfl (s_stores (cs' := #[_, _]) rfl rfl rfl sz25 rfl (Nat.le_of_ble_eq_true rfl) rfl) ?_
    refine Seq.nil ?_
    refine Fin.then ?_
    refine DC.seq ?_
    refine DC.region ?_
    refine Seq.pur rfl rfl (p_field rfl rfl fi25_1 (by first | exact add_at0 _ _ | exact add_at _ _ _ | rfl)) ?_
    refine Seq.val rfl rfl (v_load rfl rfl ag23 (by first | exact has_blk rfl | exact has_old' (by assumption))) ?_
    refine Seq.pur rfl rfl (p_struct (cs := #[_, _]) rfl rfl bs39 rfl rfl) ?_
    refine Seq.new rfl rfl (n_slit (cs := #[_, _]) rfl rfl Try.underlying23 sz39 ze39 rfl (by decide) (by decide) rfl rfl) fun g19 => ?_
    refine Seq.gen rfl rfl (Gen.shapeL (g_append (F := [blk g19 39 #[.int .i64 (-5), .int .i64 (-6)], blk g3 25 #[.int .i64 N, .slice Au lu cu], blk g1 25 #[.int .i64 N, .slice B es.length cb]]) (vs := prs es) (k := 1) (news := [.int .i64 (-5), .int .i64 (-6)]) rfl rfl rfl Try.underlying23 sz39 by39 ze39 rfl (by decide) (by decide)
      (fun w hw => hw.pick (Pick.idx [2, 0, 1, 3] rfl (.cons rfl (.cons rfl (.cons rfl (.cons rfl .nil)))))) (.inl ⟨_, _, rfl, hass_blk rfl⟩) rfl (by intro u hu; simp at hu; rcases hu with rfl | rfl <;> rfl) (by rw [prs_length]; omega))) ?_
    rintro _ _ ⟨⟨A, len, cap, rfl, hlen⟩, rfl⟩
    have e4 : prs es ++ [Value.int .i64 (-5), Value.int .i64 (-6)] = prs (es ++ [(-5, -6)]) := by rw [prs_append]; rfl
    rw [e4] at hlen ⊢
    obtain rfl : len = es.length + 1 := by rw [prs_length] at hlen; simp at hlen; omega
    refine Seq.pur rfl rfl (p_field rfl rfl fi25_1 (by first | exact add_at0 _ _ | exact add_at _ _ _ | rfl)) ?_
    refine Seq.sto rfl rfl (s_store (cs' := #[_, _]) rfl rfl rfl sz23 rfl (Nat.le_of_ble_eq_true rfl) rfl) ?_
    refine Seq.nil ?_
    refine Fin.then ?_
    refine DC.seq ?_
    refine DC.know4 (φ := es.length + 1 ≤ cap ∧ cap ≤ 9223372036854775807) (fun w hw => (own_cap hw 0 rfl).2) ?_
    rintro ⟨hcap1, hcap2⟩
    refine DC.flow (cl := [.q, .v, .q, .v, .q, .v, .q, .q, .q, .n, .g]) (A := [0, 1, 0, 4, 0, 16, 48, 124, 255, 0, 1023]) (order := [0, 1, 2, 3, 4, 5, 6, 7, 8, 9, 10]) [] mixed (by kernel_rfl) (fun w hw => hw.pick .nil) ?_
    refine Flow.pur rfl rfl rfl (p_field rfl rfl fi25_0 (by first | exact add_at0 _ _ | exact add_at _ _ _ | rfl)) ?_
    refine Flow.valS rfl rfl rfl rfl (v_load rfl rfl ag3 (by first | exact has_blk rfl | exact has_old' (by assumption))) ?_
    refine Flow.pur rfl rfl rfl (p_field rfl rfl fi25_1 (by first | exact add_at0 _ _ | exact add_at _ _ _ | rfl)) ?_
    refine Flow.valS rfl rfl rfl rfl (v_load rfl rfl ag23 (by first | exact has_blk rfl | exact has_old' (by assumption))) ?_
    refine Flow.pur rfl rfl rfl (p_field rfl rfl fi25_1 (by first | exact add_at0 _ _ | exact add_at _ _ _ | rfl)) ?_
    refine Flow.valS rfl rfl rfl rfl (v_load rfl rfl ag23 (by first | exact has_blk rfl | exact has_old' (by assumption))) ?_
    refine Flow.pur rfl rfl rfl (p_len rfl rfl Try.underlying23) ?_
    refine Flow.pur rfl rfl rfl (p_slice_to (hi := es.length) rfl rfl rfl Try.underlying23 sz39 (by omega)) ?_
    refine Flow.pur rfl rfl rfl (p_struct (cs := #[_, _]) rfl rfl bs25 rfl rfl) ?_
    refine Flow.new' rfl rfl rfl rfl (n_alloc rfl ze25 rfl) fun g4 => ?_
    refine Flow.sto (V := [blk g4 25 #[.int .i64 0, .slice none 0 0], slc (.slice A (es.length + 1) cap) 39 2 (prs (es ++ [(-5, -6)])), blk g19 39 #[.int .i64 (-5), .int .i64 (-6)], blk g3 25 #[.int .i64 N, .slice A (es.length + 1) cap], blk g1 25 #[.int .i64 N, .slice B es.length cb]]) rfl rfl rfl rfl rfl (s_stores (cs' := #[_, _]) rfl rfl rfl sz25 rfl (Nat.le_of_ble_eq_true rfl) rfl) (fun w hw => hw.pick (.nil)) ?_
    refine Flow.end rfl ?_
    simp only [List.map_cons, List.map_nil, List.nil_append, List.cons_append, List.append_nil]
    refine Fin.then ?_
    refine DC.seq ?_
    refine DC.weak (E' := [(1, .pointer (some ⟨g1, 0, none⟩)), (3, .pointer (some ⟨g3, 0, none⟩)), (4, .pointer (some ⟨g4, 0, none⟩))]) (L' := [blk g4 25 #[.int .i64 N, .slice A es.length cap], slc (.slice A (es.length + 1) cap) 39 2 (prs (es ++ [(-5, -6)])), blk g3 25 #[.int .i64 N, .slice A (es.length + 1) cap], blk g1 25 #[.int .i64 N, .slice B es.length cb]]) ⟨rfl, rfl, rfl, trivial⟩ (Pick.idx [0, 1, 3, 4] rfl (.cons rfl (.cons rfl (.cons rfl (.cons rfl .nil))))) ?_
    refine DC.know4 (φ := ∃ ad, A = some ad) (fun w hw => by
      obtain ⟨A', len', cap', he, h1, hr, h2, h3⟩ := rd_own (hw.perm (perm_eraseIdx (i := 1) rfl).symm)
      cases he
      obtain ⟨ad, h4, _⟩ := hr.pair (i := es.length) (e := (-5, -6)) (by simp)
      exact ⟨ad, h4⟩) ?_
    rintro ⟨ad, hA⟩
    refine DC.region ?_
    refine Seq.val rfl rfl (v_loads (vs := [_, _]) rfl rfl ag25 sz25 rfl (hass_blk rfl)) ?_
    -- calls tangram/dfs.Walk
    refine Seq.rel rfl rfl (r_call en43 rfl rfl rfl (fun w' hw => Walk_any (prv_pre hw 1 rfl fg))) ?_
    rintro _ _ ⟨pa, he, od, oi, er, a0, a1, a2, a3, hR, rfl, rfl⟩
    have hfw := hR.few
    simp only [forL, List.cons_append, List.nil_append]
    refine Seq.len1 0 rfl ?_
    rintro A0 c0 rfl
    refine Seq.len1 1 rfl ?_
    rintro A1 c1' rfl
    refine Seq.len1 2 rfl ?_
    rintro A2 c2 rfl
    refine Seq.len1 3 rfl ?_
    rintro A3 c3 rfl
    refine Seq.pur rfl rfl (p_move rfl rfl) ?_
    refine Seq.pur rfl rfl (p_extract rfl rfl rfl) ?_
    refine Seq.pur rfl rfl (p_extract rfl rfl rfl) ?_
    refine Seq.new rfl rfl (n_alloc rfl ze55 rfl) fun g5 => ?_
    refine Seq.sto rfl rfl (s_stores (cs' := #[_, _, _, _]) rfl rfl rfl sz55 rfl (Nat.le_of_ble_eq_true rfl) rfl) ?_
    refine Seq.pur rfl rfl (p_assign rfl rfl) ?_
    refine Seq.nil ?_
    refine Fin.then ?_
    refine DC.seq ?_
    refine DC.weak (E' := [(1, .pointer (some ⟨g1, 0, none⟩)), (3, .pointer (some ⟨g3, 0, none⟩)), (4, .pointer (some ⟨g4, 0, none⟩)), (5, .pointer (some ⟨g5, 0, none⟩)), (6, .int .i64 er)]) (L' := [blk g5 55 #[.slice A0 pa.length c0, .slice A1 he.length c1', .slice A2 od.length c2, .slice A3 oi.length c3], slc (.slice A0 pa.length c0) 3 1 (ints pa), slc (.slice A1 he.length c1') 3 1 (ints he), slc (.slice A2 od.length c2) 3 1 (ints od), slc (.slice A3 oi.length c3) 3 1 (ints oi), blk g4 25 #[.int .i64 N, .slice A es.length cap], slc (.slice A (es.length + 1) cap) 39 2 (prs (es ++ [(-5, -6)])), blk g3 25 #[.int .i64 N, .slice A (es.length + 1) cap], blk g1 25 #[.int .i64 N, .slice B es.length cb]]) ⟨rfl, rfl, rfl, rfl, rfl, trivial⟩ (Pick.all _) ?_
    refine DC.region ?_
    refine Seq.val rfl rfl (v_loads (vs := [_, _]) rfl rfl ag25 sz25 rfl (hass_blk rfl)) ?_
    -- calls tangram/dfs.Walk
    refine Seq.rel rfl rfl (r_call en43 rfl rfl rfl (fun w' hw => Walk_any (prv_pre hw 6 rfl fg))) ?_
    rintro _ _ ⟨pb, hb, ob, rb, fr, b0, b1, b2, b3, hR2, rfl, rfl⟩
    obtain ⟨rfl, rfl, rfl, rfl, rfl⟩ := hR2.uniq hR
    simp only [forL, List.cons_append, List.nil_append]
    refine Seq.len1 0 rfl ?_
    rintro B0 d0 rfl
    refine Seq.len1 1 rfl ?_
    rintro B1 d1 rfl
    refine Seq.len1 2 rfl ?_
    rintro B2 d2 rfl
    refine Seq.len1 3 rfl ?_
    rintro B3 d3 rfl
    refine Seq.pur rfl rfl (p_move rfl rfl) ?_
    refine Seq.pur rfl rfl (p_extract rfl rfl rfl) ?_
    refine Seq.pur rfl rfl (p_extract rfl rfl rfl) ?_
    refine Seq.new rfl rfl (n_alloc rfl ze55 rfl) fun g7 => ?_
    refine Seq.sto rfl rfl (s_stores (cs' := #[_, _, _, _]) rfl rfl rfl sz55 rfl (Nat.le_of_ble_eq_true rfl) rfl) ?_
    refine Seq.pur rfl rfl (p_assign rfl rfl) ?_
    refine Seq.nil ?_
    refine Fin.then ?_
    refine DC.seq ?_
    refine DC.seq ?_
    refine DC.weak (E' := [(1, .pointer (some ⟨g1, 0, none⟩)), (3, .pointer (some ⟨g3, 0, none⟩)), (4, .pointer (some ⟨g4, 0, none⟩)), (5, .pointer (some ⟨g5, 0, none⟩)), (6, .int .i64 er), (7, .pointer (some ⟨g7, 0, none⟩)), (8, .int .i64 er)]) (L' := [blk g7 55 #[.slice B0 pa.length d0, .slice B1 he.length d1, .slice B2 od.length d2, .slice B3 oi.length d3], slc (.slice B0 pa.length d0) 3 1 (ints pa), slc (.slice B1 he.length d1) 3 1 (ints he), slc (.slice B2 od.length d2) 3 1 (ints od), slc (.slice B3 oi.length d3) 3 1 (ints oi), blk g5 55 #[.slice A0 pa.length c0, .slice A1 he.length c1', .slice A2 od.length c2, .slice A3 oi.length c3], slc (.slice A0 pa.length c0) 3 1 (ints pa), slc (.slice A1 he.length c1') 3 1 (ints he), slc (.slice A2 od.length c2) 3 1 (ints od), slc (.slice A3 oi.length c3) 3 1 (ints oi), blk g4 25 #[.int .i64 N, .slice A es.length cap], slc (.slice A (es.length + 1) cap) 39 2 (prs (es ++ [(-5, -6)])), blk g3 25 #[.int .i64 N, .slice A (es.length + 1) cap], blk g1 25 #[.int .i64 N, .slice B es.length cb]]) ⟨rfl, rfl, rfl, rfl, rfl, rfl, rfl, trivial⟩ (Pick.all _) ?_
    refine DC.region ?_
    refine Seq.val rfl rfl (v_loads (vs := [_, _]) rfl rfl ag25 sz25 rfl (hass_blk rfl)) ?_
    refine Seq.val rfl rfl (v_loads (vs := [_, _]) rfl rfl ag25 sz25 rfl (hass_blk rfl)) ?_
    -- calls tangram/tangramref04.Same
    refine Seq.rel0 rfl rfl (r_call en33 rfl rfl rfl (fun w' hw => GSame_calls (prv_pre hw 11 rfl fg) (hg.keep0 hw))) ?_
    rintro _ rfl
    refine Seq.pur rfl rfl (p_not rfl rfl) ?_
    refine Seq.pur rfl rfl (p_move rfl rfl) ?_
    refine Seq.split 45 rfl (fun k8_4 => ?_) (fun k8_4 => ?_)
    · exact absurd k8_4 (by simp)
      --closed
    · refine Seq.pur rfl rfl (p_field rfl rfl fi25_1 (by first | exact add_at0 _ _ | exact add_at _ _ _ | rfl)) ?_
      refine Seq.val rfl rfl (v_load rfl rfl ag23 (by first | exact has_blk rfl | exact has_old' (by assumption))) ?_
      refine Seq.pur rfl rfl (p_field rfl rfl fi25_1 (by first | exact add_at0 _ _ | exact add_at _ _ _ | rfl)) ?_
      refine Seq.val rfl rfl (v_load rfl rfl ag23 (by first | exact has_blk rfl | exact has_old' (by assumption))) ?_
      refine Seq.pur rfl rfl (p_len rfl rfl Try.underlying23) ?_
      refine Seq.pur rfl rfl (p_index (ad := ad) (len := es.length + 1) (cap := cap) (ad' := ad.add (es.length * 2)) rfl (by rw [← hA]; rfl) rfl Try.underlying23 sz39 (by omega) (by omega) rfl) ?_
      refine Seq.val rfl rfl (v_loads (vs := [_, _]) rfl rfl ag39 sz39 rfl (hass_pair (ad := ad) (len := es.length + 1) (cap := cap) (es := es ++ [(-5, -6)]) (t := 39) (e := (-5, -6)) 11 (by rw [← hA]; rfl) (by simp))) ?_
      refine Seq.pur rfl rfl (p_struct (cs := #[_, _]) rfl rfl bs39 rfl rfl) ?_
      refine Seq.pur rfl rfl (p_neq_pair rfl rfl rfl (by kernel_rfl)) ?_
      refine Seq.pur rfl rfl (p_pick_f rfl rfl rfl) ?_
      refine Seq.pur rfl rfl (p_move rfl rfl) ?_
      refine Seq.split 56 rfl (fun k8_15 => ?_) (fun k8_15 => ?_)
      · exact absurd k8_15 (by decide)
        --closed
      · refine Seq.pur rfl rfl (p_move rfl rfl) ?_
        refine Seq.pur rfl rfl (p_move rfl rfl) ?_
        refine Seq.pur rfl rfl (p_neq rfl rfl rfl) ?_
        refine Seq.pur rfl rfl (p_pick_f rfl rfl rfl) ?_
        refine Seq.pur rfl rfl (p_move rfl rfl) ?_
        refine Seq.split 61 rfl (fun k8_20 => ?_) (fun k8_20 => ?_)
        · exact absurd k8_20 (by simp)
          --closed
        · refine Seq.val rfl rfl (v_loads (vs := [_, _, _, _]) rfl rfl ag55 sz55 rfl (hass_blk rfl)) ?_
          refine Seq.val rfl rfl (v_loads (vs := [_, _, _, _]) rfl rfl ag55 sz55 rfl (hass_blk rfl)) ?_
          -- calls tangram/tangramref07.Same
          refine Seq.rel0 rfl rfl (r_call en36 rfl rfl rfl (fun w' hw => FSame_calls (slv_own (xs := pa) hw 6 rfl (by omega)) (slv_own (xs := he) hw 7 rfl (by omega)) (slv_own (xs := od) hw 8 rfl (by omega)) (slv_own (xs := oi) hw 9 rfl (by omega)) (slv_own (xs := pa) hw 1 rfl (by omega)) (slv_own (xs := he) hw 2 rfl (by omega)) (slv_own (xs := od) hw 3 rfl (by omega)) (slv_own (xs := oi) hw 4 rfl (by omega)))) ?_
          rintro _ rfl
          refine Seq.pur rfl rfl (p_not rfl rfl) ?_
          refine Seq.pur rfl rfl (p_pick_f rfl rfl rfl) ?_
          refine Seq.nil ?_
          refine Fin.then ?_
          refine DC.cond rfl (fun c8 => ?_) (fun c8 => ?_)
          · exact absurd c8 (by simp)
            --closed
          · refine DC.skip ?_
            refine Fin.then ?_
            refine DC.seq ?_
            refine DC.region ?_
            refine Seq.val rfl rfl (v_loads (vs := [_, _, _, _]) rfl rfl ag55 sz55 rfl (hass_blk rfl)) ?_
            -- calls tangram/tangramref07.Copy
            refine Seq.rel rfl rfl (r_call en39 rfl rfl rfl (fun w' hw => FCopy_calls (slv_own hw 1 rfl (by omega)) (slv_own hw 2 rfl (by omega)) (slv_own hw 3 rfl (by omega)) (slv_own hw 4 rfl (by omega)))) ?_
            rintro _ _ ⟨x0, x1, x2, x3, rfl, rfl⟩
            simp only [forL, List.cons_append, List.nil_append]
            refine Seq.len1 0 rfl ?_
            rintro C0 e0 rfl
            refine Seq.len1 1 rfl ?_
            rintro C1 e1 rfl
            refine Seq.len1 2 rfl ?_
            rintro C2 e2 rfl
            refine Seq.len1 3 rfl ?_
            rintro C3 e3 rfl
            refine Seq.new rfl rfl (n_alloc rfl ze55 rfl) fun g9 => ?_
            refine Seq.sto rfl rfl (s_stores (cs' := #[_, _, _, _]) rfl rfl rfl sz55 rfl (Nat.le_of_ble_eq_true rfl) rfl) ?_
            refine Seq.nil ?_
            refine Fin.then ?_
            refine DC.seq ?_
            refine DC.weak (E' := [(1, .pointer (some ⟨g1, 0, none⟩)), (3, .pointer (some ⟨g3, 0, none⟩)), (4, .pointer (some ⟨g4, 0, none⟩)), (5, .pointer (some ⟨g5, 0, none⟩)), (7, .pointer (some ⟨g7, 0, none⟩)), (9, .pointer (some ⟨g9, 0, none⟩))]) (L' := [blk g9 55 #[.slice C0 pa.length e0, .slice C1 he.length e1, .slice C2 od.length e2, .slice C3 oi.length e3], slc (.slice C0 pa.length e0) 3 1 (ints pa), slc (.slice C1 he.length e1) 3 1 (ints he), slc (.slice C2 od.length e2) 3 1 (ints od), slc (.slice C3 oi.length e3) 3 1 (ints oi), blk g7 55 #[.slice B0 pa.length d0, .slice B1 he.length d1, .slice B2 od.length d2, .slice B3 oi.length d3], slc (.slice B0 pa.length d0) 3 1 (ints pa), slc (.slice B1 he.length d1) 3 1 (ints he), slc (.slice B2 od.length d2) 3 1 (ints od), slc (.slice B3 oi.length d3) 3 1 (ints oi), blk g5 55 #[.slice A0 pa.length c0, .slice A1 he.length c1', .slice A2 od.length c2, .slice A3 oi.length c3], slc (.slice A0 pa.length c0) 3 1 (ints pa), slc (.slice A1 he.length c1') 3 1 (ints he), slc (.slice A2 od.length c2) 3 1 (ints od), slc (.slice A3 oi.length c3) 3 1 (ints oi), blk g4 25 #[.int .i64 N, .slice A es.length cap], slc (.slice A (es.length + 1) cap) 39 2 (prs (es ++ [(-5, -6)])), blk g3 25 #[.int .i64 N, .slice A (es.length + 1) cap], blk g1 25 #[.int .i64 N, .slice B es.length cb]]) ⟨rfl, rfl, rfl, rfl, rfl, rfl, trivial⟩ (Pick.all _) ?_
            refine DC.region ?_
            refine Seq.val rfl rfl (v_loads (vs := [_, _, _, _]) rfl rfl ag55 sz55 rfl (hass_blk rfl)) ?_
            -- calls tangram/tangramref07.Copy
            refine Seq.rel rfl rfl (r_call en39 rfl rfl rfl (fun w' hw => FCopy_calls (slv_own hw 6 rfl (by omega)) (slv_own hw 7 rfl (by omega)) (slv_own hw 8 rfl (by omega)) (slv_own hw 9 rfl (by omega)))) ?_
            rintro _ _ ⟨x0, x1, x2, x3, rfl, rfl⟩
            simp only [forL, List.cons_append, List.nil_append]
            refine Seq.len1 0 rfl ?_
            rintro D0 f0 rfl
            refine Seq.len1 1 rfl ?_
            rintro D1 f1 rfl
            refine Seq.len1 2 rfl ?_
            rintro D2 f2 rfl
            refine Seq.len1 3 rfl ?_
            rintro D3 f3 rfl
            refine Seq.new rfl rfl (n_alloc rfl ze55 rfl) fun g10 => ?_
            refine Seq.sto rfl rfl (s_stores (cs' := #[_, _, _, _]) rfl rfl rfl sz55 rfl (Nat.le_of_ble_eq_true rfl) rfl) ?_
            refine Seq.nil ?_
            refine Fin.then ?_
            refine DC.seq ?_
            refine DC.weak (E' := [(1, .pointer (some ⟨g1, 0, none⟩)), (3, .pointer (some ⟨g3, 0, none⟩)), (4, .pointer (some ⟨g4, 0, none⟩)), (5, .pointer (some ⟨g5, 0, none⟩)), (7, .pointer (some ⟨g7, 0, none⟩)), (9, .pointer (some ⟨g9, 0, none⟩)), (10, .pointer (some ⟨g10, 0, none⟩))]) (L' := [blk g10 55 #[.slice D0 pa.length f0, .slice D1 he.length f1, .slice D2 od.length f2, .slice D3 oi.length f3], slc (.slice D0 pa.length f0) 3 1 (ints pa), slc (.slice D1 he.length f1) 3 1 (ints he), slc (.slice D2 od.length f2) 3 1 (ints od), slc (.slice D3 oi.length f3) 3 1 (ints oi), blk g9 55 #[.slice C0 pa.length e0, .slice C1 he.length e1, .slice C2 od.length e2, .slice C3 oi.length e3], slc (.slice C0 pa.length e0) 3 1 (ints pa), slc (.slice C1 he.length e1) 3 1 (ints he), slc (.slice C2 od.length e2) 3 1 (ints od), slc (.slice C3 oi.length e3) 3 1 (ints oi), blk g7 55 #[.slice B0 pa.length d0, .slice B1 he.length d1, .slice B2 od.length d2, .slice B3 oi.length d3], slc (.slice B0 pa.length d0) 3 1 (ints pa), slc (.slice B1 he.length d1) 3 1 (ints he), slc (.slice B2 od.length d2) 3 1 (ints od), slc (.slice B3 oi.length d3) 3 1 (ints oi), blk g5 55 #[.slice A0 pa.length c0, .slice A1 he.length c1', .slice A2 od.length c2, .slice A3 oi.length c3], slc (.slice A0 pa.length c0) 3 1 (ints pa), slc (.slice A1 he.length c1') 3 1 (ints he), slc (.slice A2 od.length c2) 3 1 (ints od), slc (.slice A3 oi.length c3) 3 1 (ints oi), blk g4 25 #[.int .i64 N, .slice A es.length cap], slc (.slice A (es.length + 1) cap) 39 2 (prs (es ++ [(-5, -6)])), blk g3 25 #[.int .i64 N, .slice A (es.length + 1) cap], blk g1 25 #[.int .i64 N, .slice B es.length cb]]) ⟨rfl, rfl, rfl, rfl, rfl, rfl, rfl, trivial⟩ (Pick.all _) ?_
            refine DC.know4 (φ := C2 = none → od = []) (fun w hw => own_none 8 rfl hw) ?_
            intro hC2
            refine DC.region ?_
            refine Seq.new rfl rfl (n_slit (cs := #[]) rfl rfl Try.underlying34 sz3 ze3 rfl (by decide) (by decide) rfl rfl) fun g71 => ?_
            refine Seq.pur rfl rfl (p_field rfl rfl fi55_2 (by first | exact add_at0 _ _ | exact add_at _ _ _ | rfl)) ?_
            refine Seq.val rfl rfl (v_load rfl rfl ag34 (by first | exact has_blk rfl | exact has_old' (by assumption))) ?_
            refine Seq.gen rfl rfl (Gen.shapeL (g_append (F := [blk g10 55 #[.slice D0 pa.length f0, .slice D1 he.length f1, .slice D2 od.length f2, .slice D3 oi.length f3], slc (.slice D0 pa.length f0) 3 1 (ints pa), slc (.slice D1 he.length f1) 3 1 (ints he), slc (.slice D2 od.length f2) 3 1 (ints od), slc (.slice D3 oi.length f3) 3 1 (ints oi), blk g9 55 #[.slice C0 pa.length e0, .slice C1 he.length e1, .slice C2 od.length e2, .slice C3 oi.length e3], slc (.slice C0 pa.length e0) 3 1 (ints pa), slc (.slice C1 he.length e1) 3 1 (ints he), slc (.slice C2 od.length e2) 3 1 (ints od), slc (.slice C3 oi.length e3) 3 1 (ints oi), blk g7 55 #[.slice B0 pa.length d0, .slice B1 he.length d1, .slice B2 od.length d2, .slice B3 oi.length d3], slc (.slice B0 pa.length d0) 3 1 (ints pa), slc (.slice B1 he.length d1) 3 1 (ints he), slc (.slice B2 od.length d2) 3 1 (ints od), slc (.slice B3 oi.length d3) 3 1 (ints oi), blk g5 55 #[.slice A0 pa.length c0, .slice A1 he.length c1', .slice A2 od.length c2, .slice A3 oi.length c3], slc (.slice A0 pa.length c0) 3 1 (ints pa), slc (.slice A1 he.length c1') 3 1 (ints he), slc (.slice A2 od.length c2) 3 1 (ints od), slc (.slice A3 oi.length c3) 3 1 (ints oi), blk g4 25 #[.int .i64 N, .slice A es.length cap], slc (.slice A (es.length + 1) cap) 39 2 (prs (es ++ [(-5, -6)])), blk g3 25 #[.int .i64 N, .slice A (es.length + 1) cap], blk g1 25 #[.int .i64 N, .slice B es.length cb]]) (vs := []) (k := od.length) (news := ints od) rfl rfl rfl Try.underlying34 sz3 by3 ze3 rfl (by decide) (by decide)
              (fun w hw => own_slc (vs := []) rfl (by decide) (Nat.le_refl _) (by decide) rfl rfl hw) (src_slc (xs := od) 9 rfl rfl hC2) (by simp) (ints_one _ []) (by simp; omega))) ?_
            rintro _ _ ⟨⟨Fx, lf, cf, rfl, hlf⟩, rfl⟩
            simp only [List.nil_append] at hlf ⊢
            obtain rfl : lf = od.length := by rw [ints_length] at hlf; omega
            refine Seq.new rfl rfl (n_slit (cs := #[_]) rfl rfl Try.underlying34 sz3 ze3 rfl (by decide) (by decide) rfl rfl) fun g75 => ?_
            refine Seq.gen rfl rfl (Gen.shapeL (g_append (F := [blk g75 3 #[.int .i64 77], blk g10 55 #[.slice D0 pa.length f0, .slice D1 he.length f1, .slice D2 od.length f2, .slice D3 oi.length f3], slc (.slice D0 pa.length f0) 3 1 (ints pa), slc (.slice D1 he.length f1) 3 1 (ints he), slc (.slice D2 od.length f2) 3 1 (ints od), slc (.slice D3 oi.length f3) 3 1 (ints oi), blk g9 55 #[.slice C0 pa.length e0, .slice C1 he.length e1, .slice C2 od.length e2, .slice C3 oi.length e3], slc (.slice C0 pa.length e0) 3 1 (ints pa), slc (.slice C1 he.length e1) 3 1 (ints he), slc (.slice C2 od.length e2) 3 1 (ints od), slc (.slice C3 oi.length e3) 3 1 (ints oi), blk g7 55 #[.slice B0 pa.length d0, .slice B1 he.length d1, .slice B2 od.length d2, .slice B3 oi.length d3], slc (.slice B0 pa.length d0) 3 1 (ints pa), slc (.slice B1 he.length d1) 3 1 (ints he), slc (.slice B2 od.length d2) 3 1 (ints od), slc (.slice B3 oi.length d3) 3 1 (ints oi), blk g5 55 #[.slice A0 pa.length c0, .slice A1 he.length c1', .slice A2 od.length c2, .slice A3 oi.length c3], slc (.slice A0 pa.length c0) 3 1 (ints pa), slc (.slice A1 he.length c1') 3 1 (ints he), slc (.slice A2 od.length c2) 3 1 (ints od), slc (.slice A3 oi.length c3) 3 1 (ints oi), blk g4 25 #[.int .i64 N, .slice A es.length cap], slc (.slice A (es.length + 1) cap) 39 2 (prs (es ++ [(-5, -6)])), blk g3 25 #[.int .i64 N, .slice A (es.length + 1) cap], blk g1 25 #[.int .i64 N, .slice B es.length cb]]) (vs := ints od) (k := 1) (news := [.int .i64 77]) rfl rfl rfl Try.underlying34 sz3 by3 ze3 rfl (by decide) (by decide)
              (fun w hw => hw.pick (.cons 1 rfl (Pick.all _))) (.inl ⟨_, _, rfl, hass_blk rfl⟩) rfl (by intro u hu; simp at hu; subst hu; rfl) (by rw [ints_length]; simp; omega))) ?_
            rintro _ _ ⟨⟨G, lg, cg, rfl, hlg⟩, rfl⟩
            have e12 : ints od ++ [Value.int .i64 77] = ints (od ++ [77]) := by simp [ints]
            rw [e12] at hlg ⊢
            obtain rfl : lg = od.length + 1 := by rw [ints_length] at hlg; simp at hlg; omega
            refine Seq.know (φ := od.length + 1 ≤ cg ∧ cg ≤ 9223372036854775807) (fun w hw => by
              obtain ⟨A', len', cap', he', h1, hr', h2, h3⟩ := rd_own hw
              cases he'; exact ⟨h2, h3⟩) ?_
            rintro ⟨hcg1, hcg2⟩
            refine Seq.pur rfl rfl (p_assign rfl rfl) ?_
            refine Seq.nil ?_
            refine Fin.then ?_
            refine DC.seq ?_
            refine DC.region ?_
            refine Seq.pur rfl rfl (p_move rfl rfl) ?_
            refine Seq.pur rfl rfl (p_field rfl rfl fi55_2 (by first | exact add_at0 _ _ | exact add_at _ _ _ | rfl)) ?_
            refine Seq.val rfl rfl (v_load rfl rfl ag34 (by first | exact has_blk rfl | exact has_old' (by assumption))) ?_
            refine Seq.pur rfl rfl (p_len rfl rfl Try.underlying34) ?_
            refine Seq.pur rfl rfl (p_slice_to (hi := od.length) rfl rfl rfl Try.underlying34 sz3 (by omega)) ?_
            refine Seq.pur rfl rfl (p_field rfl rfl fi55_2 (by first | exact add_at0 _ _ | exact add_at _ _ _ | rfl)) ?_
            refine Seq.sto rfl rfl (s_store (cs' := #[_, _, _, _]) rfl rfl rfl sz34 rfl (Nat.le_of_ble_eq_true rfl) rfl) ?_
            refine Seq.nil ?_
            refine Fin.then ?_
            refine DC.seq ?_
            refine DC.weak (E' := [(1, .pointer (some ⟨g1, 0, none⟩)), (4, .pointer (some ⟨g4, 0, none⟩)), (5, .pointer (some ⟨g5, 0, none⟩)), (7, .pointer (some ⟨g7, 0, none⟩)), (9, .pointer (some ⟨g9, 0, none⟩)), (10, .pointer (some ⟨g10, 0, none⟩)), (11, .slice G (od.length + 1) cg)]) (L' := [slc (.slice G (od.length + 1) cg) 3 1 (ints (od ++ [77])), blk g9 55 #[.slice C0 pa.length e0, .slice C1 he.length e1, .slice G od.length cg, .slice C3 oi.length e3], slc (.slice C0 pa.length e0) 3 1 (ints pa), slc (.slice C1 he.length e1) 3 1 (ints he), slc (.slice C2 od.length e2) 3 1 (ints od), slc (.slice C3 oi.length e3) 3 1 (ints oi), blk g10 55 #[.slice D0 pa.length f0, .slice D1 he.length f1, .slice D2 od.length f2, .slice D3 oi.length f3], slc (.slice D0 pa.length f0) 3 1 (ints pa), slc (.slice D1 he.length f1) 3 1 (ints he), slc (.slice D2 od.length f2) 3 1 (ints od), slc (.slice D3 oi.length f3) 3 1 (ints oi), blk g7 55 #[.slice B0 pa.length d0, .slice B1 he.length d1, .slice B2 od.length d2, .slice B3 oi.length d3], slc (.slice B0 pa.length d0) 3 1 (ints pa), slc (.slice B1 he.length d1) 3 1 (ints he), slc (.slice B2 od.length d2) 3 1 (ints od), slc (.slice B3 oi.length d3) 3 1 (ints oi), blk g5 55 #[.slice A0 pa.length c0, .slice A1 he.length c1', .slice A2 od.length c2, .slice A3 oi.length c3], slc (.slice A0 pa.length c0) 3 1 (ints pa), slc (.slice A1 he.length c1') 3 1 (ints he), slc (.slice A2 od.length c2) 3 1 (ints od), slc (.slice A3 oi.length c3) 3 1 (ints oi), blk g4 25 #[.int .i64 N, .slice A es.length cap], slc (.slice A (es.length + 1) cap) 39 2 (prs (es ++ [(-5, -6)])), blk g1 25 #[.int .i64 N, .slice B es.length cb]]) ⟨rfl, rfl, rfl, rfl, rfl, rfl, rfl, trivial⟩ (Pick.idx [0, 7, 8, 9, 10, 11, 2, 3, 4, 5, 6, 12, 13, 14, 15, 16, 17, 18, 19, 20, 21, 22, 23, 25] rfl (.cons rfl (.cons rfl (.cons rfl (.cons rfl (.cons rfl (.cons rfl (.cons rfl (.cons rfl (.cons rfl (.cons rfl (.cons rfl (.cons rfl (.cons rfl (.cons rfl (.cons rfl (.cons rfl (.cons rfl (.cons rfl (.cons rfl (.cons rfl (.cons rfl (.cons rfl (.cons rfl (.cons rfl .nil))))))))))))))))))))))))) ?_
            refine DC.region ?_
            refine Seq.val rfl rfl (v_loads (vs := [_, _]) rfl rfl ag25 sz25 rfl (hass_blk rfl)) ?_
            refine Seq.val rfl rfl (v_loads (vs := [_, _, _, _]) rfl rfl ag55 sz55 rfl (hass_blk rfl)) ?_
            -- calls tangram/dfs.Valid
            refine Seq.rel0 rfl rfl (r_call en41 rfl rfl rfl (fun w' hw => DValid_calls (prv_pre hw 22 rfl fg) (slv_own (xs := pa) hw 2 rfl (by omega)) (slv_own (xs := he) hw 3 rfl (by omega)) (slv_pre (xs := od) hw 0 rfl (by omega)) (slv_own (xs := oi) hw 5 rfl (by omega)))) ?_
            rintro _ rfl
            refine Seq.nil ?_
            refine Fin.then ?_
            refine DC.seq ?_
            refine DC.region ?_
            refine Seq.val rfl rfl (v_loads (vs := [_, _, _, _]) rfl rfl ag55 sz55 rfl (hass_blk rfl)) ?_
            -- calls tangram/dfs.Back
            refine Seq.rel0 rfl rfl (r_call en38 rfl rfl rfl (fun w' hw => Back_calls 0 (slv_own (xs := pa) hw 2 rfl (by omega)) (slv_own (xs := oi) hw 5 rfl (by omega)))) ?_
            rintro _ rfl
            refine Seq.nil ?_
            refine Fin.then ?_
            refine DC.seq ?_
            refine DC.seq ?_
            refine DC.region ?_
            refine Seq.val rfl rfl (v_loads (vs := [_, _, _, _]) rfl rfl ag55 sz55 rfl (hass_blk rfl)) ?_
            refine Seq.val rfl rfl (v_loads (vs := [_, _, _, _]) rfl rfl ag55 sz55 rfl (hass_blk rfl)) ?_
            -- calls tangram/tangramref07.Same
            refine Seq.rel0 rfl rfl (r_call en36 rfl rfl rfl (fun w' hw => FSame_calls (slv_own (xs := pa) hw 2 rfl (by omega)) (slv_own (xs := he) hw 3 rfl (by omega)) (slv_pre (xs := od) hw 0 rfl (by omega)) (slv_own (xs := oi) hw 5 rfl (by omega)) (slv_own (xs := pa) hw 7 rfl (by omega)) (slv_own (xs := he) hw 8 rfl (by omega)) (slv_own (xs := od) hw 9 rfl (by omega)) (slv_own (xs := oi) hw 10 rfl (by omega)))) ?_
            rintro _ rfl
            refine Seq.pur rfl rfl (p_not rfl rfl) ?_
            refine Seq.pur rfl rfl (p_move rfl rfl) ?_
            refine Seq.split 92 rfl (fun k16_4 => ?_) (fun k16_4 => ?_)
            · exact absurd k16_4 (by simp)
              --closed
            · refine Seq.pur rfl rfl (p_move rfl rfl) ?_
              refine Seq.pur rfl rfl (p_field rfl rfl fi55_2 (by first | exact add_at0 _ _ | exact add_at _ _ _ | rfl)) ?_
              refine Seq.val rfl rfl (v_load rfl rfl ag34 (by first | exact has_blk rfl | exact has_old' (by assumption))) ?_
              refine Seq.pur rfl rfl (p_len rfl rfl Try.underlying34) ?_
              refine Seq.know (φ := ∃ ag, G = some ag) (fun w hw => by
                obtain ⟨A', len', cap', he', h1, hr', h2, h3⟩ := rd_own hw
                cases he'
                obtain ⟨ag, h4, _⟩ := hr'.int (i := od.length) (x := 77) (by simp)
                exact ⟨ag, h4⟩) ?_
              rintro ⟨ag, rfl⟩
              refine Seq.pur rfl rfl (p_index1 (ad' := ag.add od.length) rfl rfl rfl Try.underlying34 sz3 (by omega) (by omega) rfl) ?_
              refine Seq.val rfl rfl (v_load rfl rfl ag3 (has_el (h := 77) 0 rfl (by simp; omega) (by simp))) ?_
              refine Seq.pur rfl rfl (p_neq rfl rfl rfl) ?_
              refine Seq.pur rfl rfl (p_pick_f rfl rfl rfl) ?_
              refine Seq.pur rfl rfl (p_move rfl rfl) ?_
              refine Seq.split 101 rfl (fun k16_13 => ?_) (fun k16_13 => ?_)
              · exact absurd k16_13 (by decide)
                --closed
              · refine Seq.val rfl rfl (v_loads (vs := [_, _]) rfl rfl ag25 sz25 rfl (hass_blk rfl)) ?_
                refine Seq.val rfl rfl (v_loads (vs := [_, _]) rfl rfl ag25 sz25 rfl (hass_blk rfl)) ?_
                -- calls tangram/tangramref04.Same
                refine Seq.rel0 rfl rfl (r_call en33 rfl rfl rfl (fun w' hw => GSame_calls (prv_pre hw 22 rfl fg) (hg.keep0 hw))) ?_
                rintro _ rfl
                refine Seq.pur rfl rfl (p_not rfl rfl) ?_
                refine Seq.pur rfl rfl (p_pick_f rfl rfl rfl) ?_
                refine Seq.nil ?_
                refine Fin.then ?_
                refine DC.cond rfl (fun c16 => ?_) (fun c16 => ?_)
                · exact absurd c16 (by simp)
                  --closed
                · refine DC.skip ?_
                  refine Fin.then ?_
                  refine DC.seq ?_
                  refine DC.weak (E' := [(5, .pointer (some ⟨g5, 0, none⟩)), (7, .pointer (some ⟨g7, 0, none⟩))]) (L' := [slc (.slice B0 pa.length d0) 3 1 (ints pa), slc (.slice B1 he.length d1) 3 1 (ints he), slc (.slice B2 od.length d2) 3 1 (ints od), slc (.slice B3 oi.length d3) 3 1 (ints oi), slc (.slice A0 pa.length c0) 3 1 (ints pa), slc (.slice A1 he.length c1') 3 1 (ints he), slc (.slice A2 od.length c2) 3 1 (ints od), slc (.slice A3 oi.length c3) 3 1 (ints oi), blk g7 55 #[.slice B0 pa.length d0, .slice B1 he.length d1, .slice B2 od.length d2, .slice B3 oi.length d3], blk g5 55 #[.slice A0 pa.length c0, .slice A1 he.length c1', .slice A2 od.length c2, .slice A3 oi.length c3]]) ⟨rfl, rfl, trivial⟩ (Pick.idx [12, 13, 14, 15, 17, 18, 19, 20, 11, 16] rfl (.cons rfl (.cons rfl (.cons rfl (.cons rfl (.cons rfl (.cons rfl (.cons rfl (.cons rfl (.cons rfl (.cons rfl .nil))))))))))) ?_
                  refine DC.region ?_
                  refine Seq.pur rfl rfl (p_field rfl rfl fi55_0 (by first | exact add_at0 _ _ | exact add_at _ _ _ | rfl)) ?_
                  refine Seq.val rfl rfl (v_load rfl rfl ag34 (by first | exact has_blk rfl | exact has_old' (by assumption))) ?_
                  refine Seq.pur rfl rfl (p_field rfl rfl fi55_1 (by first | exact add_at0 _ _ | exact add_at _ _ _ | rfl)) ?_
                  refine Seq.val rfl rfl (v_load rfl rfl ag34 (by first | exact has_blk rfl | exact has_old' (by assumption))) ?_
                  refine Seq.pur rfl rfl (p_field rfl rfl fi55_2 (by first | exact add_at0 _ _ | exact add_at _ _ _ | rfl)) ?_
                  refine Seq.val rfl rfl (v_load rfl rfl ag34 (by first | exact has_blk rfl | exact has_old' (by assumption))) ?_
                  refine Seq.pur rfl rfl (p_field rfl rfl fi55_3 (by first | exact add_at0 _ _ | exact add_at _ _ _ | rfl)) ?_
                  refine Seq.val rfl rfl (v_load rfl rfl ag34 (by first | exact has_blk rfl | exact has_old' (by assumption))) ?_
                  refine Seq.pur rfl rfl (p_field rfl rfl fi55_0 (by first | exact add_at0 _ _ | exact add_at _ _ _ | rfl)) ?_
                  refine Seq.val rfl rfl (v_load rfl rfl ag34 (by first | exact has_blk rfl | exact has_old' (by assumption))) ?_
                  refine Seq.pur rfl rfl (p_field rfl rfl fi55_1 (by first | exact add_at0 _ _ | exact add_at _ _ _ | rfl)) ?_
                  refine Seq.val rfl rfl (v_load rfl rfl ag34 (by first | exact has_blk rfl | exact has_old' (by assumption))) ?_
                  refine Seq.pur rfl rfl (p_field rfl rfl fi55_2 (by first | exact add_at0 _ _ | exact add_at _ _ _ | rfl)) ?_
                  refine Seq.val rfl rfl (v_load rfl rfl ag34 (by first | exact has_blk rfl | exact has_old' (by assumption))) ?_
                  refine Seq.pur rfl rfl (p_field rfl rfl fi55_3 (by first | exact add_at0 _ _ | exact add_at _ _ _ | rfl)) ?_
                  refine Seq.val rfl rfl (v_load rfl rfl ag34 (by first | exact has_blk rfl | exact has_old' (by assumption))) ?_
                  refine Seq.new rfl rfl (n_slit (cs := #[_, _, _, _, _, _, _, _]) rfl rfl Try.underlying41 sz34 ze34 rfl (by decide) (by decide) rfl rfl) fun g123 => ?_
                  refine Seq.gen rfl rfl (g_call (K' := idsOf ([blk g123 34 (rowsV [(.slice B0 pa.length d0, pa), (.slice B1 he.length d1, he), (.slice B2 od.length d2, od), (.slice B3 oi.length d3, oi), (.slice A0 pa.length c0, pa), (.slice A1 he.length c1', he), (.slice A2 od.length c2, od), (.slice A3 oi.length c3, oi)]).toArray] ++ rowsC 3 [(.slice B0 pa.length d0, pa), (.slice B1 he.length d1, he), (.slice B2 od.length d2, od), (.slice B3 oi.length d3, oi), (.slice A0 pa.length c0, pa), (.slice A1 he.length c1', he), (.slice A2 od.length c2, od), (.slice A3 oi.length c3, oi)])) (Lc := [blk g123 34 (rowsV [(.slice B0 pa.length d0, pa), (.slice B1 he.length d1, he), (.slice B2 od.length d2, od), (.slice B3 oi.length d3, oi), (.slice A0 pa.length c0, pa), (.slice A1 he.length c1', he), (.slice A2 od.length c2, od), (.slice A3 oi.length c3, oi)]).toArray] ++ rowsC 3 [(.slice B0 pa.length d0, pa), (.slice B1 he.length d1, he), (.slice B2 od.length d2, od), (.slice B3 oi.length d3, oi), (.slice A0 pa.length c0, pa), (.slice A1 he.length c1', he), (.slice A2 od.length c2, od), (.slice A3 oi.length c3, oi)]) (F := [blk g7 55 #[.slice B0 pa.length d0, .slice B1 he.length d1, .slice B2 od.length d2, .slice B3 oi.length d3], blk g5 55 #[.slice A0 pa.length c0, .slice A1 he.length c1', .slice A2 od.length c2, .slice A3 oi.length c3]]) en44 rfl rfl rfl (.refl _) (fun k hk => hk)
                    (fun w hw => apart_calls (Own.sub (L := [blk g123 34 (rowsV [(.slice B0 pa.length d0, pa), (.slice B1 he.length d1, he), (.slice B2 od.length d2, od), (.slice B3 oi.length d3, oi), (.slice A0 pa.length c0, pa), (.slice A1 he.length c1', he), (.slice A2 od.length c2, od), (.slice A3 oi.length c3, oi)]).toArray] ++ rowsC 3 [(.slice B0 pa.length d0, pa), (.slice B1 he.length d1, he), (.slice B2 od.length d2, od), (.slice B3 oi.length d3, oi), (.slice A0 pa.length c0, pa), (.slice A1 he.length c1', he), (.slice A2 od.length c2, od), (.slice A3 oi.length c3, oi)] ++ [blk g7 55 #[.slice B0 pa.length d0, .slice B1 he.length d1, .slice B2 od.length d2, .slice B3 oi.length d3], blk g5 55 #[.slice A0 pa.length c0, .slice A1 he.length c1', .slice A2 od.length c2, .slice A3 oi.length c3]]) hw (List.sublist_append_left _ _)).self (by simp)
                      (fun j p hp => by
                        match j, hp with
                        | 0, hp => cases hp; dsimp only; omega
                        | 1, hp => cases hp; dsimp only; omega
                        | 2, hp => cases hp; dsimp only; omega
                        | 3, hp => cases hp; dsimp only; omega
                        | 4, hp => cases hp; dsimp only; omega
                        | 5, hp => cases hp; dsimp only; omega
                        | 6, hp => cases hp; dsimp only; omega
                        | 7, hp => cases hp; dsimp only; omega
                        | _ + 8, hp => cases hp))) ?_
                  rintro _ _ ⟨L', rfl, rfl⟩
                  refine Seq.pur rfl rfl (p_assign rfl rfl) ?_
                  refine Seq.nil ?_
                  refine Fin.then ?_
                  refine DC.ret ?_
                  refine Fin.end1 (.inl rfl) rfl rfl ?_
                  rfl
end Go.Fl
