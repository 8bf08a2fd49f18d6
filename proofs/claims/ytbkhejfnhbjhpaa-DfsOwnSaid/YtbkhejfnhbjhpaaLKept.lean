/- The law CsrKept. -/
import Derived.Test.YtbkhejfnhbjhpaaCsr3
import Derived.Test.YtbkhejfnhbjhpaaRef1
set_option linter.unusedVariables false
set_option linter.unusedSimpArgs false
set_option maxRecDepth 100000
namespace Go.Fl
open Go Go.Proofs

section
variable {P : Program} {w0 w : World} {K : List Nat} {n : Nat} {ds : List Deferred} {E : Env} {L F : List Chunk} {v : Value} {t : Nat}
theorem DC.know3 {Q : Exit → Act → World → Prop} {c : Code} {φ : Prop} (hf : ∀ w, Own w0 K w L → φ) (h : φ → DC P w0 K n ds Q c E L) : DC P w0 K n ds Q c E L := fun a w ha hw => h (hf w hw) a w ha hw
theorem rd_prefix {A : Option Addr} {a b : List Value} (h : Rd w A (a ++ b)) : Rd w A a := fun j u hj => h j u (by
  have := (List.getElem?_eq_some_iff.1 hj).1
  rw [List.getElem?_append_left this]; exact hj)
/-- The first edges of a list of ours. -/
theorem prv_pre {A : Option Addr} {len cap : Nat} {es fs : List Pr} (hw : Own w0 K w L) (i : Nat) (h : L[i]? = some (slc (.slice A len cap) t 2 (prs (es ++ fs)))) (hf : es.length ≤ 8796093021952) : PrV w (.slice A es.length cap) es := by
  obtain ⟨A', len', cap', he, h1, hr, h2, h3⟩ := rd_own (hw.perm (perm_eraseIdx h).symm)
  cases he
  rw [prs_length, List.length_append] at h1
  rw [prs_append] at hr
  exact ⟨A, cap, rfl, rd_prefix hr, by omega, h3, hf⟩
theorem own_cap {A : Option Addr} {len cap : Nat} {es : List Pr} (hw : Own w0 K w L) (i : Nat) (h : L[i]? = some (slc (.slice A len cap) t 2 (prs es))) : len = es.length ∧ len ≤ cap ∧ cap ≤ 9223372036854775807 := by
  obtain ⟨A', len', cap', he, h1, hr, h2, h3⟩ := rd_own (hw.perm (perm_eraseIdx h).symm)
  cases he
  rw [prs_length] at h1
  exact ⟨by omega, h2, h3⟩
theorem hass_pair {ad : Addr} {len cap j : Nat} {es : List Pr} {e : Pr} (i : Nat) (h : L[i]? = some (slc (.slice (some ad) len cap) t 2 (prs es))) (hj : es[j]? = some e) : Hass w0 K L (ad.add (j * 2)) [.int .i64 e.1, .int .i64 e.2] := by
  intro w hw k u hu
  obtain ⟨A', len', cap', he, h1, hr, h2, h3⟩ := rd_own (hw.perm (perm_eraseIdx h).symm)
  cases he
  obtain ⟨ad', ha, c1, c2⟩ := hr.pair hj
  cases ha
  match k, hu with
  | 0, hu => simp at hu; subst hu; simpa [Addr.add] using c1
  | 1, hu => simp at hu; subst hu; rw [add_add _ _ _ (by decide)]; exact c2
  | _ + 2, hu => simp at hu
theorem prs_store {l : List Pr} {sp : List Value} {i : Nat} (a b : Int) (h : i < l.length) :
    ((prs l ++ sp).toArray.toList.take (i * 2) ++ (#[Value.int .i64 a, Value.int .i64 b] : Array Value).toList ++ (prs l ++ sp).toArray.toList.drop (i * 2 + (#[Value.int .i64 a, Value.int .i64 b] : Array Value).size)).toArray = (prs (l.set i (a, b)) ++ sp).toArray := by
  have key : ∀ (l : List Pr) (i : Nat), i < l.length → (prs l ++ sp).take (i * 2) ++ [Value.int .i64 a, Value.int .i64 b] ++ (prs l ++ sp).drop (i * 2 + 2) = prs (l.set i (a, b)) ++ sp := by
    intro l
    induction l with
    | nil => intro i h; simp at h
    | cons x r ih =>
      intro i h
      obtain ⟨x1, x2⟩ := x
      cases i with
      | zero => simp [prs]
      | succ i =>
        have := ih i (by simpa using h)
        simp only [prs, List.set_cons_succ, List.cons_append]
        rw [show (i + 1) * 2 = i * 2 + 2 by omega, show i * 2 + 2 + 2 = (i * 2 + 2) + 2 by rfl]
        simp only [List.take_succ_cons, List.drop_succ_cons, List.cons_append]
        rw [← this]
  apply Array.ext'
  simpa using key l i h
end
theorem rValidK_no {N : Int} {es : List Pr} {va : Value} {w : World} (hg : PrV w va es) (hV : ¬ Vld N es) :
    Calls Try.prog 16 #[.agg #[.int .i64 N, va]] w (Ret w [] fun v L => L = [] ∧ v = .bool false) :=
  Calls.mono (rValid_calls (N := N) hg) fun e w' h => Retm h fun v L ⟨h1, b, h2, h3⟩ => ⟨h1, by cases b with | true => exact absurd (h3.1 rfl) hV | false => exact h2⟩
theorem half_nil (x y : Int) (w : World) : Calls Try.prog 28 #[.pointer none, .int .i64 x, .int .i64 y] w (Ret w [] fun r L => L = [] ∧ r = .tuple #[.int .i64 0, .bool false]) :=
  Calls.mono (Half_calls (N := 0) (es := []) (M := ⟨0, 0, 0, 0, 0, [], [], [], []⟩) (.nil rfl rfl) x y) fun e w' hr => Retm hr fun r L ⟨h1, k', b, h2, h3⟩ => ⟨h1, by
    rcases h3 with ⟨rfl, h3⟩ | ⟨rfl, rfl, h3⟩
    · have a := h3.lo; have b := h3.hi; simp at b; omega
    · exact h2⟩
abbrev M0 : AdjM := ⟨0, 0, 0, 0, 0, [], [], [], []⟩
theorem av0 (w : World) : AV w 0 [] M0 none := .nil rfl rfl
theorem CsrKept_no {N : Int} {es : List Pr} {va : Value} {w : World} (x y : Int) (hg : PrV w va es) (hV : ¬ Vld N es) :
    Calls Try.prog 7 #[.agg #[.int .i64 N, va], .int .i64 x, .int .i64 y] w (Ret w [] fun v L => v = .bool true) := by
  have fg := hg.few
  have qg := hg
  obtain ⟨B, cb, rfl, hr, hlc, hcm, hl⟩ := qg
  have hxo : ∀ z : Int, fromV [] z = -1 := fun z => fromV_out [] (by simp)
  have hyo : ∀ z : Int, toV [] z = -1 := fun z => toV_out [] (by simp)
  refine calls_of (args := [_, _, _]) (L := []) Try.func7 rfl Try.ntmps7 rfl (Own.start _ _) ?_
  refine DC.seq ?_
  refine DC.region ?_
  refine Seq.new rfl rfl (n_box rfl rfl rfl) fun g3 => ?_
  refine Seq.pur rfl rfl (p_assign rfl rfl) ?_
  refine Seq.nil ?_
  refine Fin.then ?_
  refine DC.seq ?_
  refine DC.seq ?_
  refine DC.region ?_
  -- calls tangram/tangramlaw04.awake
  refine Seq.rel0 rfl rfl (r_call en14 rfl rfl rfl (fun w' hw => cawake_calls w')) ?_
  rintro _ rfl
  refine Seq.pur rfl rfl (p_not rfl rfl) ?_
  refine Seq.nil ?_
  refine Fin.then ?_
  refine DC.cond rfl (fun c1 => ?_) (fun c1 => ?_)
  · exact absurd c1 (by decide)
    --closed
  · refine DC.skip ?_
    refine Fin.then ?_
    refine DC.seq ?_
    refine DC.region ?_
    refine Seq.val rfl rfl (v_loads (vs := [_, _]) rfl rfl ag25 sz25 rfl (hass_blk rfl)) ?_
    -- calls tangram/tangramref04.Copy
    refine Seq.rel rfl rfl (r_call en31 rfl rfl rfl (fun w' hw => GCopy_calls (hg.keep0 hw))) ?_
    rintro _ _ ⟨u0, rfl, rfl⟩
    simp only [List.cons_append, List.nil_append]
    refine Seq.shape 0 rfl ?_
    rintro ⟨A0, l0, c0, rfl⟩
    refine Seq.new rfl rfl (n_alloc rfl ze25 rfl) fun g7 => ?_
    refine Seq.sto rfl rfl (s_stores (cs' := #[_, _]) rfl rfl rfl sz25 rfl (Nat.le_of_ble_eq_true rfl) rfl) ?_
    refine Seq.nil ?_
    refine Fin.then ?_
    refine DC.seq ?_
    refine DC.region ?_
    refine Seq.pur rfl rfl (p_field rfl rfl fi25_1 (by first | exact add_at0 _ _ | exact add_at _ _ _ | rfl)) ?_
    refine Seq.val rfl rfl (v_load rfl rfl ag23 (by first | exact has_blk rfl | exact has_old' (by assumption))) ?_
    refine Seq.pur rfl rfl (p_struct (cs := #[_, _]) rfl rfl bs39 rfl rfl) ?_
    refine Seq.new rfl rfl (n_slit (cs := #[_, _]) rfl rfl Try.underlying23 sz39 ze39 rfl (by decide) (by decide) rfl rfl) fun g24 => ?_
    refine Seq.gen rfl rfl (Gen.shapeL (g_append (F := [blk g24 39 #[.int .i64 (-5), .int .i64 (-6)], blk g7 25 #[.int .i64 N, .slice A0 l0 c0], blk g3 25 #[.int .i64 N, .slice B es.length cb]]) (vs := prs es) (k := 1) (news := [.int .i64 (-5), .int .i64 (-6)]) rfl rfl rfl Try.underlying23 sz39 by39 ze39 rfl (by decide) (by decide)
      (fun w hw => hw.pick (Pick.idx [2, 0, 1, 3] rfl (.cons rfl (.cons rfl (.cons rfl (.cons rfl .nil)))))) (.inl ⟨_, _, rfl, hass_blk rfl⟩) rfl (by intro u hu; simp at hu; rcases hu with rfl | rfl <;> rfl) (by rw [prs_length]; omega))) ?_
    rintro _ _ ⟨⟨A, len, cap, rfl, hlen⟩, rfl⟩
    have e4 : prs es ++ [Value.int .i64 (-5), Value.int .i64 (-6)] = prs (es ++ [(-5, -6)]) := by rw [prs_append]; rfl
    rw [e4] at hlen ⊢
    obtain rfl : len = es.length + 1 := by rw [prs_length] at hlen; simp at hlen; omega
    refine Seq.pur rfl rfl (p_field rfl rfl fi25_1 (by first | exact add_at0 _ _ | exact add_at _ _ _ | rfl)) ?_
    refine Seq.sto rfl rfl (s_store (cs' := #[_, _]) rfl rfl rfl sz23 rfl (Nat.le_of_ble_eq_true rfl) rfl) ?_
    refine Seq.nil ?_
    refine Fin.then ?_
    refine DC.seq ?_
    refine DC.know3 (φ := es.length + 1 ≤ cap ∧ cap ≤ 9223372036854775807) (fun w hw => (own_cap hw 0 rfl).2) ?_
    rintro ⟨hcap1, hcap2⟩
    refine DC.flow (cl := [.q, .v, .q, .v, .q, .v, .q, .q, .q, .r, .q, .q, .q, .q, .q]) (A := [0, 1, 0, 4, 0, 16, 48, 124, 255, 511, 1023, 2047, 2047, 4095, 16383]) (order := [0, 1, 2, 3, 4, 5, 6, 7, 8, 9, 10, 11, 12, 13, 14]) [] mixed (by kernel_rfl) (fun w hw => hw.pick .nil) ?_
    refine Flow.pur rfl rfl rfl (p_field rfl rfl fi25_0 (by first | exact add_at0 _ _ | exact add_at _ _ _ | rfl)) ?_
    refine Flow.valS rfl rfl rfl rfl (v_load rfl rfl ag3 (by first | exact has_blk rfl | exact has_old' (by assumption))) ?_
    refine Flow.pur rfl rfl rfl (p_field rfl rfl fi25_1 (by first | exact add_at0 _ _ | exact add_at _ _ _ | rfl)) ?_
    refine Flow.valS rfl rfl rfl rfl (v_load rfl rfl ag23 (by first | exact has_blk rfl | exact has_old' (by assumption))) ?_
    refine Flow.pur rfl rfl rfl (p_field rfl rfl fi25_1 (by first | exact add_at0 _ _ | exact add_at _ _ _ | rfl)) ?_
    refine Flow.valS rfl rfl rfl rfl (v_load rfl rfl ag23 (by first | exact has_blk rfl | exact has_old' (by assumption))) ?_
    refine Flow.pur rfl rfl rfl (p_len rfl rfl Try.underlying23) ?_
    refine Flow.pur rfl rfl rfl (p_slice_to (hi := es.length) rfl rfl rfl Try.underlying23 sz39 (by omega)) ?_
    refine Flow.pur rfl rfl rfl (p_struct (cs := #[_, _]) rfl rfl bs25 rfl rfl) ?_
    -- calls tangram/csr.New
    refine Flow.rel0 rfl rfl rfl rfl (r_call en32 rfl rfl rfl (fun w' hw => New_no (prv_pre hw 0 rfl fg) hV)) ?_
    rintro _ rfl
    refine Flow.pur rfl rfl rfl (p_move rfl rfl) ?_
    refine Flow.pur rfl rfl rfl (p_extract rfl rfl rfl) ?_
    refine Flow.pur rfl rfl rfl (p_extract rfl rfl rfl) ?_
    refine Flow.pur rfl rfl rfl (p_assign rfl rfl) ?_
    refine Flow.pur rfl rfl rfl (p_assign rfl rfl) ?_
    refine Flow.end rfl ?_
    simp only [List.map_cons, List.map_nil, List.nil_append, List.cons_append, List.append_nil]
    refine Fin.then ?_
    refine DC.seq ?_
    refine DC.seq ?_
    refine DC.weak (E' := [(1, .int .i64 x), (2, .int .i64 y), (3, .pointer (some ⟨g3, 0, none⟩)), (7, .pointer (some ⟨g7, 0, none⟩)), (8, .pointer none)]) (L' := [slc (.slice A (es.length + 1) cap) 39 2 (prs (es ++ [(-5, -6)])), blk g7 25 #[.int .i64 N, .slice A (es.length + 1) cap], blk g3 25 #[.int .i64 N, .slice B es.length cb]]) ⟨rfl, rfl, rfl, rfl, rfl, trivial⟩ (.cons 0 rfl (.cons 1 rfl (.cons 1 rfl .nil))) ?_
    refine DC.know3 (φ := ∃ ad, A = some ad) (fun w hw => by
      obtain ⟨A', len', cap', he, h1, hr, h2, h3⟩ := rd_own (hw.perm (perm_eraseIdx (i := 0) rfl).symm)
      cases he
      obtain ⟨ad, h4, _⟩ := hr.pair (i := es.length) (e := (-5, -6)) (by simp)
      exact ⟨ad, h4⟩) ?_
    rintro ⟨ad, rfl⟩
    refine DC.flow (cl := [.q, .v, .q, .v, .q, .v, .q, .q, .q, .v, .r, .q, .q, .q, .v, .q, .v, .q, .q, .v, .q, .q, .q]) (A := [0, 1, 0, 4, 0, 16, 48, 124, 255, 0, 1023, 2047, 4095, 8191, 16383, 8191, 40959, 106495, 262143, 524287, 8191, 2097151, 4194303]) (order := [0, 1, 2, 3, 4, 5, 6, 7, 8, 9, 10, 11, 12, 13, 14, 15, 16, 17, 18, 19, 20, 21, 22]) [] mixed (by kernel_rfl) (fun w hw => hw.pick .nil) ?_
    refine Flow.pur rfl rfl rfl (p_field rfl rfl fi25_0 (by first | exact add_at0 _ _ | exact add_at _ _ _ | rfl)) ?_
    refine Flow.valS rfl rfl rfl rfl (v_load rfl rfl ag3 (by first | exact has_blk rfl | exact has_old' (by assumption))) ?_
    refine Flow.pur rfl rfl rfl (p_field rfl rfl fi25_1 (by first | exact add_at0 _ _ | exact add_at _ _ _ | rfl)) ?_
    refine Flow.valS rfl rfl rfl rfl (v_load rfl rfl ag23 (by first | exact has_blk rfl | exact has_old' (by assumption))) ?_
    refine Flow.pur rfl rfl rfl (p_field rfl rfl fi25_1 (by first | exact add_at0 _ _ | exact add_at _ _ _ | rfl)) ?_
    refine Flow.valS rfl rfl rfl rfl (v_load rfl rfl ag23 (by first | exact has_blk rfl | exact has_old' (by assumption))) ?_
    refine Flow.pur rfl rfl rfl (p_len rfl rfl Try.underlying23) ?_
    refine Flow.pur rfl rfl rfl (p_slice_to (hi := es.length) rfl rfl rfl Try.underlying23 sz39 (by omega)) ?_
    refine Flow.pur rfl rfl rfl (p_struct (cs := #[_, _]) rfl rfl bs25 rfl rfl) ?_
    refine Flow.valS rfl rfl rfl rfl (v_loads (vs := [_, _]) rfl rfl ag25 sz25 rfl (hass_blk rfl)) ?_
    -- calls tangram/tangramref04.Same
    refine Flow.rel0 rfl rfl rfl rfl (r_call en33 rfl rfl rfl (fun w' hw => GSame_calls (prv_pre hw 0 rfl fg) (hg.keep0 hw))) ?_
    rintro _ rfl
    refine Flow.pur rfl rfl rfl (p_not rfl rfl) ?_
    refine Flow.pur rfl rfl rfl (p_move rfl rfl) ?_
    refine Flow.split 52 rfl (fun k6_12 => ?_) (fun k6_12 => ?_)
    · exact absurd k6_12 (by simp)
      --closed
    · refine Flow.pur rfl rfl rfl (p_field rfl rfl fi25_1 (by first | exact add_at0 _ _ | exact add_at _ _ _ | rfl)) ?_
      refine Flow.valS rfl rfl rfl rfl (v_load rfl rfl ag23 (by first | exact has_blk rfl | exact has_old' (by assumption))) ?_
      refine Flow.pur rfl rfl rfl (p_field rfl rfl fi25_1 (by first | exact add_at0 _ _ | exact add_at _ _ _ | rfl)) ?_
      refine Flow.valS rfl rfl rfl rfl (v_load rfl rfl ag23 (by first | exact has_blk rfl | exact has_old' (by assumption))) ?_
      refine Flow.pur rfl rfl rfl (p_len rfl rfl Try.underlying23) ?_
      refine Flow.pur rfl rfl rfl (p_index (ad' := ad.add (es.length * 2)) rfl rfl rfl Try.underlying23 sz39 (by omega) (by omega) rfl) ?_
      refine Flow.valS rfl rfl rfl rfl (v_loads (vs := [_, _]) rfl rfl ag39 sz39 rfl (hass_pair (e := (-5, -6)) 0 rfl (by simp))) ?_
      refine Flow.pur rfl rfl rfl (p_struct (cs := #[_, _]) rfl rfl bs39 rfl rfl) ?_
      refine Flow.pur rfl rfl rfl (p_neq_pair rfl rfl rfl (by kernel_rfl)) ?_
      refine Flow.pur rfl rfl rfl (p_pick_f rfl rfl rfl) ?_
      refine Flow.end rfl ?_
      simp only [List.map_cons, List.map_nil, List.nil_append, List.cons_append, List.append_nil]
      refine Fin.then ?_
      refine DC.cond rfl (fun c6 => ?_) (fun c6 => ?_)
      · exact absurd c6 (by decide)
        --closed
      · refine DC.skip ?_
        refine Fin.then ?_
        refine DC.seq ?_
        refine DC.seq ?_
        refine DC.open (fun h _ => by cases h) ?_
        intro gu len cap' sp e h1 h2 h3 h4
        obtain ⟨rfl, rfl, rfl⟩ : ad = ⟨gu, 0, none⟩ ∧ len = es.length + 1 ∧ cap' = cap := by cases e; exact ⟨rfl, rfl, rfl⟩
        clear e
        refine DC.region ?_
        refine Seq.pur rfl rfl (p_field rfl rfl fi25_1 (by first | exact add_at0 _ _ | exact add_at _ _ _ | rfl)) ?_
        refine Seq.val rfl rfl (v_load rfl rfl ag23 (by first | exact has_blk rfl | exact has_old' (by assumption))) ?_
        refine Seq.pur rfl rfl (p_len rfl rfl Try.underlying23) ?_
        refine Seq.pur rfl rfl (p_move rfl rfl) ?_
        refine Seq.nil ?_
        refine Fin.then ?_
        refine DC.block ?_
        refine DC.loop (ι := Nat × List Pr) (fun q => q.1 ≤ es.length + 1 ∧ q.2.length = es.length + 1) (fun q => [(1, .int .i64 x), (2, .int .i64 y), (3, .pointer (some ⟨g3, 0, none⟩)), (7, .pointer (some ⟨g7, 0, none⟩)), (8, .pointer none), (65, .int .i64 ((es.length + 1 : Nat) : Int)), (66, .int .i64 q.1)])
          (fun q => [blk gu 39 (prs q.2 ++ sp).toArray, blk g7 25 #[.int .i64 N, .slice (some ⟨gu, 0, none⟩) (es.length + 1) cap'], blk g3 25 #[.int .i64 N, .slice B es.length cb]]) (fun q => es.length + 1 - q.1) (0, es ++ [(-5, -6)]) ⟨Nat.zero_le _, by simp⟩ ⟨rfl, rfl, rfl, rfl, rfl, rfl, rfl, trivial⟩ (Pick.all _) ?_
        rintro ⟨i, q⟩ ⟨hi, hq⟩
        dsimp only at hi hq ⊢
        refine DC.seq ?_
        refine DC.region ?_
        refine Seq.pur rfl rfl (p_lss rfl rfl rfl) ?_
        refine Seq.nil ?_
        refine Fin.then ?_
        refine DC.seq ?_
        refine DC.cond rfl (fun c9 => ?_) (fun c9 => ?_)
        · have hit : i < es.length + 1 := by simp at c9; omega
          refine DC.skip ?_
          refine Fin.then ?_
          refine DC.seq ?_
          refine DC.block ?_
          refine DC.seq ?_
          refine DC.region ?_
          refine Seq.pur rfl rfl (p_move rfl rfl) ?_
          refine Seq.pur rfl rfl (p_assign rfl rfl) ?_
          refine Seq.nil ?_
          refine Fin.then ?_
          refine DC.region ?_
          refine Seq.pur rfl rfl (p_field rfl rfl fi25_1 (by first | exact add_at0 _ _ | exact add_at _ _ _ | rfl)) ?_
          refine Seq.val rfl rfl (v_load rfl rfl ag23 (by first | exact has_blk rfl | exact has_old' (by assumption))) ?_
          refine Seq.pur rfl rfl (p_move rfl rfl) ?_
          refine Seq.pur rfl rfl (p_struct (cs := #[_, _]) rfl rfl bs39 rfl rfl) ?_
          refine Seq.pur rfl rfl (p_index (ad' := ⟨gu, i * 2, none⟩) rfl rfl rfl Try.underlying23 sz39 (by omega) (by omega) (add_at0 _ _)) ?_
          refine Seq.sto rfl rfl (s_stores (cs' := (prs (q.set i (7, 7)) ++ sp).toArray) rfl rfl rfl sz39 rfl (by simp [prs_length]; omega) (prs_store 7 7 (by omega))) ?_
          refine Seq.nil ?_
          refine Fin.inBlock ?_
          refine Fin.then ?_
          refine DC.region ?_
          refine Seq.pur rfl rfl (p_add rfl rfl rfl (by omega)) ?_
          refine Seq.pur rfl rfl (p_move rfl rfl) ?_
          refine Seq.nil ?_
          refine Fin.again (i + 1, q.set i (7, 7)) (by dsimp only; omega) ⟨by dsimp only; omega, by simpa using hq⟩ ⟨rfl, rfl, rfl, rfl, rfl, rfl, rfl, trivial⟩ (Pick.all _)
        · clear c9
          refine DC.exit ?_
          refine Fin.exit_then <| Fin.exit_then <| Fin.exit_here <| ?_
          refine Fin.then ?_
          refine DC.seq ?_
          refine DC.region ?_
          refine Seq.pur rfl rfl (p_assign rfl rfl) ?_
          refine Seq.nil ?_
          refine Fin.then ?_
          refine DC.seq ?_
          refine DC.region ?_
          refine Seq.pur rfl rfl (p_move rfl rfl) ?_
          refine Seq.pur rfl rfl (p_move rfl rfl) ?_
          -- calls tangram/tangramlaw04.out
          refine Seq.rel rfl rfl (r_call en19 rfl rfl rfl (fun w' hw => out_calls (av0 w') x 0)) ?_
          rintro _ _ ⟨u, rfl, rfl⟩
          simp only [List.cons_append, List.nil_append]
          refine Seq.shape 0 rfl ?_
          rintro ⟨A1, l1, c1', rfl⟩
          refine Seq.pur rfl rfl (p_move rfl rfl) ?_
          refine Seq.pur rfl rfl (p_extract rfl rfl rfl) ?_
          refine Seq.pur rfl rfl (p_extract rfl rfl rfl) ?_
          refine Seq.pur rfl rfl (p_assign rfl rfl) ?_
          refine Seq.pur rfl rfl (p_assign rfl rfl) ?_
          refine Seq.nil ?_
          refine Fin.then ?_
          refine DC.seq ?_
          refine DC.region ?_
          refine Seq.pur rfl rfl (p_move rfl rfl) ?_
          refine Seq.pur rfl rfl (p_move rfl rfl) ?_
          refine Seq.pur rfl rfl (p_move rfl rfl) ?_
          -- calls (*tangram/csr.Adj).Half
          refine Seq.rel0 rfl rfl (r_call en28 rfl rfl rfl (fun w' hw => half_nil x y w')) ?_
          rintro _ rfl
          refine Seq.pur rfl rfl (p_move rfl rfl) ?_
          refine Seq.pur rfl rfl (p_extract rfl rfl rfl) ?_
          refine Seq.pur rfl rfl (p_extract rfl rfl rfl) ?_
          refine Seq.pur rfl rfl (p_assign rfl rfl) ?_
          refine Seq.pur rfl rfl (p_assign rfl rfl) ?_
          refine Seq.nil ?_
          refine Fin.then ?_
          refine DC.seq ?_
          refine DC.seq ?_
          refine DC.know3 (φ := l1 = 0) (fun w hw => by
            obtain ⟨A2, c2, h5⟩ := own_len (xs := []) 0 rfl hw
            cases h5; rfl) ?_
          rintro rfl
          refine DC.region ?_
          refine Seq.pur rfl rfl (p_move rfl rfl) ?_
          refine Seq.pur rfl rfl (p_not rfl rfl) ?_
          refine Seq.pur rfl rfl (p_move rfl rfl) ?_
          refine Seq.split 90 rfl (fun k16_2 => ?_) (fun k16_2 => ?_)
          · exact absurd k16_2 (by decide)
            --closed
          · refine Seq.pur rfl rfl (p_move rfl rfl) ?_
            refine Seq.pur rfl rfl (p_len rfl rfl Try.underlying34) ?_
            refine Seq.pur rfl rfl (p_neq rfl rfl rfl) ?_
            refine Seq.pur rfl rfl (p_pick_f rfl rfl rfl) ?_
            refine Seq.pur rfl rfl (p_move rfl rfl) ?_
            refine Seq.split 95 rfl (fun k16_7 => ?_) (fun k16_7 => ?_)
            · exact absurd k16_7 (by decide)
              --closed
            · refine Seq.pur rfl rfl (p_move rfl rfl) ?_
              refine Seq.pur rfl rfl (p_pick_f rfl rfl rfl) ?_
              refine Seq.pur rfl rfl (p_move rfl rfl) ?_
              refine Seq.split 98 rfl (fun k16_10 => ?_) (fun k16_10 => ?_)
              · exact absurd k16_10 (by decide)
                --closed
              · refine Seq.pur rfl rfl (p_move rfl rfl) ?_
                -- calls (*tangram/csr.Adj).N
                refine Seq.rel0 rfl rfl (r_call en25 rfl rfl rfl (fun w' hw => N_calls (av0 w'))) ?_
                rintro _ rfl
                refine Seq.pur rfl rfl (p_neq rfl rfl rfl) ?_
                refine Seq.pur rfl rfl (p_pick_f rfl rfl rfl) ?_
                refine Seq.pur rfl rfl (p_move rfl rfl) ?_
                refine Seq.split 103 rfl (fun k16_15 => ?_) (fun k16_15 => ?_)
                · exact absurd k16_15 (by decide)
                  --closed
                · refine Seq.pur rfl rfl (p_move rfl rfl) ?_
                  -- calls (*tangram/csr.Adj).M
                  refine Seq.rel0 rfl rfl (r_call en24 rfl rfl rfl (fun w' hw => M_calls (av0 w'))) ?_
                  rintro _ rfl
                  refine Seq.pur rfl rfl (p_neq rfl rfl rfl) ?_
                  refine Seq.pur rfl rfl (p_pick_f rfl rfl rfl) ?_
                  refine Seq.pur rfl rfl (p_move rfl rfl) ?_
                  refine Seq.split 108 rfl (fun k16_20 => ?_) (fun k16_20 => ?_)
                  · exact absurd k16_20 (by decide)
                    --closed
                  · refine Seq.pur rfl rfl (p_move rfl rfl) ?_
                    refine Seq.pur rfl rfl (p_move rfl rfl) ?_
                    -- calls (*tangram/csr.Adj).Degree
                    refine Seq.rel0 rfl rfl (r_call en18 rfl rfl rfl (fun w' hw => Degree_calls (av0 w') x)) ?_
                    rintro _ rfl
                    refine Seq.pur rfl rfl (p_neq rfl rfl rfl) ?_
                    refine Seq.pur rfl rfl (p_pick_f rfl rfl rfl) ?_
                    refine Seq.pur rfl rfl (p_move rfl rfl) ?_
                    refine Seq.split 114 rfl (fun k16_26 => ?_) (fun k16_26 => ?_)
                    · exact absurd k16_26 (by simp [outs, outsF])
                      --closed
                    · refine Seq.pur rfl rfl (p_move rfl rfl) ?_
                      refine Seq.pur rfl rfl (p_move rfl rfl) ?_
                      -- calls (*tangram/csr.Adj).From
                      refine Seq.rel0 rfl rfl (r_call en21 rfl rfl rfl (fun w' hw => From_calls (av0 w') x)) ?_
                      rintro _ rfl
                      rw [hxo]
                      refine Seq.pur rfl rfl (p_neq rfl rfl rfl) ?_
                      refine Seq.pur rfl rfl (p_pick_f rfl rfl rfl) ?_
                      refine Seq.pur rfl rfl (p_move rfl rfl) ?_
                      refine Seq.split 120 rfl (fun k16_32 => ?_) (fun k16_32 => ?_)
                      · exact absurd k16_32 (by decide)
                        --closed
                      · refine Seq.pur rfl rfl (p_move rfl rfl) ?_
                        refine Seq.pur rfl rfl (p_move rfl rfl) ?_
                        -- calls (*tangram/csr.Adj).To
                        refine Seq.rel0 rfl rfl (r_call en22 rfl rfl rfl (fun w' hw => To_calls (av0 w') y)) ?_
                        rintro _ rfl
                        rw [hyo]
                        refine Seq.pur rfl rfl (p_neq rfl rfl rfl) ?_
                        refine Seq.pur rfl rfl (p_pick_f rfl rfl rfl) ?_
                        refine Seq.pur rfl rfl (p_move rfl rfl) ?_
                        refine Seq.split 126 rfl (fun k16_38 => ?_) (fun k16_38 => ?_)
                        · exact absurd k16_38 (by decide)
                          --closed
                        · refine Seq.pur rfl rfl (p_move rfl rfl) ?_
                          refine Seq.pur rfl rfl (p_move rfl rfl) ?_
                          -- calls (*tangram/csr.Adj).First
                          refine Seq.rel0 rfl rfl (r_call en20 rfl rfl rfl (fun w' hw => First_calls (av0 w') x)) ?_
                          rintro _ rfl
                          refine Seq.pur rfl rfl (p_neq rfl rfl rfl) ?_
                          refine Seq.pur rfl rfl (p_pick_f rfl rfl rfl) ?_
                          refine Seq.pur rfl rfl (p_move rfl rfl) ?_
                          refine Seq.split 132 rfl (fun k16_44 => ?_) (fun k16_44 => ?_)
                          · exact absurd k16_44 (by simp [outs, outsF])
                            --closed
                          · refine Seq.pur rfl rfl (p_move rfl rfl) ?_
                            refine Seq.pur rfl rfl (p_move rfl rfl) ?_
                            -- calls (*tangram/csr.Adj).After
                            refine Seq.rel0 rfl rfl (r_call en23 rfl rfl rfl (fun w' hw => after_out (av0 w') (x := y) (by simp))) ?_
                            rintro _ rfl
                            refine Seq.pur rfl rfl (p_neq rfl rfl rfl) ?_
                            refine Seq.pur rfl rfl (p_pick_f rfl rfl rfl) ?_
                            refine Seq.nil ?_
                            refine Fin.then ?_
                            refine DC.cond rfl (fun c16 => ?_) (fun c16 => ?_)
                            · exact absurd c16 (by decide)
                              --closed
                            · refine DC.skip ?_
                              refine Fin.then ?_
                              refine DC.seq ?_
                              refine DC.seq ?_
                              refine DC.region ?_
                              refine Seq.pur rfl rfl (p_move rfl rfl) ?_
                              refine Seq.pur rfl rfl (p_eql_nil rfl rfl rfl Try.underlying26) ?_
                              refine Seq.nil ?_
                              refine Fin.then ?_
                              refine DC.cond rfl (fun c18 => ?_) (fun c18 => ?_)
                              · refine DC.seq ?_
                                refine DC.region ?_
                                refine Seq.val rfl rfl (v_loads (vs := [_, _]) rfl rfl ag25 sz25 rfl (hass_blk rfl)) ?_
                                -- calls tangram/tangramref04.Valid
                                refine Seq.rel0 rfl rfl (r_call en16 rfl rfl rfl (fun w' hw => rValidK_no (hg.keep0 hw) hV)) ?_
                                rintro _ rfl
                                refine Seq.pur rfl rfl (p_not rfl rfl) ?_
                                refine Seq.pur rfl rfl (p_assign rfl rfl) ?_
                                refine Seq.nil ?_
                                refine Fin.then ?_
                                refine DC.ret ?_
                                refine Fin.ret_then <| ?_
                                refine Fin.end1 (.inl rfl) rfl rfl ?_
                                rfl
                              · exact absurd c18 (by decide)
                                --closed
theorem CsrKept_yes {N : Int} {es : List Pr} {va : Value} {w : World} (x y : Int) (hg : PrV w va es) (hV : Vld N es) :
    Calls Try.prog 7 #[.agg #[.int .i64 N, va], .int .i64 x, .int .i64 y] w (Ret w [] fun v L => v = .bool true) := by
  have fg := hg.few
  have qg := hg
  have hfew := hV.few
  obtain ⟨B, cb, rfl, hr, hlc, hcm, hl⟩ := qg
  have hxo : ∀ z : Int, fromV [] z = -1 := fun z => fromV_out [] (by simp)
  have hyo : ∀ z : Int, toV [] z = -1 := fun z => toV_out [] (by simp)
  refine calls_of (args := [_, _, _]) (L := []) Try.func7 rfl Try.ntmps7 rfl (Own.start _ _) ?_
  refine DC.seq ?_
  refine DC.region ?_
  refine Seq.new rfl rfl (n_box rfl rfl rfl) fun g3 => ?_
  refine Seq.pur rfl rfl (p_assign rfl rfl) ?_
  refine Seq.nil ?_
  refine Fin.then ?_
  refine DC.seq ?_
  refine DC.seq ?_
  refine DC.region ?_
  -- calls tangram/tangramlaw04.awake
  refine Seq.rel0 rfl rfl (r_call en14 rfl rfl rfl (fun w' hw => cawake_calls w')) ?_
  rintro _ rfl
  refine Seq.pur rfl rfl (p_not rfl rfl) ?_
  refine Seq.nil ?_
  refine Fin.then ?_
  refine DC.cond rfl (fun c1 => ?_) (fun c1 => ?_)
  · exact absurd c1 (by decide)
    --closed
  · refine DC.skip ?_
    refine Fin.then ?_
    refine DC.seq ?_
    refine DC.region ?_
    refine Seq.val rfl rfl (v_loads (vs := [_, _]) rfl rfl ag25 sz25 rfl (hass_blk rfl)) ?_
    -- calls tangram/tangramref04.Copy
    refine Seq.rel rfl rfl (r_call en31 rfl rfl rfl (fun w' hw => GCopy_calls (hg.keep0 hw))) ?_
    rintro _ _ ⟨u0, rfl, rfl⟩
    simp only [List.cons_append, List.nil_append]
    refine Seq.shape 0 rfl ?_
    rintro ⟨A0, l0, c0, rfl⟩
    refine Seq.new rfl rfl (n_alloc rfl ze25 rfl) fun g7 => ?_
    refine Seq.sto rfl rfl (s_stores (cs' := #[_, _]) rfl rfl rfl sz25 rfl (Nat.le_of_ble_eq_true rfl) rfl) ?_
    refine Seq.nil ?_
    refine Fin.then ?_
    refine DC.seq ?_
    refine DC.region ?_
    refine Seq.pur rfl rfl (p_field rfl rfl fi25_1 (by first | exact add_at0 _ _ | exact add_at _ _ _ | rfl)) ?_
    refine Seq.val rfl rfl (v_load rfl rfl ag23 (by first | exact has_blk rfl | exact has_old' (by assumption))) ?_
    refine Seq.pur rfl rfl (p_struct (cs := #[_, _]) rfl rfl bs39 rfl rfl) ?_
    refine Seq.new rfl rfl (n_slit (cs := #[_, _]) rfl rfl Try.underlying23 sz39 ze39 rfl (by decide) (by decide) rfl rfl) fun g24 => ?_
    refine Seq.gen rfl rfl (Gen.shapeL (g_append (F := [blk g24 39 #[.int .i64 (-5), .int .i64 (-6)], blk g7 25 #[.int .i64 N, .slice A0 l0 c0], blk g3 25 #[.int .i64 N, .slice B es.length cb]]) (vs := prs es) (k := 1) (news := [.int .i64 (-5), .int .i64 (-6)]) rfl rfl rfl Try.underlying23 sz39 by39 ze39 rfl (by decide) (by decide)
      (fun w hw => hw.pick (Pick.idx [2, 0, 1, 3] rfl (.cons rfl (.cons rfl (.cons rfl (.cons rfl .nil)))))) (.inl ⟨_, _, rfl, hass_blk rfl⟩) rfl (by intro u hu; simp at hu; rcases hu with rfl | rfl <;> rfl) (by rw [prs_length]; omega))) ?_
    rintro _ _ ⟨⟨A, len, cap, rfl, hlen⟩, rfl⟩
    have e4 : prs es ++ [Value.int .i64 (-5), Value.int .i64 (-6)] = prs (es ++ [(-5, -6)]) := by rw [prs_append]; rfl
    rw [e4] at hlen ⊢
    obtain rfl : len = es.length + 1 := by rw [prs_length] at hlen; simp at hlen; omega
    refine Seq.pur rfl rfl (p_field rfl rfl fi25_1 (by first | exact add_at0 _ _ | exact add_at _ _ _ | rfl)) ?_
    refine Seq.sto rfl rfl (s_store (cs' := #[_, _]) rfl rfl rfl sz23 rfl (Nat.le_of_ble_eq_true rfl) rfl) ?_
    refine Seq.nil ?_
    refine Fin.then ?_
    refine DC.seq ?_
    refine DC.know3 (φ := es.length + 1 ≤ cap ∧ cap ≤ 9223372036854775807) (fun w hw => (own_cap hw 0 rfl).2) ?_
    rintro ⟨hcap1, hcap2⟩
    refine DC.flow (cl := [.q, .v, .q, .v, .q, .v, .q, .q, .q, .r, .q, .q, .q, .q, .q]) (A := [0, 1, 0, 4, 0, 16, 48, 124, 255, 511, 1023, 2047, 2047, 4095, 16383]) (order := [0, 1, 2, 3, 4, 5, 6, 7, 8, 9, 10, 11, 12, 13, 14]) [] mixed (by kernel_rfl) (fun w hw => hw.pick .nil) ?_
    refine Flow.pur rfl rfl rfl (p_field rfl rfl fi25_0 (by first | exact add_at0 _ _ | exact add_at _ _ _ | rfl)) ?_
    refine Flow.valS rfl rfl rfl rfl (v_load rfl rfl ag3 (by first | exact has_blk rfl | exact has_old' (by assumption))) ?_
    refine Flow.pur rfl rfl rfl (p_field rfl rfl fi25_1 (by first | exact add_at0 _ _ | exact add_at _ _ _ | rfl)) ?_
    refine Flow.valS rfl rfl rfl rfl (v_load rfl rfl ag23 (by first | exact has_blk rfl | exact has_old' (by assumption))) ?_
    refine Flow.pur rfl rfl rfl (p_field rfl rfl fi25_1 (by first | exact add_at0 _ _ | exact add_at _ _ _ | rfl)) ?_
    refine Flow.valS rfl rfl rfl rfl (v_load rfl rfl ag23 (by first | exact has_blk rfl | exact has_old' (by assumption))) ?_
    refine Flow.pur rfl rfl rfl (p_len rfl rfl Try.underlying23) ?_
    refine Flow.pur rfl rfl rfl (p_slice_to (hi := es.length) rfl rfl rfl Try.underlying23 sz39 (by omega)) ?_
    refine Flow.pur rfl rfl rfl (p_struct (cs := #[_, _]) rfl rfl bs25 rfl rfl) ?_
    -- calls tangram/csr.New
    refine Flow.relS rfl rfl rfl rfl (r_call en32 rfl rfl rfl (fun w' hw => New_yes (prv_pre hw 0 rfl fg) hV)) ?_
    rintro _ _ ⟨M, hM, rfl, rfl⟩
    simp only [adjL, List.map_cons, List.map_nil, List.cons_append, List.nil_append]
    refine Flow.pur rfl rfl rfl (p_move rfl rfl) ?_
    refine Flow.pur rfl rfl rfl (p_extract rfl rfl rfl) ?_
    refine Flow.pur rfl rfl rfl (p_extract rfl rfl rfl) ?_
    refine Flow.pur rfl rfl rfl (p_assign rfl rfl) ?_
    refine Flow.pur rfl rfl rfl (p_assign rfl rfl) ?_
    refine Flow.end rfl ?_
    simp only [List.map_cons, List.map_nil, List.nil_append, List.cons_append, List.append_nil]
    refine Fin.then ?_
    refine DC.seq ?_
    refine DC.seq ?_
    refine DC.weak (E' := [(1, .int .i64 x), (2, .int .i64 y), (3, .pointer (some ⟨g3, 0, none⟩)), (7, .pointer (some ⟨g7, 0, none⟩)), (8, .pointer (some ⟨M.gp, 0, none⟩))]) (L' := [slc (.slice A (es.length + 1) cap) 39 2 (prs (es ++ [(-5, -6)])), blk g7 25 #[.int .i64 N, .slice A (es.length + 1) cap], blk g3 25 #[.int .i64 N, .slice B es.length cb], blk M.gp 73 #[sl M.g0 M.fr, sl M.g1 M.st, sl M.g2 M.ou, sl M.g3 M.pl], blk M.g0 3 (ints M.fr).toArray, blk M.g1 3 (ints M.st).toArray, blk M.g2 3 (ints M.ou).toArray, blk M.g3 3 (ints M.pl).toArray]) ⟨rfl, rfl, rfl, rfl, rfl, trivial⟩ (Pick.idx [5, 7, 8, 0, 1, 2, 3, 4] rfl (.cons rfl (.cons rfl (.cons rfl (.cons rfl (.cons rfl (.cons rfl (.cons rfl (.cons rfl .nil))))))))) ?_
    refine DC.know3 (φ := ∃ ad, A = some ad) (fun w hw => by
      obtain ⟨A', len', cap', he, h1, hr, h2, h3⟩ := rd_own (hw.perm (perm_eraseIdx (i := 0) rfl).symm)
      cases he
      obtain ⟨ad, h4, _⟩ := hr.pair (i := es.length) (e := (-5, -6)) (by simp)
      exact ⟨ad, h4⟩) ?_
    rintro ⟨ad, rfl⟩
    refine DC.flow (cl := [.q, .v, .q, .v, .q, .v, .q, .q, .q, .v, .r, .q, .q, .q, .v, .q, .v, .q, .q, .v, .q, .q, .q]) (A := [0, 1, 0, 4, 0, 16, 48, 124, 255, 0, 1023, 2047, 4095, 8191, 16383, 8191, 40959, 106495, 262143, 524287, 8191, 2097151, 4194303]) (order := [0, 1, 2, 3, 4, 5, 6, 7, 8, 9, 10, 11, 12, 13, 14, 15, 16, 17, 18, 19, 20, 21, 22]) [] mixed (by kernel_rfl) (fun w hw => hw.pick .nil) ?_
    refine Flow.pur rfl rfl rfl (p_field rfl rfl fi25_0 (by first | exact add_at0 _ _ | exact add_at _ _ _ | rfl)) ?_
    refine Flow.valS rfl rfl rfl rfl (v_load rfl rfl ag3 (by first | exact has_blk rfl | exact has_old' (by assumption))) ?_
    refine Flow.pur rfl rfl rfl (p_field rfl rfl fi25_1 (by first | exact add_at0 _ _ | exact add_at _ _ _ | rfl)) ?_
    refine Flow.valS rfl rfl rfl rfl (v_load rfl rfl ag23 (by first | exact has_blk rfl | exact has_old' (by assumption))) ?_
    refine Flow.pur rfl rfl rfl (p_field rfl rfl fi25_1 (by first | exact add_at0 _ _ | exact add_at _ _ _ | rfl)) ?_
    refine Flow.valS rfl rfl rfl rfl (v_load rfl rfl ag23 (by first | exact has_blk rfl | exact has_old' (by assumption))) ?_
    refine Flow.pur rfl rfl rfl (p_len rfl rfl Try.underlying23) ?_
    refine Flow.pur rfl rfl rfl (p_slice_to (hi := es.length) rfl rfl rfl Try.underlying23 sz39 (by omega)) ?_
    refine Flow.pur rfl rfl rfl (p_struct (cs := #[_, _]) rfl rfl bs25 rfl rfl) ?_
    refine Flow.valS rfl rfl rfl rfl (v_loads (vs := [_, _]) rfl rfl ag25 sz25 rfl (hass_blk rfl)) ?_
    -- calls tangram/tangramref04.Same
    refine Flow.rel0 rfl rfl rfl rfl (r_call en33 rfl rfl rfl (fun w' hw => GSame_calls (prv_pre hw 0 rfl fg) (hg.keep0 hw))) ?_
    rintro _ rfl
    refine Flow.pur rfl rfl rfl (p_not rfl rfl) ?_
    refine Flow.pur rfl rfl rfl (p_move rfl rfl) ?_
    refine Flow.split 52 rfl (fun k6_12 => ?_) (fun k6_12 => ?_)
    · exact absurd k6_12 (by simp)
      --closed
    · refine Flow.pur rfl rfl rfl (p_field rfl rfl fi25_1 (by first | exact add_at0 _ _ | exact add_at _ _ _ | rfl)) ?_
      refine Flow.valS rfl rfl rfl rfl (v_load rfl rfl ag23 (by first | exact has_blk rfl | exact has_old' (by assumption))) ?_
      refine Flow.pur rfl rfl rfl (p_field rfl rfl fi25_1 (by first | exact add_at0 _ _ | exact add_at _ _ _ | rfl)) ?_
      refine Flow.valS rfl rfl rfl rfl (v_load rfl rfl ag23 (by first | exact has_blk rfl | exact has_old' (by assumption))) ?_
      refine Flow.pur rfl rfl rfl (p_len rfl rfl Try.underlying23) ?_
      refine Flow.pur rfl rfl rfl (p_index (ad' := ad.add (es.length * 2)) rfl rfl rfl Try.underlying23 sz39 (by omega) (by omega) rfl) ?_
      refine Flow.valS rfl rfl rfl rfl (v_loads (vs := [_, _]) rfl rfl ag39 sz39 rfl (hass_pair (e := (-5, -6)) 0 rfl (by simp))) ?_
      refine Flow.pur rfl rfl rfl (p_struct (cs := #[_, _]) rfl rfl bs39 rfl rfl) ?_
      refine Flow.pur rfl rfl rfl (p_neq_pair rfl rfl rfl (by kernel_rfl)) ?_
      refine Flow.pur rfl rfl rfl (p_pick_f rfl rfl rfl) ?_
      refine Flow.end rfl ?_
      simp only [List.map_cons, List.map_nil, List.nil_append, List.cons_append, List.append_nil]
      refine Fin.then ?_
      refine DC.cond rfl (fun c6 => ?_) (fun c6 => ?_)
      · exact absurd c6 (by decide)
        --closed
      · refine DC.skip ?_
        refine Fin.then ?_
        refine DC.seq ?_
        refine DC.seq ?_
        refine DC.open (fun h _ => by cases h) ?_
        intro gu len cap' sp e h1 h2 h3 h4
        obtain ⟨rfl, rfl, rfl⟩ : ad = ⟨gu, 0, none⟩ ∧ len = es.length + 1 ∧ cap' = cap := by cases e; exact ⟨rfl, rfl, rfl⟩
        clear e
        refine DC.region ?_
        refine Seq.pur rfl rfl (p_field rfl rfl fi25_1 (by first | exact add_at0 _ _ | exact add_at _ _ _ | rfl)) ?_
        refine Seq.val rfl rfl (v_load rfl rfl ag23 (by first | exact has_blk rfl | exact has_old' (by assumption))) ?_
        refine Seq.pur rfl rfl (p_len rfl rfl Try.underlying23) ?_
        refine Seq.pur rfl rfl (p_move rfl rfl) ?_
        refine Seq.nil ?_
        refine Fin.then ?_
        refine DC.block ?_
        refine DC.loop (ι := Nat × List Pr) (fun q => q.1 ≤ es.length + 1 ∧ q.2.length = es.length + 1) (fun q => [(1, .int .i64 x), (2, .int .i64 y), (3, .pointer (some ⟨g3, 0, none⟩)), (7, .pointer (some ⟨g7, 0, none⟩)), (8, .pointer (some ⟨M.gp, 0, none⟩)), (65, .int .i64 ((es.length + 1 : Nat) : Int)), (66, .int .i64 q.1)])
          (fun q => [blk gu 39 (prs q.2 ++ sp).toArray, blk g7 25 #[.int .i64 N, .slice (some ⟨gu, 0, none⟩) (es.length + 1) cap'], blk g3 25 #[.int .i64 N, .slice B es.length cb], blk M.gp 73 #[sl M.g0 M.fr, sl M.g1 M.st, sl M.g2 M.ou, sl M.g3 M.pl], blk M.g0 3 (ints M.fr).toArray, blk M.g1 3 (ints M.st).toArray, blk M.g2 3 (ints M.ou).toArray, blk M.g3 3 (ints M.pl).toArray]) (fun q => es.length + 1 - q.1) (0, es ++ [(-5, -6)]) ⟨Nat.zero_le _, by simp⟩ ⟨rfl, rfl, rfl, rfl, rfl, rfl, rfl, trivial⟩ (Pick.all _) ?_
        rintro ⟨i, q⟩ ⟨hi, hq⟩
        dsimp only at hi hq ⊢
        refine DC.seq ?_
        refine DC.region ?_
        refine Seq.pur rfl rfl (p_lss rfl rfl rfl) ?_
        refine Seq.nil ?_
        refine Fin.then ?_
        refine DC.seq ?_
        refine DC.cond rfl (fun c9 => ?_) (fun c9 => ?_)
        · have hit : i < es.length + 1 := by simp at c9; omega
          refine DC.skip ?_
          refine Fin.then ?_
          refine DC.seq ?_
          refine DC.block ?_
          refine DC.seq ?_
          refine DC.region ?_
          refine Seq.pur rfl rfl (p_move rfl rfl) ?_
          refine Seq.pur rfl rfl (p_assign rfl rfl) ?_
          refine Seq.nil ?_
          refine Fin.then ?_
          refine DC.region ?_
          refine Seq.pur rfl rfl (p_field rfl rfl fi25_1 (by first | exact add_at0 _ _ | exact add_at _ _ _ | rfl)) ?_
          refine Seq.val rfl rfl (v_load rfl rfl ag23 (by first | exact has_blk rfl | exact has_old' (by assumption))) ?_
          refine Seq.pur rfl rfl (p_move rfl rfl) ?_
          refine Seq.pur rfl rfl (p_struct (cs := #[_, _]) rfl rfl bs39 rfl rfl) ?_
          refine Seq.pur rfl rfl (p_index (ad' := ⟨gu, i * 2, none⟩) rfl rfl rfl Try.underlying23 sz39 (by omega) (by omega) (add_at0 _ _)) ?_
          refine Seq.sto rfl rfl (s_stores (cs' := (prs (q.set i (7, 7)) ++ sp).toArray) rfl rfl rfl sz39 rfl (by simp [prs_length]; omega) (prs_store 7 7 (by omega))) ?_
          refine Seq.nil ?_
          refine Fin.inBlock ?_
          refine Fin.then ?_
          refine DC.region ?_
          refine Seq.pur rfl rfl (p_add rfl rfl rfl (by omega)) ?_
          refine Seq.pur rfl rfl (p_move rfl rfl) ?_
          refine Seq.nil ?_
          refine Fin.again (i + 1, q.set i (7, 7)) (by dsimp only; omega) ⟨by dsimp only; omega, by simpa using hq⟩ ⟨rfl, rfl, rfl, rfl, rfl, rfl, rfl, trivial⟩ (Pick.all _)
        · clear c9
          refine DC.exit ?_
          refine Fin.exit_then <| Fin.exit_then <| Fin.exit_here <| ?_
          refine Fin.then ?_
          refine DC.seq ?_
          refine DC.region ?_
          refine Seq.pur rfl rfl (p_assign rfl rfl) ?_
          refine Seq.nil ?_
          refine Fin.then ?_
          refine DC.seq ?_
          refine DC.region ?_
          refine Seq.pur rfl rfl (p_move rfl rfl) ?_
          refine Seq.pur rfl rfl (p_move rfl rfl) ?_
          -- calls tangram/tangramlaw04.out
          refine Seq.rel rfl rfl (r_call en19 rfl rfl rfl (fun w' hw => out_calls (av0 w') x 0)) ?_
          rintro _ _ ⟨u, rfl, rfl⟩
          simp only [List.cons_append, List.nil_append]
          refine Seq.shape 0 rfl ?_
          rintro ⟨A1, l1, c1', rfl⟩
          refine Seq.pur rfl rfl (p_move rfl rfl) ?_
          refine Seq.pur rfl rfl (p_extract rfl rfl rfl) ?_
          refine Seq.pur rfl rfl (p_extract rfl rfl rfl) ?_
          refine Seq.pur rfl rfl (p_assign rfl rfl) ?_
          refine Seq.pur rfl rfl (p_assign rfl rfl) ?_
          refine Seq.nil ?_
          refine Fin.then ?_
          refine DC.seq ?_
          refine DC.region ?_
          refine Seq.pur rfl rfl (p_move rfl rfl) ?_
          refine Seq.pur rfl rfl (p_move rfl rfl) ?_
          refine Seq.pur rfl rfl (p_move rfl rfl) ?_
          -- calls (*tangram/csr.Adj).Half
          refine Seq.rel0 rfl rfl (r_call en28 rfl rfl rfl (fun w' hw => half_nil x y w')) ?_
          rintro _ rfl
          refine Seq.pur rfl rfl (p_move rfl rfl) ?_
          refine Seq.pur rfl rfl (p_extract rfl rfl rfl) ?_
          refine Seq.pur rfl rfl (p_extract rfl rfl rfl) ?_
          refine Seq.pur rfl rfl (p_assign rfl rfl) ?_
          refine Seq.pur rfl rfl (p_assign rfl rfl) ?_
          refine Seq.nil ?_
          refine Fin.then ?_
          refine DC.seq ?_
          refine DC.seq ?_
          refine DC.know3 (φ := l1 = 0) (fun w hw => by
            obtain ⟨A2, c2, h5⟩ := own_len (xs := []) 0 rfl hw
            cases h5; rfl) ?_
          rintro rfl
          refine DC.region ?_
          refine Seq.pur rfl rfl (p_move rfl rfl) ?_
          refine Seq.pur rfl rfl (p_not rfl rfl) ?_
          refine Seq.pur rfl rfl (p_move rfl rfl) ?_
          refine Seq.split 90 rfl (fun k16_2 => ?_) (fun k16_2 => ?_)
          · exact absurd k16_2 (by decide)
            --closed
          · refine Seq.pur rfl rfl (p_move rfl rfl) ?_
            refine Seq.pur rfl rfl (p_len rfl rfl Try.underlying34) ?_
            refine Seq.pur rfl rfl (p_neq rfl rfl rfl) ?_
            refine Seq.pur rfl rfl (p_pick_f rfl rfl rfl) ?_
            refine Seq.pur rfl rfl (p_move rfl rfl) ?_
            refine Seq.split 95 rfl (fun k16_7 => ?_) (fun k16_7 => ?_)
            · exact absurd k16_7 (by decide)
              --closed
            · refine Seq.pur rfl rfl (p_move rfl rfl) ?_
              refine Seq.pur rfl rfl (p_pick_f rfl rfl rfl) ?_
              refine Seq.pur rfl rfl (p_move rfl rfl) ?_
              refine Seq.split 98 rfl (fun k16_10 => ?_) (fun k16_10 => ?_)
              · exact absurd k16_10 (by decide)
                --closed
              · refine Seq.pur rfl rfl (p_move rfl rfl) ?_
                -- calls (*tangram/csr.Adj).N
                refine Seq.rel0 rfl rfl (r_call en25 rfl rfl rfl (fun w' hw => N_calls (av0 w'))) ?_
                rintro _ rfl
                refine Seq.pur rfl rfl (p_neq rfl rfl rfl) ?_
                refine Seq.pur rfl rfl (p_pick_f rfl rfl rfl) ?_
                refine Seq.pur rfl rfl (p_move rfl rfl) ?_
                refine Seq.split 103 rfl (fun k16_15 => ?_) (fun k16_15 => ?_)
                · exact absurd k16_15 (by decide)
                  --closed
                · refine Seq.pur rfl rfl (p_move rfl rfl) ?_
                  -- calls (*tangram/csr.Adj).M
                  refine Seq.rel0 rfl rfl (r_call en24 rfl rfl rfl (fun w' hw => M_calls (av0 w'))) ?_
                  rintro _ rfl
                  refine Seq.pur rfl rfl (p_neq rfl rfl rfl) ?_
                  refine Seq.pur rfl rfl (p_pick_f rfl rfl rfl) ?_
                  refine Seq.pur rfl rfl (p_move rfl rfl) ?_
                  refine Seq.split 108 rfl (fun k16_20 => ?_) (fun k16_20 => ?_)
                  · exact absurd k16_20 (by decide)
                    --closed
                  · refine Seq.pur rfl rfl (p_move rfl rfl) ?_
                    refine Seq.pur rfl rfl (p_move rfl rfl) ?_
                    -- calls (*tangram/csr.Adj).Degree
                    refine Seq.rel0 rfl rfl (r_call en18 rfl rfl rfl (fun w' hw => Degree_calls (av0 w') x)) ?_
                    rintro _ rfl
                    refine Seq.pur rfl rfl (p_neq rfl rfl rfl) ?_
                    refine Seq.pur rfl rfl (p_pick_f rfl rfl rfl) ?_
                    refine Seq.pur rfl rfl (p_move rfl rfl) ?_
                    refine Seq.split 114 rfl (fun k16_26 => ?_) (fun k16_26 => ?_)
                    · exact absurd k16_26 (by simp [outs, outsF])
                      --closed
                    · refine Seq.pur rfl rfl (p_move rfl rfl) ?_
                      refine Seq.pur rfl rfl (p_move rfl rfl) ?_
                      -- calls (*tangram/csr.Adj).From
                      refine Seq.rel0 rfl rfl (r_call en21 rfl rfl rfl (fun w' hw => From_calls (av0 w') x)) ?_
                      rintro _ rfl
                      rw [hxo]
                      refine Seq.pur rfl rfl (p_neq rfl rfl rfl) ?_
                      refine Seq.pur rfl rfl (p_pick_f rfl rfl rfl) ?_
                      refine Seq.pur rfl rfl (p_move rfl rfl) ?_
                      refine Seq.split 120 rfl (fun k16_32 => ?_) (fun k16_32 => ?_)
                      · exact absurd k16_32 (by decide)
                        --closed
                      · refine Seq.pur rfl rfl (p_move rfl rfl) ?_
                        refine Seq.pur rfl rfl (p_move rfl rfl) ?_
                        -- calls (*tangram/csr.Adj).To
                        refine Seq.rel0 rfl rfl (r_call en22 rfl rfl rfl (fun w' hw => To_calls (av0 w') y)) ?_
                        rintro _ rfl
                        rw [hyo]
                        refine Seq.pur rfl rfl (p_neq rfl rfl rfl) ?_
                        refine Seq.pur rfl rfl (p_pick_f rfl rfl rfl) ?_
                        refine Seq.pur rfl rfl (p_move rfl rfl) ?_
                        refine Seq.split 126 rfl (fun k16_38 => ?_) (fun k16_38 => ?_)
                        · exact absurd k16_38 (by decide)
                          --closed
                        · refine Seq.pur rfl rfl (p_move rfl rfl) ?_
                          refine Seq.pur rfl rfl (p_move rfl rfl) ?_
                          -- calls (*tangram/csr.Adj).First
                          refine Seq.rel0 rfl rfl (r_call en20 rfl rfl rfl (fun w' hw => First_calls (av0 w') x)) ?_
                          rintro _ rfl
                          refine Seq.pur rfl rfl (p_neq rfl rfl rfl) ?_
                          refine Seq.pur rfl rfl (p_pick_f rfl rfl rfl) ?_
                          refine Seq.pur rfl rfl (p_move rfl rfl) ?_
                          refine Seq.split 132 rfl (fun k16_44 => ?_) (fun k16_44 => ?_)
                          · exact absurd k16_44 (by simp [outs, outsF])
                            --closed
                          · refine Seq.pur rfl rfl (p_move rfl rfl) ?_
                            refine Seq.pur rfl rfl (p_move rfl rfl) ?_
                            -- calls (*tangram/csr.Adj).After
                            refine Seq.rel0 rfl rfl (r_call en23 rfl rfl rfl (fun w' hw => after_out (av0 w') (x := y) (by simp))) ?_
                            rintro _ rfl
                            refine Seq.pur rfl rfl (p_neq rfl rfl rfl) ?_
                            refine Seq.pur rfl rfl (p_pick_f rfl rfl rfl) ?_
                            refine Seq.nil ?_
                            refine Fin.then ?_
                            refine DC.cond rfl (fun c16 => ?_) (fun c16 => ?_)
                            · exact absurd c16 (by decide)
                              --closed
                            · refine DC.skip ?_
                              refine Fin.then ?_
                              refine DC.seq ?_
                              refine DC.seq ?_
                              refine DC.region ?_
                              refine Seq.pur rfl rfl (p_move rfl rfl) ?_
                              refine Seq.pur rfl rfl (p_eql_nil rfl rfl rfl Try.underlying26) ?_
                              refine Seq.nil ?_
                              refine Fin.then ?_
                              refine DC.cond rfl (fun c18 => ?_) (fun c18 => ?_)
                              · exact absurd c18 (by simp)
                                --closed
                              · refine DC.skip ?_
                                refine Fin.then ?_
                                refine DC.seq ?_
                                refine DC.seq ?_
                                refine DC.region ?_
                                refine Seq.pur rfl rfl (p_assign rfl rfl) ?_
                                refine Seq.nil ?_
                                refine Fin.then ?_
                                refine DC.block ?_
                                refine DC.loop (ι := Nat) (fun e => e ≤ es.length) (fun e => [(3, .pointer (some ⟨g3, 0, none⟩)), (8, .pointer (some ⟨M.gp, 0, none⟩)), (16, .int .i64 e)])
                                  (fun e => [blk g3 25 #[.int .i64 N, .slice B es.length cb], blk M.gp 73 #[sl M.g0 M.fr, sl M.g1 M.st, sl M.g2 M.ou, sl M.g3 M.pl], blk M.g0 3 (ints M.fr).toArray, blk M.g1 3 (ints M.st).toArray, blk M.g2 3 (ints M.ou).toArray, blk M.g3 3 (ints M.pl).toArray]) (fun e => es.length - e) 0 (Nat.zero_le _) ⟨rfl, rfl, rfl, trivial⟩ (.cons 3 rfl (.cons 3 rfl (.cons 3 rfl (.cons 3 rfl (.cons 3 rfl (.cons 3 rfl .nil)))))) ?_
                                intro e he
                                refine DC.seq ?_
                                refine DC.seq ?_
                                refine DC.region ?_
                                refine Seq.pur rfl rfl (p_move rfl rfl) ?_
                                refine Seq.pur rfl rfl (p_field rfl rfl fi25_1 (by first | exact add_at0 _ _ | exact add_at _ _ _ | rfl)) ?_
                                refine Seq.val rfl rfl (v_load rfl rfl ag23 (by first | exact has_blk rfl | exact has_old' (by assumption))) ?_
                                refine Seq.pur rfl rfl (p_len rfl rfl Try.underlying23) ?_
                                refine Seq.pur rfl rfl (p_lss rfl rfl rfl) ?_
                                refine Seq.nil ?_
                                refine Fin.then ?_
                                refine DC.cond rfl (fun c21 => ?_) (fun c21 => ?_)
                                · have het : e < es.length := by simpa using c21
                                  obtain ⟨a, ha⟩ : ∃ a, es[e]? = some a := ⟨_, List.getElem?_eq_getElem het⟩
                                  obtain ⟨ae, rfl, hU, hVe⟩ := hr.pair ha
                                  have hh := is_half_even ha rfl rfl
                                  refine DC.skip ?_
                                  refine Fin.then ?_
                                  refine DC.seq ?_
                                  refine DC.block ?_
                                  refine DC.seq ?_
                                  refine DC.flow (cl := [.q, .q, .q, .r, .q, .v, .q, .q, .q, .v, .q, .q, .q, .q, .q, .r, .q, .v, .q, .q, .q, .v, .q, .q]) (A := [0, 0, 2, 7, 0, 16, 0, 112, 240, 496, 1023, 2047, 4095, 4095, 12287, 32767, 4095, 69631, 4095, 462847, 987135, 2035711, 4194303, 8388607]) (order := [0, 1, 2, 3, 4, 5, 6, 7, 8, 9, 10, 11, 12, 13, 14, 15, 16, 17, 18, 19, 20, 21, 22, 23]) [] mixed (by kernel_rfl) (fun w hw => hw.pick .nil) ?_
                                  refine Flow.pur rfl rfl rfl (p_move rfl rfl) ?_
                                  refine Flow.pur rfl rfl rfl (p_move rfl rfl) ?_
                                  refine Flow.pur rfl rfl rfl (p_mul rfl rfl rfl (by omega)) ?_
                                  -- calls (*tangram/csr.Adj).From
                                  refine Flow.rel0 rfl rfl rfl rfl (r_call en21 rfl rfl rfl (fun w' hw => From_calls (own_adjV hw (.cons 1 rfl (.cons 1 rfl (.cons 1 rfl (.cons 1 rfl (.cons 1 rfl .nil))))) hM) (2 * (e : Int)))) ?_
                                  rintro _ rfl
                                  rw [hh.fr]
                                  refine Flow.pur rfl rfl rfl (p_field rfl rfl fi25_1 (by first | exact add_at0 _ _ | exact add_at _ _ _ | rfl)) ?_
                                  refine Flow.valS rfl rfl rfl rfl (v_load rfl rfl ag23 (by first | exact has_blk rfl | exact has_old' (by assumption))) ?_
                                  refine Flow.pur rfl rfl rfl (p_move rfl rfl) ?_
                                  refine Flow.pur rfl rfl rfl (p_index (ad' := ae.add (e * 2)) rfl rfl rfl Try.underlying23 sz39 (by omega) (by omega) rfl) ?_
                                  refine Flow.pur rfl rfl rfl (p_field (ad' := ae.add (e * 2)) rfl rfl fi39_0 (by simp [Addr.add])) ?_
                                  refine Flow.valS rfl rfl rfl rfl (v_load rfl rfl ag3 (has_old' hU)) ?_
                                  refine Flow.pur rfl rfl rfl (p_neq rfl rfl rfl) ?_
                                  refine Flow.pur rfl rfl rfl (p_move rfl rfl) ?_
                                  refine Flow.split 161 rfl (fun k23_11 => ?_) (fun k23_11 => ?_)
                                  · exact absurd k23_11 (by simp)
                                    --closed
                                  · refine Flow.pur rfl rfl rfl (p_move rfl rfl) ?_
                                    refine Flow.pur rfl rfl rfl (p_move rfl rfl) ?_
                                    refine Flow.pur rfl rfl rfl (p_mul rfl rfl rfl (by omega)) ?_
                                    -- calls (*tangram/csr.Adj).To
                                    refine Flow.rel0 rfl rfl rfl rfl (r_call en22 rfl rfl rfl (fun w' hw => To_calls (own_adjV hw (.cons 1 rfl (.cons 1 rfl (.cons 1 rfl (.cons 1 rfl (.cons 1 rfl .nil))))) hM) (2 * (e : Int)))) ?_
                                    rintro _ rfl
                                    rw [hh.to]
                                    refine Flow.pur rfl rfl rfl (p_field rfl rfl fi25_1 (by first | exact add_at0 _ _ | exact add_at _ _ _ | rfl)) ?_
                                    refine Flow.valS rfl rfl rfl rfl (v_load rfl rfl ag23 (by first | exact has_blk rfl | exact has_old' (by assumption))) ?_
                                    refine Flow.pur rfl rfl rfl (p_move rfl rfl) ?_
                                    refine Flow.pur rfl rfl rfl (p_index (ad' := ae.add (e * 2)) rfl rfl rfl Try.underlying23 sz39 (by omega) (by omega) rfl) ?_
                                    refine Flow.pur rfl rfl rfl (p_field (ad' := ae.add (e * 2 + 1)) rfl rfl fi39_1 (add_add _ _ _ (by decide))) ?_
                                    refine Flow.valS rfl rfl rfl rfl (v_load rfl rfl ag3 (has_old' hVe)) ?_
                                    refine Flow.pur rfl rfl rfl (p_neq rfl rfl rfl) ?_
                                    refine Flow.pur rfl rfl rfl (p_pick_f rfl rfl rfl) ?_
                                    refine Flow.end rfl ?_
                                    simp only [List.map_cons, List.map_nil, List.nil_append, List.cons_append, List.append_nil]
                                    refine Fin.then ?_
                                    refine DC.cond rfl (fun c23 => ?_) (fun c23 => ?_)
                                    · exact absurd c23 (by simp)
                                      --closed
                                    · refine DC.skip ?_
                                      refine Fin.inBlock ?_
                                      refine Fin.then ?_
                                      refine DC.region ?_
                                      refine Seq.pur rfl rfl (p_move rfl rfl) ?_
                                      refine Seq.pur rfl rfl (p_add rfl rfl rfl (by omega)) ?_
                                      refine Seq.pur rfl rfl (p_assign rfl rfl) ?_
                                      refine Seq.nil ?_
                                      refine Fin.again (e + 1) (by omega) (by omega) ⟨rfl, rfl, rfl, trivial⟩ (Pick.all _)
                                · refine DC.exit ?_
                                  refine Fin.exit_then <| Fin.exit_then <| Fin.exit_here <| ?_
                                  refine Fin.then ?_
                                  refine DC.seq ?_
                                  refine DC.flow (cl := [.q, .r, .q, .v, .q, .q, .q]) (A := [0, 1, 0, 4, 12, 31, 63]) (order := [0, 1, 2, 3, 4, 5, 6]) [] mixed (by kernel_rfl) (fun w hw => hw.pick .nil) ?_
                                  refine Flow.pur rfl rfl rfl (p_move rfl rfl) ?_
                                  -- calls (*tangram/csr.Adj).M
                                  refine Flow.rel0 rfl rfl rfl rfl (r_call en24 rfl rfl rfl (fun w' hw => M_calls (own_adjV hw (.cons 1 rfl (.cons 1 rfl (.cons 1 rfl (.cons 1 rfl (.cons 1 rfl .nil))))) hM))) ?_
                                  rintro _ rfl
                                  refine Flow.pur rfl rfl rfl (p_field rfl rfl fi25_1 (by first | exact add_at0 _ _ | exact add_at _ _ _ | rfl)) ?_
                                  refine Flow.valS rfl rfl rfl rfl (v_load rfl rfl ag23 (by first | exact has_blk rfl | exact has_old' (by assumption))) ?_
                                  refine Flow.pur rfl rfl rfl (p_len rfl rfl Try.underlying23) ?_
                                  refine Flow.pur rfl rfl rfl (p_eql rfl rfl rfl) ?_
                                  refine Flow.pur rfl rfl rfl (p_assign rfl rfl) ?_
                                  refine Flow.end rfl ?_
                                  simp only [List.map_cons, List.map_nil, List.nil_append, List.cons_append, List.append_nil]
                                  refine Fin.then ?_
                                  refine DC.ret ?_
                                  refine Fin.end1 (.inl rfl) rfl rfl ?_
                                  simp
theorem CsrKept_calls {N : Int} {es : List Pr} {va : Value} {w : World} (x y : Int) (hg : PrV w va es) :
    Calls Try.prog 7 #[.agg #[.int .i64 N, va], .int .i64 x, .int .i64 y] w (Ret w [] fun v L => v = .bool true) := by
  by_cases hV : Vld N es
  · exact CsrKept_yes x y hg hV
  · exact CsrKept_no x y hg hV
end Go.Fl
