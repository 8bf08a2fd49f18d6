/- tangramref04.Out. -/
import Derived.Test.YtbkhejfnhbjhpaaFlRws
import Derived.Test.YtbkhejfnhbjhpaaRef1
set_option linter.unusedVariables false
set_option linter.unusedSimpArgs false
set_option maxRecDepth 100000
namespace Go.Fl
open Go Go.Proofs

theorem outs_app {es : List Pr} {i : Nat} {e : Pr} (he : es[i]? = some e) (hne : e.1 ≠ e.2) (x : Int) : outs (es.take (i + 1)) x = outs (es.take i) x ++ (if x = e.1 then [2 * (i : Int)] else if x = e.2 then [2 * (i : Int) + 1] else []) := by
  rw [outs_succ he]
  unfold one1
  by_cases h1 : e.1 = x
  · rw [if_pos h1, if_pos h1.symm]
  · rw [if_neg h1, if_neg (Ne.symm h1)]
    by_cases h2 : e.2 = x
    · rw [if_pos h2, if_pos h2.symm]
    · rw [if_neg h2, if_neg (Ne.symm h2)]
theorem outs_len1 : ∀ (es : List Pr) (k : Nat) (v : Int), (outsF k es v).length ≤ es.length
  | [], k, v => by simp [outsF]
  | e :: r, k, v => by
    unfold outsF
    have := outs_len1 r (k + 1) v
    rw [List.length_append, List.length_cons]
    split
    · simp; omega
    · split <;> simp <;> omega
theorem outs_len' (es : List Pr) (v : Int) : (outs es v).length ≤ es.length := outs_len1 es 0 v
structure OutI where
  i : Nat
  rs : RL
theorem Out_calls {N : Nat} {es : List Pr} {va : Value} {w : World} (hg : PrV w va es) (hV : Vld N es) :
    Calls Try.prog 26 #[.agg #[.int .i64 N, va]] w (Ret w [] fun v L => ∃ g rs, v = .slice (some ⟨g, 0, none⟩) N N ∧ rs.length = N ∧ (∀ (x : Nat) p, rs[x]? = some p → p.2 = outs es x) ∧ L = [blk g 34 (rowsV rs).toArray] ++ rowsC 3 rs) := by
  obtain ⟨A, cap, rfl, hr, hlc, hcm, hl⟩ := hg
  have hN1 := hV.hi
  have hfew := hV.few
  refine calls_of (args := [_]) (L := []) Try.func26 rfl Try.ntmps26 rfl (Own.start _ _) ?_
  refine DC.seq ?_
  refine DC.region ?_
  refine Seq.new rfl rfl (n_box rfl rfl rfl) fun g1 => ?_
  refine Seq.pur rfl rfl (p_assign rfl rfl) ?_
  refine Seq.nil ?_
  refine Fin.then ?_
  refine DC.seq ?_
  refine DC.region ?_
  refine Seq.pur rfl rfl (p_field rfl rfl fi25_0 (by first | exact add_at0 _ _ | exact add_at _ _ _ | rfl)) ?_
  refine Seq.val rfl rfl (v_load rfl rfl ag3 (by first | exact has_blk rfl | exact has_old' (by assumption))) ?_
  refine Seq.new rfl rfl (n_make (k := N) (cs := (rowsV (List.replicate N (.slice none 0 0, []))).toArray) rfl rfl rfl Try.underlying41 sz34 by34 ze34 rfl (by omega) (by omega) (by rw [made_one _ rfl]; simp [rowsV])) fun g9 => ?_
  refine Seq.pur rfl rfl (p_assign rfl rfl) ?_
  refine Seq.nil ?_
  refine Fin.then ?_
  refine DC.seq ?_
  refine DC.seq ?_
  refine DC.region ?_
  refine Seq.pur rfl rfl (p_assign rfl rfl) ?_
  refine Seq.nil ?_
  refine Fin.then ?_
  refine DC.block ?_
  refine DC.own (fun w hw => own_nils (t := 3) N hw) ?_
  refine DC.loop (ι := OutI) (fun j => j.i ≤ es.length ∧ j.rs.length = N ∧ ∀ (x : Nat) p, j.rs[x]? = some p → p.2 = outs (es.take j.i) x)
    (fun j => [(1, .pointer (some ⟨g1, 0, none⟩)), (3, .slice (some ⟨g9, 0, none⟩) N N), (4, .int .i64 j.i)])
    (fun j => [blk g9 34 (rowsV j.rs).toArray, blk g1 25 #[.int .i64 N, .slice A es.length cap]] ++ rowsC 3 j.rs) (fun j => es.length - j.i) ⟨0, List.replicate N (.slice none 0 0, [])⟩
    ⟨Nat.zero_le _, by simp, fun x p hp => by simp [List.getElem?_replicate] at hp; simp [← hp.2, outs, outsF]⟩ ⟨rfl, rfl, rfl, trivial⟩ (Pick.all _) ?_
  rintro ⟨i, rs⟩ ⟨hi, hrl, hrs⟩
  dsimp only at hi hrl hrs ⊢
  simp only [List.cons_append, List.nil_append]
  refine DC.seq ?_
  refine DC.seq ?_
  refine DC.region ?_
  refine Seq.pur rfl rfl (p_move rfl rfl) ?_
  refine Seq.pur rfl rfl (p_field rfl rfl fi25_1 (by first | exact add_at0 _ _ | exact add_at _ _ _ | rfl)) ?_
  refine Seq.val rfl rfl (v_load rfl rfl ag23 (by first | exact has_blk rfl | exact has_old' (by assumption))) ?_
  refine Seq.pur rfl rfl (p_len rfl rfl Try.underlying23) ?_
  refine Seq.pur rfl rfl (p_lss rfl rfl rfl) ?_
  refine Seq.nil ?_
  refine Fin.then ?_
  refine DC.cond rfl (fun c3 => ?_) (fun c3 => ?_)
  · have hlt : i < es.length := by simpa using c3
    obtain ⟨e, he⟩ : ∃ e, es[i]? = some e := ⟨_, List.getElem?_eq_getElem hlt⟩
    obtain ⟨ad, rfl, hU, hVe⟩ := hr.pair he
    have ho := hV.ok i e he
    obtain ⟨u, hu⟩ := Int.eq_ofNat_of_zero_le ho.lo
    obtain ⟨v, hv⟩ := Int.eq_ofNat_of_zero_le (show 0 ≤ e.2 by have := ho.lo; have := ho.lt; omega)
    obtain rfl : e = ((u : Int), (v : Int)) := Prod.ext hu hv
    clear hu hv
    have huv : u < v := by have := ho.lt; simp at this; exact this
    have hvN : v < N := by have := ho.hi; simp at this; exact this
    replace hU : w.cell? (ad.add (i * 2)) = some (.int .i64 (u : Int)) := hU
    replace hVe : w.cell? (ad.add (i * 2 + 1)) = some (.int .i64 (v : Int)) := hVe
    obtain ⟨pu, hpu⟩ : ∃ p, rs[u]? = some p := ⟨_, List.getElem?_eq_getElem (by omega)⟩
    obtain ⟨pv, hpv⟩ : ∃ p, rs[v]? = some p := ⟨_, List.getElem?_eq_getElem (by omega)⟩
    have eu := hrs u pu hpu
    have ev' := hrs v pv hpv
    have lu := outs_len' (es.take i) u
    have lv := outs_len' (es.take i) v
    rw [← eu] at lu
    rw [← ev'] at lv
    simp only [List.length_take] at lu lv
    refine DC.skip ?_
    refine Fin.then ?_
    refine DC.seq ?_
    refine DC.block ?_
    refine DC.seq ?_
    refine DC.flow (cl := [.q, .v, .q, .q, .q, .v, .q, .v, .q, .q, .q, .v, .q, .q]) (A := [0, 1, 0, 7, 15, 31, 0, 64, 0, 448, 960, 1984, 63, 8191]) (order := [0, 1, 2, 3, 4, 5, 6, 7, 8, 9, 10, 11, 12, 13]) [] mixed (by kernel_rfl) (fun w hw => hw.pick .nil) ?_
    refine Flow.pur rfl rfl rfl (p_field rfl rfl fi25_1 (by first | exact add_at0 _ _ | exact add_at _ _ _ | rfl)) ?_
    refine Flow.valS rfl rfl rfl rfl (v_load rfl rfl ag23 (by first | exact has_blk rfl | exact has_old' (by assumption))) ?_
    refine Flow.pur rfl rfl rfl (p_move rfl rfl) ?_
    refine Flow.pur rfl rfl rfl (p_index (ad' := ad.add (i * 2)) rfl rfl rfl Try.underlying23 sz39 (by omega) (by omega) rfl) ?_
    refine Flow.pur rfl rfl rfl (p_field (ad' := ad.add (i * 2)) rfl rfl fi39_0 (by simp [Addr.add])) ?_
    refine Flow.valS rfl rfl rfl rfl (v_load rfl rfl ag3 (has_old' hU)) ?_
    refine Flow.pur rfl rfl rfl (p_field rfl rfl fi25_1 (by first | exact add_at0 _ _ | exact add_at _ _ _ | rfl)) ?_
    refine Flow.valS rfl rfl rfl rfl (v_load rfl rfl ag23 (by first | exact has_blk rfl | exact has_old' (by assumption))) ?_
    refine Flow.pur rfl rfl rfl (p_move rfl rfl) ?_
    refine Flow.pur rfl rfl rfl (p_index (ad' := ad.add (i * 2)) rfl rfl rfl Try.underlying23 sz39 (by omega) (by omega) rfl) ?_
    refine Flow.pur rfl rfl rfl (p_field (ad' := ad.add (i * 2 + 1)) rfl rfl fi39_1 (add_add _ _ _ (by decide))) ?_
    refine Flow.valS rfl rfl rfl rfl (v_load rfl rfl ag3 (has_old' hVe)) ?_
    refine Flow.pur rfl rfl rfl (p_assign rfl rfl) ?_
    refine Flow.pur rfl rfl rfl (p_assign rfl rfl) ?_
    refine Flow.end rfl ?_
    simp only [List.map_cons, List.map_nil, List.nil_append, List.cons_append, List.append_nil]
    refine Fin.then ?_
    refine DC.seq ?_
    refine DC.region ?_
    refine Seq.pur rfl rfl (p_move rfl rfl) ?_
    refine Seq.pur rfl rfl (p_move rfl rfl) ?_
    refine Seq.pur rfl rfl (p_move rfl rfl) ?_
    refine Seq.pur rfl rfl (p_move rfl rfl) ?_
    refine Seq.pur rfl rfl (p_index1 rfl rfl rfl Try.underlying41 sz34 (by omega) (by omega) (by first | exact add_at0 _ _ | exact add_at _ _ _ | rfl)) ?_
    refine Seq.val rfl rfl (v_load rfl rfl ag34 (has_row (rowsV_get hpu))) ?_
    refine Seq.pur rfl rfl (p_move rfl rfl) ?_
    refine Seq.pur rfl rfl (p_mul rfl rfl rfl (by omega)) ?_
    refine Seq.new rfl rfl (n_slit (cs := #[_]) rfl rfl Try.underlying34 sz3 ze3 rfl (by decide) (by decide) rfl rfl) fun g37 => ?_
    refine Seq.gen rfl rfl (Gen.shape (g_append (F := [blk g37 3 #[.int .i64 (2 * (i : Int))], blk g9 34 (rowsV rs).toArray, blk g1 25 #[.int .i64 N, .slice (some ad) es.length cap]] ++ rowsC 3 (rs.eraseIdx u)) (vs := ints pu.2) (k := 1) (news := [.int .i64 (2 * (i : Int))]) rfl rfl rfl Try.underlying34 sz3 by3 ze3 rfl (by decide) (by decide)
      (fun w hw => hw.perm (rows_at hpu _).symm) (.inl ⟨_, _, rfl, hass_blk rfl⟩) rfl (by intro u hu; simp at hu; subst hu; rfl) (by rw [ints_length]; omega))) ?_
    rintro _ _ ⟨⟨A38, l38, c38, rfl⟩, rfl⟩
    simp only [List.cons_append, List.nil_append]
    refine Seq.pur rfl rfl (p_index1 rfl rfl rfl Try.underlying41 sz34 (by omega) (by omega) (by first | exact add_at0 _ _ | exact add_at _ _ _ | rfl)) ?_
    refine Seq.sto rfl rfl (s_store (cs' := (rowsV (rs.set u (.slice A38 l38 c38, pu.2 ++ [2 * (i : Int)]))).toArray) rfl rfl rfl sz34 rfl (by simp; omega) (rowsV_set rs u (.slice A38 l38 c38, pu.2 ++ [2 * (i : Int)]))) ?_
    refine Seq.nil ?_
    refine Fin.own (M := [blk g9 34 (rowsV (rs.set u (.slice A38 l38 c38, pu.2 ++ [2 * (i : Int)]))).toArray, blk g1 25 #[.int .i64 N, .slice (some ad) es.length cap]] ++ rowsC 3 (rs.set u (.slice A38 l38 c38, pu.2 ++ [2 * (i : Int)]))) (fun w hw => ?_) ?_
    · have h4 := (hw.pick (.cons 1 rfl (Pick.all _))).sub (List.sublist_cons_self ..)
      have h5 := h4.pick (L' := slc (.slice A38 l38 c38) 3 1 (ints (pu.2 ++ [2 * (i : Int)])) :: ([blk g9 34 (rowsV (rs.set u (.slice A38 l38 c38, pu.2 ++ [2 * (i : Int)]))).toArray, blk g1 25 #[.int .i64 N, .slice (some ad) es.length cap]] ++ rowsC 3 (rs.eraseIdx u))) (.cons' 0 rfl (by rw [ints_append]; rfl) (Pick.all _))
      exact h5.perm (rows_set (.slice A38 l38 c38, pu.2 ++ [2 * (i : Int)]) (by omega) _).symm
    obtain ⟨rs1, hrs1⟩ : ∃ rs1, rs1 = rs.set u (.slice A38 l38 c38, pu.2 ++ [2 * (i : Int)]) := ⟨_, rfl⟩
    have hl1 : rs1.length = N := by rw [hrs1]; simp [hrl]
    have hpv1 : rs1[v]? = some pv := by rw [hrs1, List.getElem?_set_ne (by omega)]; exact hpv
    rw [← hrs1]
    simp only [List.cons_append, List.nil_append]
    refine Fin.then ?_
    refine DC.region ?_
    refine Seq.pur rfl rfl (p_move rfl rfl) ?_
    refine Seq.pur rfl rfl (p_move rfl rfl) ?_
    refine Seq.pur rfl rfl (p_move rfl rfl) ?_
    refine Seq.pur rfl rfl (p_move rfl rfl) ?_
    refine Seq.pur rfl rfl (p_index1 rfl rfl rfl Try.underlying41 sz34 (by omega) (by omega) (by first | exact add_at0 _ _ | exact add_at _ _ _ | rfl)) ?_
    refine Seq.val rfl rfl (v_load rfl rfl ag34 (has_row (rowsV_get hpv1))) ?_
    refine Seq.pur rfl rfl (p_move rfl rfl) ?_
    refine Seq.pur rfl rfl (p_mul rfl rfl rfl (by omega)) ?_
    refine Seq.pur rfl rfl (p_add rfl rfl rfl (by omega)) ?_
    refine Seq.new rfl rfl (n_slit (cs := #[_]) rfl rfl Try.underlying34 sz3 ze3 rfl (by decide) (by decide) rfl rfl) fun g49 => ?_
    refine Seq.gen rfl rfl (Gen.shape (g_append (F := [blk g49 3 #[.int .i64 (2 * (i : Int) + 1)], blk g9 34 (rowsV rs1).toArray, blk g1 25 #[.int .i64 N, .slice (some ad) es.length cap]] ++ rowsC 3 (rs1.eraseIdx v)) (vs := ints pv.2) (k := 1) (news := [.int .i64 (2 * (i : Int) + 1)]) rfl rfl rfl Try.underlying34 sz3 by3 ze3 rfl (by decide) (by decide)
      (fun w hw => hw.perm (rows_at hpv1 _).symm) (.inl ⟨_, _, rfl, hass_blk rfl⟩) rfl (by intro u hu; simp at hu; subst hu; rfl) (by rw [ints_length]; omega))) ?_
    rintro _ _ ⟨⟨A50, l50, c50, rfl⟩, rfl⟩
    simp only [List.cons_append, List.nil_append]
    refine Seq.pur rfl rfl (p_index1 rfl rfl rfl Try.underlying41 sz34 (by omega) (by omega) (by first | exact add_at0 _ _ | exact add_at _ _ _ | rfl)) ?_
    refine Seq.sto rfl rfl (s_store (cs' := (rowsV (rs1.set v (.slice A50 l50 c50, pv.2 ++ [2 * (i : Int) + 1]))).toArray) rfl rfl rfl sz34 rfl (by simp; omega) (rowsV_set rs1 v (.slice A50 l50 c50, pv.2 ++ [2 * (i : Int) + 1]))) ?_
    refine Seq.nil ?_
    refine Fin.own (M := [blk g9 34 (rowsV (rs1.set v (.slice A50 l50 c50, pv.2 ++ [2 * (i : Int) + 1]))).toArray, blk g1 25 #[.int .i64 N, .slice (some ad) es.length cap]] ++ rowsC 3 (rs1.set v (.slice A50 l50 c50, pv.2 ++ [2 * (i : Int) + 1]))) (fun w hw => ?_) ?_
    · have h4 := (hw.pick (.cons 1 rfl (Pick.all _))).sub (List.sublist_cons_self ..)
      have h5 := h4.pick (L' := slc (.slice A50 l50 c50) 3 1 (ints (pv.2 ++ [2 * (i : Int) + 1])) :: ([blk g9 34 (rowsV (rs1.set v (.slice A50 l50 c50, pv.2 ++ [2 * (i : Int) + 1]))).toArray, blk g1 25 #[.int .i64 N, .slice (some ad) es.length cap]] ++ rowsC 3 (rs1.eraseIdx v))) (.cons' 0 rfl (by rw [ints_append]; rfl) (Pick.all _))
      exact h5.perm (rows_set (.slice A50 l50 c50, pv.2 ++ [2 * (i : Int) + 1]) (by omega) _).symm
    refine Fin.inBlock ?_
    refine Fin.then ?_
    refine DC.region ?_
    refine Seq.pur rfl rfl (p_move rfl rfl) ?_
    refine Seq.pur rfl rfl (p_add rfl rfl rfl (by omega)) ?_
    refine Seq.pur rfl rfl (p_assign rfl rfl) ?_
    refine Seq.nil ?_
    refine Fin.again (OutI.mk (i + 1) (rs1.set v (.slice A50 l50 c50, pv.2 ++ [2 * (i : Int) + 1]))) (by dsimp only; omega) ⟨by dsimp only; omega, by simp [hl1], fun x p hp => ?_⟩ ⟨rfl, rfl, rfl, trivial⟩ (Pick.all _)
    dsimp only at hp
    rw [outs_app he (by dsimp only; omega)]
    dsimp only
    by_cases hxv : x = v
    · subst hxv
      rw [List.getElem?_set_self (by omega)] at hp
      have hp := Option.some.inj hp
      subst hp
      rw [if_neg (by omega), if_pos rfl, ev']
    · rw [List.getElem?_set_ne (by omega), hrs1] at hp
      by_cases hxu : x = u
      · subst hxu
        rw [List.getElem?_set_self (by omega)] at hp
        have hp := Option.some.inj hp
        subst hp
        rw [if_pos rfl, eu]
      · rw [List.getElem?_set_ne (by omega)] at hp
        rw [if_neg (by omega), if_neg (by omega), List.append_nil]
        exact hrs x p hp
  · refine DC.exit ?_
    refine Fin.exit_then <| Fin.exit_then <| Fin.exit_here <| ?_
    refine Fin.then ?_
    refine DC.seq ?_
    refine DC.region ?_
    refine Seq.pur rfl rfl (p_move rfl rfl) ?_
    refine Seq.pur rfl rfl (p_assign rfl rfl) ?_
    refine Seq.nil ?_
    refine Fin.then ?_
    refine DC.ret ?_
    refine Fin.own (M := blk g9 34 (rowsV rs).toArray :: rowsC 3 rs) (fun w hw => (hw.pick (.cons 1 rfl (Pick.all _))).sub (List.sublist_cons_self ..)) ?_
    refine Fin.end1 (.inl rfl) rfl rfl ?_
    have hie : i = es.length := by simp at c3; omega
    subst hie
    refine ⟨g9, rs, rfl, hrl, fun x p hp => by rw [hrs x p hp, List.take_length], rfl⟩
end Go.Fl
