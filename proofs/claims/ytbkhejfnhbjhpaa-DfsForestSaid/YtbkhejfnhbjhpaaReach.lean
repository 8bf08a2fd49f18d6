/- tangramref07.reach: the document's walk, a call that calls itself. -/
import Derived.Test.YtbkhejfnhbjhpaaROut
set_option linter.unusedVariables false
set_option linter.unusedSimpArgs false
set_option maxRecDepth 100000
namespace Go.Fl
open Go Go.Proofs

structure RG where
  gf : Nat
  ga : Nat
  gh : Nat
  gr : Nat
  gs : Nat
  gO : Nat
def rHead (G : RG) (vo : Value) (s : St) (od : List Int) (seen vs : List Value) : List Chunk :=
  [blk G.gf 55 #[sl G.ga s.pa, sl G.gh s.he, vo, sl G.gr s.oi], blk G.ga 3 (ints s.pa).toArray, blk G.gh 3 (ints (refH s.he)).toArray, slc vo 3 1 (ints od), blk G.gr 3 (ints s.oi).toArray,
   blk G.gs 4 seen.toArray, blk G.gO 34 vs.toArray]
def rL (G : RG) (vo : Value) (s : St) (od : List Int) (seen : List Value) (rs : RL) : List Chunk := rHead G vo s od seen (rowsV rs) ++ rowsC 3 rs
structure RI where
  i : Nat
  s : St
  vo : Value

theorem rreach_calls {N : Nat} {es : List Pr} {va : Value} {G : RG} {rs : RL} {c : Nat} (hV : Vld N es) (hrl : rs.length = N) (hrs : ∀ (x : Nat) p, rs[x]? = some p → p.2 = outs es x) (hc : c ≤ 1000000000) :
    ∀ (u : Nat) {w : World} {vo : Value} {s s' : St} {od : List Int} {v : Int}, unset s.oi ≤ u → Own w (idsOf (rL G vo s od ((seenB s.he).set v.toNat (.bool false)) rs)) w (rL G vo s od ((seenB s.he).set v.toNat (.bool false)) rs) →
      PrV w va es → Off va es (idsOf (rL G vo s od ((seenB s.he).set v.toNat (.bool false)) rs)) → s.od = od ++ [v] → Inv N es.length c s → 0 ≤ v → v < N → 0 ≤ getI s.he v → Dfs es v (outs es v) s s' →
      Calls Try.prog 55 #[.agg #[.int .i64 N, va], .slice (some ⟨G.gO, 0, none⟩) N N, .pointer (some ⟨G.gf, 0, none⟩), .slice (some ⟨G.gs, 0, none⟩) N N, .int .i64 v] w
        (Ret w (idsOf (rL G vo s od ((seenB s.he).set v.toNat (.bool false)) rs)) fun r M => r = .tuple #[] ∧ ∃ vo', M = rL G vo' s' s'.od (seenB s'.he) rs) := by
  intro u
  induction u using Nat.strongRecOn with
  | ind u ih =>
  intro w vo s s' od v hu hO hg hoff hod hI hv0 hv1 hvs hD
  have hN1 := hV.hi
  have hfew := hV.few
  have hhl := hI.hel
  have hodl := hI.few
  have hat := hI.at hv0 hv1
  obtain ⟨pv, hpv⟩ : ∃ p, rs[v.toNat]? = some p := ⟨_, List.getElem?_eq_getElem (by omega)⟩
  have epv := hrs _ _ hpv
  rw [Int.toNat_of_nonneg hv0] at epv
  have lpv := outs_len' es v
  rw [← epv] at lpv
  obtain ⟨A', cap', hsv, hsr, hs1, hs2, hs3⟩ := slv_rows hO hpv (by omega)
  have hodl2 : s.od.length = od.length + 1 := by rw [hod]; simp
  refine calls_of (args := [_, _, _, _, _]) Try.func55 rfl Try.ntmps55 rfl hO ?_
  unfold rL rHead
  simp only [List.cons_append, List.nil_append]
  refine DC.seq ?_
  refine DC.region ?_
  refine Seq.new rfl rfl (n_box rfl rfl rfl) fun g5 => ?_
  refine Seq.nil ?_
  refine Fin.then ?_
  refine DC.seq ?_
  refine DC.region ?_
  refine Seq.pur rfl rfl (p_move rfl rfl) ?_
  refine Seq.pur rfl rfl (p_move rfl rfl) ?_
  refine Seq.pur rfl rfl (p_index1 rfl rfl rfl Try.underlying77 sz4 (by omega) (by omega) (by first | exact add_at0 _ _ | exact add_at _ _ _ | rfl)) ?_
  refine Seq.sto rfl rfl (s_store (cs' := (seenB s.he).toArray) rfl rfl rfl sz4 rfl (by simp; omega) (by
    have : s.he = s.he.set v.toNat (getI s.he v) := (set_self hat.1).symm
    have h := seen_set (he := s.he) (i := v.toNat) hvs
    rw [← this] at h; exact h)) ?_
  refine Seq.nil ?_
  refine Fin.then ?_
  refine DC.seq ?_
  refine DC.region ?_
  refine Seq.pur rfl rfl (p_move rfl rfl) ?_
  refine Seq.pur rfl rfl (p_move rfl rfl) ?_
  refine Seq.pur rfl rfl (p_nil rfl rfl) ?_
  refine Seq.pur rfl rfl (p_field rfl rfl fi55_2 (by first | exact add_at0 _ _ | exact add_at _ _ _ | rfl)) ?_
  refine Seq.val rfl rfl (v_load rfl rfl ag34 (by first | exact has_blk rfl | exact has_old' (by assumption))) ?_
  refine Seq.pur rfl rfl (p_move rfl rfl) ?_
  refine Seq.new rfl rfl (n_slit (cs := #[_]) rfl rfl Try.underlying34 sz3 ze3 rfl (by decide) (by decide) rfl rfl) fun g22 => ?_
  refine Seq.gen rfl rfl (Gen.shape (g_append (F := [blk g22 3 #[.int .i64 v], blk g5 25 #[.int .i64 N, va], blk G.gf _ _, blk G.ga _ _, blk G.gh _ _, blk G.gr _ _, blk G.gs _ _, blk G.gO _ _] ++ rowsC 3 rs) (vs := ints od) (k := 1) (news := [.int .i64 v]) rfl rfl rfl Try.underlying34 sz3 by3 ze3 rfl (by decide) (by decide)
    (fun w hw => hw.pick (.cons 5 rfl (Pick.all _))) (.inl ⟨_, _, rfl, hass_blk rfl⟩) rfl (by intro u hu; simp at hu; subst hu; rfl) (by rw [ints_length]; omega))) ?_
  rintro _ _ ⟨⟨A23, l23, c23, rfl⟩, rfl⟩
  simp only [List.cons_append, List.nil_append]
  refine Seq.pur rfl rfl (p_nil rfl rfl) ?_
  refine Seq.pur rfl rfl (p_field rfl rfl fi55_2 (by first | exact add_at0 _ _ | exact add_at _ _ _ | rfl)) ?_
  refine Seq.sto rfl rfl (s_store (cs' := #[_, _, _, _]) rfl rfl rfl sz34 rfl (Nat.le_of_ble_eq_true rfl) rfl) ?_
  refine Seq.nil ?_
  refine Fin.then ?_
  refine DC.seq ?_
  refine DC.region ?_
  refine Seq.pur rfl rfl (p_assign rfl rfl) ?_
  refine Seq.nil ?_
  refine Fin.then ?_
  refine DC.block ?_
  refine DC.own (M := blk g5 25 #[.int .i64 N, va] :: rL G (.slice A23 l23 c23) s s.od (seenB s.he) rs) (fun w hw => ?_) ?_
  · have h4 := (hw.pick (.cons 1 rfl (Pick.all _))).sub (List.sublist_cons_self ..)
    exact h4.pick (.cons 1 rfl (.cons 1 rfl (.cons 1 rfl (.cons 1 rfl (.cons' 0 rfl (by rw [hod, ints_append]; rfl) (Pick.all _))))))
  refine DC.loop (ι := RI) (fun j => j.i ≤ pv.2.length ∧ Dfs es v (pv.2.drop j.i) j.s s' ∧ Inv N es.length c j.s ∧ unset j.s.oi ≤ unset s.oi ∧ 0 ≤ getI j.s.he v)
    (fun j => [(1, .slice (some ⟨G.gO, 0, none⟩) N N), (2, .pointer (some ⟨G.gf, 0, none⟩)), (3, .slice (some ⟨G.gs, 0, none⟩) N N), (4, .int .i64 v), (5, .pointer (some ⟨g5, 0, none⟩)), (10, .int .i64 j.i)])
    (fun j => blk g5 25 #[.int .i64 N, va] :: rL G j.vo j.s j.s.od (seenB j.s.he) rs) (fun j => pv.2.length - j.i) ⟨0, s, .slice A23 l23 c23⟩
    ⟨Nat.zero_le _, by rw [List.drop_zero, epv]; exact hD, hI, Nat.le_refl _, hvs⟩ ⟨rfl, rfl, rfl, rfl, rfl, rfl, trivial⟩ (Pick.all _) ?_
  clear hI hD hvs hodl hat hhl hod hodl2
  obtain ⟨u0, hu0⟩ : ∃ u0, unset s.oi = u0 := ⟨_, rfl⟩
  rw [hu0] at hu ⊢
  rintro ⟨i, s, vo⟩ ⟨hi, hD, hI, huj, hvs⟩
  dsimp only at hi hD hI huj hvs ⊢
  unfold rL rHead
  simp only [List.cons_append, List.nil_append]
  have hhl := hI.hel
  have hpl := hI.pal
  have hol := hI.oil
  have hodl := hI.few
  have hat := hI.at hv0 hv1
  refine DC.seq ?_
  refine DC.seq ?_
  refine DC.region ?_
  refine Seq.pur rfl rfl (p_move rfl rfl) ?_
  refine Seq.pur rfl rfl (p_move rfl rfl) ?_
  refine Seq.pur rfl rfl (p_move rfl rfl) ?_
  refine Seq.pur rfl rfl (p_index1 (ad' := ⟨G.gO, v.toNat, none⟩) rfl rfl rfl Try.underlying41 sz34 (by omega) (by omega) (by rw [add_at0])) ?_
  refine Seq.val rfl rfl (v_load rfl rfl ag34 (has_row (v := .slice A' pv.2.length cap') (by rw [rowsV_get hpv, hsv]))) ?_
  refine Seq.pur rfl rfl (p_len rfl rfl Try.underlying34) ?_
  refine Seq.pur rfl rfl (p_lss rfl rfl rfl) ?_
  refine Seq.nil ?_
  refine Fin.then ?_
  refine DC.cond rfl (fun c4 => ?_) (fun c4 => ?_)
  · have hlt : i < pv.2.length := by simpa using c4
    obtain ⟨h, hh⟩ : ∃ h, pv.2[i]? = some h := ⟨_, List.getElem?_eq_getElem hlt⟩
    have hdrop : pv.2.drop i = h :: pv.2.drop (i + 1) := by rw [List.drop_eq_getElem_cons hlt, (List.getElem?_eq_some_iff.1 hh).2]
    rw [hdrop] at hD
    have hm := (mem_outs hV (v := v) (h := h)).1 (by rw [← epv]; exact List.mem_of_getElem? hh)
    obtain ⟨hm0, hm1, hm2⟩ := hm
    obtain ⟨ad, rfl, _⟩ := hsr.int hh
    have hoi : s.oi[(h / 2).toNat]? = some (getI s.oi (h / 2)) := getI_some (by omega)
    have htv := toV_range hV hm0 hm1
    have hatw := hI.at htv.1 htv.2
    have hsw : (seenB s.he).toArray[(toV es h).toNat]? = some (.bool (decide (0 ≤ getI s.he (toV es h)))) := by simp [seenB, hatw.1]
    refine DC.skip ?_
    refine Fin.then ?_
    refine DC.seq ?_
    refine DC.block ?_
    refine DC.seq ?_
    refine DC.region ?_
    refine Seq.pur rfl rfl (p_move rfl rfl) ?_
    refine Seq.pur rfl rfl (p_move rfl rfl) ?_
    refine Seq.pur rfl rfl (p_index1 (ad' := ⟨G.gO, v.toNat, none⟩) rfl rfl rfl Try.underlying41 sz34 (by omega) (by omega) (by rw [add_at0])) ?_
    refine Seq.val rfl rfl (v_load rfl rfl ag34 (has_row (v := .slice (some ad) pv.2.length cap') (by rw [rowsV_get hpv, hsv]))) ?_
    refine Seq.pur rfl rfl (p_move rfl rfl) ?_
    refine Seq.pur rfl rfl (p_index1 (ad' := ad.add i) rfl rfl rfl Try.underlying34 sz3 (by omega) (by omega) rfl) ?_
    refine Seq.val rfl rfl (v_load rfl rfl ag3 (has_rowelt (F := [_, _, _, _, _, _, _, _]) hpv hsv hh (by omega))) ?_
    refine Seq.pur rfl rfl (p_assign rfl rfl) ?_
    refine Seq.nil ?_
    refine Fin.then ?_
    refine DC.seq ?_
    refine DC.seq ?_
    refine DC.region ?_
    refine Seq.pur rfl rfl (p_move rfl rfl) ?_
    refine Seq.pur rfl rfl (p_nil rfl rfl) ?_
    refine Seq.pur rfl rfl (p_field rfl rfl fi55_3 (by first | exact add_at0 _ _ | exact add_at _ _ _ | rfl)) ?_
    refine Seq.val rfl rfl (v_load rfl rfl ag34 (by first | exact has_blk rfl | exact has_old' (by assumption))) ?_
    refine Seq.pur rfl rfl (p_move rfl rfl) ?_
    refine Seq.pur rfl rfl (p_quo rfl rfl rfl (by omega) (by omega)) ?_
    refine Seq.pur rfl rfl (p_index1 (ad' := ⟨G.gr, (h / 2).toNat, none⟩) rfl rfl rfl Try.underlying34 sz3 (by omega) (by omega) (by rw [add_at0])) ?_
    refine Seq.val rfl rfl (v_load rfl rfl ag3 (has_row (ints_arr hoi))) ?_
    refine Seq.pur rfl rfl (p_geq rfl rfl rfl) ?_
    refine Seq.nil ?_
    refine Fin.then ?_
    refine DC.cond rfl (fun c7 => ?_) (fun c7 => ?_)
    · refine DC.exit ?_
      refine Fin.exit_then <| Fin.exit_here <| ?_
      refine Fin.then ?_
      refine DC.region ?_
      refine Seq.pur rfl rfl (p_move rfl rfl) ?_
      refine Seq.pur rfl rfl (p_add rfl rfl rfl (by omega)) ?_
      refine Seq.pur rfl rfl (p_assign rfl rfl) ?_
      refine Seq.nil ?_
      have ho : 0 ≤ getI s.oi (h / 2) := by simpa using c7
      have rr : Dfs es v (pv.2.drop (i + 1)) s s' := by
        cases hD with
        | seen _ r => exact r
        | back ho' _ _ => omega
        | tree ho' _ _ _ => omega
      refine Fin.again (RI.mk (i + 1) s vo) (by dsimp only; omega) ⟨by dsimp only; omega, rr, hI, huj, hvs⟩ ⟨rfl, rfl, rfl, rfl, rfl, rfl, trivial⟩ (Pick.all _)
    · have ho : getI s.oi (h / 2) < 0 := by simp at c7; omega
      obtain ⟨hI1, hu1⟩ := hI.ori hm0 ho
      refine DC.skip ?_
      refine Fin.then ?_
      refine DC.seq ?_
      refine DC.region ?_
      refine Seq.pur rfl rfl (p_move rfl rfl) ?_
      refine Seq.pur rfl rfl (p_nil rfl rfl) ?_
      refine Seq.pur rfl rfl (p_field rfl rfl fi55_3 (by first | exact add_at0 _ _ | exact add_at _ _ _ | rfl)) ?_
      refine Seq.val rfl rfl (v_load rfl rfl ag34 (by first | exact has_blk rfl | exact has_old' (by assumption))) ?_
      refine Seq.pur rfl rfl (p_move rfl rfl) ?_
      refine Seq.pur rfl rfl (p_quo rfl rfl rfl (by omega) (by omega)) ?_
      refine Seq.pur rfl rfl (p_move rfl rfl) ?_
      refine Seq.pur rfl rfl (p_index1 (ad' := ⟨G.gr, (h / 2).toNat, none⟩) rfl rfl rfl Try.underlying34 sz3 (by omega) (by omega) (by rw [add_at0])) ?_
      refine Seq.sto rfl rfl (s_store (cs' := (ints (s.oi.set (h / 2).toNat h)).toArray) rfl rfl rfl sz3 rfl (by simp; omega) row_set0) ?_
      refine Seq.nil ?_
      refine Fin.then ?_
      refine DC.seq ?_
      refine DC.region ?_
      refine Seq.val rfl rfl (v_loads (vs := [_, _]) rfl rfl ag25 sz25 rfl (hass_blk rfl)) ?_
      refine Seq.pur rfl rfl (p_move rfl rfl) ?_
      -- calls tangram/tangramref04.To
      refine Seq.rel0 rfl rfl (r_call en29 rfl rfl rfl (fun w' hw => rTo_calls (hg.keepK hoff hw) hm0 hm1)) ?_
      rintro _ rfl
      refine Seq.pur rfl rfl (p_assign rfl rfl) ?_
      refine Seq.nil ?_
      refine Fin.then ?_
      refine DC.seq ?_
      refine DC.region ?_
      refine Seq.pur rfl rfl (p_move rfl rfl) ?_
      refine Seq.pur rfl rfl (p_move rfl rfl) ?_
      refine Seq.pur rfl rfl (p_index1 (ad' := ⟨G.gs, (toV es h).toNat, none⟩) rfl rfl rfl Try.underlying77 sz4 (by omega) (by omega) (by rw [add_at0])) ?_
      refine Seq.val rfl rfl (v_load rfl rfl ag4 (has_row hsw)) ?_
      refine Seq.pur rfl rfl (p_not rfl rfl) ?_
      refine Seq.nil ?_
      refine Fin.then ?_
      refine DC.cond rfl (fun c10 => ?_) (fun c10 => ?_)
      · have hw0 : getI s.he (toV es h) < 0 := by simpa using c10
        obtain ⟨sx, rr1, rr2⟩ : ∃ s2, Dfs es (toV es h) (outs es (toV es h)) ((s.ori h).enter (toV es h) h (getI s.he v + 1)) s2 ∧ Dfs es v (pv.2.drop (i + 1)) s2 s' := by
          cases hD with
          | seen ho' _ => omega
          | back _ hw' _ => omega
          | tree _ _ a b => exact ⟨_, a, b⟩
        have hI2 : Inv N es.length c ((s.ori h).enter (toV es h) h (getI s.he v + 1)) := hI1.enter (by omega) (by omega) (by have := hI.few; show s.od.length + 1 + unset (s.ori h).oi ≤ _; omega)
        have hu2 : unset ((s.ori h).enter (toV es h) h (getI s.he v + 1)).oi = unset (s.ori h).oi := rfl
        have hk := dfs_kept hV rr1 hI2 (fun x hx => by have := (mem_outs hV).1 hx; exact ⟨this.1, this.2.1⟩) htv.1 htv.2
        have hup := up_enter (N := N) (s := s.ori h) (h := h) (d := getI s.he v + 1) (x := v) hw0 htv.1 hv0 hvs
        have hge : getI ((s.ori h).enter (toV es h) h (getI s.he v + 1)).he (toV es h) = getI s.he v + 1 := by
          unfold getI; simp only [St.enter, St.ori]; rw [List.getElem?_set_self (by omega)]; rfl
        refine DC.seq ?_
        refine DC.region ?_
        refine Seq.pur rfl rfl (p_move rfl rfl) ?_
        refine Seq.pur rfl rfl (p_nil rfl rfl) ?_
        refine Seq.pur rfl rfl (p_field rfl rfl fi55_0 (by first | exact add_at0 _ _ | exact add_at _ _ _ | rfl)) ?_
        refine Seq.val rfl rfl (v_load rfl rfl ag34 (by first | exact has_blk rfl | exact has_old' (by assumption))) ?_
        refine Seq.pur rfl rfl (p_move rfl rfl) ?_
        refine Seq.pur rfl rfl (p_move rfl rfl) ?_
        refine Seq.pur rfl rfl (p_index1 (ad' := ⟨G.ga, (toV es h).toNat, none⟩) rfl rfl rfl Try.underlying34 sz3 (by omega) (by omega) (by rw [add_at0])) ?_
        refine Seq.sto rfl rfl (s_store (cs' := (ints (s.pa.set (toV es h).toNat h)).toArray) rfl rfl rfl sz3 rfl (by simp; omega) row_set0) ?_
        refine Seq.nil ?_
        refine Fin.then ?_
        refine DC.seq ?_
        refine DC.flow (cl := [.q, .q, .q, .v, .q, .q, .q, .q, .v, .q, .q, .v, .q, .q, .g]) (A := [0, 1, 3, 7, 0, 0, 32, 96, 224, 0, 992, 2016, 4064, 8191, 16383]) (order := [0, 1, 2, 3, 4, 5, 6, 7, 8, 9, 10, 11, 12, 13, 14]) [] mixed (by kernel_rfl) (fun w hw => hw.pick .nil) ?_
        refine Flow.pur rfl rfl rfl (p_move rfl rfl) ?_
        refine Flow.pur rfl rfl rfl (p_nil rfl rfl) ?_
        refine Flow.pur rfl rfl rfl (p_field rfl rfl fi55_1 (by first | exact add_at0 _ _ | exact add_at _ _ _ | rfl)) ?_
        refine Flow.valS rfl rfl rfl rfl (v_load rfl rfl ag34 (by first | exact has_blk rfl | exact has_old' (by assumption))) ?_
        refine Flow.pur rfl rfl rfl (p_move rfl rfl) ?_
        refine Flow.pur rfl rfl rfl (p_move rfl rfl) ?_
        refine Flow.pur rfl rfl rfl (p_nil rfl rfl) ?_
        refine Flow.pur rfl rfl rfl (p_field rfl rfl fi55_1 (by first | exact add_at0 _ _ | exact add_at _ _ _ | rfl)) ?_
        refine Flow.valS rfl rfl rfl rfl (v_load rfl rfl ag34 (by first | exact has_blk rfl | exact has_old' (by assumption))) ?_
        refine Flow.pur rfl rfl rfl (p_move rfl rfl) ?_
        refine Flow.pur rfl rfl rfl (p_index1 (ad' := ⟨G.gh, v.toNat, none⟩) rfl rfl rfl Try.underlying34 sz3 (by omega) (by omega) (by rw [add_at0])) ?_
        refine Flow.valS rfl rfl rfl rfl (v_load rfl rfl ag3 (has_row (ints_arr (refH_get hat.1 hvs)))) ?_
        refine Flow.pur rfl rfl rfl (p_add rfl rfl rfl (by omega)) ?_
        refine Flow.pur rfl rfl rfl (p_index1 (ad' := ⟨G.gh, (toV es h).toNat, none⟩) rfl rfl rfl Try.underlying34 sz3 (by omega) (by omega) (by rw [add_at0])) ?_
        refine Flow.sto0 rfl rfl rfl rfl (s_store (cs' := (ints (refH (s.he.set (toV es h).toNat (getI s.he v + 1)))).toArray) rfl rfl rfl sz3 rfl (by simp; omega) (by rw [row_set0, refH_set (by omega)])) (fun w hw => hw.pick (.nil)) ?_
        refine Flow.end rfl ?_
        simp only [List.map_cons, List.map_nil, List.nil_append, List.cons_append, List.append_nil]
        refine Fin.then ?_
        refine DC.region ?_
        refine Seq.val rfl rfl (v_loads (vs := [_, _]) rfl rfl ag25 sz25 rfl (hass_blk rfl)) ?_
        refine Seq.pur rfl rfl (p_move rfl rfl) ?_
        refine Seq.pur rfl rfl (p_move rfl rfl) ?_
        refine Seq.pur rfl rfl (p_move rfl rfl) ?_
        refine Seq.pur rfl rfl (p_move rfl rfl) ?_
        -- calls tangram/tangramref07.reach
        refine Seq.gen rfl rfl (g_call' en55 rfl rfl rfl (Lc := rL G vo ((s.ori h).enter (toV es h) h (getI s.he v + 1)) s.od ((seenB ((s.ori h).enter (toV es h) h (getI s.he v + 1)).he).set (toV es h).toNat (.bool false)) rs) (F := [blk g5 25 #[.int .i64 N, va]])
          (fun w hw => by
            have h5 : Own _ _ w (blk g5 25 #[.int .i64 N, va] :: rL G vo ((s.ori h).enter (toV es h) h (getI s.he v + 1)) s.od ((seenB ((s.ori h).enter (toV es h) h (getI s.he v + 1)).he).set (toV es h).toNat (.bool false)) rs) :=
              hw.pick (.cons 0 rfl (.cons' 0 rfl (by simp [sl, St.ori, St.enter]) (.cons 0 rfl (.cons 0 rfl (.cons 0 rfl (.cons 0 rfl (.cons' 0 rfl (by simp only [St.enter, St.ori]; rw [seen_back hatw.1 hw0]) (Pick.all _))))))))
            exact h5.perm (List.perm_append_comm (l₂ := [_])))
          (fun _ h => h)
          (fun w hw => by
            have h6 := (hw.sub (List.sublist_append_left _ [_])).self
            exact ih (unset (s.ori h).oi) (by omega) (Nat.le_refl _) h6 (hg.keepK hoff hw) (Off.step hg hoff (hw.sub (List.sublist_append_left _ [_]))) rfl hI2 htv.1 htv.2 (by rw [hge]; omega) rr1)) ?_
        rintro _ _ ⟨_, ⟨rfl, vo2, rfl⟩, rfl⟩
        refine Seq.nil ?_
        refine Fin.inBlock ?_
        refine Fin.then ?_
        refine DC.region ?_
        refine Seq.pur rfl rfl (p_move rfl rfl) ?_
        refine Seq.pur rfl rfl (p_add rfl rfl rfl (by omega)) ?_
        refine Seq.pur rfl rfl (p_assign rfl rfl) ?_
        refine Seq.nil ?_
        refine Fin.own (fun w hw => hw.perm (List.perm_append_comm (l₁ := [_]))) ?_
        refine Fin.again (RI.mk (i + 1) sx vo2) (by dsimp only; omega) ⟨by dsimp only; omega, rr2, hk.inv, by have := hk.low; dsimp only; omega, by
          have := hk.up v hv0 hv1 (by rw [hup]; exact hvs)
          dsimp only; rw [this, hup]; exact hvs⟩ ⟨rfl, rfl, rfl, rfl, rfl, rfl, trivial⟩ (Pick.all _)
      · refine DC.skip ?_
        refine Fin.inBlock ?_
        refine Fin.then ?_
        refine DC.region ?_
        refine Seq.pur rfl rfl (p_move rfl rfl) ?_
        refine Seq.pur rfl rfl (p_add rfl rfl rfl (by omega)) ?_
        refine Seq.pur rfl rfl (p_assign rfl rfl) ?_
        refine Seq.nil ?_
        have hw0 : 0 ≤ getI s.he (toV es h) := by simp at c10; omega
        have rr : Dfs es v (pv.2.drop (i + 1)) (s.ori h) s' := by
          cases hD with
          | seen ho' _ => omega
          | back _ _ r => exact r
          | tree _ hw' _ _ => omega
        refine Fin.again (RI.mk (i + 1) (s.ori h) vo) (by dsimp only; omega) ⟨by dsimp only; omega, rr, hI1, by dsimp only; omega, hvs⟩ ⟨rfl, rfl, rfl, rfl, rfl, rfl, trivial⟩ (.cons 0 rfl (.cons' 0 rfl (by simp [sl, St.ori]) (Pick.all _)))
  · refine DC.exit ?_
    refine Fin.exit_then <| Fin.exit_then <| Fin.exit_here <| ?_
    refine Fin.own (fun w hw => hw.sub (List.sublist_cons_self ..)) ?_
    refine Fin.end0 (.inr rfl) rfl ?_
    have hie : i = pv.2.length := by simp at c4; omega
    subst hie
    rw [List.drop_length] at hD
    cases hD
    exact ⟨rfl, vo, rfl⟩
end Go.Fl
