/- The law DfsForest. -/
import Derived.Test.YtbkhejfnhbjhpaaFlDl
import Derived.Test.YtbkhejfnhbjhpaaLAbove
set_option linter.unusedVariables false
set_option linter.unusedSimpArgs false
set_option maxRecDepth 100000
namespace Go.Fl
open Go Go.Proofs

theorem DfsForest_no {N : Int} {es : List Pr} {va : Value} {w : World} (hg : PrV w va es) (hV : ¬ Vld N es) :
    Calls Try.prog 12 #[.agg #[.int .i64 N, va]] w (Ret w [] fun v L => v = .bool true) := by
  have fg := hg.few
  have qg := hg
  obtain ⟨A, cap, rfl, hr, hlc, hcm, hl⟩ := qg
  refine calls_of (args := [_]) (L := []) Try.func12 rfl Try.ntmps12 rfl (Own.start _ _) ?_
  refine DC.seq ?_
  refine DC.region ?_
  refine Seq.new rfl rfl (n_box rfl rfl rfl) fun g1 => ?_
  refine Seq.pur rfl rfl (p_assign rfl rfl) ?_
  refine Seq.nil ?_
  refine Fin.then ?_
  refine DC.seq ?_
  refine DC.seq ?_
  refine DC.region ?_
  -- calls tangram/tangramlaw07.awake
  refine Seq.rel0 rfl rfl (r_call en34 rfl rfl rfl (fun w' hw => awake_calls w')) ?_
  rintro _ rfl
  refine Seq.pur rfl rfl (p_not rfl rfl) ?_
  refine Seq.nil ?_
  refine Fin.then ?_
  refine DC.cond rfl (fun c1 => ?_) (fun c1 => ?_)
  · exact absurd c1 (by decide)
    --closed
  · refine DC.skip ?_
    refine Fin.then ?_
    refine DC.seq ?_
    refine DC.seq ?_
    refine DC.region ?_
    refine Seq.pur rfl rfl (p_field rfl rfl fi25_1 (by first | exact add_at0 _ _ | exact add_at _ _ _ | rfl)) ?_
    refine Seq.val rfl rfl (v_load rfl rfl ag23 (by first | exact has_blk rfl | exact has_old' (by assumption))) ?_
    refine Seq.pur rfl rfl (p_len rfl rfl Try.underlying23) ?_
    refine Seq.pur rfl rfl (p_gtr rfl rfl rfl) ?_
    refine Seq.pur rfl rfl (p_move rfl rfl) ?_
    refine Seq.split 20 rfl (fun k3_4 => ?_) (fun k3_4 => ?_)
    · refine Seq.skip rfl rfl ?_
      refine Seq.skip rfl rfl ?_
      refine Seq.skip rfl rfl ?_
      refine Seq.pur rfl rfl (p_pick_t rfl rfl rfl) ?_
      refine Seq.nil ?_
      refine Fin.then ?_
      refine DC.cond_t rfl ?_
      refine DC.seq ?_
      refine DC.region ?_
      refine Seq.pur rfl rfl (p_assign rfl rfl) ?_
      refine Seq.nil ?_
      refine Fin.then ?_
      refine DC.ret ?_
      refine Fin.ret_then <| ?_
      refine Fin.end1 (.inl rfl) rfl rfl ?_
      simp
    · refine Seq.pur rfl rfl (p_field rfl rfl fi25_0 (by first | exact add_at0 _ _ | exact add_at _ _ _ | rfl)) ?_
      refine Seq.val rfl rfl (v_load rfl rfl ag3 (by first | exact has_blk rfl | exact has_old' (by assumption))) ?_
      refine Seq.pur rfl rfl (p_gtr rfl rfl rfl) ?_
      refine Seq.pur rfl rfl (p_pick_f rfl rfl rfl) ?_
      refine Seq.nil ?_
      refine Fin.then ?_
      refine DC.cond rfl (fun c3 => ?_) (fun c3 => ?_)
      · refine DC.seq ?_
        refine DC.region ?_
        refine Seq.pur rfl rfl (p_assign rfl rfl) ?_
        refine Seq.nil ?_
        refine Fin.then ?_
        refine DC.ret ?_
        refine Fin.ret_then <| ?_
        refine Fin.end1 (.inl rfl) rfl rfl ?_
        simp
      · refine DC.skip ?_
        refine Fin.then ?_
        refine DC.seq ?_
        refine DC.region ?_
        refine Seq.val rfl rfl (v_loads (vs := [_, _]) rfl rfl ag25 sz25 rfl (hass_blk rfl)) ?_
        -- calls tangram/tangramlaw07.walk
        refine Seq.rel0 rfl rfl (r_call en35 rfl rfl rfl (fun w' hw => lwalk_no (hg.keep0 hw) hV)) ?_
        rintro _ rfl
        refine Seq.pur rfl rfl (p_move rfl rfl) ?_
        refine Seq.pur rfl rfl (p_extract rfl rfl rfl) ?_
        refine Seq.pur rfl rfl (p_extract rfl rfl rfl) ?_
        refine Seq.new rfl rfl (n_alloc rfl ze55 rfl) fun g3 => ?_
        refine Seq.sto rfl rfl (s_stores (cs' := #[_, _, _, _]) rfl rfl rfl sz55 rfl (Nat.le_of_ble_eq_true rfl) rfl) ?_
        refine Seq.pur rfl rfl (p_assign rfl rfl) ?_
        refine Seq.nil ?_
        refine Fin.then ?_
        refine DC.seq ?_
        refine DC.seq ?_
        refine DC.region ?_
        refine Seq.pur rfl rfl (p_move rfl rfl) ?_
        refine Seq.pur rfl rfl (p_neq rfl rfl rfl) ?_
        refine Seq.nil ?_
        refine Fin.then ?_
        refine DC.cond rfl (fun c6 => ?_) (fun c6 => ?_)
        · refine DC.seq ?_
          refine DC.flow (cl := [.v, .r, .v, .r, .r, .q, .q]) (A := [0, 1, 0, 7, 15, 31, 63]) (order := [0, 1, 2, 3, 4, 5, 6]) [] mixed (by kernel_rfl) (fun w hw => hw.pick .nil) ?_
          refine Flow.valS rfl rfl rfl rfl (v_loads (vs := [_, _]) rfl rfl ag25 sz25 rfl (hass_blk rfl)) ?_
          -- calls tangram/tangramref04.Copy
          refine Flow.relS rfl rfl rfl rfl (r_call en31 rfl rfl rfl (fun w' hw => GCopy_calls (hg.keep0 hw))) ?_
          rintro _ _ ⟨g, rfl, rfl⟩
          refine Flow.valS rfl rfl rfl rfl (v_loads (vs := [_, _, _, _]) rfl rfl ag55 sz55 rfl (hass_blk rfl)) ?_
          -- calls tangram/tangramref07.Copy
          refine Flow.relS rfl rfl rfl rfl (r_call en39 rfl rfl rfl (fun w' hw => FCopy_calls (slv_none _) (slv_none _) (slv_none _) (slv_none _))) ?_
          rintro _ _ ⟨u0, u1, u2, u3, rfl, rfl⟩
          -- calls tangram/dfs.Valid
          refine Flow.rel0V (V := forL u0 u1 u2 u3 [] [] [] [] ++ [slc g 39 2 (prs es), blk g3 55 #[.slice none 0 0, .slice none 0 0, .slice none 0 0, .slice none 0 0], blk g1 25 #[.int .i64 N, .slice A es.length cap]]) rfl rfl rfl rfl (by kernel_rfl) (r_call en41 rfl rfl rfl (fun w' hw => DValid_calls (N := N) (prv_own hw 4 rfl fg) (slv_own hw 0 rfl (by simp)) (slv_own hw 1 rfl (by simp)) (slv_own hw 2 rfl (by simp)) (slv_own hw 3 rfl (by simp)))) ?_
          rintro _ rfl
          rw [validF_no (fun h => hV h.1)]
          refine Flow.pur rfl rfl rfl (p_not rfl rfl) ?_
          refine Flow.pur rfl rfl rfl (p_assign rfl rfl) ?_
          refine Flow.end rfl ?_
          simp only [List.map_cons, List.map_nil, List.nil_append, List.cons_append, List.append_nil]
          refine Fin.then ?_
          refine DC.ret ?_
          refine Fin.ret_then <| ?_
          refine Fin.end1 (.inl rfl) rfl rfl ?_
          simp
        · exact absurd c6 (by decide)
          --closed

section
variable {P : Program} {w0 : World} {K : List Nat} {n : Nat} {ds : List Deferred} {E : Env} {L : List Chunk}
/-- What each world of the state shows. -/
theorem DC.fact {Q : Exit → Act → World → Prop} {c : Code} {φ : Prop} (hf : ∀ w, Own w0 K w L → φ) (h : φ → DC P w0 K n ds Q c E L) : DC P w0 K n ds Q c E L := fun a w ha hw => h (hf w hw) a w ha hw
theorem has_slc {t l c : Nat} {ad : Addr} {xs : List Int} {j : Int} (i : Nat) (hi : L[i]? = some (slc (.slice (some ad) l c) t 1 (ints xs))) (hf : xs.length ≤ 17592186044416) (h0 : 0 ≤ j) (h1 : j < xs.length) : Has w0 K L (ad.add j.toNat) (.int .i64 (getI xs j)) := by
  intro w hw
  obtain ⟨ad', cap', he, hc⟩ := (slv_own hw i hi hf).cell h0 h1
  cases he
  exact hc
end
def rootsN (pa : List Int) (v : Nat) : Nat := (List.range v).countP fun (x : Nat) => decide (getI pa (x : Int) < 0)
def treeN (pa oi : List Int) (e : Nat) : Nat := (List.range e).countP fun x => !backN pa oi x
theorem rootsN_succ (pa : List Int) (v : Nat) : rootsN pa (v + 1) = rootsN pa v + (if getI pa (v : Int) < 0 then 1 else 0) := by
  unfold rootsN; rw [List.range_succ, List.countP_append]; simp
theorem treeN_succ (pa oi : List Int) (e : Nat) : treeN pa oi (e + 1) = treeN pa oi e + (if backN pa oi e = true then 0 else 1) := by
  unfold treeN; rw [List.range_succ, List.countP_append]
  cases h : backN pa oi e <;> simp [h]
theorem roots_all (pa : List Int) (v : Nat) : rootsN pa v + (List.range v).countP (fun (x : Nat) => decide (0 ≤ getI pa x)) = v := by
  induction v with
  | zero => rfl
  | succ v ih =>
    rw [rootsN_succ, List.range_succ, List.countP_append]
    by_cases h : getI pa (v : Int) < 0
    · have h2 : ¬ 0 ≤ getI pa (v : Int) := by omega
      simp [h, h2]; omega
    · have h2 : 0 ≤ getI pa (v : Int) := by omega
      simp [h, h2]; omega
theorem backB_N {pa oi : List Int} {e : Nat} (h : e < oi.length) : backB pa oi e = backN pa oi e := by
  unfold backB backN; rw [if_pos (by omega)]; rfl

theorem Seq.shapeL {P : Program} {ops : Array Oper} {w0 : World} {K : List Nat} {n : Nat} {ds : List Deferred} {E : Env} {L : List Chunk} {Q : Exit → Act → World → Prop} {l : List Oper} {v : Value} {t : Nat} {xs : List Int} (i : Nat) (hi : L[i]? = some (slc v t 1 (ints xs))) (hf : xs.length ≤ 17592186044416)
    (h : (∃ A c, v = .slice A xs.length c) → Seq P ops w0 K n ds Q l E L) : Seq P ops w0 K n ds Q l E L := fun a w ha hw => by
  obtain ⟨A, c, he, _⟩ := slv_own hw i hi hf
  exact h ⟨A, c, he⟩ a w ha hw
theorem DfsForest_yes {N : Int} {es : List Pr} {va : Value} {w : World} (hg : PrV w va es) (hV : Vld N es) :
    Calls Try.prog 12 #[.agg #[.int .i64 N, va]] w (Ret w [] fun v L => v = .bool true) := by
  have fg := hg.few
  have qg := hg
  have hN0 := hV.lo
  have hN1 := hV.hi
  have hfew := hV.few
  obtain ⟨A, cap, rfl, hr, hlc, hcm, hl⟩ := qg
  obtain ⟨Nn, rfl⟩ := Int.eq_ofNat_of_zero_le hN0
  refine calls_of (args := [_]) (L := []) Try.func12 rfl Try.ntmps12 rfl (Own.start _ _) ?_
  refine DC.seq ?_
  refine DC.region ?_
  refine Seq.new rfl rfl (n_box rfl rfl rfl) fun g1 => ?_
  refine Seq.pur rfl rfl (p_assign rfl rfl) ?_
  refine Seq.nil ?_
  refine Fin.then ?_
  refine DC.seq ?_
  refine DC.seq ?_
  refine DC.region ?_
  -- calls tangram/tangramlaw07.awake
  refine Seq.rel0 rfl rfl (r_call en34 rfl rfl rfl (fun w' hw => awake_calls w')) ?_
  rintro _ rfl
  refine Seq.pur rfl rfl (p_not rfl rfl) ?_
  refine Seq.nil ?_
  refine Fin.then ?_
  refine DC.cond rfl (fun c1 => ?_) (fun c1 => ?_)
  · exact absurd c1 (by decide)
    --closed
  · refine DC.skip ?_
    refine Fin.then ?_
    refine DC.seq ?_
    refine DC.seq ?_
    refine DC.region ?_
    refine Seq.pur rfl rfl (p_field rfl rfl fi25_1 (by first | exact add_at0 _ _ | exact add_at _ _ _ | rfl)) ?_
    refine Seq.val rfl rfl (v_load rfl rfl ag23 (by first | exact has_blk rfl | exact has_old' (by assumption))) ?_
    refine Seq.pur rfl rfl (p_len rfl rfl Try.underlying23) ?_
    refine Seq.pur rfl rfl (p_gtr rfl rfl rfl) ?_
    refine Seq.pur rfl rfl (p_move rfl rfl) ?_
    refine Seq.split 20 rfl (fun k3_4 => ?_) (fun k3_4 => ?_)
    · refine Seq.skip rfl rfl ?_
      refine Seq.skip rfl rfl ?_
      refine Seq.skip rfl rfl ?_
      refine Seq.pur rfl rfl (p_pick_t rfl rfl rfl) ?_
      refine Seq.nil ?_
      refine Fin.then ?_
      refine DC.cond_t rfl ?_
      refine DC.seq ?_
      refine DC.region ?_
      refine Seq.pur rfl rfl (p_assign rfl rfl) ?_
      refine Seq.nil ?_
      refine Fin.then ?_
      refine DC.ret ?_
      refine Fin.ret_then <| ?_
      refine Fin.end1 (.inl rfl) rfl rfl ?_
      rfl
    · refine Seq.pur rfl rfl (p_field rfl rfl fi25_0 (by first | exact add_at0 _ _ | exact add_at _ _ _ | rfl)) ?_
      refine Seq.val rfl rfl (v_load rfl rfl ag3 (by first | exact has_blk rfl | exact has_old' (by assumption))) ?_
      refine Seq.pur rfl rfl (p_gtr rfl rfl rfl) ?_
      refine Seq.pur rfl rfl (p_pick_f rfl rfl rfl) ?_
      refine Seq.nil ?_
      refine Fin.then ?_
      refine DC.cond rfl (fun c3 => ?_) (fun c3 => ?_)
      · refine DC.seq ?_
        refine DC.region ?_
        refine Seq.pur rfl rfl (p_assign rfl rfl) ?_
        refine Seq.nil ?_
        refine Fin.then ?_
        refine DC.ret ?_
        refine Fin.ret_then <| ?_
        refine Fin.end1 (.inl rfl) rfl rfl ?_
        rfl
      · refine DC.skip ?_
        refine Fin.then ?_
        refine DC.seq ?_
        refine DC.region ?_
        refine Seq.val rfl rfl (v_loads (vs := [_, _]) rfl rfl ag25 sz25 rfl (hass_blk rfl)) ?_
        -- calls tangram/tangramlaw07.walk
        refine Seq.rel rfl rfl (r_call en35 rfl rfl rfl (fun w' hw => lwalk_yes (hg.keep0 hw) hV)) ?_
        rintro _ _ ⟨s, v0, v1, v2, v3, hR, hI, rfl, rfl⟩
        rw [Int.toNat_natCast] at hI
        have hval := walk_valid hV hI hR
        obtain ⟨_, hLen, hH, hRt⟩ := valid_facts hval
        rw [Int.toNat_natCast] at hH hRt
        have l0 : s.pa.length = Nn := by have := hLen.pa; omega
        have l1 : s.he.length = Nn := by have := hLen.he; omega
        have l2 : s.od.length = Nn := by have := hLen.od; omega
        have l3 := hLen.oi
        simp only [forL, List.cons_append, List.nil_append]
        refine Seq.shapeL 0 rfl (by omega) ?_
        rintro ⟨A0, c0', rfl⟩
        refine Seq.shapeL 1 rfl (by omega) ?_
        rintro ⟨A1, c1', rfl⟩
        refine Seq.shapeL 2 rfl (by omega) ?_
        rintro ⟨A2, c2', rfl⟩
        refine Seq.shapeL 3 rfl (by omega) ?_
        rintro ⟨A3, c3', rfl⟩
        refine Seq.pur rfl rfl (p_move rfl rfl) ?_
        refine Seq.pur rfl rfl (p_extract rfl rfl rfl) ?_
        refine Seq.pur rfl rfl (p_extract rfl rfl rfl) ?_
        refine Seq.new rfl rfl (n_alloc rfl ze55 rfl) fun g3 => ?_
        refine Seq.sto rfl rfl (s_stores (cs' := #[_, _, _, _]) rfl rfl rfl sz55 rfl (Nat.le_of_ble_eq_true rfl) rfl) ?_
        refine Seq.pur rfl rfl (p_assign rfl rfl) ?_
        refine Seq.nil ?_
        refine Fin.then ?_
        refine DC.seq ?_
        refine DC.seq ?_
        refine DC.region ?_
        refine Seq.pur rfl rfl (p_move rfl rfl) ?_
        refine Seq.pur rfl rfl (p_neq rfl rfl rfl) ?_
        refine Seq.nil ?_
        refine Fin.then ?_
        refine DC.cond rfl (fun c6 => ?_) (fun c6 => ?_)
        · exact absurd c6 (by decide)
          --closed
        · refine DC.skip ?_
          refine Fin.then ?_
          refine DC.seq ?_
          refine DC.seq ?_
          refine DC.flow (cl := [.v, .r, .v, .r, .r, .q, .q, .q, .v, .q, .q, .v, .q, .q, .q, .q, .v, .q, .q, .v, .q, .q, .q]) (A := [0, 1, 0, 7, 15, 31, 63, 127, 255, 511, 127, 1151, 4095, 8191, 16383, 32767, 65535, 131071, 32767, 294911, 819199, 2097151, 4194303]) (order := [0, 1, 2, 3, 4, 5, 6, 7, 8, 9, 10, 11, 12, 13, 14, 15, 16, 17, 18, 19, 20, 21, 22]) [] mixed (by kernel_rfl) (fun w hw => hw.pick .nil) ?_
          refine Flow.valS rfl rfl rfl rfl (v_loads (vs := [_, _]) rfl rfl ag25 sz25 rfl (hass_blk rfl)) ?_
          -- calls tangram/tangramref04.Copy
          refine Flow.relS rfl rfl rfl rfl (r_call en31 rfl rfl rfl (fun w' hw => GCopy_calls (hg.keep0 hw))) ?_
          rintro _ _ ⟨g, rfl, rfl⟩
          refine Flow.valS rfl rfl rfl rfl (v_loads (vs := [_, _, _, _]) rfl rfl ag55 sz55 rfl (hass_blk rfl)) ?_
          -- calls tangram/tangramref07.Copy
          refine Flow.relS rfl rfl rfl rfl (r_call en39 rfl rfl rfl (fun w' hw => FCopy_calls (slv_own hw 1 rfl (by omega)) (slv_own hw 2 rfl (by omega)) (slv_own hw 3 rfl (by omega)) (slv_own hw 4 rfl (by omega)))) ?_
          rintro _ _ ⟨u0, u1, u2, u3, rfl, rfl⟩
          -- calls tangram/dfs.Valid
          refine Flow.rel0V (V := forL u0 u1 u2 u3 s.pa s.he s.od s.oi ++ [slc g 39 2 (prs es), blk g3 55 #[.slice A0 s.pa.length c0', .slice A1 s.he.length c1', .slice A2 s.od.length c2', .slice A3 s.oi.length c3'], slc (.slice A0 s.pa.length c0') 3 1 (ints s.pa), slc (.slice A1 s.he.length c1') 3 1 (ints s.he), slc (.slice A2 s.od.length c2') 3 1 (ints s.od), slc (.slice A3 s.oi.length c3') 3 1 (ints s.oi), blk g1 25 #[.int .i64 (Nn : Int), .slice A es.length cap]]) rfl rfl rfl rfl (by kernel_rfl) (r_call en41 rfl rfl rfl (fun w' hw => DValid_calls (N := Nn) (prv_own hw 4 rfl fg) (slv_own hw 0 rfl (by omega)) (slv_own hw 1 rfl (by omega)) (slv_own hw 2 rfl (by omega)) (slv_own hw 3 rfl (by omega)))) ?_
          rintro _ rfl
          rw [hval]
          refine Flow.pur rfl rfl rfl (p_not rfl rfl) ?_
          refine Flow.pur rfl rfl rfl (p_move rfl rfl) ?_
          refine Flow.split 44 rfl (fun k8_6 => ?_) (fun k8_6 => ?_)
          · exact absurd k8_6 (by decide)
            --closed
          · refine Flow.pur rfl rfl rfl (p_field rfl rfl fi55_2 (by first | exact add_at0 _ _ | exact add_at _ _ _ | rfl)) ?_
            refine Flow.valS rfl rfl rfl rfl (v_load rfl rfl ag34 (by first | exact has_blk rfl | exact has_old' (by assumption))) ?_
            refine Flow.pur rfl rfl rfl (p_len rfl rfl Try.underlying34) ?_
            refine Flow.pur rfl rfl rfl (p_field rfl rfl fi25_0 (by first | exact add_at0 _ _ | exact add_at _ _ _ | rfl)) ?_
            refine Flow.valS rfl rfl rfl rfl (v_load rfl rfl ag3 (by first | exact has_blk rfl | exact has_old' (by assumption))) ?_
            refine Flow.pur rfl rfl rfl (p_neq rfl rfl rfl) ?_
            refine Flow.pur rfl rfl rfl (p_pick_f rfl rfl rfl) ?_
            refine Flow.pur rfl rfl rfl (p_move rfl rfl) ?_
            refine Flow.split 52 rfl (fun k8_14 => ?_) (fun k8_14 => ?_)
            · exact absurd k8_14 (by simp [l2])
              --closed
            · refine Flow.pur rfl rfl rfl (p_field rfl rfl fi55_3 (by first | exact add_at0 _ _ | exact add_at _ _ _ | rfl)) ?_
              refine Flow.valS rfl rfl rfl rfl (v_load rfl rfl ag34 (by first | exact has_blk rfl | exact has_old' (by assumption))) ?_
              refine Flow.pur rfl rfl rfl (p_len rfl rfl Try.underlying34) ?_
              refine Flow.pur rfl rfl rfl (p_field rfl rfl fi25_1 (by first | exact add_at0 _ _ | exact add_at _ _ _ | rfl)) ?_
              refine Flow.valS rfl rfl rfl rfl (v_load rfl rfl ag23 (by first | exact has_blk rfl | exact has_old' (by assumption))) ?_
              refine Flow.pur rfl rfl rfl (p_len rfl rfl Try.underlying23) ?_
              refine Flow.pur rfl rfl rfl (p_neq rfl rfl rfl) ?_
              refine Flow.pur rfl rfl rfl (p_pick_f rfl rfl rfl) ?_
              refine Flow.end rfl ?_
              simp only [List.map_cons, List.map_nil, List.nil_append, List.cons_append, List.append_nil]
              refine Fin.then ?_
              refine DC.cond rfl (fun c8 => ?_) (fun c8 => ?_)
              · exact absurd c8 (by simp [l3])
                --closed
              · refine DC.skip ?_
                refine Fin.then ?_
                refine DC.seq ?_
                refine DC.region ?_
                refine Seq.pur rfl rfl (p_assign rfl rfl) ?_
                refine Seq.pur rfl rfl (p_assign rfl rfl) ?_
                refine Seq.nil ?_
                refine Fin.then ?_
                refine DC.seq ?_
                refine DC.seq ?_
                refine DC.region ?_
                refine Seq.pur rfl rfl (p_assign rfl rfl) ?_
                refine Seq.nil ?_
                refine Fin.then ?_
                refine DC.block ?_
                refine DC.loop (ι := Nat) (fun v => v ≤ Nn)
                  (fun v => [(1, .pointer (some ⟨g1, 0, none⟩)), (3, .pointer (some ⟨g3, 0, none⟩)), (5, .int .i64 (rootsN s.pa v)), (6, .int .i64 0), (7, .int .i64 v)])
                  (fun v => [blk g3 55 #[.slice A0 s.pa.length c0', .slice A1 s.he.length c1', .slice A2 s.od.length c2', .slice A3 s.oi.length c3'], slc (.slice A0 s.pa.length c0') 3 1 (ints s.pa), slc (.slice A1 s.he.length c1') 3 1 (ints s.he), slc (.slice A2 s.od.length c2') 3 1 (ints s.od), slc (.slice A3 s.oi.length c3') 3 1 (ints s.oi), blk g1 25 #[.int .i64 (Nn : Int), .slice A es.length cap]]) (fun v => Nn - v) 0 (Nat.zero_le _) ⟨rfl, rfl, rfl, rfl, rfl, trivial⟩ ?_ ?_
                · exact .cons 5 rfl (.cons 5 rfl (.cons 5 rfl (.cons 5 rfl (.cons 5 rfl (.cons 5 rfl .nil)))))
                intro v hv
                have hrl : rootsN s.pa v ≤ v := by unfold rootsN; have := List.countP_le_length (p := fun (x : Nat) => decide (getI s.pa (x : Int) < 0)) (l := List.range v); simpa using this
                refine DC.seq ?_
                refine DC.seq ?_
                refine DC.region ?_
                refine Seq.pur rfl rfl (p_move rfl rfl) ?_
                refine Seq.pur rfl rfl (p_field rfl rfl fi25_0 (by first | exact add_at0 _ _ | exact add_at _ _ _ | rfl)) ?_
                refine Seq.val rfl rfl (v_load rfl rfl ag3 (by first | exact has_blk rfl | exact has_old' (by assumption))) ?_
                refine Seq.pur rfl rfl (p_lss rfl rfl rfl) ?_
                refine Seq.nil ?_
                refine Fin.then ?_
                refine DC.cond rfl (fun c12 => ?_) (fun c12 => ?_)
                · have hlt : v < Nn := by simpa using c12
                  refine DC.fact (φ := ∃ ad, A0 = some ad) (fun w hw => by
                    obtain ⟨ad, c, he, _⟩ := (slv_own hw 1 rfl (by omega)).cell (i := (v : Int)) (by omega) (by omega)
                    cases he; exact ⟨ad, rfl⟩) ?_
                  rintro ⟨a0, rfl⟩
                  refine DC.skip ?_
                  refine Fin.then ?_
                  refine DC.seq ?_
                  refine DC.block ?_
                  refine DC.seq ?_
                  refine DC.region ?_
                  refine Seq.pur rfl rfl (p_field rfl rfl fi55_0 (by first | exact add_at0 _ _ | exact add_at _ _ _ | rfl)) ?_
                  refine Seq.val rfl rfl (v_load rfl rfl ag34 (by first | exact has_blk rfl | exact has_old' (by assumption))) ?_
                  refine Seq.pur rfl rfl (p_move rfl rfl) ?_
                  refine Seq.pur rfl rfl (p_index1 (ad' := a0.add (v : Int).toNat) rfl rfl rfl Try.underlying34 sz3 (by omega) (by omega) rfl) ?_
                  refine Seq.val rfl rfl (v_load rfl rfl ag3 (has_slc 1 rfl (by omega) (by omega) (by omega))) ?_
                  refine Seq.pur rfl rfl (p_lss rfl rfl rfl) ?_
                  refine Seq.nil ?_
                  refine Fin.then ?_
                  refine DC.cond rfl (fun c14 => ?_) (fun c14 => ?_)
                  · refine DC.region ?_
                    refine Seq.pur rfl rfl (p_move rfl rfl) ?_
                    refine Seq.pur rfl rfl (p_add rfl rfl rfl (by omega)) ?_
                    refine Seq.pur rfl rfl (p_assign rfl rfl) ?_
                    refine Seq.nil ?_
                    refine Fin.inBlock ?_
                    refine Fin.then ?_
                    refine DC.region ?_
                    refine Seq.pur rfl rfl (p_move rfl rfl) ?_
                    refine Seq.pur rfl rfl (p_add rfl rfl rfl (by omega)) ?_
                    refine Seq.pur rfl rfl (p_assign rfl rfl) ?_
                    refine Seq.nil ?_
                    refine Fin.again (v + 1) (by omega) (by omega) ⟨rfl, rfl, by rw [rootsN_succ, if_pos (by simpa using c14)]; rfl, rfl, rfl, trivial⟩ (Pick.all _)
                  · refine DC.skip ?_
                    refine Fin.inBlock ?_
                    refine Fin.then ?_
                    refine DC.region ?_
                    refine Seq.pur rfl rfl (p_move rfl rfl) ?_
                    refine Seq.pur rfl rfl (p_add rfl rfl rfl (by omega)) ?_
                    refine Seq.pur rfl rfl (p_assign rfl rfl) ?_
                    refine Seq.nil ?_
                    refine Fin.again (v + 1) (by omega) (by omega) ⟨rfl, rfl, by rw [rootsN_succ, if_neg (by simpa using c14)]; rfl, rfl, rfl, trivial⟩ (Pick.all _)
                · have hve : v = Nn := by simp at c12; omega
                  rw [hve]
                  clear hve c12 hv hrl v
                  have hrl : rootsN s.pa Nn ≤ Nn := by have := roots_all s.pa Nn; omega
                  refine DC.exit ?_
                  refine Fin.exit_then <| Fin.exit_then <| Fin.exit_here <| ?_
                  refine Fin.then ?_
                  refine DC.seq ?_
                  refine DC.seq ?_
                  refine DC.region ?_
                  refine Seq.pur rfl rfl (p_assign rfl rfl) ?_
                  refine Seq.nil ?_
                  refine Fin.then ?_
                  refine DC.block ?_
                  refine DC.loop (ι := Nat) (fun e => e ≤ es.length)
                    (fun e => [(1, .pointer (some ⟨g1, 0, none⟩)), (3, .pointer (some ⟨g3, 0, none⟩)), (5, .int .i64 (rootsN s.pa Nn)), (6, .int .i64 (treeN s.pa s.oi e)), (8, .int .i64 e)])
                    (fun e => [blk g3 55 #[.slice A0 s.pa.length c0', .slice A1 s.he.length c1', .slice A2 s.od.length c2', .slice A3 s.oi.length c3'], slc (.slice A0 s.pa.length c0') 3 1 (ints s.pa), slc (.slice A1 s.he.length c1') 3 1 (ints s.he), slc (.slice A2 s.od.length c2') 3 1 (ints s.od), slc (.slice A3 s.oi.length c3') 3 1 (ints s.oi), blk g1 25 #[.int .i64 (Nn : Int), .slice A es.length cap]]) (fun e => es.length - e) 0 (Nat.zero_le _) ⟨rfl, rfl, rfl, rfl, rfl, trivial⟩ (Pick.all _) ?_
                  intro e he
                  have htl : treeN s.pa s.oi e ≤ e := by unfold treeN; have := List.countP_le_length (p := fun x => !backN s.pa s.oi x) (l := List.range e); simpa using this
                  refine DC.seq ?_
                  refine DC.seq ?_
                  refine DC.region ?_
                  refine Seq.pur rfl rfl (p_move rfl rfl) ?_
                  refine Seq.pur rfl rfl (p_field rfl rfl fi25_1 (by first | exact add_at0 _ _ | exact add_at _ _ _ | rfl)) ?_
                  refine Seq.val rfl rfl (v_load rfl rfl ag23 (by first | exact has_blk rfl | exact has_old' (by assumption))) ?_
                  refine Seq.pur rfl rfl (p_len rfl rfl Try.underlying23) ?_
                  refine Seq.pur rfl rfl (p_lss rfl rfl rfl) ?_
                  refine Seq.nil ?_
                  refine Fin.then ?_
                  refine DC.cond rfl (fun c17 => ?_) (fun c17 => ?_)
                  · have hlt : e < es.length := by simpa using c17
                    obtain ⟨p, hp⟩ : ∃ p, es[e]? = some p := ⟨_, List.getElem?_eq_getElem hlt⟩
                    obtain ⟨ad, rfl, hU, hVe⟩ := hr.pair hp
                    have hone := edge_one hval hp
                    have hbk := backB_N (pa := s.pa) (oi := s.oi) (e := e) (by omega)
                    refine DC.skip ?_
                    refine Fin.then ?_
                    refine DC.seq ?_
                    refine DC.block ?_
                    refine DC.seq ?_
                    refine DC.region ?_
                    refine Seq.val rfl rfl (v_loads (vs := [_, _, _, _]) rfl rfl ag55 sz55 rfl (hass_blk rfl)) ?_
                    -- calls tangram/tangramref07.Copy
                    refine Seq.rel rfl rfl (r_call en39 rfl rfl rfl (fun w' hw => FCopy_calls (slv_own hw 1 rfl (by omega)) (slv_own hw 2 rfl (by omega)) (slv_own hw 3 rfl (by omega)) (slv_own hw 4 rfl (by omega)))) ?_
                    rintro _ _ ⟨u0, u1, u2, u3, rfl, rfl⟩
                    simp only [forL, List.cons_append, List.nil_append]
                    refine Seq.pur rfl rfl (p_move rfl rfl) ?_
                    -- calls tangram/dfs.Back
                    refine Seq.rel0 rfl rfl (r_call en38 rfl rfl rfl (fun w' hw => Back_calls _ (slv_own hw 0 rfl (by omega)) (slv_own hw 3 rfl (by omega)))) ?_
                    rintro _ rfl
                    rw [hbk]
                    refine Seq.pur rfl rfl (p_assign rfl rfl) ?_
                    refine Seq.nil ?_
                    refine Fin.then ?_
                    refine DC.cut (ι := Unit) (fun _ => True) (fun _ => [(1, .pointer (some ⟨g1, 0, none⟩)), (3, .pointer (some ⟨g3, 0, none⟩)), (5, .int .i64 (rootsN s.pa Nn)), (6, .int .i64 (treeN s.pa s.oi (e + 1))), (8, .int .i64 e)]) (fun _ => [blk g3 55 #[.slice A0 s.pa.length c0', .slice A1 s.he.length c1', .slice A2 s.od.length c2', .slice A3 s.oi.length c3'], slc (.slice A0 s.pa.length c0') 3 1 (ints s.pa), slc (.slice A1 s.he.length c1') 3 1 (ints s.he), slc (.slice A2 s.od.length c2') 3 1 (ints s.od), slc (.slice A3 s.oi.length c3') 3 1 (ints s.oi), blk g1 25 #[.int .i64 (Nn : Int), .slice (some ad) es.length cap]]) ?first ?rest
                    case first =>
                      refine DC.seq ?_
                      refine DC.region ?_
                      refine Seq.pur rfl rfl (p_move rfl rfl) ?_
                      refine Seq.pur rfl rfl (p_not rfl rfl) ?_
                      refine Seq.nil ?_
                      refine Fin.then ?_
                      refine DC.cond rfl (fun c20 => ?_) (fun c20 => ?_)
                      · refine DC.region ?_
                        refine Seq.pur rfl rfl (p_move rfl rfl) ?_
                        refine Seq.pur rfl rfl (p_add rfl rfl rfl (by omega)) ?_
                        refine Seq.pur rfl rfl (p_assign rfl rfl) ?_
                        refine Seq.nil ?_
                        refine Fin.meet () trivial ⟨rfl, rfl, rfl, by rw [treeN_succ, if_neg (by simpa using c20)]; rfl, rfl, trivial⟩ (.cons 4 rfl (.cons 4 rfl (.cons 4 rfl (.cons 4 rfl (.cons 4 rfl (.cons 4 rfl .nil))))))
                      · refine DC.skip ?_
                        refine Fin.meet () trivial ⟨rfl, rfl, rfl, by rw [treeN_succ, if_pos (by simpa using c20)]; rfl, rfl, trivial⟩ (.cons 4 rfl (.cons 4 rfl (.cons 4 rfl (.cons 4 rfl (.cons 4 rfl (.cons 4 rfl .nil))))))
                    case rest =>
                      rintro _ _
                      refine DC.seq ?_
                      refine DC.region ?_
                      refine Seq.pur rfl rfl (p_move rfl rfl) ?_
                      refine Seq.pur rfl rfl (p_lss rfl rfl rfl) ?_
                      refine Seq.nil ?_
                      refine Fin.then ?_
                      refine DC.cond rfl (fun c22 => ?_) (fun c22 => ?_)
                      · refine DC.seq ?_
                        refine DC.flow (cl := [.q, .v, .q, .q, .q, .v, .q, .v, .q, .q, .q, .v, .q, .q]) (A := [0, 1, 0, 7, 15, 31, 0, 64, 0, 448, 960, 1984, 63, 8191]) (order := [0, 1, 2, 3, 4, 5, 6, 7, 8, 9, 10, 11, 12, 13]) [] mixed (by kernel_rfl) (fun w hw => hw.pick .nil) ?_
                        refine Flow.pur rfl rfl rfl (p_field rfl rfl fi25_1 (by first | exact add_at0 _ _ | exact add_at _ _ _ | rfl)) ?_
                        refine Flow.valS rfl rfl rfl rfl (v_load rfl rfl ag23 (by first | exact has_blk rfl | exact has_old' (by assumption))) ?_
                        refine Flow.pur rfl rfl rfl (p_move rfl rfl) ?_
                        refine Flow.pur rfl rfl rfl (p_index (ad' := ad.add (e * 2)) rfl rfl rfl Try.underlying23 sz39 (by omega) (by omega) rfl) ?_
                        refine Flow.pur rfl rfl rfl (p_field (ad' := ad.add (e * 2)) rfl rfl fi39_0 (by simp [Addr.add])) ?_
                        refine Flow.valS rfl rfl rfl rfl (v_load rfl rfl ag3 (has_old' hU)) ?_
                        refine Flow.pur rfl rfl rfl (p_field rfl rfl fi25_1 (by first | exact add_at0 _ _ | exact add_at _ _ _ | rfl)) ?_
                        refine Flow.valS rfl rfl rfl rfl (v_load rfl rfl ag23 (by first | exact has_blk rfl | exact has_old' (by assumption))) ?_
                        refine Flow.pur rfl rfl rfl (p_move rfl rfl) ?_
                        refine Flow.pur rfl rfl rfl (p_index (ad' := ad.add (e * 2)) rfl rfl rfl Try.underlying23 sz39 (by omega) (by omega) rfl) ?_
                        refine Flow.pur rfl rfl rfl (p_field (ad' := ad.add (e * 2 + 1)) rfl rfl fi39_1 (add_add _ _ _ (by decide))) ?_
                        refine Flow.valS rfl rfl rfl rfl (v_load rfl rfl ag3 (has_old' hVe)) ?_
                        refine Flow.pur rfl rfl rfl (p_assign rfl rfl) ?_
                        refine Flow.pur rfl rfl rfl (p_assign rfl rfl) ?_
                        refine Flow.end rfl ?_
                        simp only [List.map_cons, List.map_nil, List.nil_append, List.cons_append, List.append_nil]
                        refine Fin.then ?_
                        refine DC.seq ?_
                        refine DC.flow (cl := [.v, .r, .v, .r, .q, .q, .r, .v, .r, .v, .r, .q, .q, .r, .q, .q]) (A := [0, 1, 0, 7, 0, 0, 63, 0, 255, 0, 1023, 0, 0, 8191, 16383, 32767]) (order := [0, 1, 2, 3, 4, 5, 6, 7, 8, 9, 10, 11, 12, 13, 14, 15]) [] mixed (by kernel_rfl) (fun w hw => hw.pick .nil) ?_
                        refine Flow.valS rfl rfl rfl rfl (v_loads (vs := [_, _]) rfl rfl ag25 sz25 rfl (hass_blk rfl)) ?_
                        -- calls tangram/tangramref04.Copy
                        refine Flow.relS rfl rfl rfl rfl (r_call en31 rfl rfl rfl (fun w' hw => GCopy_calls (hg.keep0 hw))) ?_
                        rintro _ _ ⟨g, rfl, rfl⟩
                        refine Flow.valS rfl rfl rfl rfl (v_loads (vs := [_, _, _, _]) rfl rfl ag55 sz55 rfl (hass_blk rfl)) ?_
                        -- calls tangram/tangramref07.Copy
                        refine Flow.relS rfl rfl rfl rfl (r_call en39 rfl rfl rfl (fun w' hw => FCopy_calls (slv_own hw 1 rfl (by omega)) (slv_own hw 2 rfl (by omega)) (slv_own hw 3 rfl (by omega)) (slv_own hw 4 rfl (by omega)))) ?_
                        rintro _ _ ⟨u0, u1, u2, u3, rfl, rfl⟩
                        refine Flow.pur rfl rfl rfl (p_move rfl rfl) ?_
                        refine Flow.pur rfl rfl rfl (p_move rfl rfl) ?_
                        -- calls tangram/dfs.Above
                        refine Flow.rel0V (V := forL u0 u1 u2 u3 s.pa s.he s.od s.oi ++ (slc g 39 2 (prs es)) :: [blk g3 55 #[.slice A0 s.pa.length c0', .slice A1 s.he.length c1', .slice A2 s.od.length c2', .slice A3 s.oi.length c3'], slc (.slice A0 s.pa.length c0') 3 1 (ints s.pa), slc (.slice A1 s.he.length c1') 3 1 (ints s.he), slc (.slice A2 s.od.length c2') 3 1 (ints s.od), slc (.slice A3 s.oi.length c3') 3 1 (ints s.oi), blk g1 25 #[.int .i64 (Nn : Int), .slice (some ad) es.length cap]]) rfl rfl rfl rfl (by kernel_rfl) (r_call en45 rfl rfl rfl (fun w' hw => DAbove_calls (N := Nn) p.1 p.2 (prv_own hw 4 rfl fg) (slv_own hw 0 rfl (by omega)) (slv_own hw 1 rfl (by omega)) (slv_own hw 2 rfl (by omega)) (slv_own hw 3 rfl (by omega)))) ?_
                        rintro _ rfl
                        refine Flow.valS rfl rfl rfl rfl (v_loads (vs := [_, _]) rfl rfl ag25 sz25 rfl (hass_blk rfl)) ?_
                        -- calls tangram/tangramref04.Copy
                        refine Flow.relS rfl rfl rfl rfl (r_call en31 rfl rfl rfl (fun w' hw => GCopy_calls (hg.keep0 hw))) ?_
                        rintro _ _ ⟨g', rfl, rfl⟩
                        refine Flow.valS rfl rfl rfl rfl (v_loads (vs := [_, _, _, _]) rfl rfl ag55 sz55 rfl (hass_blk rfl)) ?_
                        -- calls tangram/tangramref07.Copy
                        refine Flow.relS rfl rfl rfl rfl (r_call en39 rfl rfl rfl (fun w' hw => FCopy_calls (slv_own hw 1 rfl (by omega)) (slv_own hw 2 rfl (by omega)) (slv_own hw 3 rfl (by omega)) (slv_own hw 4 rfl (by omega)))) ?_
                        rintro _ _ ⟨x0, x1, x2, x3, rfl, rfl⟩
                        refine Flow.pur rfl rfl rfl (p_move rfl rfl) ?_
                        refine Flow.pur rfl rfl rfl (p_move rfl rfl) ?_
                        -- calls tangram/dfs.Above
                        refine Flow.rel0V (V := forL x0 x1 x2 x3 s.pa s.he s.od s.oi ++ (slc g' 39 2 (prs es)) :: (forL u0 u1 u2 u3 s.pa s.he s.od s.oi ++ (slc g 39 2 (prs es)) :: [blk g3 55 #[.slice A0 s.pa.length c0', .slice A1 s.he.length c1', .slice A2 s.od.length c2', .slice A3 s.oi.length c3'], slc (.slice A0 s.pa.length c0') 3 1 (ints s.pa), slc (.slice A1 s.he.length c1') 3 1 (ints s.he), slc (.slice A2 s.od.length c2') 3 1 (ints s.od), slc (.slice A3 s.oi.length c3') 3 1 (ints s.oi), blk g1 25 #[.int .i64 (Nn : Int), .slice (some ad) es.length cap]])) rfl rfl rfl rfl (by kernel_rfl) (r_call en45 rfl rfl rfl (fun w' hw => DAbove_calls (N := Nn) p.2 p.1 (prv_own hw 4 rfl fg) (slv_own hw 0 rfl (by omega)) (slv_own hw 1 rfl (by omega)) (slv_own hw 2 rfl (by omega)) (slv_own hw 3 rfl (by omega)))) ?_
                        rintro _ rfl
                        refine Flow.pur rfl rfl rfl (p_assign rfl rfl) ?_
                        refine Flow.pur rfl rfl rfl (p_assign rfl rfl) ?_
                        refine Flow.end rfl ?_
                        simp only [List.map_cons, List.map_nil, List.nil_append, List.cons_append, List.append_nil]
                        refine Fin.then ?_
                        refine DC.seq ?_
                        refine DC.region ?_
                        refine Seq.pur rfl rfl (p_move rfl rfl) ?_
                        refine Seq.pur rfl rfl (p_move rfl rfl) ?_
                        refine Seq.pur rfl rfl (p_eql_b rfl rfl rfl Try.underlying4) ?_
                        refine Seq.nil ?_
                        refine Fin.then ?_
                        refine DC.cond rfl (fun c25 => ?_) (fun c25 => ?_)
                        · exact absurd (by simpa using c25) hone
                          --closed
                        · refine DC.skip ?_
                          refine Fin.inBlock ?_
                          refine Fin.then ?_
                          refine DC.region ?_
                          refine Seq.pur rfl rfl (p_move rfl rfl) ?_
                          refine Seq.pur rfl rfl (p_add rfl rfl rfl (by omega)) ?_
                          refine Seq.pur rfl rfl (p_assign rfl rfl) ?_
                          refine Seq.nil ?_
                          refine Fin.again (e + 1) (by omega) (by omega) ⟨rfl, rfl, rfl, rfl, rfl, trivial⟩ (.cons 10 rfl (.cons 10 rfl (.cons 10 rfl (.cons 10 rfl (.cons 10 rfl (.cons 10 rfl .nil))))))
                      · refine DC.skip ?_
                        refine Fin.inBlock ?_
                        refine Fin.then ?_
                        refine DC.region ?_
                        refine Seq.pur rfl rfl (p_move rfl rfl) ?_
                        refine Seq.pur rfl rfl (p_add rfl rfl rfl (by omega)) ?_
                        refine Seq.pur rfl rfl (p_assign rfl rfl) ?_
                        refine Seq.nil ?_
                        refine Fin.again (e + 1) (by omega) (by omega) ⟨rfl, rfl, rfl, rfl, rfl, trivial⟩ (Pick.all _)
                  · refine DC.exit ?_
                    refine Fin.exit_then <| Fin.exit_then <| Fin.exit_here <| ?_
                    refine Fin.then ?_
                    refine DC.seq ?_
                    refine DC.region ?_
                    refine Seq.pur rfl rfl (p_move rfl rfl) ?_
                    refine Seq.pur rfl rfl (p_field rfl rfl fi25_0 (by first | exact add_at0 _ _ | exact add_at _ _ _ | rfl)) ?_
                    refine Seq.val rfl rfl (v_load rfl rfl ag3 (by first | exact has_blk rfl | exact has_old' (by assumption))) ?_
                    refine Seq.pur rfl rfl (p_move rfl rfl) ?_
                    refine Seq.pur rfl rfl (p_sub rfl rfl rfl (by omega)) ?_
                    refine Seq.pur rfl rfl (p_eql rfl rfl rfl) ?_
                    refine Seq.pur rfl rfl (p_assign rfl rfl) ?_
                    refine Seq.nil ?_
                    refine Fin.then ?_
                    refine DC.ret ?_
                    refine Fin.end1 (.inl rfl) rfl rfl ?_
                    have hee : e = es.length := by simp at c17; omega
                    have hval' := hval
                    rw [valid_same] at hval'
                    unfold rvalidF at hval'
                    rw [if_pos ⟨hV, hLen⟩] at hval'
                    simp only [Bool.and_eq_true] at hval'
                    obtain ⟨_, _, _, hside, _⟩ := hval'
                    have h1 := tree_count (es := es) (n := Nn) (pa := s.pa) (he := s.he) (oi := s.oi) l0 l3 hH (fun j h hj => by have := sideF_iff.1 hside j h hj; simpa using this)
                    have h2 := roots_all s.pa Nn
                    have h3 : treeN s.pa s.oi es.length = (List.range Nn).countP (fun (v : Nat) => decide (0 ≤ getI s.pa v)) := h1
                    rw [hee, h3]
                    simp
                    omega
theorem DfsForest_calls {N : Int} {es : List Pr} {va : Value} {w : World} (hg : PrV w va es) :
    Calls Try.prog 12 #[.agg #[.int .i64 N, va]] w (Ret w [] fun v L => v = .bool true) := by
  by_cases hV : Vld N es
  · exact DfsForest_yes hg hV
  · exact DfsForest_no hg hV
end Go.Fl
