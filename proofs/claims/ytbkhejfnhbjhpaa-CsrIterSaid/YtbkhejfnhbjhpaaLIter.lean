/- The law CsrIter. -/
import Derived.Test.YtbkhejfnhbjhpaaCsr2
import Derived.Test.YtbkhejfnhbjhpaaRef1
set_option linter.unusedVariables false
set_option linter.unusedSimpArgs false
set_option maxRecDepth 100000
namespace Go.Fl
open Go Go.Proofs

theorem rValidV_no {N : Int} {es : List Pr} {va : Value} {w : World} (hg : PrV w va es) (hV : ¬ Vld N es) :
    Calls Try.prog 16 #[.agg #[.int .i64 N, va]] w (Ret w [] fun v L => L = [] ∧ v = .bool false) :=
  Calls.mono (rValid_calls (N := N) hg) fun e w' h => Retm h fun v L ⟨h1, b, h2, h3⟩ => ⟨h1, by cases b with | true => exact absurd (h3.1 rfl) hV | false => exact h2⟩

theorem CsrIter_no {N : Int} {es : List Pr} {va : Value} {w : World} (v n : Int) (hg : PrV w va es) (hV : ¬ Vld N es) :
    Calls Try.prog 4 #[.agg #[.int .i64 N, va], .int .i64 v, .int .i64 n] w (Ret w [] fun v L => v = .bool true) := by
  have fg := hg.few
  have qg := hg
  obtain ⟨A, cap, rfl, hr, hlc, hcm, hl⟩ := qg
  refine calls_ofM (args := [_, _, _]) (L := []) Try.func4 rfl Try.ntmps4 rfl (Own.start w []) ?_
  refine DC.seq ?_
  refine DC.region ?_
  refine Seq.new rfl rfl (n_box rfl rfl rfl) fun g3 => ?_
  refine Seq.new rfl rfl (n_box rfl rfl rfl) fun g4 => ?_
  refine Seq.new rfl rfl (n_box rfl rfl rfl) fun g5 => ?_
  refine Seq.new rfl rfl (n_alloc rfl ze4 rfl) fun g6 => ?_
  refine Seq.nil ?_
  refine Fin.then ?_
  refine DC.seq ?_
  refine DC.seq ?_
  refine DC.region ?_
  -- calls tangram/tangramlaw04.awake
  refine Seq.rel0 rfl rfl (r_call en14 rfl rfl rfl (fun w' hw => cawake_calls w')) ?_
  rintro _ rfl
  refine Seq.pur rfl rfl (p_not rfl rfl) ?_
  refine Seq.nil ?_
  refine Fin.then ?_
  refine DC.cond rfl (fun c1 => ?_) (fun c1 => ?_)
  · exact absurd c1 (by decide)
    --closed
  · refine DC.skip ?_
    refine Fin.then ?_
    refine DC.seq ?_
    refine DC.region ?_
    refine Seq.val rfl rfl (v_loads (vs := [_, _]) rfl rfl ag25 sz25 rfl (hass_blk rfl)) ?_
    -- calls tangram/tangramlaw04.adj
    refine Seq.rel0 rfl rfl (r_call en15 rfl rfl rfl (fun w' hw => adj_no (hg.keep0 hw) hV)) ?_
    rintro _ rfl
    refine Seq.pur rfl rfl (p_move rfl rfl) ?_
    refine Seq.pur rfl rfl (p_extract rfl rfl rfl) ?_
    refine Seq.pur rfl rfl (p_extract rfl rfl rfl) ?_
    refine Seq.new rfl rfl (n_alloc rfl ze26 rfl) fun g7 => ?_
    refine Seq.sto rfl rfl (s_store (cs' := #[_]) rfl rfl rfl sz26 rfl (Nat.le_of_ble_eq_true rfl) rfl) ?_
    refine Seq.pur rfl rfl (p_assign rfl rfl) ?_
    refine Seq.nil ?_
    refine Fin.then ?_
    refine DC.seq ?_
    refine DC.seq ?_
    refine DC.region ?_
    refine Seq.val rfl rfl (v_load rfl rfl ag26 (by first | exact has_blk rfl | exact has_old' (by assumption))) ?_
    refine Seq.pur rfl rfl (p_eql_nil rfl rfl rfl Try.underlying26) ?_
    refine Seq.nil ?_
    refine Fin.then ?_
    refine DC.cond rfl (fun c4 => ?_) (fun c4 => ?_)
    · refine DC.seq ?_
      refine DC.region ?_
      refine Seq.val rfl rfl (v_loads (vs := [_, _]) rfl rfl ag25 sz25 rfl (hass_blk rfl)) ?_
      -- calls tangram/tangramref04.Valid
      refine Seq.rel0 rfl rfl (r_call en16 rfl rfl rfl (fun w' hw => rValidV_no (hg.keep0 hw) hV)) ?_
      rintro _ rfl
      refine Seq.pur rfl rfl (p_not rfl rfl) ?_
      refine Seq.sto rfl rfl (s_store (cs' := #[_]) rfl rfl rfl sz4 rfl (Nat.le_of_ble_eq_true rfl) rfl) ?_
      refine Seq.nil ?_
      refine Fin.then ?_
      refine DC.ret ?_
      refine Fin.ret_then <| ?_
      refine Fin.leave (.inl rfl) ?_
      refine Fin.leave0 ?_
      refine Fin.resc (ty := 4) rfl rfl ag4 ?_
      rfl
    · exact absurd c4 (by decide)
      --closed

theorem iter_few {d m k i : Nat} (hd : d ≤ m) (hk : k < d) (hi : i < d) (h : 3 * m + 3 < k * d + i + 1) : 3 < m := by
  apply Classical.byContradiction
  intro hm
  have h1 : k * d ≤ (d - 1) * d := Nat.mul_le_mul_right _ (by omega)
  match d, hd, hk, hi, h1 with
  | 0, _, hk, _, _ => omega
  | 1, _, _, _, h1 => simp at h1; omega
  | 2, _, _, _, h1 => simp at h1; omega
  | 3, _, _, _, h1 => simp at h1; omega
  | d + 4, hd, _, _, _ => omega
def wantN (n d : Int) : Int := if 1 ≤ n ∧ n < d then n else d

set_option maxHeartbeats 1000000 in
theorem CsrIter_yes {N : Int} {es : List Pr} {va : Value} {w : World} (v n : Int) (hg : PrV w va es) (hV : Vld N es) :
    Calls Try.prog 4 #[.agg #[.int .i64 N, va], .int .i64 v, .int .i64 n] w (Ret w [] fun v L => v = .bool true) := by
  have fg := hg.few
  have qg := hg
  have hfew := hV.few
  have hdm : (outs es v).length ≤ es.length := outs_le es v
  obtain ⟨A, cap, rfl, hr, hlc, hcm, hl⟩ := qg
  refine calls_ofM (args := [_, _, _]) (L := []) Try.func4 rfl Try.ntmps4 rfl (Own.start w []) ?_
  refine DC.seq ?_
  refine DC.region ?_
  refine Seq.new rfl rfl (n_box rfl rfl rfl) fun g3 => ?_
  refine Seq.new rfl rfl (n_box rfl rfl rfl) fun g4 => ?_
  refine Seq.new rfl rfl (n_box rfl rfl rfl) fun g5 => ?_
  refine Seq.new rfl rfl (n_alloc rfl ze4 rfl) fun g6 => ?_
  refine Seq.nil ?_
  refine Fin.then ?_
  refine DC.seq ?_
  refine DC.seq ?_
  refine DC.region ?_
  -- calls tangram/tangramlaw04.awake
  refine Seq.rel0 rfl rfl (r_call en14 rfl rfl rfl (fun w' hw => cawake_calls w')) ?_
  rintro _ rfl
  refine Seq.pur rfl rfl (p_not rfl rfl) ?_
  refine Seq.nil ?_
  refine Fin.then ?_
  refine DC.cond rfl (fun c1 => ?_) (fun c1 => ?_)
  · exact absurd c1 (by decide)
    --closed
  · refine DC.skip ?_
    refine Fin.then ?_
    refine DC.seq ?_
    refine DC.region ?_
    refine Seq.val rfl rfl (v_loads (vs := [_, _]) rfl rfl ag25 sz25 rfl (hass_blk rfl)) ?_
    -- calls tangram/tangramlaw04.adj
    refine Seq.rel rfl rfl (r_call en15 rfl rfl rfl (fun w' hw => adj_yes (hg.keep0 hw) hV)) ?_
    rintro _ _ ⟨M, hM, rfl, rfl⟩
    simp only [adjL, List.cons_append, List.nil_append]
    refine Seq.pur rfl rfl (p_move rfl rfl) ?_
    refine Seq.pur rfl rfl (p_extract rfl rfl rfl) ?_
    refine Seq.pur rfl rfl (p_extract rfl rfl rfl) ?_
    refine Seq.new rfl rfl (n_alloc rfl ze26 rfl) fun g7 => ?_
    refine Seq.sto rfl rfl (s_store (cs' := #[_]) rfl rfl rfl sz26 rfl (Nat.le_of_ble_eq_true rfl) rfl) ?_
    refine Seq.pur rfl rfl (p_assign rfl rfl) ?_
    refine Seq.nil ?_
    refine Fin.then ?_
    refine DC.seq ?_
    refine DC.seq ?_
    refine DC.region ?_
    refine Seq.val rfl rfl (v_load rfl rfl ag26 (by first | exact has_blk rfl | exact has_old' (by assumption))) ?_
    refine Seq.pur rfl rfl (p_eql_nil rfl rfl rfl Try.underlying26) ?_
    refine Seq.nil ?_
    refine Fin.then ?_
    refine DC.cond rfl (fun c4 => ?_) (fun c4 => ?_)
    · exact absurd c4 (by simp)
      --closed
    · refine DC.skip ?_
      refine Fin.then ?_
      refine DC.seq ?_
      refine DC.region ?_
      refine Seq.val rfl rfl (v_load rfl rfl ag26 (by first | exact has_blk rfl | exact has_old' (by assumption))) ?_
      refine Seq.val rfl rfl (v_load rfl rfl ag3 (by first | exact has_blk rfl | exact has_old' (by assumption))) ?_
      -- calls (*tangram/csr.Adj).Out
      refine Seq.rel rfl rfl (r_call en17 rfl rfl rfl (fun w' hw => Out_calls _ v w')) ?_
      rintro _ _ ⟨gb, gv, rfl, rfl⟩
      simp only [List.cons_append, List.nil_append]
      refine Seq.new rfl rfl (n_alloc rfl ze31 rfl) fun g9 => ?_
      refine Seq.sto rfl rfl (s_store (cs' := #[_]) rfl rfl rfl sz31 rfl (Nat.le_of_ble_eq_true rfl) rfl) ?_
      refine Seq.nil ?_
      refine Fin.then ?_
      refine DC.seq ?_
      refine DC.seq ?_
      refine DC.region ?_
      refine Seq.val rfl rfl (v_load rfl rfl ag31 (by first | exact has_blk rfl | exact has_old' (by assumption))) ?_
      refine Seq.pur rfl rfl (p_eql_nilf (p := []) (q := []) rfl rfl rfl Try.underlying31) ?_
      refine Seq.nil ?_
      refine Fin.then ?_
      refine DC.cond rfl (fun c7 => ?_) (fun c7 => ?_)
      · exact absurd c7 (by decide)
        --closed
      · refine DC.skip ?_
        refine Fin.then ?_
        refine DC.seq ?_
        refine DC.region ?_
        refine Seq.new rfl rfl (n_alloc rfl ze3 rfl) fun g10 => ?_
        refine Seq.sto rfl rfl (s_store (cs' := #[_]) rfl rfl rfl sz3 rfl (Nat.le_of_ble_eq_true rfl) rfl) ?_
        refine Seq.nil ?_
        refine Fin.then ?_
        refine DC.cutD (ι := Nat) (fun _ => True) (fun D => [mark D]) (fun D => [(3, .pointer (some ⟨g3, 0, none⟩)), (4, .pointer (some ⟨g4, 0, none⟩)), (5, .pointer (some ⟨g5, 0, none⟩)), (6, .pointer (some ⟨g6, 0, none⟩)), (7, .pointer (some ⟨g7, 0, none⟩)), (9, .pointer (some ⟨g9, 0, none⟩)), (10, .pointer (some ⟨g10, 0, none⟩))]) (fun D => [dfr D, blk g10 3 #[.int .i64 (wantN n (outs es v).length)], blk g9 31 #[.func (.func 47) #[] #[.pointer (some ⟨gb, 0, none⟩), .pointer (some ⟨gv, 0, none⟩)]], blk gv 3 #[.int .i64 v], blk gb 26 #[.pointer (some ⟨M.gp, 0, none⟩)], blk g7 26 #[.pointer (some ⟨M.gp, 0, none⟩)], blk M.gp 73 #[sl M.g0 M.fr, sl M.g1 M.st, sl M.g2 M.ou, sl M.g3 M.pl], blk M.g0 3 (ints M.fr).toArray, blk M.g1 3 (ints M.st).toArray, blk M.g2 3 (ints M.ou).toArray, blk M.g3 3 (ints M.pl).toArray, blk g6 4 #[.bool false], blk g5 3 #[.int .i64 n], blk g4 3 #[.int .i64 v], blk g3 25 #[.int .i64 N, .slice A es.length cap]]) ?first ?rest
        case first =>
          refine DC.seq ?_
          refine DC.region ?_
          refine Seq.val rfl rfl (v_load rfl rfl ag31 (by first | exact has_blk rfl | exact has_old' (by assumption))) ?_
          refine Seq.nil ?_
          refine Fin.then ?_
          refine DC.block ?_
          refine DC.range (ι := Nat) (κ := Unit) (fun k j => j = k ∧ k ≤ (outs es v).length ∧ (n ≤ 0 ∨ k < n)) (fun j => [blk g10 3 #[.int .i64 j], blk g9 31 #[.func (.func 47) #[] #[.pointer (some ⟨gb, 0, none⟩), .pointer (some ⟨gv, 0, none⟩)]], blk gv 3 #[.int .i64 v], blk gb 26 #[.pointer (some ⟨M.gp, 0, none⟩)], blk g7 26 #[.pointer (some ⟨M.gp, 0, none⟩)], blk M.gp 73 #[sl M.g0 M.fr, sl M.g1 M.st, sl M.g2 M.ou, sl M.g3 M.pl], blk M.g0 3 (ints M.fr).toArray, blk M.g1 3 (ints M.st).toArray, blk M.g2 3 (ints M.ou).toArray, blk M.g3 3 (ints M.pl).toArray, blk g6 4 #[.bool false], blk g5 3 #[.int .i64 n], blk g4 3 #[.int .i64 v], blk g3 25 #[.int .i64 N, .slice A es.length cap]])
            (fun c j => c = some 0 ∧ 1 ≤ n ∧ n ≤ (outs es v).length) (fun j => [blk g10 3 #[.int .i64 n], blk g9 31 #[.func (.func 47) #[] #[.pointer (some ⟨gb, 0, none⟩), .pointer (some ⟨gv, 0, none⟩)]], blk gv 3 #[.int .i64 v], blk gb 26 #[.pointer (some ⟨M.gp, 0, none⟩)], blk g7 26 #[.pointer (some ⟨M.gp, 0, none⟩)], blk M.gp 73 #[sl M.g0 M.fr, sl M.g1 M.st, sl M.g2 M.ou, sl M.g3 M.pl], blk M.g0 3 (ints M.fr).toArray, blk M.g1 3 (ints M.st).toArray, blk M.g2 3 (ints M.ou).toArray, blk M.g3 3 (ints M.pl).toArray, blk g6 4 #[.bool false], blk g5 3 #[.int .i64 n], blk g4 3 #[.int .i64 v], blk g3 25 #[.int .i64 N, .slice A es.length cap]]) 0 rfl en47 (Out1_iter (N := N) (es := es) (M := M) (p := some ⟨M.gp, 0, none⟩) gb gv v) ?rdy1 ⟨rfl, Nat.zero_le _, by omega⟩ (Pick.all _) ?body1 ?done1 ?stop1
          case rdy1 =>
            exact fun k j w' hj hw => ⟨has_blk (K := []) rfl w' hw, has_blk (K := []) rfl w' hw, own_adjV hw (.cons 5 rfl (.cons 5 rfl (.cons 5 rfl (.cons 5 rfl (.cons 5 rfl .nil))))) hM⟩
          case body1 =>
            rintro l r q D k j x hx ⟨rfl, hk, hkn⟩
            have hlt : j < (outs es v).length := by
              have := (List.getElem?_eq_some_iff.1 hx).1
              simpa [ints] using this
            simp only [List.cons_append, List.nil_append]
            refine DR.skip ?_
            refine Fin.asg0 ?_
            refine DR.block ?_
            refine DR.seq ?_
            refine DR.region rfl (fun _ _ h => h) ?_
            refine Seq.val rfl rfl (v_load rfl rfl ag3 (by first | exact has_blk rfl | exact has_old' (by assumption))) ?_
            refine Seq.pur rfl rfl (p_add rfl rfl rfl (by omega)) ?_
            refine Seq.sto rfl rfl (s_store (cs' := #[_]) rfl rfl rfl sz3 rfl (Nat.le_of_ble_eq_true rfl) rfl) ?_
            refine Seq.nil ?_
            refine Fin.thenR ?_
            refine DR.seq ?_
            refine DR.flow (cl := [.v, .v, .q, .q, .v, .v, .v, .r, .q, .q]) (A := [0, 0, 3, 7, 15, 15, 15, 111, 255, 511]) (order := [0, 1, 2, 3, 4, 5, 6, 7, 8, 9]) [] mixed (by kernel_rfl) (by kernel_rfl) (fun _ _ h => h) (fun w hw => hw.pick .nil) ?_
            refine Flow.valS rfl rfl rfl rfl (v_load rfl rfl ag3 (by first | exact has_blk rfl | exact has_old' (by assumption))) ?_
            refine Flow.valS rfl rfl rfl rfl (v_load rfl rfl ag3 (by first | exact has_blk rfl | exact has_old' (by assumption))) ?_
            refine Flow.pur rfl rfl rfl (p_eql rfl rfl rfl) ?_
            refine Flow.pur rfl rfl rfl (p_move rfl rfl) ?_
            refine Flow.split 40 rfl (fun k12_3 => ?_) (fun k12_3 => ?_)
            · refine Flow.skip rfl rfl rfl ?_
              refine Flow.skip rfl rfl rfl ?_
              refine Flow.skip rfl rfl rfl ?_
              refine Flow.skip rfl rfl rfl ?_
              refine Flow.skip rfl rfl rfl ?_
              refine Flow.pur rfl rfl rfl (p_pick_t rfl rfl rfl) ?_
              refine Flow.end rfl ?_
              simp only [List.map_cons, List.map_nil, List.nil_append, List.cons_append, List.append_nil]
              refine Fin.thenR ?_
              refine DR.cond_t rfl ?_
              refine DR.exit ?_
              refine Fin.exit_past (by decide) <| ?_
              have e : (j : Int) + 1 = n := by simpa using k12_3
              rw [e]
              refine Fin.roundExit () ⟨rfl, by omega, by omega⟩ (Pick.all _)
            · refine Flow.valS rfl rfl rfl rfl (v_load rfl rfl ag3 (by first | exact has_blk rfl | exact has_old' (by assumption))) ?_
              refine Flow.valS rfl rfl rfl rfl (v_load rfl rfl ag26 (by first | exact has_blk rfl | exact has_old' (by assumption))) ?_
              refine Flow.valS rfl rfl rfl rfl (v_load rfl rfl ag3 (by first | exact has_blk rfl | exact has_old' (by assumption))) ?_
              -- calls (*tangram/csr.Adj).Degree
              refine Flow.rel0 rfl rfl rfl rfl (r_call en18 rfl rfl rfl (fun w' hw => Degree_calls (own_adjV hw (.cons 7 rfl (.cons 7 rfl (.cons 7 rfl (.cons 7 rfl (.cons 7 rfl .nil))))) hM) v)) ?_
              rintro _ rfl
              refine Flow.pur rfl rfl rfl (p_gtr rfl rfl rfl) ?_
              refine Flow.pur rfl rfl rfl (p_pick_f rfl rfl rfl) ?_
              refine Flow.end rfl ?_
              simp only [List.map_cons, List.map_nil, List.nil_append, List.cons_append, List.append_nil]
              refine Fin.thenR ?_
              refine DR.cond rfl (fun c12 => ?_) (fun c12 => ?_)
              · refine DR.exit ?_
                refine Fin.exit_past (by decide) <| ?_
                exfalso
                simp at c12
                omega
              · refine DR.skip ?_
                refine Fin.inBlock ?_
                refine Fin.round (j + 1) ⟨rfl, by omega, by simp at k12_3; omega⟩ (Pick.all _)
          case done1 =>
            rintro D j ⟨rfl, h1, h2⟩
            refine Fin.inBlock ?_
            refine Fin.meetD D trivial rfl ⟨rfl, rfl, rfl, rfl, rfl, rfl, rfl, trivial⟩ (Pick.cons' 0 rfl rfl (Pick.cons' 0 rfl ?_ (.cons 0 rfl (.cons 0 rfl (.cons 0 rfl (.cons 0 rfl (.cons 0 rfl (.cons 0 rfl (.cons 0 rfl (.cons 0 rfl (.cons 0 rfl (.cons 0 rfl (.cons 0 rfl (.cons 0 rfl (.cons 0 rfl .nil)))))))))))))))
            have e : (ints (outs es v)).length = (outs es v).length := by simp [ints]
            rw [e] at h1 h2 ⊢
            unfold wantN
            rw [if_neg (by omega)]
          case stop1 =>
            rintro D c _ ⟨rfl, h1, h2⟩
            refine Fin.exit_here <| ?_
            refine Fin.meetD D trivial rfl ⟨rfl, rfl, rfl, rfl, rfl, rfl, rfl, trivial⟩ (Pick.cons' 0 rfl rfl (Pick.cons' 0 rfl ?_ (.cons 0 rfl (.cons 0 rfl (.cons 0 rfl (.cons 0 rfl (.cons 0 rfl (.cons 0 rfl (.cons 0 rfl (.cons 0 rfl (.cons 0 rfl (.cons 0 rfl (.cons 0 rfl (.cons 0 rfl (.cons 0 rfl .nil)))))))))))))))
            unfold wantN
            by_cases h : n < (outs es v).length
            · rw [if_pos (by omega)]
            · rw [if_neg (by omega), show ((outs es v).length : Int) = n by omega]
        case rest =>
          intro D1 _
          refine DC.seq ?_
          refine DC.region ?_
          refine Seq.val rfl rfl (v_load rfl rfl ag26 (by first | exact has_blk rfl | exact has_old' (by assumption))) ?_
          refine Seq.val rfl rfl (v_load rfl rfl ag3 (by first | exact has_blk rfl | exact has_old' (by assumption))) ?_
          -- calls (*tangram/csr.Adj).Degree
          refine Seq.rel0 rfl rfl (r_call en18 rfl rfl rfl (fun w' hw => Degree_calls (own_adjV hw (.cons 6 rfl (.cons 6 rfl (.cons 6 rfl (.cons 6 rfl (.cons 6 rfl .nil))))) hM) v)) ?_
          rintro _ rfl
          refine Seq.pur rfl rfl (p_assign rfl rfl) ?_
          refine Seq.nil ?_
          refine Fin.then ?_
          refine DC.cut (ι := Unit) (fun _ => True) (fun _ => [(3, .pointer (some ⟨g3, 0, none⟩)), (4, .pointer (some ⟨g4, 0, none⟩)), (5, .pointer (some ⟨g5, 0, none⟩)), (6, .pointer (some ⟨g6, 0, none⟩)), (7, .pointer (some ⟨g7, 0, none⟩)), (9, .pointer (some ⟨g9, 0, none⟩)), (10, .pointer (some ⟨g10, 0, none⟩)), (11, .int .i64 (wantN n (outs es v).length))]) (fun _ => [dfr D1, blk g10 3 #[.int .i64 (wantN n (outs es v).length)], blk g9 31 #[.func (.func 47) #[] #[.pointer (some ⟨gb, 0, none⟩), .pointer (some ⟨gv, 0, none⟩)]], blk gv 3 #[.int .i64 v], blk gb 26 #[.pointer (some ⟨M.gp, 0, none⟩)], blk g7 26 #[.pointer (some ⟨M.gp, 0, none⟩)], blk M.gp 73 #[sl M.g0 M.fr, sl M.g1 M.st, sl M.g2 M.ou, sl M.g3 M.pl], blk M.g0 3 (ints M.fr).toArray, blk M.g1 3 (ints M.st).toArray, blk M.g2 3 (ints M.ou).toArray, blk M.g3 3 (ints M.pl).toArray, blk g6 4 #[.bool false], blk g5 3 #[.int .i64 n], blk g4 3 #[.int .i64 v], blk g3 25 #[.int .i64 N, .slice A es.length cap]]) ?first ?rest
          case first =>
            refine DC.seq ?_
            refine DC.region ?_
            refine Seq.val rfl rfl (v_load rfl rfl ag3 (by first | exact has_blk rfl | exact has_old' (by assumption))) ?_
            refine Seq.pur rfl rfl (p_geq rfl rfl rfl) ?_
            refine Seq.pur rfl rfl (p_move rfl rfl) ?_
            refine Seq.split 52 rfl (fun k14_2 => ?_) (fun k14_2 => ?_)
            · refine Seq.val rfl rfl (v_load rfl rfl ag3 (by first | exact has_blk rfl | exact has_old' (by assumption))) ?_
              refine Seq.pur rfl rfl (p_move rfl rfl) ?_
              refine Seq.pur rfl rfl (p_lss rfl rfl rfl) ?_
              refine Seq.pur rfl rfl (p_pick_t rfl rfl rfl) ?_
              refine Seq.nil ?_
              refine Fin.then ?_
              refine DC.cond rfl (fun c14 => ?_) (fun c14 => ?_)
              · refine DC.region ?_
                refine Seq.val rfl rfl (v_load rfl rfl ag3 (by first | exact has_blk rfl | exact has_old' (by assumption))) ?_
                refine Seq.pur rfl rfl (p_assign rfl rfl) ?_
                refine Seq.nil ?_
                refine Fin.meet () trivial ⟨rfl, rfl, rfl, rfl, rfl, rfl, rfl, ?_, trivial⟩ (Pick.all _)
                have h : wantN n (outs es v).length = n := by unfold wantN; rw [if_pos (by simp at k14_2 c14; omega)]
                rw [h]; rfl
              · refine DC.skip ?_
                refine Fin.meet () trivial ⟨rfl, rfl, rfl, rfl, rfl, rfl, rfl, ?_, trivial⟩ (Pick.all _)
                have h : wantN n (outs es v).length = (outs es v).length := by unfold wantN; rw [if_neg (by simp at k14_2 c14; omega)]
                rw [h]; rfl
            · refine Seq.skip rfl rfl ?_
              refine Seq.skip rfl rfl ?_
              refine Seq.skip rfl rfl ?_
              refine Seq.pur rfl rfl (p_pick_f rfl rfl rfl) ?_
              refine Seq.nil ?_
              refine Fin.then ?_
              refine DC.cond_f rfl ?_
              refine DC.skip ?_
              refine Fin.meet () trivial ⟨rfl, rfl, rfl, rfl, rfl, rfl, rfl, ?_, trivial⟩ (Pick.all _)
              have h : wantN n (outs es v).length = (outs es v).length := by unfold wantN; rw [if_neg (by simp at k14_2; omega)]
              rw [h]; rfl
          case rest =>
            intro _ _
            refine DC.seq ?_
            refine DC.region ?_
            refine Seq.new rfl rfl (n_alloc rfl ze34 rfl) fun g12 => ?_
            refine Seq.new rfl rfl (n_alloc rfl ze34 rfl) fun g13 => ?_
            refine Seq.nil ?_
            refine Fin.then ?_
            refine DC.seq ?_
            refine DC.seq ?_
            refine DC.region ?_
            refine Seq.val rfl rfl (v_load rfl rfl ag31 (by first | exact has_blk rfl | exact has_old' (by assumption))) ?_
            refine Seq.nil ?_
            refine Fin.then ?_
            refine DC.block ?_
            refine DC.own (fun w hw => own_nil (t := 3) (m := 1) (own_nil (t := 3) (m := 1) hw)) ?_
            refine DC.range (ι := Nat × List Int × Value × List Int × Value) (κ := Unit) (fun k j => j.1 = k ∧ k ≤ (outs es v).length ∧ j.2.1.length = k ∧ j.2.2.2.1.length = k * (outs es v).length ∧ j.2.2.2.1.length ≤ 3 * es.length + 3)
              (fun j => [slc j.2.2.1 3 1 (ints j.2.1), slc j.2.2.2.2 3 1 (ints j.2.2.2.1), blk g13 34 #[j.2.2.2.2], blk g12 34 #[j.2.2.1], dfr D1, blk g10 3 #[.int .i64 (wantN n (outs es v).length)], blk g9 31 #[.func (.func 47) #[] #[.pointer (some ⟨gb, 0, none⟩), .pointer (some ⟨gv, 0, none⟩)]], blk gv 3 #[.int .i64 v], blk gb 26 #[.pointer (some ⟨M.gp, 0, none⟩)], blk g7 26 #[.pointer (some ⟨M.gp, 0, none⟩)], blk M.gp 73 #[sl M.g0 M.fr, sl M.g1 M.st, sl M.g2 M.ou, sl M.g3 M.pl], blk M.g0 3 (ints M.fr).toArray, blk M.g1 3 (ints M.st).toArray, blk M.g2 3 (ints M.ou).toArray, blk M.g3 3 (ints M.pl).toArray, blk g6 4 #[.bool false], blk g5 3 #[.int .i64 n], blk g4 3 #[.int .i64 v], blk g3 25 #[.int .i64 N, .slice A es.length cap]])
              (fun c _ => c = none) (fun _ => [dfr D1, blk g6 4 #[.bool true]]) (0, [], .slice none 0 0, [], .slice none 0 0) rfl en47 (Out1_iter (N := N) (es := es) (M := M) (p := some ⟨M.gp, 0, none⟩) gb gv v) ?rdy2 ⟨rfl, Nat.zero_le _, rfl, by simp, by simp⟩ (Pick.all _) ?body2 ?done2 ?stop2
            case rdy2 =>
              exact fun k j w' hj hw => ⟨has_blk (K := []) rfl w' hw, has_blk (K := []) rfl w' hw, own_adjV hw (.cons 10 rfl (.cons 10 rfl (.cons 10 rfl (.cons 10 rfl (.cons 10 rfl .nil))))) hM⟩
            case body2 =>
              rintro l r q D k ⟨k', xs, xv, ys, yv⟩ x hx ⟨hk', hk, hxl, hyl, hy3⟩
              obtain rfl : k = k' := hk'.symm
              dsimp only at hk hxl hyl hy3 ⊢
              obtain ⟨h, hh, rfl⟩ : ∃ h, (outs es v)[k]? = some h ∧ x = .int .i64 h := by
                simp [ints] at hx; obtain ⟨h, h1, h2⟩ := hx; exact ⟨h, h1, h2.symm⟩
              have hkl : k < (outs es v).length := (List.getElem?_eq_some_iff.1 hh).1
              simp only [List.cons_append, List.nil_append]
              refine DR.region rfl (fun _ _ h => h) ?_
              refine Seq.pur rfl rfl (p_assign rfl rfl) ?_
              refine Seq.nil ?_
              refine Fin.asg0 ?_
              refine DR.block ?_
              refine DR.seq ?_
              refine DR.region rfl (fun _ _ h => h) ?_
              refine Seq.val rfl rfl (v_load rfl rfl ag34 (by first | exact has_blk rfl | exact has_old' (by assumption))) ?_
              refine Seq.pur rfl rfl (p_move rfl rfl) ?_
              refine Seq.new rfl rfl (n_slit (cs := #[_]) rfl rfl Try.underlying34 sz3 ze3 rfl (by decide) (by decide) rfl rfl) fun g62 => ?_
              refine Seq.gen rfl rfl (Gen.shapeL (g_append (F := [blk g62 3 #[.int .i64 h], lop l q, dfr D, slc yv 3 1 (ints ys), blk g13 34 #[yv], blk g12 34 #[xv], dfr D1, blk g10 3 #[.int .i64 (wantN n (outs es v).length)], blk g9 31 #[.func (.func 47) #[] #[.pointer (some ⟨gb, 0, none⟩), .pointer (some ⟨gv, 0, none⟩)]], blk gv 3 #[.int .i64 v], blk gb 26 #[.pointer (some ⟨M.gp, 0, none⟩)], blk g7 26 #[.pointer (some ⟨M.gp, 0, none⟩)], blk M.gp 73 #[sl M.g0 M.fr, sl M.g1 M.st, sl M.g2 M.ou, sl M.g3 M.pl], blk M.g0 3 (ints M.fr).toArray, blk M.g1 3 (ints M.st).toArray, blk M.g2 3 (ints M.ou).toArray, blk M.g3 3 (ints M.pl).toArray, blk g6 4 #[.bool false], blk g5 3 #[.int .i64 n], blk g4 3 #[.int .i64 v], blk g3 25 #[.int .i64 N, .slice A es.length cap]]) (vs := ints xs) (k := 1) (news := [.int .i64 h]) rfl rfl rfl Try.underlying34 sz3 by3 ze3 rfl (by decide) (by decide)
                (fun w hw => hw.pick (.cons 3 rfl (Pick.all _))) (.inl ⟨_, _, rfl, hass_blk rfl⟩) rfl (by intro u hu; simp at hu; subst hu; rfl) (by rw [ints_length]; simp; omega))) ?_
              rintro _ _ ⟨⟨A63, l63, c63, rfl, hl63⟩, rfl⟩
              have e63 : ints xs ++ [Value.int .i64 h] = ints (xs ++ [h]) := by simp [ints]
              rw [e63] at hl63 ⊢
              have hl : l63 = k + 1 := by simp [ints] at hl63; omega
              subst hl
              refine Seq.sto rfl rfl (s_store (cs' := #[_]) rfl rfl rfl sz34 rfl (Nat.le_of_ble_eq_true rfl) rfl) ?_
              refine Seq.nil ?_
              refine Fin.thenR ?_
              refine DR.seq ?_
              refine DR.seq ?_
              refine DR.flow (cl := [.v, .q, .v, .v, .r, .q]) (A := [0, 1, 0, 0, 12, 31]) (order := [0, 1, 2, 3, 4, 5]) [] mixed (by kernel_rfl) (by kernel_rfl) (fun _ _ h => h) (fun w hw => hw.pick .nil) ?_
              refine Flow.valS rfl rfl rfl rfl (v_load rfl rfl ag34 (by first | exact has_blk rfl | exact has_old' (by assumption))) ?_
              refine Flow.pur rfl rfl rfl (p_len rfl rfl Try.underlying34) ?_
              refine Flow.valS rfl rfl rfl rfl (v_load rfl rfl ag26 (by first | exact has_blk rfl | exact has_old' (by assumption))) ?_
              refine Flow.valS rfl rfl rfl rfl (v_load rfl rfl ag3 (by first | exact has_blk rfl | exact has_old' (by assumption))) ?_
              -- calls (*tangram/csr.Adj).Degree
              refine Flow.rel0 rfl rfl rfl rfl (r_call en18 rfl rfl rfl (fun w' hw => Degree_calls (own_adjV hw (.cons 13 rfl (.cons 13 rfl (.cons 13 rfl (.cons 13 rfl (.cons 13 rfl .nil))))) hM) v)) ?_
              rintro _ rfl
              refine Flow.pur rfl rfl rfl (p_gtr rfl rfl rfl) ?_
              refine Flow.end rfl ?_
              simp only [List.map_cons, List.map_nil, List.nil_append, List.cons_append, List.append_nil]
              refine Fin.thenR ?_
              refine DR.cond rfl (fun c20 => ?_) (fun c20 => ?_)
              · exact absurd c20 (by simp; omega)
                --closed
              · refine DR.skip ?_
                refine Fin.thenR ?_
                refine DR.seq ?_
                refine DR.region rfl (fun _ _ h => h) ?_
                refine Seq.val rfl rfl (v_load rfl rfl ag31 (by first | exact has_blk rfl | exact has_old' (by assumption))) ?_
                refine Seq.nil ?_
                refine Fin.thenR ?_
                refine DR.block ?_
                refine DR.range (ι := Nat × List Int × Value) (κ := Unit) (fun i j => j.1 = i ∧ i ≤ (outs es v).length ∧ j.2.1.length = k * (outs es v).length + i ∧ j.2.1.length ≤ 3 * es.length + 3)
                  (fun j => [slc j.2.2 3 1 (ints j.2.1), blk g13 34 #[j.2.2], slc (.slice A63 (k + 1) c63) 3 1 (ints (xs ++ [h])), lop l q, dfr D, blk g12 34 #[.slice A63 (k + 1) c63], dfr D1, blk g10 3 #[.int .i64 (wantN n (outs es v).length)], blk g9 31 #[.func (.func 47) #[] #[.pointer (some ⟨gb, 0, none⟩), .pointer (some ⟨gv, 0, none⟩)]], blk gv 3 #[.int .i64 v], blk gb 26 #[.pointer (some ⟨M.gp, 0, none⟩)], blk g7 26 #[.pointer (some ⟨M.gp, 0, none⟩)], blk M.gp 73 #[sl M.g0 M.fr, sl M.g1 M.st, sl M.g2 M.ou, sl M.g3 M.pl], blk M.g0 3 (ints M.fr).toArray, blk M.g1 3 (ints M.st).toArray, blk M.g2 3 (ints M.ou).toArray, blk M.g3 3 (ints M.pl).toArray, blk g6 4 #[.bool false], blk g5 3 #[.int .i64 n], blk g4 3 #[.int .i64 v], blk g3 25 #[.int .i64 N, .slice A es.length cap]])
                  (fun c _ => c = none) (fun _ => [lop l q, dfr D, dfr D1, blk g6 4 #[.bool true]]) (0, ys, yv) rfl en47 (Out1_iter (N := N) (es := es) (M := M) (p := some ⟨M.gp, 0, none⟩) gb gv v) ?rdy3 ⟨rfl, Nat.zero_le _, by simpa using hyl, hy3⟩ (Pick.idx [4, 5, 0, 2, 3, 6, 7, 8, 9, 10, 11, 12, 13, 14, 15, 16, 17, 18, 19, 20, 21] rfl (.cons rfl (.cons rfl (.cons rfl (.cons rfl (.cons rfl (.cons rfl (.cons rfl (.cons rfl (.cons rfl (.cons rfl (.cons rfl (.cons rfl (.cons rfl (.cons rfl (.cons rfl (.cons rfl (.cons rfl (.cons rfl (.cons rfl (.cons rfl (.cons rfl .nil)))))))))))))))))))))) ⟨q, by simp⟩ ?body3 ?done3 ?stop3
                case rdy3 =>
                  exact fun k j w' hj hw => ⟨has_blk (K := []) rfl w' hw, has_blk (K := []) rfl w' hw, own_adjV hw (.cons 12 rfl (.cons 12 rfl (.cons 12 rfl (.cons 12 rfl (.cons 12 rfl .nil))))) hM⟩
                case body3 =>
                  rintro l' r' q' i ⟨i', zs, zv⟩ x hx ⟨hi', hi, hzl, hz3⟩
                  obtain rfl : i = i' := hi'.symm
                  dsimp only at hi hzl hz3 ⊢
                  obtain ⟨h', hh', rfl⟩ : ∃ h', (outs es v)[i]? = some h' ∧ x = .int .i64 h' := by
                    simp [ints] at hx; obtain ⟨h, h1, h2⟩ := hx; exact ⟨h, h1, h2.symm⟩
                  have hil : i < (outs es v).length := (List.getElem?_eq_some_iff.1 hh').1
                  simp only [List.cons_append, List.nil_append]
                  refine DR.region rfl (fun _ _ h => h) ?_
                  refine Seq.pur rfl rfl (p_assign rfl rfl) ?_
                  refine Seq.nil ?_
                  refine Fin.asg0 ?_
                  refine DR.block ?_
                  refine DR.seq ?_
                  refine DR.region rfl (fun _ _ h => h) ?_
                  refine Seq.val rfl rfl (v_load rfl rfl ag34 (by first | exact has_blk rfl | exact has_old' (by assumption))) ?_
                  refine Seq.pur rfl rfl (p_move rfl rfl) ?_
                  refine Seq.new rfl rfl (n_slit (cs := #[_]) rfl rfl Try.underlying34 sz3 ze3 rfl (by decide) (by decide) rfl rfl) fun g74 => ?_
                  refine Seq.gen rfl rfl (Gen.shapeL (g_append (F := [blk g74 3 #[.int .i64 h'], lop l' q', blk g13 34 #[zv], slc (.slice A63 (k + 1) c63) 3 1 (ints (xs ++ [h])), lop l q, dfr D, blk g12 34 #[.slice A63 (k + 1) c63], dfr D1, blk g10 3 #[.int .i64 (wantN n (outs es v).length)], blk g9 31 #[.func (.func 47) #[] #[.pointer (some ⟨gb, 0, none⟩), .pointer (some ⟨gv, 0, none⟩)]], blk gv 3 #[.int .i64 v], blk gb 26 #[.pointer (some ⟨M.gp, 0, none⟩)], blk g7 26 #[.pointer (some ⟨M.gp, 0, none⟩)], blk M.gp 73 #[sl M.g0 M.fr, sl M.g1 M.st, sl M.g2 M.ou, sl M.g3 M.pl], blk M.g0 3 (ints M.fr).toArray, blk M.g1 3 (ints M.st).toArray, blk M.g2 3 (ints M.ou).toArray, blk M.g3 3 (ints M.pl).toArray, blk g6 4 #[.bool false], blk g5 3 #[.int .i64 n], blk g4 3 #[.int .i64 v], blk g3 25 #[.int .i64 N, .slice A es.length cap]]) (vs := ints zs) (k := 1) (news := [.int .i64 h']) rfl rfl rfl Try.underlying34 sz3 by3 ze3 rfl (by decide) (by decide)
                    (fun w hw => hw.pick (.cons 2 rfl (Pick.all _))) (.inl ⟨_, _, rfl, hass_blk rfl⟩) rfl (by intro u hu; simp at hu; subst hu; rfl) (by rw [ints_length]; simp; omega))) ?_
                  rintro _ _ ⟨⟨A75, l75, c75, rfl, hl75⟩, rfl⟩
                  have e75 : ints zs ++ [Value.int .i64 h'] = ints (zs ++ [h']) := by simp [ints]
                  rw [e75] at hl75 ⊢
                  have hl : l75 = zs.length + 1 := by simp [ints] at hl75; omega
                  subst hl
                  refine Seq.sto rfl rfl (s_store (cs' := #[_]) rfl rfl rfl sz34 rfl (Nat.le_of_ble_eq_true rfl) rfl) ?_
                  refine Seq.nil ?_
                  refine Fin.thenR ?_
                  refine DR.seq ?_
                  refine DR.region rfl (fun _ _ h => h) ?_
                  refine Seq.val rfl rfl (v_load rfl rfl ag34 (by first | exact has_blk rfl | exact has_old' (by assumption))) ?_
                  refine Seq.pur rfl rfl (p_len rfl rfl Try.underlying34) ?_
                  refine Seq.pur rfl rfl (p_field rfl rfl fi25_1 (by first | exact add_at0 _ _ | exact add_at _ _ _ | rfl)) ?_
                  refine Seq.val rfl rfl (v_load rfl rfl ag23 (by first | exact has_blk rfl | exact has_old' (by assumption))) ?_
                  refine Seq.pur rfl rfl (p_len rfl rfl Try.underlying23) ?_
                  refine Seq.pur rfl rfl (p_mul rfl rfl rfl (by omega)) ?_
                  refine Seq.pur rfl rfl (p_add rfl rfl rfl (by omega)) ?_
                  refine Seq.pur rfl rfl (p_gtr rfl rfl rfl) ?_
                  refine Seq.nil ?_
                  refine Fin.thenR ?_
                  refine DR.cond rfl (fun c25 => ?_) (fun c25 => ?_)
                  · refine DR.seq ?_
                    refine DR.region rfl (fun _ _ h => h) ?_
                    refine Seq.pur rfl rfl (p_field rfl rfl fi25_1 (by first | exact add_at0 _ _ | exact add_at _ _ _ | rfl)) ?_
                    refine Seq.val rfl rfl (v_load rfl rfl ag23 (by first | exact has_blk rfl | exact has_old' (by assumption))) ?_
                    refine Seq.pur rfl rfl (p_len rfl rfl Try.underlying23) ?_
                    refine Seq.pur rfl rfl (p_gtr rfl rfl rfl) ?_
                    refine Seq.sto rfl rfl (s_store (cs' := #[_]) rfl rfl rfl sz4 rfl (Nat.le_of_ble_eq_true rfl) rfl) ?_
                    refine Seq.nil ?_
                    refine Fin.thenR ?_
                    refine DR.ret ?_
                    refine Fin.ret_block <| ?_
                    have h3 : 3 < es.length := iter_few hdm hkl hil (by simp at c25; omega)
                    refine Fin.roundRet () rfl (.cons 2 rfl (.cons 4 rfl (.cons 4 rfl (.cons 5 rfl (Pick.cons' 15 rfl ?_ .nil)))))
                    rw [decide_eq_true (show (3 : Int) < es.length by omega)]
                  · refine DR.skip ?_
                    refine Fin.inBlock ?_
                    refine Fin.round (i + 1, zs ++ [h'], .slice A75 (zs.length + 1) c75) ⟨rfl, by omega, by simp; omega, by simp at c25; simp; omega⟩ (Pick.idx [2, 0, 3, 4, 5, 6, 7, 8, 9, 10, 11, 12, 13, 14, 15, 16, 17, 18, 19, 20, 21, 22] rfl (.cons rfl (.cons rfl (.cons rfl (.cons rfl (.cons rfl (.cons rfl (.cons rfl (.cons rfl (.cons rfl (.cons rfl (.cons rfl (.cons rfl (.cons rfl (.cons rfl (.cons rfl (.cons rfl (.cons rfl (.cons rfl (.cons rfl (.cons rfl (.cons rfl (.cons rfl .nil)))))))))))))))))))))))
                case done3 =>
                  rintro ⟨_, zs, zv⟩ ⟨rfl, h1, h2, h3⟩
                  dsimp only at h1 h2 h3 ⊢
                  refine Fin.inBlock ?_
                  refine Fin.inBlock ?_
                  refine Fin.round (k + 1, xs ++ [h], .slice A63 (k + 1) c63, zs, zv) ⟨rfl, by omega, by simp; omega, by rw [Nat.succ_mul]; simp only [ints, List.length_map] at h2; omega, h3⟩ (Pick.idx [3, 4, 2, 0, 1, 5, 6, 7, 8, 9, 10, 11, 12, 13, 14, 15, 16, 17, 18, 19, 20] rfl (.cons rfl (.cons rfl (.cons rfl (.cons rfl (.cons rfl (.cons rfl (.cons rfl (.cons rfl (.cons rfl (.cons rfl (.cons rfl (.cons rfl (.cons rfl (.cons rfl (.cons rfl (.cons rfl (.cons rfl (.cons rfl (.cons rfl (.cons rfl (.cons rfl .nil))))))))))))))))))))))
                case stop3 =>
                  intro c _ hc
                  subst hc
                  refine Fin.ret_block <| Fin.ret_block <| ?_
                  refine Fin.roundRet () rfl (Pick.all _)
            case done2 =>
              rintro D ⟨_, xs, xv, ys, yv⟩ ⟨_, h2, h3, h4, h5⟩
              dsimp only at h2 h3 h4 h5 ⊢
              refine Fin.shapeL 1 rfl ?_
              rintro ⟨Ax, cx, rfl⟩
              refine Fin.shapeL 2 rfl ?_
              rintro ⟨Ay, cy, rfl⟩
              have hx : xs.length = (outs es v).length := by rw [h3]; simp [ints]
              have hy : ys.length = (outs es v).length * (outs es v).length := by rw [h4]; simp [ints]
              have hyi : (ys.length : Int) = ((outs es v).length : Int) * (outs es v).length := by rw [hy]; simp
              rw [hx]
              refine Fin.inBlock ?_
              refine Fin.then ?_
              refine DC.seq ?_
              refine DC.flow (cl := [.v, .q, .q, .q, .v, .q, .v, .v, .r, .q, .q, .q, .v, .q, .v, .q, .v, .q, .q, .q, .q, .g]) (A := [0, 0, 3, 7, 15, 31, 15, 15, 207, 511, 1023, 2047, 4095, 8191, 4095, 20479, 4095, 69631, 249855, 524287, 1048575, 2097151]) (order := [0, 1, 2, 3, 4, 5, 6, 7, 8, 9, 10, 11, 12, 13, 14, 15, 16, 17, 18, 19, 20, 21]) [] mixed (by kernel_rfl) (fun w hw => hw.pick .nil) ?_
              refine Flow.valS rfl rfl rfl rfl (v_load rfl rfl ag3 (by first | exact has_blk rfl | exact has_old' (by assumption))) ?_
              refine Flow.pur rfl rfl rfl (p_move rfl rfl) ?_
              refine Flow.pur rfl rfl rfl (p_eql rfl rfl rfl) ?_
              refine Flow.pur rfl rfl rfl (p_move rfl rfl) ?_
              refine Flow.split 91 rfl (fun k27_3 => ?_) (fun k27_3 => ?_)
              · refine Flow.valS rfl rfl rfl rfl (v_load rfl rfl ag34 (by first | exact has_blk rfl | exact has_old' (by assumption))) ?_
                refine Flow.pur rfl rfl rfl (p_len rfl rfl Try.underlying34) ?_
                refine Flow.valS rfl rfl rfl rfl (v_load rfl rfl ag26 (by first | exact has_blk rfl | exact has_old' (by assumption))) ?_
                refine Flow.valS rfl rfl rfl rfl (v_load rfl rfl ag3 (by first | exact has_blk rfl | exact has_old' (by assumption))) ?_
                -- calls (*tangram/csr.Adj).Degree
                refine Flow.rel0 rfl rfl rfl rfl (r_call en18 rfl rfl rfl (fun w' hw => Degree_calls (own_adjV hw (.cons 11 rfl (.cons 11 rfl (.cons 11 rfl (.cons 11 rfl (.cons 11 rfl .nil))))) hM) v)) ?_
                rintro _ rfl
                refine Flow.pur rfl rfl rfl (p_eql rfl rfl rfl) ?_
                refine Flow.pur rfl rfl rfl (p_pick_t rfl rfl rfl) ?_
                refine Flow.pur rfl rfl rfl (p_move rfl rfl) ?_
                refine Flow.split 99 rfl (fun k27_11 => ?_) (fun k27_11 => ?_)
                · refine Flow.valS rfl rfl rfl rfl (v_load rfl rfl ag34 (by first | exact has_blk rfl | exact has_old' (by assumption))) ?_
                  refine Flow.pur rfl rfl rfl (p_len rfl rfl Try.underlying34) ?_
                  refine Flow.valS rfl rfl rfl rfl (v_load rfl rfl ag34 (by first | exact has_blk rfl | exact has_old' (by assumption))) ?_
                  refine Flow.pur rfl rfl rfl (p_len rfl rfl Try.underlying34) ?_
                  refine Flow.valS rfl rfl rfl rfl (v_load rfl rfl ag34 (by first | exact has_blk rfl | exact has_old' (by assumption))) ?_
                  refine Flow.pur rfl rfl rfl (p_len rfl rfl Try.underlying34) ?_
                  refine Flow.pur rfl rfl rfl (p_mul rfl rfl rfl (by omega)) ?_
                  refine Flow.pur rfl rfl rfl (p_eql rfl rfl rfl) ?_
                  refine Flow.pur rfl rfl rfl (p_pick_t rfl rfl rfl) ?_
                  refine Flow.sto0 rfl rfl rfl rfl (s_store (cs' := #[_]) rfl rfl rfl sz4 rfl (Nat.le_of_ble_eq_true rfl) rfl) (fun w hw => hw.pick (.nil)) ?_
                  refine Flow.end rfl ?_
                  simp only [List.map_cons, List.map_nil, List.nil_append, List.cons_append, List.append_nil]
                  refine Fin.then ?_
                  refine DC.ret ?_
                  refine Fin.leave (.inl rfl) ?_
                  refine Fin.weak (E' := [(6, _)]) (L' := [dfr D, dfr D1, blk g6 4 #[.bool true]]) ⟨rfl, trivial⟩ (.cons 0 rfl (.cons 4 rfl (Pick.cons' 14 rfl ?_ .nil))) ?_
                  · rw [hyi]; simp
                  refine Fin.leave1 (Fin.leave1 (Fin.leave0 (Fin.resc (ty := 4) rfl rfl ag4 rfl)))
                · exact absurd k27_11 (by simp)
                  --closed
              · exact absurd k27_3 (by simp)
                --closed
            case stop2 =>
              intro D c _ hc
              subst hc
              refine Fin.ret_block <| Fin.ret_then <| ?_
              refine Fin.leave (.inl rfl) ?_
              refine Fin.weak (E' := [(6, _)]) (L' := [dfr D, dfr D1, blk g6 4 #[.bool true]]) ⟨rfl, trivial⟩ (.cons 0 rfl (.cons 0 rfl (.cons 0 rfl .nil))) ?_
              refine Fin.leave1 (Fin.leave1 (Fin.leave0 (Fin.resc (ty := 4) rfl rfl ag4 rfl)))
theorem CsrIter_calls {N : Int} {es : List Pr} {va : Value} {w : World} (v n : Int) (hg : PrV w va es) :
    Calls Try.prog 4 #[.agg #[.int .i64 N, va], .int .i64 v, .int .i64 n] w (Ret w [] fun v L => v = .bool true) := by
  by_cases hV : Vld N es
  · exact CsrIter_yes v n hg hV
  · exact CsrIter_no v n hg hV
end Go.Fl
