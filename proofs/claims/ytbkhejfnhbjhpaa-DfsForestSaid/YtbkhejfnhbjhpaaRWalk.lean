/- tangramref07.Walk. -/
import Derived.Test.YtbkhejfnhbjhpaaReach
import Derived.Test.YtbkhejfnhbjhpaaWalk2
set_option linter.unusedVariables false
set_option linter.unusedSimpArgs false
set_option maxRecDepth 100000
namespace Go.Fl
open Go Go.Proofs

theorem tab_filled (n : Nat) (x y : Int) : (tab n fun j => if j < n then x else y) = List.replicate n x := by
  apply List.ext_getElem?
  intro j
  by_cases hj : j < n
  · rw [tab_get _ hj]; simp [hj]
  · rw [List.getElem?_eq_none (by simp; omega), List.getElem?_eq_none (by simp; omega)]
theorem tab_fill_step (n i : Nat) (x y : Int) : tab n (upd (fun j => if j < i then x else y) i x) = tab n (fun j => if j < i + 1 then x else y) := by
  apply tab_congr
  intro j _
  unfold upd
  by_cases h1 : j = i
  · subst h1; simp
  · by_cases h2 : j < i
    · simp [h1, h2, Nat.lt_succ_of_lt h2]
    · have h3 : ¬ j < i + 1 := by omega
      simp [h1, h2, h3]
theorem refH_get0 {he : List Int} {i : Nat} {x : Int} (h : he[i]? = some x) (hx : x < 0) : (refH he)[i]? = some 0 := by simp [refH, h, hx]
theorem refH_start (n : Nat) : refH (List.replicate n (-1)) = List.replicate n 0 := by simp [refH]
theorem seenB_start (n : Nat) : seenB (List.replicate n (-1)) = List.replicate n (.bool false) := by simp [seenB]

theorem rWalk_calls {N : Nat} {es : List Pr} {va : Value} {w : World} (hg : PrV w va es) (hV : Vld N es) :
    Calls Try.prog 37 #[.agg #[.int .i64 N, va]] w (Ret w [] fun v L => ∃ s v0 v1 v2 v3, Rts es N 0 (start N es.length) s ∧ Inv N es.length (es.length + N) s ∧ v = .agg #[v0, v1, v2, v3] ∧ L = forL v0 v1 v2 v3 s.pa s.he s.od s.oi) := by
  have hN1 := hV.hi
  have hfew := hV.few
  obtain ⟨sf, hR0, hIf⟩ := walk_total hV
  obtain ⟨A, cap, hva, hr, hlc, hcm, hl⟩ := hg
  refine calls_of (args := [_]) (L := []) Try.func37 rfl Try.ntmps37 rfl (Own.start _ _) ?_
  refine DC.seq ?_
  refine DC.region ?_
  refine Seq.new rfl rfl (n_box rfl rfl rfl) fun g1 => ?_
  refine Seq.new rfl rfl (n_alloc rfl ze55 rfl) fun g2 => ?_
  refine Seq.nil ?_
  refine Fin.then ?_
  refine DC.seq ?_
  refine DC.region ?_
  refine Seq.val rfl rfl (v_loads (vs := [_, _]) rfl rfl ag25 sz25 rfl (hass_blk rfl)) ?_
  -- calls tangram/tangramref04.Out
  refine Seq.rel rfl rfl (r_call en26 rfl rfl rfl (fun w' hw => Out_calls (PrV.keep0 ⟨A, cap, hva, hr, hlc, hcm, hl⟩ hw) hV)) ?_
  rintro _ _ ⟨gO, rs, rfl, hrl, hrs, rfl⟩
  simp only [List.cons_append, List.nil_append]
  refine Seq.own (M := blk gO 34 (rowsV rs).toArray :: blk g2 55 #[.slice none 0 0, .slice none 0 0, .slice none 0 0, .slice none 0 0] :: blk g1 25 #[.int .i64 (N : Int), va] :: rowsC 3 rs) (fun w hw => hw.perm ((List.perm_append_comm (l₁ := [_, _])).cons _)) ?_
  subst hva
  refine Seq.pur rfl rfl (p_assign rfl rfl) ?_
  refine Seq.nil ?_
  refine Fin.then ?_
  refine DC.seq ?_
  refine DC.flow (cl := [.q, .v, .n, .q, .v, .n, .q, .v, .q, .n, .q, .n, .g]) (A := [0, 1, 3, 0, 8, 24, 0, 64, 192, 448, 1023, 0, 4095]) (order := [0, 1, 3, 4, 6, 7, 8, 2, 5, 9, 10, 11, 12]) [] mixed (by kernel_rfl) (fun w hw => hw.pick .nil) ?_
  refine Flow.pur rfl rfl rfl (p_field rfl rfl fi25_0 (by first | exact add_at0 _ _ | exact add_at _ _ _ | rfl)) ?_
  refine Flow.valS rfl rfl rfl rfl (v_load rfl rfl ag3 (by first | exact has_blk rfl | exact has_old' (by assumption))) ?_
  refine Flow.pur rfl rfl rfl (p_field rfl rfl fi25_0 (by first | exact add_at0 _ _ | exact add_at _ _ _ | rfl)) ?_
  refine Flow.valS rfl rfl rfl rfl (v_load rfl rfl ag3 (by first | exact has_blk rfl | exact has_old' (by assumption))) ?_
  refine Flow.pur rfl rfl rfl (p_field rfl rfl fi25_1 (by first | exact add_at0 _ _ | exact add_at _ _ _ | rfl)) ?_
  refine Flow.valS rfl rfl rfl rfl (v_load rfl rfl ag23 (by first | exact has_blk rfl | exact has_old' (by assumption))) ?_
  refine Flow.pur rfl rfl rfl (p_len rfl rfl Try.underlying23) ?_
  refine Flow.new' rfl rfl rfl rfl (n_make (k := N) rfl rfl rfl Try.underlying34 sz3 by3 ze3 rfl (by omega) (by omega) (made_tab _)) fun g13 => ?_
  refine Flow.new' rfl rfl rfl rfl (n_make (k := N) rfl rfl rfl Try.underlying34 sz3 by3 ze3 rfl (by omega) (by omega) (made_tab _)) fun g16 => ?_
  refine Flow.new' rfl rfl rfl rfl (n_make (k := es.length) rfl rfl rfl Try.underlying34 sz3 by3 ze3 rfl (by omega) (by omega) (made_tab _)) fun g20 => ?_
  refine Flow.pur rfl rfl rfl (p_struct (cs := #[_, _, _, _]) rfl rfl bs55 rfl rfl) ?_
  refine Flow.new' rfl rfl rfl rfl (n_alloc rfl ze55 rfl) fun g4 => ?_
  refine Flow.sto (V := blk g4 55 #[.slice none 0 0, .slice none 0 0, .slice none 0 0, .slice none 0 0] :: blk g20 3 (ints (tab es.length fun _ => 0)).toArray :: blk g16 3 (ints (tab N fun _ => 0)).toArray :: blk g13 3 (ints (tab N fun _ => 0)).toArray :: blk gO 34 (rowsV rs).toArray :: blk g2 55 #[.slice none 0 0, .slice none 0 0, .slice none 0 0, .slice none 0 0] :: blk g1 25 #[.int .i64 (N : Int), .slice A es.length cap] :: rowsC 3 rs) rfl rfl rfl rfl rfl (s_stores (cs' := #[_, _, _, _]) rfl rfl rfl sz55 rfl (Nat.le_of_ble_eq_true rfl) rfl) (fun w hw => hw.pick (.nil)) ?_
  refine Flow.end rfl ?_
  simp only [List.map_cons, List.map_nil, List.nil_append, List.cons_append, List.append_nil]
  refine Fin.then ?_
  refine DC.seq ?_
  refine DC.region ?_
  refine Seq.pur rfl rfl (p_field rfl rfl fi25_0 (by first | exact add_at0 _ _ | exact add_at _ _ _ | rfl)) ?_
  refine Seq.val rfl rfl (v_load rfl rfl ag3 (by first | exact has_blk rfl | exact has_old' (by assumption))) ?_
  refine Seq.new rfl rfl (n_make (k := N) (cs := (List.replicate N (.bool false)).toArray) rfl rfl rfl Try.underlying77 sz4 by4 ze4 rfl (by omega) (by omega) (made_one _ rfl _)) fun g24 => ?_
  refine Seq.pur rfl rfl (p_assign rfl rfl) ?_
  refine Seq.nil ?_
  refine Fin.then ?_
  refine DC.seq ?_
  refine DC.seq ?_
  refine DC.region ?_
  refine Seq.pur rfl rfl (p_assign rfl rfl) ?_
  refine Seq.nil ?_
  refine Fin.then ?_
  refine DC.block ?_
  refine DC.loop (ι := Nat) (fun i => i ≤ N)
    (fun i => [(1, .pointer (some ⟨g1, 0, none⟩)), (2, .pointer (some ⟨g2, 0, none⟩)), (3, .slice (some ⟨gO, 0, none⟩) N N), (4, .pointer (some ⟨g4, 0, none⟩)), (5, .slice (some ⟨g24, 0, none⟩) N N), (6, .int .i64 i)])
    (fun i => blk g24 4 (List.replicate N (.bool false)).toArray :: blk g4 55 #[.slice (some ⟨g13, 0, none⟩) N N, .slice (some ⟨g16, 0, none⟩) N N, .slice none 0 0, .slice (some ⟨g20, 0, none⟩) es.length es.length] :: blk g20 3 (ints (tab es.length fun _ => 0)).toArray :: blk g16 3 (ints (tab N fun _ => 0)).toArray :: blk g13 3 (ints (tab N fun j => if j < i then -1 else 0)).toArray :: blk gO 34 (rowsV rs).toArray :: blk g2 55 #[.slice none 0 0, .slice none 0 0, .slice none 0 0, .slice none 0 0] :: blk g1 25 #[.int .i64 (N : Int), .slice A es.length cap] :: rowsC 3 rs)
    (fun i => N - i) 0 (Nat.zero_le _) ⟨rfl, rfl, rfl, rfl, rfl, rfl, trivial⟩ (.cons 0 rfl (.cons 0 rfl (.cons 0 rfl (.cons 0 rfl (.cons' 0 rfl (blk_tab fun x _ => by simp) (Pick.all _)))))) ?_
  intro i hi
  refine DC.seq ?_
  refine DC.seq ?_
  refine DC.region ?_
  refine Seq.pur rfl rfl (p_move rfl rfl) ?_
  refine Seq.pur rfl rfl (p_field rfl rfl fi25_0 (by first | exact add_at0 _ _ | exact add_at _ _ _ | rfl)) ?_
  refine Seq.val rfl rfl (v_load rfl rfl ag3 (by first | exact has_blk rfl | exact has_old' (by assumption))) ?_
  refine Seq.pur rfl rfl (p_lss rfl rfl rfl) ?_
  refine Seq.nil ?_
  refine Fin.then ?_
  refine DC.cond rfl (fun c5 => ?_) (fun c5 => ?_)
  · have hlt : i < N := by simpa using c5
    refine DC.skip ?_
    refine Fin.then ?_
    refine DC.seq ?_
    refine DC.block ?_
    refine DC.region ?_
    refine Seq.pur rfl rfl (p_field rfl rfl fi55_0 (by first | exact add_at0 _ _ | exact add_at _ _ _ | rfl)) ?_
    refine Seq.val rfl rfl (v_load rfl rfl ag34 (by first | exact has_blk rfl | exact has_old' (by assumption))) ?_
    refine Seq.pur rfl rfl (p_move rfl rfl) ?_
    refine Seq.pur rfl rfl (p_index1 (ad' := ⟨g13, i, none⟩) rfl rfl rfl Try.underlying34 sz3 (by omega) (by omega) (by rw [add_at0]; rfl)) ?_
    refine Seq.sto rfl rfl (s_store (cs' := (ints (tab N fun j => if j < i + 1 then -1 else 0)).toArray) rfl rfl rfl sz3 rfl (by simp; omega) (by rw [row_tab, tab_fill_step])) ?_
    refine Seq.nil ?_
    refine Fin.inBlock ?_
    refine Fin.then ?_
    refine DC.region ?_
    refine Seq.pur rfl rfl (p_move rfl rfl) ?_
    refine Seq.pur rfl rfl (p_add rfl rfl rfl (by omega)) ?_
    refine Seq.pur rfl rfl (p_assign rfl rfl) ?_
    refine Seq.nil ?_
    refine Fin.again (i + 1) (by omega) (by omega) ⟨rfl, rfl, rfl, rfl, rfl, rfl, trivial⟩ (Pick.all _)
  · have hie : i = N := by simp at c5; omega
    rw [hie, tab_filled]
    clear hie c5 hi i
    refine DC.exit ?_
    refine Fin.exit_then <| Fin.exit_then <| Fin.exit_here <| ?_
    refine Fin.then ?_
    refine DC.seq ?_
    refine DC.seq ?_
    refine DC.region ?_
    refine Seq.pur rfl rfl (p_assign rfl rfl) ?_
    refine Seq.nil ?_
    refine Fin.then ?_
    refine DC.block ?_
    refine DC.loop (ι := Nat) (fun i => i ≤ es.length)
      (fun i => [(1, .pointer (some ⟨g1, 0, none⟩)), (2, .pointer (some ⟨g2, 0, none⟩)), (3, .slice (some ⟨gO, 0, none⟩) N N), (4, .pointer (some ⟨g4, 0, none⟩)), (5, .slice (some ⟨g24, 0, none⟩) N N), (7, .int .i64 i)])
      (fun i => blk g24 4 (List.replicate N (.bool false)).toArray :: blk g4 55 #[.slice (some ⟨g13, 0, none⟩) N N, .slice (some ⟨g16, 0, none⟩) N N, .slice none 0 0, .slice (some ⟨g20, 0, none⟩) es.length es.length] :: blk g20 3 (ints (tab es.length fun j => if j < i then -1 else 0)).toArray :: blk g16 3 (ints (tab N fun _ => 0)).toArray :: blk g13 3 (ints (List.replicate N (-1))).toArray :: blk gO 34 (rowsV rs).toArray :: blk g2 55 #[.slice none 0 0, .slice none 0 0, .slice none 0 0, .slice none 0 0] :: blk g1 25 #[.int .i64 (N : Int), .slice A es.length cap] :: rowsC 3 rs)
      (fun i => es.length - i) 0 (Nat.zero_le _) ⟨rfl, rfl, rfl, rfl, rfl, rfl, trivial⟩ (.cons 0 rfl (.cons 0 rfl (.cons' 0 rfl (blk_tab fun x _ => by simp) (Pick.all _)))) ?_
    intro i hi
    refine DC.seq ?_
    refine DC.seq ?_
    refine DC.region ?_
    refine Seq.pur rfl rfl (p_move rfl rfl) ?_
    refine Seq.pur rfl rfl (p_field rfl rfl fi25_1 (by first | exact add_at0 _ _ | exact add_at _ _ _ | rfl)) ?_
    refine Seq.val rfl rfl (v_load rfl rfl ag23 (by first | exact has_blk rfl | exact has_old' (by assumption))) ?_
    refine Seq.pur rfl rfl (p_len rfl rfl Try.underlying23) ?_
    refine Seq.pur rfl rfl (p_lss rfl rfl rfl) ?_
    refine Seq.nil ?_
    refine Fin.then ?_
    refine DC.cond rfl (fun c9 => ?_) (fun c9 => ?_)
    · have hlt : i < es.length := by simpa using c9
      refine DC.skip ?_
      refine Fin.then ?_
      refine DC.seq ?_
      refine DC.block ?_
      refine DC.region ?_
      refine Seq.pur rfl rfl (p_field rfl rfl fi55_3 (by first | exact add_at0 _ _ | exact add_at _ _ _ | rfl)) ?_
      refine Seq.val rfl rfl (v_load rfl rfl ag34 (by first | exact has_blk rfl | exact has_old' (by assumption))) ?_
      refine Seq.pur rfl rfl (p_move rfl rfl) ?_
      refine Seq.pur rfl rfl (p_index1 (ad' := ⟨g20, i, none⟩) rfl rfl rfl Try.underlying34 sz3 (by omega) (by omega) (by rw [add_at0]; rfl)) ?_
      refine Seq.sto rfl rfl (s_store (cs' := (ints (tab es.length fun j => if j < i + 1 then -1 else 0)).toArray) rfl rfl rfl sz3 rfl (by simp; omega) (by rw [row_tab, tab_fill_step])) ?_
      refine Seq.nil ?_
      refine Fin.inBlock ?_
      refine Fin.then ?_
      refine DC.region ?_
      refine Seq.pur rfl rfl (p_move rfl rfl) ?_
      refine Seq.pur rfl rfl (p_add rfl rfl rfl (by omega)) ?_
      refine Seq.pur rfl rfl (p_assign rfl rfl) ?_
      refine Seq.nil ?_
      refine Fin.again (i + 1) (by omega) (by omega) ⟨rfl, rfl, rfl, rfl, rfl, rfl, trivial⟩ (Pick.all _)
    · have hie : i = es.length := by simp at c9; omega
      rw [hie, tab_filled]
      clear hie c9 hi i
      refine DC.exit ?_
      refine Fin.exit_then <| Fin.exit_then <| Fin.exit_here <| ?_
      refine Fin.then ?_
      refine DC.seq ?_
      refine DC.seq ?_
      refine DC.region ?_
      refine Seq.pur rfl rfl (p_assign rfl rfl) ?_
      refine Seq.nil ?_
      refine Fin.then ?_
      refine DC.block ?_
      refine DC.own (M := blk g2 55 #[.slice none 0 0, .slice none 0 0, .slice none 0 0, .slice none 0 0] :: blk g1 25 #[.int .i64 (N : Int), .slice A es.length cap] :: rL ⟨g4, g13, g16, g20, g24, gO⟩ (.slice none 0 0) (start N es.length) [] (seenB (start N es.length).he) rs) (fun w hw => ?_) ?_
      · have h1 := own_nil (t := 3) (m := 1) hw
        exact h1.pick (.cons 7 rfl (.cons 7 rfl (.cons' 2 rfl (by simp [sl, start]) (.cons' 4 rfl (by simp [start]) (.cons' 3 rfl (by simp [start, refH_start, tab_zero]) (.cons' 0 rfl rfl (.cons' 1 rfl (by simp [start]) (.cons' 0 rfl (by simp [start, seenB_start]) (Pick.all _)))))))))
      refine DC.loop (ι := WI) (fun j => j.v ≤ N ∧ Rts es N j.v j.s sf ∧ Inv N es.length (es.length + j.v) j.s ∧ Un j.s)
        (fun j => [(1, .pointer (some ⟨g1, 0, none⟩)), (2, .pointer (some ⟨g2, 0, none⟩)), (3, .slice (some ⟨gO, 0, none⟩) N N), (4, .pointer (some ⟨g4, 0, none⟩)), (5, .slice (some ⟨g24, 0, none⟩) N N), (8, .int .i64 j.v)])
        (fun j => blk g2 55 #[.slice none 0 0, .slice none 0 0, .slice none 0 0, .slice none 0 0] :: blk g1 25 #[.int .i64 (N : Int), .slice A es.length cap] :: rL ⟨g4, g13, g16, g20, g24, gO⟩ j.vo j.s j.s.od (seenB j.s.he) rs)
        (fun j => N - j.v) ⟨0, start N es.length, .slice none 0 0, .slice none 0 0⟩ ⟨Nat.zero_le _, hR0, by simpa using inv_start, fun i x hx hneg => ?_⟩ ⟨rfl, rfl, rfl, rfl, rfl, rfl, trivial⟩ (Pick.all _) ?_
      · simp only [start, List.getElem?_replicate] at hx ⊢
        split at hx
        · rw [if_pos ‹_›]
        · cases hx
      rintro ⟨v, s, vo, vx⟩ ⟨hv, hR, hI, hU⟩
      dsimp only at hv hR hI hU ⊢
      unfold rL rHead
      simp only [List.cons_append, List.nil_append]
      have hhl := hI.hel
      have hpl := hI.pal
      refine DC.seq ?_
      refine DC.seq ?_
      refine DC.region ?_
      refine Seq.pur rfl rfl (p_move rfl rfl) ?_
      refine Seq.pur rfl rfl (p_field rfl rfl fi25_0 (by first | exact add_at0 _ _ | exact add_at _ _ _ | rfl)) ?_
      refine Seq.val rfl rfl (v_load rfl rfl ag3 (by first | exact has_blk rfl | exact has_old' (by assumption))) ?_
      refine Seq.pur rfl rfl (p_lss rfl rfl rfl) ?_
      refine Seq.nil ?_
      refine Fin.then ?_
      refine DC.cond rfl (fun c13 => ?_) (fun c13 => ?_)
      · have hlt : v < N := by simpa using c13
        have hat := hI.at (v := v) (by omega) (by omega)
        have hsw : (seenB s.he).toArray[(v : Int).toNat]? = some (.bool (decide (0 ≤ getI s.he v))) := by simp only [seenB, List.getElem?_toArray, List.getElem?_map, hat.1]; rfl
        refine DC.skip ?_
        refine Fin.then ?_
        refine DC.seq ?_
        refine DC.block ?_
        refine DC.seq ?_
        refine DC.region ?_
        refine Seq.pur rfl rfl (p_move rfl rfl) ?_
        refine Seq.pur rfl rfl (p_move rfl rfl) ?_
        refine Seq.pur rfl rfl (p_index1 (ad' := ⟨g24, (v : Int).toNat, none⟩) rfl rfl rfl Try.underlying77 sz4 (by omega) (by omega) (by rw [add_at0])) ?_
        refine Seq.val rfl rfl (v_load rfl rfl ag4 (has_row hsw)) ?_
        refine Seq.pur rfl rfl (p_not rfl rfl) ?_
        refine Seq.nil ?_
        refine Fin.then ?_
        refine DC.cond rfl (fun c15 => ?_) (fun c15 => ?_)
        · have h0 : getI s.he v < 0 := by simpa using c15
          obtain ⟨s1, hD, hR1⟩ := rts_root hR (by omega) h0
          have hfewc := hI.few
          have hu0 : unset s.oi ≤ s.oi.length := List.countP_le_length
          have hI1 : Inv N es.length (es.length + (v + 1)) (s.enter v (-1) 0) := (hI.more 1).enter (by omega) (by rw [hI.oil] at hu0; omega) (by omega)
          have hpa : s.pa.set (v : Int).toNat (-1) = s.pa := set_self (hU _ _ hat.1 h0)
          have hhe : refH (s.he.set (v : Int).toNat 0) = refH s.he := by rw [← refH_set (by omega)]; exact set_self (refH_get0 hat.1 h0)
          have hge : getI (s.enter v (-1) 0).he v = 0 := by unfold getI; simp only [St.enter]; rw [List.getElem?_set_self (by omega)]; rfl
          have hk := dfs_kept hV hD hI1 (fun x hx => by have := (mem_outs hV).1 hx; exact ⟨this.1, this.2.1⟩) (by omega) (by omega)
          refine DC.region ?_
          refine Seq.val rfl rfl (v_loads (vs := [_, _]) rfl rfl ag25 sz25 rfl (hass_blk rfl)) ?_
          refine Seq.pur rfl rfl (p_move rfl rfl) ?_
          refine Seq.pur rfl rfl (p_move rfl rfl) ?_
          refine Seq.pur rfl rfl (p_move rfl rfl) ?_
          -- calls tangram/tangramref07.reach
          refine Seq.gen rfl rfl (g_call' en55 rfl rfl rfl (Lc := rL ⟨g4, g13, g16, g20, g24, gO⟩ vo (s.enter v (-1) 0) s.od ((seenB (s.enter v (-1) 0).he).set (v : Int).toNat (.bool false)) rs) (F := [blk g2 55 #[.slice none 0 0, .slice none 0 0, .slice none 0 0, .slice none 0 0], blk g1 25 #[.int .i64 (N : Int), .slice A es.length cap]])
            (fun w hw => by
              have h5 : Own _ _ w ([blk g2 55 #[.slice none 0 0, .slice none 0 0, .slice none 0 0, .slice none 0 0], blk g1 25 #[.int .i64 (N : Int), .slice A es.length cap]] ++ rL ⟨g4, g13, g16, g20, g24, gO⟩ vo (s.enter v (-1) 0) s.od ((seenB (s.enter v (-1) 0).he).set (v : Int).toNat (.bool false)) rs) :=
                hw.pick (.cons 0 rfl (.cons 0 rfl (.cons' 0 rfl (by simp [sl, St.enter]) (.cons' 0 rfl (by rw [show (s.enter (v : Int) (-1) 0).pa = s.pa.set (v : Int).toNat (-1) from rfl, hpa]) (.cons' 0 rfl (by rw [show (s.enter (v : Int) (-1) 0).he = s.he.set (v : Int).toNat 0 from rfl, hhe]) (.cons 0 rfl (.cons 0 rfl (.cons' 0 rfl (by rw [show (s.enter (v : Int) (-1) 0).he = s.he.set (v : Int).toNat 0 from rfl, seen_back hat.1 h0]) (Pick.all _)))))))))
              exact h5.perm List.perm_append_comm)
            (fun _ h => h)
            (fun w hw => by
              have h6 := (hw.sub (List.sublist_append_left _ [_, _])).self
              exact rreach_calls hV hrl hrs (c := es.length + (v + 1)) (by omega) _ (Nat.le_refl _) h6 (PrV.keep0 ⟨A, cap, rfl, hr, hlc, hcm, hl⟩ hw) (Off.step ⟨A, cap, rfl, hr, hlc, hcm, hl⟩ (fun _ _ _ _ _ => by simp) (hw.sub (List.sublist_append_left _ [_, _]))) rfl hI1 (by omega) (by omega) (by rw [hge]; exact Int.le_refl _) hD)) ?_
          rintro _ _ ⟨_, ⟨rfl, vo2, rfl⟩, rfl⟩
          refine Seq.nil ?_
          refine Fin.inBlock ?_
          refine Fin.then ?_
          refine DC.region ?_
          refine Seq.pur rfl rfl (p_move rfl rfl) ?_
          refine Seq.pur rfl rfl (p_add rfl rfl rfl (by omega)) ?_
          refine Seq.pur rfl rfl (p_assign rfl rfl) ?_
          refine Seq.nil ?_
          refine Fin.own (fun w hw => hw.perm List.perm_append_comm) ?_
          refine Fin.again (WI.mk (v + 1) s1 vo2 vo2) (by dsimp only; omega) ⟨by dsimp only; omega, hR1, hk.inv, hk.un (un_enter (by omega) (by rw [hpl, hhl]) hU)⟩ ⟨rfl, rfl, rfl, rfl, rfl, rfl, trivial⟩ (Pick.all _)
        · refine DC.skip ?_
          refine Fin.inBlock ?_
          refine Fin.then ?_
          refine DC.region ?_
          refine Seq.pur rfl rfl (p_move rfl rfl) ?_
          refine Seq.pur rfl rfl (p_add rfl rfl rfl (by omega)) ?_
          refine Seq.pur rfl rfl (p_assign rfl rfl) ?_
          refine Seq.nil ?_
          have h0 : 0 ≤ getI s.he v := by simp at c15; omega
          refine Fin.again (WI.mk (v + 1) s vo vo) (by dsimp only; omega) ⟨by dsimp only; omega, rts_skip hR (by omega) h0, hI.more 1, hU⟩ ⟨rfl, rfl, rfl, rfl, rfl, rfl, trivial⟩ (Pick.all _)
      · obtain rfl : v = N := by simp at c13; omega
        obtain rfl := rts_done hR (by omega)
        have hall : refH s.he = s.he := refH_all fun i x hx => by
          have h1 := rts_kept hV hR0 (c := es.length) (by simpa using inv_start) (by omega) (by omega) (fun x h0 h1 => by omega) (i : Int) (by omega) (by have := (List.getElem?_eq_some_iff.1 hx).1; omega)
          rw [getI_nat, hx] at h1; exact h1
        refine DC.shape 5 rfl ?_
        rintro ⟨A3, l3, c3, rfl⟩
        refine DC.exit ?_
        refine Fin.exit_then <| Fin.exit_then <| Fin.exit_here <| ?_
        refine Fin.then ?_
        refine DC.seq ?_
        refine DC.region ?_
        refine Seq.val rfl rfl (v_loads (vs := [_, _, _, _]) rfl rfl ag55 sz55 rfl (hass_blk rfl)) ?_
        refine Seq.sto rfl rfl (s_stores (cs' := #[_, _, _, _]) rfl rfl rfl sz55 rfl (Nat.le_of_ble_eq_true rfl) rfl) ?_
        refine Seq.nil ?_
        refine Fin.then ?_
        refine DC.ret ?_
        refine Fin.endc (cs := #[_, _, _, _]) (.inl rfl) rfl rfl ag55 sz55 ?_
        refine ⟨_, fun w hw => ?_, s, _, _, _, _, hR0, hIf, rfl, rfl⟩
        rw [hall] at hw
        have k1 : Own _ _ w (slc _ _ _ _ :: _) := own_sl (by rw [hIf.oil]; omega) (hw.pick (.cons 6 rfl (Pick.all _)))
        have k2 : Own _ _ w (slc _ _ _ _ :: _) := own_sl (by rw [hIf.hel]; omega) (k1.pick (.cons 5 rfl (Pick.all _)))
        have k3 : Own _ _ w (slc _ _ _ _ :: _) := own_sl (by rw [hIf.pal]; omega) (k2.pick (.cons 5 rfl (Pick.all _)))
        exact k3.pick (.cons 0 rfl (.cons 0 rfl (.cons 4 rfl (.cons 0 rfl .nil))))
end Go.Fl
