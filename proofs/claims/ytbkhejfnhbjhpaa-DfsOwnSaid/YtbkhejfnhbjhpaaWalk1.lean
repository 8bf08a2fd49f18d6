/- dfs.Walk and what it calls. -/
import Derived.Test.YtbkhejfnhbjhpaaFlDw
import Derived.Test.YtbkhejfnhbjhpaaNew
set_option linter.unusedVariables false
set_option linter.unusedSimpArgs false
set_option maxRecDepth 100000
namespace Go.Fl
open Go Go.Proofs

theorem filled_calls (n : Nat) (x : Int) (w : World) (hn : n ≤ 8388608) :
    Calls Try.prog 58 #[.int .i64 n, .int .i64 x] w (Ret w [] fun v L => ∃ g, v = .slice (some ⟨g, 0, none⟩) n n ∧ L = [blk g 3 (ints (List.replicate n x)).toArray]) := by
  refine calls_of (args := [_, _]) (L := []) Try.func58 rfl Try.ntmps58 rfl (Own.start _ _) ?_
  refine DC.seq ?_
  refine DC.region ?_
  refine Seq.pur rfl rfl (p_assign rfl rfl) ?_
  refine Seq.nil ?_
  refine Fin.then ?_
  refine DC.seq ?_
  refine DC.region ?_
  refine Seq.pur rfl rfl (p_move rfl rfl) ?_
  refine Seq.new rfl rfl (n_make (k := n) rfl rfl rfl Try.underlying34 sz3 by3 ze3 rfl (by omega) (by omega) (made_tab _)) fun g8 => ?_
  refine Seq.pur rfl rfl (p_assign rfl rfl) ?_
  refine Seq.nil ?_
  refine Fin.then ?_
  refine DC.seq ?_
  refine DC.seq ?_
  refine DC.region ?_
  refine Seq.pur rfl rfl (p_move rfl rfl) ?_
  refine Seq.pur rfl rfl (p_len rfl rfl Try.underlying34) ?_
  refine Seq.pur rfl rfl (p_move rfl rfl) ?_
  refine Seq.nil ?_
  refine Fin.then ?_
  refine DC.block ?_
  refine DC.loop (ι := Nat) (fun i => i ≤ n)
    (fun i => [(1, .int .i64 x), (5, .slice (some ⟨g8, 0, none⟩) n n), (10, .int .i64 n), (11, .int .i64 i)])
    (fun i => [blk g8 3 (ints (tab n fun j => if j < i then x else 0)).toArray]) (fun i => n - i) 0 (Nat.zero_le _) ⟨rfl, rfl, rfl, rfl, trivial⟩ (.cons' 0 rfl (blk_tab fun x _ => by simp) .nil) ?_
  intro i hi
  refine DC.seq ?_
  refine DC.region ?_
  refine Seq.pur rfl rfl (p_lss rfl rfl rfl) ?_
  refine Seq.nil ?_
  refine Fin.then ?_
  refine DC.seq ?_
  refine DC.cond rfl (fun c3 => ?_) (fun c3 => ?_)
  · have hlt : i < n := by simpa using c3
    refine DC.skip ?_
    refine Fin.then ?_
    refine DC.seq ?_
    refine DC.block ?_
    refine DC.seq ?_
    refine DC.region ?_
    refine Seq.pur rfl rfl (p_move rfl rfl) ?_
    refine Seq.pur rfl rfl (p_assign rfl rfl) ?_
    refine Seq.nil ?_
    refine Fin.then ?_
    refine DC.region ?_
    refine Seq.pur rfl rfl (p_move rfl rfl) ?_
    refine Seq.pur rfl rfl (p_move rfl rfl) ?_
    refine Seq.pur rfl rfl (p_move rfl rfl) ?_
    refine Seq.pur rfl rfl (p_index1 rfl rfl rfl Try.underlying34 sz3 (by omega) (by omega) (by first | exact add_at0 _ _ | exact add_at _ _ _ | rfl)) ?_
    refine Seq.sto rfl rfl (s_store (cs' := (ints (tab n (upd (fun j => if j < i then x else 0) i x))).toArray) rfl rfl rfl sz3 rfl (by simp; omega) row_tab) ?_
    refine Seq.nil ?_
    refine Fin.inBlock ?_
    refine Fin.then ?_
    refine DC.region ?_
    refine Seq.pur rfl rfl (p_add rfl rfl rfl (by omega)) ?_
    refine Seq.pur rfl rfl (p_move rfl rfl) ?_
    refine Seq.nil ?_
    refine Fin.again (i + 1) (by omega) (by omega) ⟨rfl, rfl, rfl, rfl, trivial⟩ (.cons' 0 rfl (blk_tab fun y _ => by
      unfold upd
      by_cases h1 : y = i
      · subst h1; simp
      · by_cases h2 : y < i
        · simp [h1, h2, Nat.lt_succ_of_lt h2]
        · have h3 : ¬ y < i + 1 := by omega
          simp [h1, h2, h3]) .nil)
  · refine DC.exit ?_
    refine Fin.exit_then <| Fin.exit_then <| Fin.exit_here <| ?_
    refine Fin.then ?_
    refine DC.seq ?_
    refine DC.region ?_
    refine Seq.pur rfl rfl (p_move rfl rfl) ?_
    refine Seq.pur rfl rfl (p_assign rfl rfl) ?_
    refine Seq.nil ?_
    refine Fin.then ?_
    refine DC.ret ?_
    refine Fin.end1 (.inl rfl) rfl rfl ?_
    have hie : i = n := by simp at c3; omega
    subst hie
    refine ⟨g8, rfl, ?_⟩
    have : (tab i fun j => if j < i then x else 0) = List.replicate i x := ?_
    · rw [this]
    apply List.ext_getElem?
    intro j
    by_cases hj : j < i
    · rw [tab_get _ hj]; simp [hj]
    · rw [List.getElem?_eq_none (by simp; omega), List.getElem?_eq_none (by simp; omega)]

section
variable {w : World} {g7 : Nat} {vw : Value} {way : List Pr}
def stkL (g7 : Nat) (vw : Value) (way : List Pr) : List Chunk := [blk g7 87 #[vw], slc vw 90 2 (prs way)]

theorem push_calls (v x : Int) (hO : Own w (idsOf (stkL g7 vw way)) w (stkL g7 vw way)) (hl : way.length ≤ 1000000000) :
    Calls Try.prog 65 #[.pointer (some ⟨g7, 0, none⟩), .agg #[.int .i64 v, .int .i64 x]] w
      (Ret w (idsOf (stkL g7 vw way)) fun r M => r = .tuple #[] ∧ ∃ vw', M = stkL g7 vw' (way ++ [(v, x)])) := by
  refine calls_of (args := [_, _]) Try.func65 rfl Try.ntmps65 rfl hO ?_
  unfold stkL
  refine DC.seq ?_
  refine DC.region ?_
  refine Seq.new rfl rfl (n_box rfl rfl rfl) fun g3 => ?_
  refine Seq.nil ?_
  refine Fin.then ?_
  refine DC.flow (cl := [.q, .q, .q, .q, .v, .v, .n, .g, .q, .q, .g]) (A := [0, 0, 2, 6, 14, 0, 32, 126, 255, 511, 1023]) (order := [0, 1, 2, 3, 4, 5, 6, 7, 8, 9, 10]) [] mixed (by kernel_rfl) (fun w hw => hw.pick .nil) ?_
  refine Flow.pur rfl rfl rfl (p_move rfl rfl) ?_
  refine Flow.pur rfl rfl rfl (p_move rfl rfl) ?_
  refine Flow.pur rfl rfl rfl (p_nil rfl rfl) ?_
  refine Flow.pur rfl rfl rfl (p_field rfl rfl fi87_0 (by first | exact add_at0 _ _ | exact add_at _ _ _ | rfl)) ?_
  refine Flow.valS rfl rfl rfl rfl (v_load rfl rfl ag85 (by first | exact has_blk rfl | exact has_old' (by assumption))) ?_
  refine Flow.valS rfl rfl rfl rfl (v_loads (vs := [_, _]) rfl rfl ag90 sz90 rfl (hass_blk rfl)) ?_
  refine Flow.new' rfl rfl rfl rfl (n_slit (cs := #[_, _]) rfl rfl Try.underlying85 sz90 ze90 rfl (by decide) (by decide) rfl rfl) fun g10 => ?_
  refine Flow.gen' (V := [blk g10 90 #[.int .i64 v, .int .i64 x], blk g3 90 #[.int .i64 v, .int .i64 x], blk g7 87 #[vw], slc vw 90 2 (prs way)]) rfl rfl rfl rfl rfl (Gen.shape (g_append (F := [blk g10 90 #[.int .i64 v, .int .i64 x], blk g3 90 #[.int .i64 v, .int .i64 x], blk g7 _ _]) (vs := prs way) (k := 1) (news := [.int .i64 v, .int .i64 x]) rfl rfl rfl Try.underlying85 sz90 by90 ze90 rfl (by decide) (by decide)
    (fun w hw => hw.pick (.cons 3 rfl (.cons 0 rfl (.cons 0 rfl (.cons 0 rfl .nil))))) (.inl ⟨_, _, rfl, hass_blk rfl⟩) rfl (by intro u hu; simp at hu; rcases hu with rfl | rfl <;> rfl) (by rw [prs_length]; omega))) (fun v L' hC w hw => hw.pick (.nil)) ?_
  rintro _ _ ⟨⟨A11, l11, c11, rfl⟩, rfl⟩
  refine Flow.pur rfl rfl rfl (p_nil rfl rfl) ?_
  refine Flow.pur rfl rfl rfl (p_field rfl rfl fi87_0 (by first | exact add_at0 _ _ | exact add_at _ _ _ | rfl)) ?_
  refine Flow.sto0 rfl rfl rfl rfl (s_store (cs' := #[_]) rfl rfl rfl sz85 rfl (Nat.le_of_ble_eq_true rfl) rfl) (fun w hw => hw.pick (.nil)) ?_
  refine Flow.end rfl ?_
  simp only [List.map_cons, List.map_nil, List.nil_append, List.cons_append, List.append_nil]
  refine Fin.weak (E' := []) trivial (.cons 3 rfl (.cons 0 rfl .nil)) ?_
  refine Fin.end0 (.inr rfl) rfl ?_
  refine ⟨rfl, .slice A11 l11 c11, ?_⟩
  simp [stkL, prs_append, prs]

theorem some_calls (hO : Own w (idsOf (stkL g7 vw way)) w (stkL g7 vw way)) :
    Calls Try.prog 66 #[.pointer (some ⟨g7, 0, none⟩)] w (Ret w [] fun r M => M = [] ∧ r = .bool (decide (way ≠ []))) := by
  have hr := rd_own (hO.perm (.swap _ _ _))
  obtain ⟨A, len, cap, rfl, hl, hR, h1, h2⟩ := hr
  have hg := hO.holds (blk g7 _ _) (List.mem_cons_self ..)
  refine calls_of (args := [_]) (L := []) Try.func66 rfl Try.ntmps66 rfl (Own.start _ _) ?_
  refine DC.seq ?_
  refine DC.region ?_
  refine Seq.pur rfl rfl (p_assign rfl rfl) ?_
  refine Seq.nil ?_
  refine Fin.then ?_
  refine DC.seq ?_
  refine DC.region ?_
  refine Seq.pur rfl rfl (p_move rfl rfl) ?_
  refine Seq.pur rfl rfl (p_nil rfl rfl) ?_
  refine Seq.pur rfl rfl (p_field rfl rfl fi87_0 (by first | exact add_at0 _ _ | exact add_at _ _ _ | rfl)) ?_
  refine Seq.val rfl rfl (v_load rfl rfl ag85 (has_heap hg rfl)) ?_
  refine Seq.pur rfl rfl (p_len rfl rfl Try.underlying85) ?_
  refine Seq.pur rfl rfl (p_gtr rfl rfl rfl) ?_
  refine Seq.pur rfl rfl (p_assign rfl rfl) ?_
  refine Seq.nil ?_
  refine Fin.then ?_
  refine DC.ret ?_
  refine Fin.end1 (.inl rfl) rfl rfl ?_
  refine ⟨rfl, ?_⟩
  rw [prs_length] at hl
  congr 1
  rw [decide_eq_decide]
  cases way <;> simp at hl ⊢ <;> omega

theorem top_calls {gw len cap : Nat} (hg : w.heap[g7]? = some (.cells #[.slice (some ⟨gw, 0, none⟩) len cap] 87 (0, 0))) (h0 : 0 < len) (h1 : len ≤ 1000000000) :
    Calls Try.prog 67 #[.pointer (some ⟨g7, 0, none⟩)] w (Ret w [] fun r M => M = [] ∧ r = .pointer (some ⟨gw, (len - 1) * 2, none⟩)) := by
  refine calls_of (args := [_]) (L := []) Try.func67 rfl Try.ntmps67 rfl (Own.start _ _) ?_
  refine DC.seq ?_
  refine DC.region ?_
  refine Seq.pur rfl rfl (p_assign rfl rfl) ?_
  refine Seq.nil ?_
  refine Fin.then ?_
  refine DC.seq ?_
  refine DC.flow (cl := [.q, .q, .q, .v, .q, .q, .q, .v, .q, .q, .q, .q]) (A := [0, 1, 3, 7, 0, 16, 48, 112, 240, 496, 1023, 2047]) (order := [0, 1, 2, 3, 4, 5, 6, 7, 8, 9, 10, 11]) [] mixed (by kernel_rfl) (fun w hw => hw.pick .nil) ?_
  refine Flow.pur rfl rfl rfl (p_move rfl rfl) ?_
  refine Flow.pur rfl rfl rfl (p_nil rfl rfl) ?_
  refine Flow.pur rfl rfl rfl (p_field rfl rfl fi87_0 (by first | exact add_at0 _ _ | exact add_at _ _ _ | rfl)) ?_
  refine Flow.valS rfl rfl rfl rfl (v_load rfl rfl ag85 (has_heap hg rfl)) ?_
  refine Flow.pur rfl rfl rfl (p_move rfl rfl) ?_
  refine Flow.pur rfl rfl rfl (p_nil rfl rfl) ?_
  refine Flow.pur rfl rfl rfl (p_field rfl rfl fi87_0 (by first | exact add_at0 _ _ | exact add_at _ _ _ | rfl)) ?_
  refine Flow.valS rfl rfl rfl rfl (v_load rfl rfl ag85 (has_heap hg rfl)) ?_
  refine Flow.pur rfl rfl rfl (p_len rfl rfl Try.underlying85) ?_
  refine Flow.pur rfl rfl rfl (p_sub rfl rfl rfl (by omega)) ?_
  refine Flow.pur rfl rfl rfl (p_index (ad' := ⟨gw, (len - 1) * 2, none⟩) rfl rfl rfl Try.underlying85 sz90 (by omega) (by omega) (by rw [add_at0]; congr 2; omega)) ?_
  refine Flow.pur rfl rfl rfl (p_assign rfl rfl) ?_
  refine Flow.end rfl ?_
  simp only [List.map_cons, List.map_nil, List.nil_append, List.cons_append, List.append_nil]
  refine Fin.then ?_
  refine DC.ret ?_
  refine Fin.end1 (.inl rfl) rfl rfl ?_
  exact ⟨rfl, rfl⟩

theorem pop_calls {gw len cap : Nat} (hg : Own w (idsOf [blk g7 87 #[.slice (some ⟨gw, 0, none⟩) len cap]]) w [blk g7 87 #[.slice (some ⟨gw, 0, none⟩) len cap]]) (h0 : 0 < len) (h1 : len ≤ 1000000000) (h2 : len ≤ cap) :
    Calls Try.prog 68 #[.pointer (some ⟨g7, 0, none⟩)] w (Ret w (idsOf [blk g7 87 #[.slice (some ⟨gw, 0, none⟩) len cap]]) fun r M => r = .tuple #[] ∧ M = [blk g7 87 #[.slice (some ⟨gw, 0, none⟩) (len - 1) cap]]) := by
  refine calls_of (args := [_]) Try.func68 rfl Try.ntmps68 rfl hg ?_
  refine DC.flow (cl := [.q, .q, .q, .q, .v, .q, .q, .q, .v, .q, .q, .q, .q, .q, .g]) (A := [0, 0, 2, 6, 14, 0, 32, 96, 224, 480, 992, 2046, 4095, 8191, 16383]) (order := [0, 1, 2, 3, 4, 5, 6, 7, 8, 9, 10, 11, 12, 13, 14]) [] mixed (by kernel_rfl) (fun w hw => hw.pick .nil) ?_
  refine Flow.pur rfl rfl rfl (p_move rfl rfl) ?_
  refine Flow.pur rfl rfl rfl (p_move rfl rfl) ?_
  refine Flow.pur rfl rfl rfl (p_nil rfl rfl) ?_
  refine Flow.pur rfl rfl rfl (p_field rfl rfl fi87_0 (by first | exact add_at0 _ _ | exact add_at _ _ _ | rfl)) ?_
  refine Flow.valS rfl rfl rfl rfl (v_load rfl rfl ag85 (by first | exact has_blk rfl | exact has_old' (by assumption))) ?_
  refine Flow.pur rfl rfl rfl (p_move rfl rfl) ?_
  refine Flow.pur rfl rfl rfl (p_nil rfl rfl) ?_
  refine Flow.pur rfl rfl rfl (p_field rfl rfl fi87_0 (by first | exact add_at0 _ _ | exact add_at _ _ _ | rfl)) ?_
  refine Flow.valS rfl rfl rfl rfl (v_load rfl rfl ag85 (by first | exact has_blk rfl | exact has_old' (by assumption))) ?_
  refine Flow.pur rfl rfl rfl (p_len rfl rfl Try.underlying85) ?_
  refine Flow.pur rfl rfl rfl (p_sub rfl rfl rfl (by omega)) ?_
  refine Flow.pur rfl rfl rfl (p_slice_to (hi := len - 1) rfl rfl (by rw [show ((len - 1 : Nat) : Int) = (len : Int) - 1 by omega]; rfl) Try.underlying85 sz90 (by omega)) ?_
  refine Flow.pur rfl rfl rfl (p_nil rfl rfl) ?_
  refine Flow.pur rfl rfl rfl (p_field rfl rfl fi87_0 (by first | exact add_at0 _ _ | exact add_at _ _ _ | rfl)) ?_
  refine Flow.sto0 rfl rfl rfl rfl (s_store (cs' := #[_]) rfl rfl rfl sz85 rfl (Nat.le_of_ble_eq_true rfl) rfl) (fun w hw => hw.pick (.nil)) ?_
  refine Flow.end rfl ?_
  simp only [List.map_cons, List.map_nil, List.nil_append, List.cons_append, List.append_nil]
  refine Fin.end0 (.inr rfl) rfl ?_
  exact ⟨rfl, rfl⟩
end

theorem own_adj {w0 w : World} {K : List Nat} {L : List Chunk} {N : Int} {es : List Pr} {M : AdjM} (hw : Own w0 K w L) (hp : Pick L (adjL M)) (hP : AdjP N es M) : AV w N es M (some ⟨M.gp, 0, none⟩) := by
  have h := (hw.pick hp).holds
  unfold adjL at h
  exact .at ⟨h (blk _ _ _) (by simp), h (blk _ _ _) (by simp), h (blk _ _ _) (by simp), h (blk _ _ _) (by simp), h (blk _ _ _) (by simp)⟩ hP

structure WG where
  g6 : Nat
  g7 : Nat
  g4 : Nat
  gp : Nat
  gh : Nat
  gr : Nat
def walkL (G : WG) (M : AdjM) (vo vw : Value) (s : St) (way : List Pr) : List Chunk :=
  [blk G.g6 55 #[sl G.gp s.pa, sl G.gh s.he, vo, sl G.gr s.oi], blk G.gp 3 (ints s.pa).toArray, blk G.gh 3 (ints s.he).toArray, slc vo 3 1 (ints s.od), blk G.gr 3 (ints s.oi).toArray,
   blk G.g7 87 #[vw], slc vw 90 2 (prs way), blk G.g4 26 #[.pointer (some ⟨M.gp, 0, none⟩)],
   blk M.gp 73 #[sl M.g0 M.fr, sl M.g1 M.st, sl M.g2 M.ou, sl M.g3 M.pl], blk M.g0 3 (ints M.fr).toArray, blk M.g1 3 (ints M.st).toArray, blk M.g2 3 (ints M.ou).toArray, blk M.g3 3 (ints M.pl).toArray]
theorem reach_calls {w : World} {G : WG} {M : AdjM} {vo vw : Value} {s : St} {way : List Pr} {N : Int} {es : List Pr} {m c : Nat} {v h d : Int} (hO : Own w (idsOf (walkL G M vo vw s way)) w (walkL G M vo vw s way)) (hP : AdjP N es M) (hI : Inv N m c s) (h0 : 0 ≤ v) (h1 : v < N)
    (hc : s.od.length ≤ 1000000000) (hw : way.length ≤ 1000000000) :
    Calls Try.prog 64 #[.int .i64 v, .int .i64 h, .int .i64 d, .pointer (some ⟨G.g6, 0, none⟩), .pointer (some ⟨G.g7, 0, none⟩), .pointer (some ⟨G.g4, 0, none⟩)] w
      (Ret w (idsOf (walkL G M vo vw s way)) fun r L => r = .tuple #[] ∧ ∃ vo' vw', L = walkL G M vo' vw' (s.enter v h d) (way ++ [(v, (outs es v)[0]?.getD (-1))])) := by
  obtain ⟨vn, rfl⟩ := Int.eq_ofNat_of_zero_le h0
  have hpl := hI.pal
  have hhl := hI.hel
  refine calls_of (args := [_, _, _, _, _, _]) Try.func64 rfl Try.ntmps64 rfl hO ?_
  unfold walkL
  refine DC.seq ?_
  refine DC.flow (cl := [.q, .v, .q, .q, .q, .q, .q, .q, .q, .g, .q, .g]) (A := [0, 1, 0, 0, 8, 0, 0, 0, 71, 327, 1023, 2047]) (order := [0, 1, 2, 3, 4, 5, 6, 7, 8, 9, 10, 11]) ([blk G.g6 55 #[sl G.gp s.pa, sl G.gh s.he, vo, sl G.gr s.oi]]) mixed (by kernel_rfl) (fun w hw => hw.pick (.cons 0 rfl .nil)) ?_
  refine Flow.pur rfl rfl rfl (p_field rfl rfl fi55_0 (by first | exact add_at0 _ _ | exact add_at _ _ _ | rfl)) ?_
  refine Flow.valS rfl rfl rfl rfl (v_load rfl rfl ag34 (by first | exact has_blk rfl | exact has_old' (by assumption))) ?_
  refine Flow.pur rfl rfl rfl (p_move rfl rfl) ?_
  refine Flow.pur rfl rfl rfl (p_field rfl rfl fi55_1 (by first | exact add_at0 _ _ | exact add_at _ _ _ | rfl)) ?_
  refine Flow.old rfl rfl rfl (v_load rfl rfl ag34 (has_blk rfl)) ?_
  refine Flow.pur rfl rfl rfl (p_move rfl rfl) ?_
  refine Flow.pur rfl rfl rfl (p_move rfl rfl) ?_
  refine Flow.pur rfl rfl rfl (p_move rfl rfl) ?_
  refine Flow.pur rfl rfl rfl (p_index1 rfl rfl rfl Try.underlying34 sz3 (by omega) (by omega) (by first | exact add_at0 _ _ | exact add_at _ _ _ | rfl)) ?_
  refine Flow.sto0 rfl rfl rfl rfl (s_store (cs' := (ints (s.pa.set vn h)).toArray) rfl rfl rfl sz3 rfl (by simp; omega) row_set0) (fun w hw => hw.pick (.cons 0 rfl .nil)) ?_
  refine Flow.pur rfl rfl rfl (p_index1 rfl rfl rfl Try.underlying34 sz3 (by omega) (by omega) (by first | exact add_at0 _ _ | exact add_at _ _ _ | rfl)) ?_
  refine Flow.sto0 rfl rfl rfl rfl (s_store (cs' := (ints (s.he.set vn d)).toArray) rfl rfl rfl sz3 rfl (by simp; omega) row_set0) (fun w hw => hw.pick (.cons 0 rfl .nil)) ?_
  refine Flow.end rfl ?_
  simp only [List.map_cons, List.map_nil, List.nil_append, List.cons_append, List.append_nil]
  refine Fin.then ?_
  refine DC.seq ?_
  refine DC.region ?_
  refine Seq.pur rfl rfl (p_field rfl rfl fi55_2 (by first | exact add_at0 _ _ | exact add_at _ _ _ | rfl)) ?_
  refine Seq.val rfl rfl (v_load rfl rfl ag34 (by first | exact has_blk rfl | exact has_old' (by assumption))) ?_
  refine Seq.pur rfl rfl (p_move rfl rfl) ?_
  refine Seq.new rfl rfl (n_slit (cs := #[_]) rfl rfl Try.underlying34 sz3 ze3 rfl (by decide) (by decide) rfl rfl) fun g22 => ?_
  refine Seq.gen rfl rfl (Gen.shape (g_append (F := [blk g22 3 #[.int .i64 vn], blk G.g6 _ _, blk G.gp _ _, blk G.gh _ _, blk G.gr _ _, blk G.g7 _ _, slc _ _ _ _, blk G.g4 _ _, blk M.gp _ _, blk M.g0 _ _, blk M.g1 _ _, blk M.g2 _ _, blk M.g3 _ _]) (vs := ints s.od) (k := 1) (news := [.int .i64 vn]) rfl rfl rfl Try.underlying34 sz3 by3 ze3 rfl (by decide) (by decide)
    (fun w hw => hw.pick (.cons 4 rfl (Pick.all _))) (.inl ⟨_, _, rfl, hass_blk rfl⟩) rfl (by intro u hu; simp at hu; subst hu; rfl) (by rw [ints_length]; omega))) ?_
  rintro _ _ ⟨⟨A23, l23, c23, rfl⟩, rfl⟩
  refine Seq.pur rfl rfl (p_field rfl rfl fi55_2 (by first | exact add_at0 _ _ | exact add_at _ _ _ | rfl)) ?_
  refine Seq.sto rfl rfl (s_store (cs' := #[_, _, _, _]) rfl rfl rfl sz34 rfl (Nat.le_of_ble_eq_true rfl) rfl) ?_
  refine Seq.nil ?_
  refine Fin.then ?_
  refine DC.region ?_
  refine Seq.pur rfl rfl (p_move rfl rfl) ?_
  refine Seq.val rfl rfl (v_load rfl rfl ag26 (by first | exact has_blk rfl | exact has_old' (by assumption))) ?_
  refine Seq.pur rfl rfl (p_move rfl rfl) ?_
  -- calls (*tangram/csr.Adj).First
  refine Seq.rel0 rfl rfl (r_call en20 rfl rfl rfl (fun w' hw' => First_calls (own_adj hw' (.cons 9 rfl (.cons 9 rfl (.cons 9 rfl (.cons 9 rfl (.cons 9 rfl .nil))))) hP) vn)) ?_
  rintro _ rfl
  refine Seq.pur rfl rfl (p_struct (cs := #[_, _]) rfl rfl bs90 rfl rfl) ?_
  -- calls (*tangram/dfs.stack[tangram/dfs.look]).push
  refine Seq.gen rfl rfl (g_call' en65 rfl rfl rfl (Lc := stkL G.g7 vw way) (K' := idsOf (stkL G.g7 vw way)) (F := [slc _ _ _ _, blk g22 _ _, blk G.g6 _ _, blk G.gp _ _, blk G.gh _ _, blk G.gr _ _, blk G.g4 _ _, blk M.gp _ _, blk M.g0 _ _, blk M.g1 _ _, blk M.g2 _ _, blk M.g3 _ _]) (fun w hw => hw.pick (.cons 6 rfl (.cons 6 rfl (Pick.all _)))) (fun _ h => h) (fun w hw' => push_calls _ _ (hw'.sub (List.sublist_append_left _ _)).self hw)) ?_
  rintro _ _ ⟨_, ⟨rfl, vw', rfl⟩, rfl⟩
  refine Seq.nil ?_
  refine Fin.weak (E' := []) trivial (.cons 4 rfl (.cons 4 rfl (.cons 4 rfl (.cons 2 rfl (.cons 3 rfl (.cons 0 rfl (.cons 0 rfl (.cons 1 rfl (.cons 1 rfl (.cons 1 rfl (.cons 1 rfl (.cons 1 rfl (.cons 1 rfl .nil))))))))))))) ?_
  refine Fin.end0 (.inr rfl) rfl ?_
  refine ⟨rfl, .slice A23 l23 c23, vw', ?_⟩
  simp [walkL, St.enter, sl, ints_append]
  rfl

end Go.Fl
