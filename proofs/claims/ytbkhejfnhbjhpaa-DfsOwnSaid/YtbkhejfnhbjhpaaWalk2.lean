/- dfs.Walk. -/
import Derived.Test.YtbkhejfnhbjhpaaWalk1
import Derived.Test.YtbkhejfnhbjhpaaFo1
set_option linter.unusedVariables false
set_option linter.unusedSimpArgs false
set_option maxRecDepth 100000
namespace Go.Fl
open Go Go.Proofs

structure WI where
  v : Nat
  s : St
  vo : Value
  vw : Value
structure WJ where
  s : St
  vo : Value
  vw : Value
  k : List (Int × List Int)
def wayOf (k : List (Int × List Int)) : List Pr := (k.map fun p => (p.1, (p.2[0]?).getD (-1))).reverse
def kOk (N : Int) (es : List Pr) (k : List (Int × List Int)) : Prop := ∀ p, p ∈ k → 0 ≤ p.1 ∧ p.1 < N ∧ ∃ q, outs es p.1 = q ++ p.2
def phi (es : List Pr) (k : List (Int × List Int)) (s : St) : Nat := (k.map fun p => 1 + p.2.length).sum + unset s.oi * (2 * es.length + 2)
theorem wayOf_cons (v : Int) (l : List Int) (k : List (Int × List Int)) : wayOf ((v, l) :: k) = wayOf k ++ [(v, (l[0]?).getD (-1))] := by simp [wayOf]
theorem outsF_len : ∀ (es : List Pr) (k : Nat) (v : Int), (outsF k es v).length ≤ es.length
  | [], k, v => by simp [outsF]
  | e :: r, k, v => by
    unfold outsF
    have := outsF_len r (k + 1) v
    rw [List.length_append, List.length_cons]
    split
    · simp; omega
    · split <;> simp <;> omega
theorem outs_len (es : List Pr) (v : Int) : (outs es v).length ≤ es.length := outsF_len es 0 v
theorem prs_last (a : List Pr) (x y : Int) (sp : List Value) : ((prs (a ++ [(x, y)]) ++ sp).toArray)[a.length * 2]? = some (.int .i64 x) ∧ ((prs (a ++ [(x, y)]) ++ sp).toArray)[a.length * 2 + 1]? = some (.int .i64 y) := by
  have e : prs (a ++ [(x, y)]) = prs a ++ [.int .i64 x, .int .i64 y] := by rw [prs_append]; rfl
  rw [e]
  have hl : (prs a).length = a.length * 2 := prs_length a
  constructor
  · simp [List.getElem?_append, hl]
  · simp [List.getElem?_append, hl]
theorem prs_lset (a : List Pr) (x y z : Int) (sp : List Value) : ((prs (a ++ [(x, y)]) ++ sp).toArray).setIfInBounds (a.length * 2 + 1) (.int .i64 z) = (prs (a ++ [(x, z)]) ++ sp).toArray := by
  have e : ∀ y, prs (a ++ [(x, y)]) = prs a ++ [.int .i64 x, .int .i64 y] := fun y => by rw [prs_append]; rfl
  have hl : (prs a).length = a.length * 2 := prs_length a
  apply Array.ext'
  simp only [Array.toList_setIfInBounds, e]
  rw [List.append_assoc, List.append_assoc, List.set_append_right _ _ (by omega), hl, show a.length * 2 + 1 - a.length * 2 = 1 by omega]
  rfl
theorem close_way {w0 w : World} {K : List Nat} {F : List Chunk} {a : List Pr} {x y : Int} {gw cap : Nat} {sp : List Value} (h1 : a.length + 1 ≤ cap) (h2 : cap ≤ 9223372036854775807) (h3 : (prs (a ++ [(x, y)])).length + sp.length = cap * 2)
    (hw : Own w0 K w (blk gw 90 (prs (a ++ [(x, y)]) ++ sp).toArray :: F)) : Own w0 K w (slc (.slice (some ⟨gw, 0, none⟩) (a.length + 1) cap) 90 2 (prs (a ++ [(x, y)])) :: F) :=
  own_slc (by simp) (by decide) h1 h2 (by simpa using h3) (by
    have : (prs (a ++ [(x, y)])).length = (a.length + 1) * 2 := by simp
    rw [← this]; exact List.take_left) hw
theorem close_pop {w0 w : World} {K : List Nat} {F : List Chunk} {a : List Pr} {x y : Int} {gw cap : Nat} {sp : List Value} (h1 : a.length + 1 ≤ cap) (h2 : cap ≤ 9223372036854775807) (h3 : (prs (a ++ [(x, y)])).length + sp.length = cap * 2)
    (hw : Own w0 K w (blk gw 90 (prs (a ++ [(x, y)]) ++ sp).toArray :: F)) : Own w0 K w (slc (.slice (some ⟨gw, 0, none⟩) a.length cap) 90 2 (prs a) :: F) :=
  own_slc (by simp) (by decide) (by omega) h2 (by simpa using h3) (by
    have : (prs a).length = a.length * 2 := by simp
    rw [← this, prs_append, List.append_assoc]; exact List.take_left) hw

theorem rts_skip {N : Int} {es : List Pr} {v : Int} {s sf : St} (hR : Rts es N v s sf) (h : v < N) (h0 : 0 ≤ getI s.he v) : Rts es N (v + 1) s sf := by
  cases hR with
  | done h' => omega
  | skip _ _ r => exact r
  | root _ hh _ _ => omega
theorem rts_root {N : Int} {es : List Pr} {v : Int} {s sf : St} (hR : Rts es N v s sf) (h : v < N) (h0 : getI s.he v < 0) : ∃ s1, Dfs es v (outs es v) (s.enter v (-1) 0) s1 ∧ Rts es N (v + 1) s1 sf := by
  cases hR with
  | done h' => omega
  | skip _ hh _ => omega
  | root _ _ r1 r => exact ⟨_, r1, r⟩
theorem rts_done {N : Int} {es : List Pr} {v : Int} {s sf : St} (hR : Rts es N v s sf) (h : N ≤ v) : s = sf := by
  cases hR with
  | done h' => rfl
  | skip h' _ _ => omega
  | root h' _ _ _ => omega

theorem own_sl {w0 w : World} {K : List Nat} {F : List Chunk} {g t : Nat} {xs : List Int} (h : xs.length ≤ 9223372036854775807) (hw : Own w0 K w (blk g t (ints xs).toArray :: F)) : Own w0 K w (slc (sl g xs) t 1 (ints xs) :: F) :=
  own_slc (by simp) (by decide) (Nat.le_refl _) h (by simp) (by rw [Nat.mul_one, ← ints_length xs]; exact List.take_length) hw

theorem Walk_calls (N : Int) (es : List Pr) (va : Value) (w : World) (hg : PrV w va es) :
    Calls Try.prog 43 #[.agg #[.int .i64 N, va]] w (Ret w [] fun v L =>
      (¬ Vld N es ∧ L = [] ∧ v = .tuple #[.agg #[.slice none 0 0, .slice none 0 0, .slice none 0 0, .slice none 0 0], .int .i64 1]) ∨
      (Vld N es ∧ ∃ s v0 v1 v2 v3, Rts es N 0 (start N es.length) s ∧ Inv N es.length (es.length + N.toNat) s ∧ v = .tuple #[.agg #[v0, v1, v2, v3], .int .i64 0] ∧ L = forL v0 v1 v2 v3 s.pa s.he s.od s.oi)) := by
  obtain ⟨A, cap, rfl, hr, hlc, hcm, hl⟩ := hg
  refine calls_of (args := [_]) (L := []) Try.func43 rfl Try.ntmps43 rfl (Own.start _ _) ?_
  refine DC.seq ?_
  refine DC.region ?_
  refine Seq.new rfl rfl (n_box rfl rfl rfl) fun g1 => ?_
  refine Seq.new rfl rfl (n_alloc rfl ze55 rfl) fun g2 => ?_
  refine Seq.pur rfl rfl (p_assign rfl rfl) ?_
  refine Seq.nil ?_
  refine Fin.then ?_
  refine DC.seq ?_
  refine DC.region ?_
  refine Seq.val rfl rfl (v_loads (vs := [_, _]) rfl rfl ag25 sz25 rfl (hass_blk rfl)) ?_
  -- calls tangram/csr.New
  refine Seq.rel rfl rfl (r_call en32 rfl rfl rfl (fun w' hw => New_calls N es A cap w' (hr.keep0 hw) (by omega))) ?_
  rintro v15 L15 hC15
  obtain ⟨p, e, rfl, hC⟩ : ∃ p e, v15 = .tuple #[.pointer p, .int .i64 e] ∧ ((¬ Vld N es ∧ L15 = [] ∧ p = none ∧ e = 1) ∨ (Vld N es ∧ ∃ M, AdjP N es M ∧ p = some ⟨M.gp, 0, none⟩ ∧ e = 0 ∧ L15 = adjL M)) := by
    rcases hC15 with ⟨h1, h2, h3⟩ | ⟨h1, M, h2, h3, h4⟩
    · exact ⟨_, _, h3, .inl ⟨h1, h2, rfl, rfl⟩⟩
    · exact ⟨_, _, h3, .inr ⟨h1, M, h2, rfl, rfl, h4⟩⟩
  clear hC15
  refine Seq.pur rfl rfl (p_move rfl rfl) ?_
  refine Seq.pur rfl rfl (p_extract rfl rfl rfl) ?_
  refine Seq.pur rfl rfl (p_extract rfl rfl rfl) ?_
  refine Seq.new rfl rfl (n_alloc rfl ze26 rfl) fun g4 => ?_
  refine Seq.sto rfl rfl (s_store (cs' := #[_]) rfl rfl rfl sz26 rfl (Nat.le_of_ble_eq_true rfl) rfl) ?_
  refine Seq.pur rfl rfl (p_assign rfl rfl) ?_
  refine Seq.nil ?_
  refine Fin.then ?_
  refine DC.seq ?_
  refine DC.seq ?_
  refine DC.region ?_
  refine Seq.pur rfl rfl (p_move rfl rfl) ?_
  refine Seq.pur rfl rfl (p_neq rfl rfl rfl) ?_
  refine Seq.nil ?_
  refine Fin.then ?_
  refine DC.cond rfl (fun c2 => ?_) (fun c2 => ?_)
  · rcases hC with ⟨hV, rfl, rfl, rfl⟩ | ⟨_, _, _, _, rfl, _⟩
    rotate_left 1
    · simp at c2
    simp only [List.nil_append]
    refine DC.seq ?_
    refine DC.region ?_
    refine Seq.pur rfl rfl (p_struct (cs := #[_, _, _, _]) rfl rfl bs55 rfl rfl) ?_
    refine Seq.pur rfl rfl (p_move rfl rfl) ?_
    refine Seq.sto rfl rfl (s_stores (cs' := #[_, _, _, _]) rfl rfl rfl sz55 rfl (Nat.le_of_ble_eq_true rfl) rfl) ?_
    refine Seq.pur rfl rfl (p_assign rfl rfl) ?_
    refine Seq.nil ?_
    refine Fin.then ?_
    refine DC.ret ?_
    refine Fin.ret_then <| ?_
    refine Fin.endct (cs := #[_, _, _, _]) (.inl rfl) rfl rfl rfl ag55 sz55 ?_
    exact ⟨_, fun w hw => hw.pick .nil, .inl ⟨hV, rfl, rfl⟩⟩
  · rcases hC with ⟨_, _, _, rfl⟩ | ⟨hV, M, hP, rfl, rfl, rfl⟩
    · simp at c2
    have hN0 := hV.lo
    have hN1 := hV.hi
    have hfew := hV.few
    obtain ⟨Nn, rfl⟩ := Int.eq_ofNat_of_zero_le hN0
    have hNn : Nn ≤ 1048576 := by omega
    simp only [adjL, List.cons_append, List.nil_append]
    refine DC.skip ?_
    refine Fin.then ?_
    refine DC.seq ?_
    refine DC.flow (cl := [.q, .v, .r, .q, .v, .r, .v, .r, .r, .q, .n, .g]) (A := [0, 1, 3, 0, 8, 31, 0, 127, 255, 511, 0, 2047]) (order := [0, 1, 2, 3, 4, 5, 6, 7, 8, 9, 10, 11]) [] mixed (by kernel_rfl) (fun w hw => hw.pick .nil) ?_
    refine Flow.pur rfl rfl rfl (p_field rfl rfl fi25_0 (by first | exact add_at0 _ _ | exact add_at _ _ _ | rfl)) ?_
    refine Flow.valS rfl rfl rfl rfl (v_load rfl rfl ag3 (by first | exact has_blk rfl | exact has_old' (by assumption))) ?_
    -- calls tangram/dfs.filled
    refine Flow.relS rfl rfl rfl rfl (r_call en58 rfl rfl rfl (fun w' hw => filled_calls Nn (-1) w' (by omega))) ?_
    rintro _ _ ⟨ga, rfl, rfl⟩
    refine Flow.pur rfl rfl rfl (p_field rfl rfl fi25_0 (by first | exact add_at0 _ _ | exact add_at _ _ _ | rfl)) ?_
    refine Flow.valS rfl rfl rfl rfl (v_load rfl rfl ag3 (by first | exact has_blk rfl | exact has_old' (by assumption))) ?_
    -- calls tangram/dfs.filled
    refine Flow.relS rfl rfl rfl rfl (r_call en58 rfl rfl rfl (fun w' hw => filled_calls Nn (-1) w' (by omega))) ?_
    rintro _ _ ⟨gh, rfl, rfl⟩
    refine Flow.valS rfl rfl rfl rfl (v_load rfl rfl ag26 (by first | exact has_blk rfl | exact has_old' (by assumption))) ?_
    -- calls (*tangram/csr.Adj).M
    refine Flow.rel0 rfl rfl rfl rfl (r_call en24 rfl rfl rfl (fun w' hw => M_calls (own_adj hw (.cons 1 rfl (.cons 1 rfl (.cons 1 rfl (.cons 1 rfl (.cons 1 rfl .nil))))) hP))) ?_
    rintro _ rfl
    -- calls tangram/dfs.filled
    refine Flow.relS rfl rfl rfl rfl (r_call en58 rfl rfl rfl (fun w' hw => filled_calls es.length (-1) w' (by omega))) ?_
    rintro _ _ ⟨gr, rfl, rfl⟩
    refine Flow.pur rfl rfl rfl (p_struct (cs := #[_, _, _, _]) rfl rfl bs55 rfl rfl) ?_
    refine Flow.new' rfl rfl rfl rfl (n_alloc rfl ze55 rfl) fun g6 => ?_
    refine Flow.sto (V := [blk g6 55 #[.slice none 0 0, .slice none 0 0, .slice none 0 0, .slice none 0 0], blk gr _ _, blk gh _ _, blk ga _ _, blk g4 _ _, blk M.gp _ _, blk M.g0 _ _, blk M.g1 _ _, blk M.g2 _ _, blk M.g3 _ _, blk g2 _ _, blk g1 25 #[.int .i64 (Nn : Int), .slice A es.length cap]]) rfl rfl rfl rfl rfl (s_stores (cs' := #[_, _, _, _]) rfl rfl rfl sz55 rfl (Nat.le_of_ble_eq_true rfl) rfl) (fun w hw => hw.pick (.nil)) ?_
    refine Flow.end rfl ?_
    simp only [List.map_cons, List.map_nil, List.nil_append, List.cons_append, List.append_nil]
    refine Fin.then ?_
    refine DC.seq ?_
    refine DC.region ?_
    refine Seq.new rfl rfl (n_alloc rfl ze87 rfl) fun g7 => ?_
    refine Seq.nil ?_
    refine Fin.then ?_
    refine DC.seq ?_
    refine DC.region ?_
    refine Seq.pur rfl rfl (p_func rfl rfl rfl) ?_
    refine Seq.pur rfl rfl (p_assign rfl rfl) ?_
    refine Seq.nil ?_
    refine Fin.then ?_
    refine DC.seq ?_
    refine DC.seq ?_
    refine DC.region ?_
    refine Seq.pur rfl rfl (p_field rfl rfl fi25_0 (by first | exact add_at0 _ _ | exact add_at _ _ _ | rfl)) ?_
    refine Seq.val rfl rfl (v_load rfl rfl ag3 (by first | exact has_blk rfl | exact has_old' (by assumption))) ?_
    refine Seq.pur rfl rfl (p_move rfl rfl) ?_
    refine Seq.nil ?_
    refine Fin.then ?_
    refine DC.block ?_
    obtain ⟨sf, hR0, hIf⟩ := walk_total hV
    refine DC.own (fun w hw => own_nil (t := 3) (m := 1) (own_nil (t := 90) (m := 2) hw)) ?_
    refine DC.loop (ι := WI) (fun i => i.v ≤ Nn ∧ Rts es Nn i.v i.s sf ∧ Inv Nn es.length (es.length + i.v) i.s)
      (fun i => [(2, .pointer (some ⟨g2, 0, none⟩)), (4, .pointer (some ⟨g4, 0, none⟩)), (6, .pointer (some ⟨g6, 0, none⟩)), (7, .pointer (some ⟨g7, 0, none⟩)), (8, .func (.func 64) #[] #[.pointer (some ⟨g6, 0, none⟩), .pointer (some ⟨g7, 0, none⟩), .pointer (some ⟨g4, 0, none⟩)]), (34, .int .i64 (Nn : Int)), (35, .int .i64 i.v)])
      (fun i => walkL ⟨g6, g7, g4, ga, gh, gr⟩ M i.vo i.vw i.s [] ++ [blk g2 55 #[.slice none 0 0, .slice none 0 0, .slice none 0 0, .slice none 0 0]])
      (fun i => Nn - i.v) ⟨0, start Nn es.length, .slice none 0 0, .slice none 0 0⟩ ⟨Nat.zero_le _, hR0, by simpa using inv_start⟩ ⟨rfl, rfl, rfl, rfl, rfl, rfl, rfl, trivial⟩ ?_ ?_
    · simp only [walkL, List.cons_append, List.nil_append]
      exact .cons' 3 rfl (by simp [start, sl]) (.cons' 5 rfl (by simp [start]) (.cons' 4 rfl (by simp [start]) (.cons' 0 rfl rfl (.cons' 2 rfl (by simp [start]) (.cons 1 rfl (.cons 0 rfl (.cons 0 rfl (.cons' 0 rfl rfl (.cons' 0 rfl rfl (.cons' 0 rfl rfl (.cons' 0 rfl rfl (.cons' 0 rfl rfl (.cons 0 rfl .nil)))))))))))))
    rintro ⟨v, s, vo, vw⟩ ⟨hv, hR, hI⟩
    dsimp only at hv hR hI ⊢
    simp only [walkL, List.cons_append, List.nil_append]
    refine DC.seq ?_
    refine DC.region ?_
    refine Seq.pur rfl rfl (p_lss rfl rfl rfl) ?_
    refine Seq.nil ?_
    refine Fin.then ?_
    refine DC.seq ?_
    refine DC.cond rfl (fun c8 => ?_) (fun c8 => ?_)
    · have hlt : v < Nn := by simpa using c8
      have hat := hI.at (v := v) (by omega) (by omega)
      have hhl := hI.hel
      refine DC.skip ?_
      refine Fin.then ?_
      refine DC.seq ?_
      refine DC.block ?_
      refine DC.seq ?_
      refine DC.region ?_
      refine Seq.pur rfl rfl (p_move rfl rfl) ?_
      refine Seq.pur rfl rfl (p_assign rfl rfl) ?_
      refine Seq.nil ?_
      refine Fin.then ?_
      refine DC.seq ?_
      refine DC.seq ?_
      refine DC.region ?_
      refine Seq.pur rfl rfl (p_field rfl rfl fi55_1 (by first | exact add_at0 _ _ | exact add_at _ _ _ | rfl)) ?_
      refine Seq.val rfl rfl (v_load rfl rfl ag34 (by first | exact has_blk rfl | exact has_old' (by assumption))) ?_
      refine Seq.pur rfl rfl (p_move rfl rfl) ?_
      refine Seq.pur rfl rfl (p_index1 (ad' := ⟨gh, v, none⟩) rfl rfl rfl Try.underlying34 sz3 (by omega) (by omega) (by rw [add_at0]; rfl)) ?_
      refine Seq.val rfl rfl (v_load rfl rfl ag3 (has_row (ints_arr hat.1))) ?_
      refine Seq.pur rfl rfl (p_geq rfl rfl rfl) ?_
      refine Seq.nil ?_
      refine Fin.then ?_
      refine DC.cond rfl (fun c10 => ?_) (fun c10 => ?_)
      · refine DC.exit ?_
        refine Fin.exit_then <| Fin.exit_here <| ?_
        refine Fin.then ?_
        refine DC.region ?_
        refine Seq.pur rfl rfl (p_add rfl rfl rfl (by omega)) ?_
        refine Seq.pur rfl rfl (p_move rfl rfl) ?_
        refine Seq.nil ?_
        have h0 : 0 ≤ getI s.he v := by simpa using c10
        refine Fin.again (WI.mk (v + 1) s vo vw) (by dsimp only; omega) ⟨by dsimp only; omega, rts_skip hR (by omega) h0, hI.more 1⟩ ⟨rfl, rfl, rfl, rfl, rfl, rfl, rfl, trivial⟩ (Pick.all _)
      · have h0 : getI s.he v < 0 := by simp at c10; omega
        obtain ⟨s1, hD, hR1⟩ := rts_root hR (by omega) h0
        have hfewc := hI.few
        have hu0 : unset s.oi ≤ s.oi.length := List.countP_le_length
        have hI1 : Inv Nn es.length (es.length + (v + 1)) (s.enter v (-1) 0) := (hI.more 1).enter (by omega) (by rw [hI.oil] at hu0; omega) (by omega)
        refine DC.skip ?_
        refine Fin.then ?_
        refine DC.seq ?_
        refine DC.region ?_
        refine Seq.pur rfl rfl (p_move rfl rfl) ?_
        refine Seq.pur rfl rfl (p_move rfl rfl) ?_
        -- calls tangram/dfs.Walk$1
        refine Seq.gen rfl rfl (g_call en64 rfl rfl rfl (Lc := walkL ⟨g6, g7, g4, ga, gh, gr⟩ M vo vw s []) (F := [blk g2 _ _]) (.refl _) (fun _ h => h) (fun w hw => reach_calls (hw.sub (List.sublist_append_left _ [_])).self hP hI (by omega) (by omega) (by omega) (by simp))) ?_
        rintro _ _ ⟨_, ⟨rfl, vo1, vw1, rfl⟩, rfl⟩
        refine Seq.nil ?_
        refine Fin.then ?_
        refine DC.block ?_
        refine DC.loop (ι := WJ) (fun j => kOk Nn es j.k ∧ Inv Nn es.length (es.length + (v + 1)) j.s ∧ j.k.length + unset j.s.oi ≤ es.length + 1 ∧ Stk es j.k j.s s1)
          (fun j => [(2, .pointer (some ⟨g2, 0, none⟩)), (4, .pointer (some ⟨g4, 0, none⟩)), (6, .pointer (some ⟨g6, 0, none⟩)), (7, .pointer (some ⟨g7, 0, none⟩)), (8, .func (.func 64) #[] #[.pointer (some ⟨g6, 0, none⟩), .pointer (some ⟨g7, 0, none⟩), .pointer (some ⟨g4, 0, none⟩)]), (34, .int .i64 (Nn : Int)), (35, .int .i64 v)])
          (fun j => walkL ⟨g6, g7, g4, ga, gh, gr⟩ M j.vo j.vw j.s (wayOf j.k) ++ [blk g2 55 #[.slice none 0 0, .slice none 0 0, .slice none 0 0, .slice none 0 0]])
          (fun j => phi es j.k j.s) ⟨s.enter v (-1) 0, vo1, vw1, [((v : Int), outs es v)]⟩ ⟨by intro p hp; simp at hp; subst hp; exact ⟨by omega, by omega, [], rfl⟩, hI1, ?_, .cons hD .nil⟩ ⟨rfl, rfl, rfl, rfl, rfl, rfl, rfl, trivial⟩ (Pick.all _) ?_
        · show 1 + unset s.oi ≤ es.length + 1
          rw [hI.oil] at hu0; omega
        rintro ⟨s, vo, vw, k⟩ ⟨hk, hI, hku, hS⟩
        dsimp only at hk hI hku hS ⊢
        simp only [walkL, List.cons_append, List.nil_append]
        refine DC.seq ?_
        refine DC.seq ?_
        refine DC.region ?_
        -- calls (*tangram/dfs.stack[tangram/dfs.look]).some
        refine Seq.rel0 rfl rfl (r_call en66 rfl rfl rfl (fun w hw => some_calls (hw.pick (.cons 5 rfl (.cons 5 rfl .nil))).self)) ?_
        rintro _ rfl
        refine Seq.nil ?_
        refine Fin.then ?_
        refine DC.cond rfl (fun c12 => ?_) (fun c12 => ?_)
        · simp only [decide_eq_true_eq] at c12
          obtain ⟨⟨v', l⟩, k', rfl⟩ : ∃ p k', k = p :: k' := by
            cases k with
            | nil => exact absurd rfl c12
            | cons p k' => exact ⟨p, k', rfl⟩
          rw [wayOf_cons]
          have hkp := hk (v', l) (List.mem_cons_self ..)
          obtain ⟨hv0, hv1, q, hq⟩ := hkp
          dsimp only at hv0 hv1 hq
          obtain ⟨sx, r1, rS⟩ : ∃ sx, Dfs es v' l s sx ∧ Stk es k' sx s1 := by
            cases hS with
            | cons a b => exact ⟨_, a, b⟩
          refine DC.own (fun w hw => hw.pick (.cons 6 rfl (Pick.all _))) ?_
          simp only [List.eraseIdx_cons_succ, List.eraseIdx_cons_zero]
          refine DC.open (fun _ h => absurd (congrArg List.length h) (by simp)) ?_
          rintro gw len cw sp rfl hlen hlc' hcw hsp
          obtain rfl : len = (wayOf k').length + 1 := by simp at hlen; omega
          refine DC.skip ?_
          refine Fin.then ?_
          refine DC.block ?_
          refine DC.seq ?_
          refine DC.region ?_
          -- calls (*tangram/dfs.stack[tangram/dfs.look]).top
          refine Seq.rel0 rfl rfl (r_call en67 rfl rfl rfl (fun w hw => top_calls (gw := gw) (len := (wayOf k').length + 1) (cap := cw) (own_blk g7 hw) (by omega) (by have := hku; simp at this; simp [wayOf]; omega))) ?_
          rintro _ rfl
          refine Seq.pur rfl rfl (p_assign rfl rfl) ?_
          refine Seq.nil ?_
          refine Fin.then ?_
          refine DC.seq ?_
          refine DC.region ?_
          refine Seq.pur rfl rfl (p_move rfl rfl) ?_
          refine Seq.pur rfl rfl (p_nil rfl rfl) ?_
          refine Seq.pur rfl rfl (p_field rfl rfl fi90_1 (by first | exact add_at0 _ _ | exact add_at _ _ _ | rfl)) ?_
          refine Seq.val rfl rfl (v_load rfl rfl ag3 (has_row (prs_last _ _ _ _).2)) ?_
          refine Seq.pur rfl rfl (p_assign rfl rfl) ?_
          refine Seq.nil ?_
          refine Fin.then ?_
          refine DC.seq ?_
          refine DC.seq ?_
          refine DC.region ?_
          refine Seq.pur rfl rfl (p_move rfl rfl) ?_
          refine Seq.pur rfl rfl (p_lss rfl rfl rfl) ?_
          refine Seq.nil ?_
          refine Fin.then ?_
          refine DC.cond rfl (fun c15 => ?_) (fun c15 => ?_)
          · have hl0 : l = [] := by
              cases l with
              | nil => rfl
              | cons h l =>
                have := (mem_outs hV (v := v') (h := h)).1 (by rw [hq]; simp)
                simp at c15; omega
            subst hl0
            cases r1
            refine DC.seq ?_
            refine DC.region ?_
            -- calls (*tangram/dfs.stack[tangram/dfs.look]).pop
            refine Seq.gen rfl rfl (g_call' en68 rfl rfl rfl (Lc := [blk g7 87 #[.slice (some ⟨gw, 0, none⟩) ((wayOf k').length + 1) cw]]) (F := [blk gw _ _, blk g6 _ _, blk ga _ _, blk gh _ _, slc _ _ _ _, blk gr _ _, blk g4 _ _, blk M.gp _ _, blk M.g0 _ _, blk M.g1 _ _, blk M.g2 _ _, blk M.g3 _ _, blk g2 _ _]) (fun w hw => hw.pick (.cons 6 rfl (Pick.all _))) (fun _ h => h) (fun w hw => pop_calls (hw.sub (List.sublist_append_left [_] _)).self (by omega) (by have := hku; simp at this; simp [wayOf]; omega) hlc')) ?_
            rintro _ _ ⟨_, ⟨rfl, rfl⟩, rfl⟩
            refine Seq.nil ?_
            refine Fin.then ?_
            refine DC.exit ?_
            refine Fin.exit_then <| Fin.exit_here <| ?_
            refine Fin.own (fun w hw => close_pop hlc' hcw hsp (hw.pick (.cons 1 rfl (Pick.all _)))) ?_
            refine Fin.again (WJ.mk s vo (.slice (some ⟨gw, 0, none⟩) (wayOf k').length cw) k') (by simp [phi]) ⟨fun p hp => hk p (List.mem_cons_of_mem _ hp), hI, by simp at hku ⊢; omega, rS⟩ ⟨rfl, rfl, rfl, rfl, rfl, rfl, rfl, trivial⟩
              (.cons 2 rfl (.cons 2 rfl (.cons 2 rfl (.cons 2 rfl (.cons 2 rfl (.cons 1 rfl (.cons 0 rfl (Pick.all _))))))))
          · obtain ⟨h, l', rfl⟩ : ∃ h l', l = h :: l' := by
              cases l with
              | nil => simp at c15
              | cons h l => exact ⟨h, l, rfl⟩
            have hm := (mem_outs hV (v := v') (h := h)).1 (by rw [hq]; simp)
            obtain ⟨hm0, hm1, hm2⟩ := hm
            simp only [List.getElem?_cons_zero, Option.getD_some] at *
            have hol := hI.oil
            have hhl := hI.hel
            have hoi : s.oi[(h / 2).toNat]? = some (getI s.oi (h / 2)) := getI_some (by omega)
            refine DC.skip ?_
            refine Fin.then ?_
            refine DC.seq ?_
            refine DC.region ?_
            refine Seq.pur rfl rfl (p_move rfl rfl) ?_
            refine Seq.val rfl rfl (v_load rfl rfl ag26 (by first | exact has_blk rfl | exact has_old' (by assumption))) ?_
            refine Seq.pur rfl rfl (p_move rfl rfl) ?_
            -- calls (*tangram/csr.Adj).After
            refine Seq.rel0 rfl rfl (r_call en23 rfl rfl rfl (fun w hw => After_calls (own_adj hw (.cons 8 rfl (.cons 8 rfl (.cons 8 rfl (.cons 8 rfl (.cons 8 rfl .nil))))) hP) h)) ?_
            rintro _ ⟨r, rfl, hr1, hr2⟩
            have hrv : r = (l'[0]?).getD (-1) := by
              have h5 : (outs es v')[q.length]? = some h := by rw [hq]; simp
              have h6 := hr1 v' q.length h5
              rw [h6, hq, List.getElem?_append_right (by omega), show q.length + 1 - q.length = 1 by omega]; rfl
            have hsp' : (prs (wayOf k' ++ [(v', r)])).length + sp.length = cw * 2 := by simpa using hsp
            refine Seq.pur rfl rfl (p_nil rfl rfl) ?_
            refine Seq.pur rfl rfl (p_field rfl rfl fi90_1 (by first | exact add_at0 _ _ | exact add_at _ _ _ | rfl)) ?_
            refine Seq.sto rfl rfl (s_store (cs' := (prs (wayOf k' ++ [(v', r)]) ++ sp).toArray) rfl rfl rfl sz3 rfl (by simp at hsp ⊢; omega) (prs_lset _ _ _ _ _)) ?_
            refine Seq.nil ?_
            refine Fin.then ?_
            refine DC.seq ?_
            refine DC.seq ?_
            refine DC.region ?_
            refine Seq.pur rfl rfl (p_field rfl rfl fi55_3 (by first | exact add_at0 _ _ | exact add_at _ _ _ | rfl)) ?_
            refine Seq.val rfl rfl (v_load rfl rfl ag34 (by first | exact has_blk rfl | exact has_old' (by assumption))) ?_
            refine Seq.pur rfl rfl (p_move rfl rfl) ?_
            refine Seq.pur rfl rfl (p_quo rfl rfl rfl (by omega) (by omega)) ?_
            refine Seq.pur rfl rfl (p_index1 (ad' := ⟨gr, (h / 2).toNat, none⟩) rfl rfl rfl Try.underlying34 sz3 (by omega) (by omega) (by rw [add_at0])) ?_
            refine Seq.val rfl rfl (v_load rfl rfl ag3 (has_row (ints_arr hoi))) ?_
            refine Seq.pur rfl rfl (p_geq rfl rfl rfl) ?_
            refine Seq.nil ?_
            refine Fin.then ?_
            refine DC.cond rfl (fun c18 => ?_) (fun c18 => ?_)
            · refine DC.exit ?_
              refine Fin.exit_then <| Fin.exit_here <| ?_
              have ho : 0 ≤ getI s.oi (h / 2) := by simpa using c18
              have rr : Dfs es v' l' s sx := by
                cases r1 with
                | seen _ r => exact r
                | back ho' _ _ => omega
                | tree ho' _ _ _ => omega
              refine Fin.own (fun w hw => close_way hlc' hcw hsp' hw) ?_
              refine Fin.again (WJ.mk s vo (.slice (some ⟨gw, 0, none⟩) ((wayOf k').length + 1) cw) ((v', l') :: k')) (by simp [phi]) ⟨?_, hI, hku, .cons rr rS⟩ ⟨rfl, rfl, rfl, rfl, rfl, rfl, rfl, trivial⟩
                (.cons 1 rfl (.cons 1 rfl (.cons 1 rfl (.cons 1 rfl (.cons 1 rfl (.cons 1 rfl (.cons' 0 rfl (by rw [wayOf_cons, hrv]) (Pick.all _))))))))
              intro p hp
              rcases List.mem_cons.1 hp with rfl | hp
              · exact ⟨hv0, hv1, q ++ [h], by simp [hq]⟩
              · exact hk p (List.mem_cons_of_mem _ hp)
            · have ho : getI s.oi (h / 2) < 0 := by simp at c18; omega
              obtain ⟨hI1, hu1⟩ := hI.ori hm0 ho
              have htv := toV_range hV hm0 hm1
              have hatw := hI.at htv.1 htv.2
              have hatv := hI.at hv0 hv1
              refine DC.skip ?_
              refine Fin.then ?_
              refine DC.seq ?_
              refine DC.region ?_
              refine Seq.pur rfl rfl (p_field rfl rfl fi55_3 (by first | exact add_at0 _ _ | exact add_at _ _ _ | rfl)) ?_
              refine Seq.val rfl rfl (v_load rfl rfl ag34 (by first | exact has_blk rfl | exact has_old' (by assumption))) ?_
              refine Seq.pur rfl rfl (p_move rfl rfl) ?_
              refine Seq.pur rfl rfl (p_quo rfl rfl rfl (by omega) (by omega)) ?_
              refine Seq.pur rfl rfl (p_move rfl rfl) ?_
              refine Seq.pur rfl rfl (p_index1 (ad' := ⟨gr, (h / 2).toNat, none⟩) rfl rfl rfl Try.underlying34 sz3 (by omega) (by omega) (by rw [add_at0])) ?_
              refine Seq.sto rfl rfl (s_store (cs' := (ints (s.oi.set (h / 2).toNat h)).toArray) rfl rfl rfl sz3 rfl (by simp; omega) row_set0) ?_
              refine Seq.nil ?_
              refine Fin.then ?_
              refine DC.seq ?_
              refine DC.region ?_
              refine Seq.val rfl rfl (v_load rfl rfl ag26 (by first | exact has_blk rfl | exact has_old' (by assumption))) ?_
              refine Seq.pur rfl rfl (p_move rfl rfl) ?_
              -- calls (*tangram/csr.Adj).To
              refine Seq.rel0 rfl rfl (r_call en22 rfl rfl rfl (fun w hw => To_calls (own_adj hw (.cons 8 rfl (.cons 8 rfl (.cons 8 rfl (.cons 8 rfl (.cons 8 rfl .nil))))) hP) h)) ?_
              rintro _ rfl
              refine Seq.pur rfl rfl (p_assign rfl rfl) ?_
              refine Seq.nil ?_
              refine Fin.then ?_
              refine DC.seq ?_
              refine DC.region ?_
              refine Seq.pur rfl rfl (p_field rfl rfl fi55_1 (by first | exact add_at0 _ _ | exact add_at _ _ _ | rfl)) ?_
              refine Seq.val rfl rfl (v_load rfl rfl ag34 (by first | exact has_blk rfl | exact has_old' (by assumption))) ?_
              refine Seq.pur rfl rfl (p_move rfl rfl) ?_
              refine Seq.pur rfl rfl (p_index1 (ad' := ⟨gh, (toV es h).toNat, none⟩) rfl rfl rfl Try.underlying34 sz3 (by omega) (by omega) (by rw [add_at0])) ?_
              refine Seq.val rfl rfl (v_load rfl rfl ag3 (has_row (ints_arr hatw.1))) ?_
              refine Seq.pur rfl rfl (p_lss rfl rfl rfl) ?_
              refine Seq.nil ?_
              refine Fin.then ?_
              refine DC.cond rfl (fun c21 => ?_) (fun c21 => ?_)
              · refine DC.flow (cl := [.q, .q, .q, .q, .v, .q, .q, .q, .v, .q, .v, .q, .g]) (A := [0, 0, 0, 0, 8, 0, 32, 96, 224, 504, 1016, 2040, 4095]) (order := [0, 1, 2, 3, 4, 5, 6, 7, 8, 9, 10, 11, 12]) [] mixed (by kernel_rfl) (fun w hw => hw.pick .nil) ?_
                refine Flow.pur rfl rfl rfl (p_move rfl rfl) ?_
                refine Flow.pur rfl rfl rfl (p_move rfl rfl) ?_
                refine Flow.pur rfl rfl rfl (p_move rfl rfl) ?_
                refine Flow.pur rfl rfl rfl (p_field rfl rfl fi55_1 (by first | exact add_at0 _ _ | exact add_at _ _ _ | rfl)) ?_
                refine Flow.valS rfl rfl rfl rfl (v_load rfl rfl ag34 (by first | exact has_blk rfl | exact has_old' (by assumption))) ?_
                refine Flow.pur rfl rfl rfl (p_move rfl rfl) ?_
                refine Flow.pur rfl rfl rfl (p_nil rfl rfl) ?_
                refine Flow.pur rfl rfl rfl (p_field rfl rfl fi90_0 (by first | exact add_at0 _ _ | exact add_at _ _ _ | rfl)) ?_
                refine Flow.valS rfl rfl rfl rfl (v_load rfl rfl ag3 (has_row (prs_last _ _ _ _).1)) ?_
                refine Flow.pur rfl rfl rfl (p_index1 (ad' := ⟨gh, v'.toNat, none⟩) rfl rfl rfl Try.underlying34 sz3 (by omega) (by omega) (by rw [add_at0])) ?_
                refine Flow.valS rfl rfl rfl rfl (v_load rfl rfl ag3 (has_row (ints_arr hatv.1))) ?_
                refine Flow.pur rfl rfl rfl (p_add rfl rfl rfl (by omega)) ?_
                -- calls tangram/dfs.Walk$1
                refine Flow.gen0 rfl rfl rfl rfl (g_call' en64 rfl rfl rfl (Lc := walkL ⟨g6, g7, g4, ga, gh, gr⟩ M vo (.slice (some ⟨gw, 0, none⟩) ((wayOf k').length + 1) cw) (s.ori h) (wayOf k' ++ [(v', r)])) (F := [blk g2 55 #[.slice none 0 0, .slice none 0 0, .slice none 0 0, .slice none 0 0]]) (fun w hw => (close_way hlc' hcw hsp' hw).pick (.cons' 1 rfl (by simp [sl, St.ori]) (.cons 1 rfl (.cons 1 rfl (.cons 1 rfl (.cons' 1 rfl rfl (.cons 1 rfl (.cons 0 rfl (Pick.all _))))))))) (fun _ h => h)
                  (fun w hw => reach_calls (hw.sub (List.sublist_append_left _ [_])).self hP hI1 htv.1 htv.2 (by have := hI1.few; omega) (by have := hku; simp at this; simp [wayOf]; omega))) (fun v L' hC w hw => hw.pick (.nil)) ?_
                rintro _ _ ⟨_, ⟨rfl, vo2, vw2, rfl⟩, rfl⟩
                refine Flow.end rfl ?_
                simp only [List.map_cons, List.map_nil, List.nil_append, List.cons_append, List.append_nil]
                refine Fin.inBlock ?_
                have hw0 : getI s.he (toV es h) < 0 := by simpa using c21
                obtain ⟨s2, rr1, rr2⟩ : ∃ s2, Dfs es (toV es h) (outs es (toV es h)) ((s.ori h).enter (toV es h) h (getI s.he v' + 1)) s2 ∧ Dfs es v' l' s2 sx := by
                  cases r1 with
                  | seen ho' _ => omega
                  | back _ hw' _ => omega
                  | tree _ _ a b => exact ⟨_, a, b⟩
                have hI2 : Inv Nn es.length (es.length + (v + 1)) ((s.ori h).enter (toV es h) h (getI s.he v' + 1)) := hI1.enter (by omega) (by omega) (by have := hI.few; show s.od.length + 1 + unset (s.ori h).oi ≤ _; omega)
                have hu2 : unset ((s.ori h).enter (toV es h) h (getI s.he v' + 1)).oi = unset (s.ori h).oi := rfl
                have hol := outs_len es (toV es h)
                refine Fin.again (WJ.mk ((s.ori h).enter (toV es h) h (getI s.he v' + 1)) vo2 vw2 ((toV es h, outs es (toV es h)) :: (v', l') :: k')) ?_ ⟨?_, hI2, ?_, .cons rr1 (.cons rr2 rS)⟩ ⟨rfl, rfl, rfl, rfl, rfl, rfl, rfl, trivial⟩ ?_
                · simp only [phi, hu2, ← hu1, List.map_cons, List.sum_cons, List.length_cons, Nat.add_mul]; omega
                · intro p hp
                  rcases List.mem_cons.1 hp with rfl | hp
                  · exact ⟨htv.1, htv.2, [], rfl⟩
                  · rcases List.mem_cons.1 hp with rfl | hp
                    · exact ⟨hv0, hv1, q ++ [h], by simp [hq]⟩
                    · exact hk p (List.mem_cons_of_mem _ hp)
                · dsimp only
                  rw [hu2]; simp at hku ⊢; omega
                · have e : wayOf ((toV es h, outs es (toV es h)) :: (v', l') :: k') = wayOf k' ++ [(v', r)] ++ [(toV es h, (outs es (toV es h))[0]?.getD (-1))] := by rw [wayOf_cons, wayOf_cons, hrv]
                  dsimp only
                  rw [e]
                  exact Pick.all _
              · refine DC.skip ?_
                refine Fin.inBlock ?_
                have hw0 : 0 ≤ getI s.he (toV es h) := by simp at c21; omega
                have rr : Dfs es v' l' (s.ori h) sx := by
                  cases r1 with
                  | seen ho' _ => omega
                  | back _ _ r => exact r
                  | tree _ hw' _ _ => omega
                refine Fin.own (fun w hw => close_way hlc' hcw hsp' hw) ?_
                refine Fin.again (WJ.mk (s.ori h) vo (.slice (some ⟨gw, 0, none⟩) ((wayOf k').length + 1) cw) ((v', l') :: k')) ?_ ⟨?_, hI1, by simp at hku ⊢; omega, .cons rr rS⟩ ⟨rfl, rfl, rfl, rfl, rfl, rfl, rfl, trivial⟩
                  (.cons' 1 rfl (by simp [sl, St.ori]) (.cons 1 rfl (.cons 1 rfl (.cons 1 rfl (.cons 1 rfl (.cons 1 rfl (.cons' 0 rfl (by rw [wayOf_cons, hrv]) (Pick.all _))))))))
                · simp only [phi, ← hu1, List.map_cons, List.sum_cons, List.length_cons, Nat.add_mul]; omega
                · intro p hp
                  rcases List.mem_cons.1 hp with rfl | hp
                  · exact ⟨hv0, hv1, q ++ [h], by simp [hq]⟩
                  · exact hk p (List.mem_cons_of_mem _ hp)
        · refine DC.exit ?_
          refine Fin.exit_then <| Fin.exit_then <| Fin.exit_here <| ?_
          refine Fin.inBlock ?_
          refine Fin.then ?_
          refine DC.region ?_
          refine Seq.pur rfl rfl (p_add rfl rfl rfl (by omega)) ?_
          refine Seq.pur rfl rfl (p_move rfl rfl) ?_
          refine Seq.nil ?_
          have hk0 : k = [] := by
            cases k with
            | nil => rfl
            | cons p k => simp [wayOf] at c12
          subst hk0
          obtain rfl : s = s1 := by cases hS; rfl
          refine Fin.again (WI.mk (v + 1) s vo vw) (by dsimp only; omega) ⟨by dsimp only; omega, hR1, hI⟩ ⟨rfl, rfl, rfl, rfl, rfl, rfl, rfl, trivial⟩ (Pick.all _)
    · obtain rfl : v = Nn := by simp at c8; omega
      obtain rfl := rts_done hR (by omega)
      refine DC.shape 3 rfl ?_
      rintro ⟨A3, l3, c3, rfl⟩
      refine DC.exit ?_
      refine Fin.exit_then <| Fin.exit_then <| Fin.exit_here <| ?_
      refine Fin.then ?_
      refine DC.seq ?_
      refine DC.region ?_
      refine Seq.val rfl rfl (v_loads (vs := [_, _, _, _]) rfl rfl ag55 sz55 rfl (hass_blk rfl)) ?_
      refine Seq.sto rfl rfl (s_stores (cs' := #[_, _, _, _]) rfl rfl rfl sz55 rfl (Nat.le_of_ble_eq_true rfl) rfl) ?_
      refine Seq.pur rfl rfl (p_assign rfl rfl) ?_
      refine Seq.nil ?_
      refine Fin.then ?_
      refine DC.ret ?_
      refine Fin.endct (cs := #[_, _, _, _]) (.inl rfl) rfl rfl rfl ag55 sz55 ?_
      refine ⟨_, fun w hw => ?_, .inr ⟨hV, s, _, _, _, _, hR0, hIf, rfl, rfl⟩⟩
      have k1 : Own _ _ w (slc _ _ _ _ :: _) := own_sl (by rw [hIf.oil]; omega) (hw.pick (.cons 4 rfl (Pick.all _)))
      have k2 : Own _ _ w (slc _ _ _ _ :: _) := own_sl (by rw [hIf.hel]; omega) (k1.pick (.cons 3 rfl (Pick.all _)))
      have k3 : Own _ _ w (slc _ _ _ _ :: _) := own_sl (by rw [hIf.pal]; omega) (k2.pick (.cons 3 rfl (Pick.all _)))
      exact k3.pick (.cons 0 rfl (.cons 0 rfl (.cons 2 rfl (.cons 0 rfl .nil))))
end Go.Fl
