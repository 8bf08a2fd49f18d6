/- The small functions of forests: Back, Same, SameInts, Copy. -/
import Derived.Test.YtbkhejfnhbjhpaaFlFo
import Derived.Test.YtbkhejfnhbjhpaaTypes
set_option linter.unusedVariables false
set_option linter.unusedSimpArgs false
set_option maxRecDepth 100000
namespace Go.Fl
open Go Go.Proofs

theorem SameInts_calls {w : World} {va vb : Value} {xs ys : List Int} (hx : SlV w va xs) (hy : SlV w vb ys) :
    Calls Try.prog 50 #[va, vb] w (Ret w [] fun v L => L = [] ∧ v = .bool (decide (xs = ys))) := by
  obtain ⟨A, ca, rfl, hra, ha1, ha2, ha3⟩ := hx
  obtain ⟨B, cb, rfl, hrb, hb1, hb2, hb3⟩ := hy
  refine calls_of (args := [_, _]) (L := []) Try.func50 rfl Try.ntmps50 rfl (Own.start _ _) ?_
  refine DC.seq ?_
  refine DC.region ?_
  refine Seq.pur rfl rfl (p_assign rfl rfl) ?_
  refine Seq.nil ?_
  refine Fin.then ?_
  refine DC.seq ?_
  refine DC.seq ?_
  refine DC.region ?_
  refine Seq.pur rfl rfl (p_move rfl rfl) ?_
  refine Seq.pur rfl rfl (p_len rfl rfl Try.underlying34) ?_
  refine Seq.pur rfl rfl (p_move rfl rfl) ?_
  refine Seq.pur rfl rfl (p_len rfl rfl Try.underlying34) ?_
  refine Seq.pur rfl rfl (p_neq rfl rfl rfl) ?_
  refine Seq.nil ?_
  refine Fin.then ?_
  refine DC.cond rfl (fun c1 => ?_) (fun c1 => ?_)
  · refine DC.seq ?_
    refine DC.region ?_
    refine Seq.pur rfl rfl (p_assign rfl rfl) ?_
    refine Seq.nil ?_
    refine Fin.then ?_
    refine DC.ret ?_
    refine Fin.ret_then <| ?_
    refine Fin.end1 (.inl rfl) rfl rfl ?_
    exact ⟨rfl, by congr 1; symm; simp at c1 ⊢; intro h; rw [h] at c1; exact c1 rfl⟩
  · have hl : xs.length = ys.length := by simp at c1; omega
    refine DC.skip ?_
    refine Fin.then ?_
    refine DC.seq ?_
    refine DC.seq ?_
    refine DC.region ?_
    refine Seq.pur rfl rfl (p_assign rfl rfl) ?_
    refine Seq.nil ?_
    refine Fin.then ?_
    refine DC.block ?_
    refine DC.loop (ι := Nat) (fun i => i ≤ xs.length ∧ ∀ j : Nat, j < i → xs[j]? = ys[j]?)
      (fun i => [(0, .slice A xs.length ca), (1, .slice B ys.length cb), (5, .int .i64 i)])
      (fun i => []) (fun i => xs.length - i) 0 ⟨Nat.zero_le _, fun _ h => absurd h (Nat.not_lt_zero _)⟩
      ⟨rfl, rfl, rfl, trivial⟩ .nil ?_
    rintro i ⟨hi, hok⟩
    refine DC.seq ?_
    refine DC.seq ?_
    refine DC.region ?_
    refine Seq.pur rfl rfl (p_move rfl rfl) ?_
    refine Seq.pur rfl rfl (p_move rfl rfl) ?_
    refine Seq.pur rfl rfl (p_len rfl rfl Try.underlying34) ?_
    refine Seq.pur rfl rfl (p_lss rfl rfl rfl) ?_
    refine Seq.nil ?_
    refine Fin.then ?_
    refine DC.cond rfl (fun c4 => ?_) (fun c4 => ?_)
    · have hlt : i < xs.length := by simpa using c4
      obtain ⟨x, hx⟩ : ∃ x, xs[i]? = some x := ⟨_, List.getElem?_eq_getElem hlt⟩
      obtain ⟨y, hy⟩ : ∃ y, ys[i]? = some y := ⟨_, List.getElem?_eq_getElem (by omega)⟩
      obtain ⟨ad, rfl, hX⟩ := hra.int hx
      obtain ⟨bd, rfl, hY⟩ := hrb.int hy
      refine DC.skip ?_
      refine Fin.then ?_
      refine DC.seq ?_
      refine DC.block ?_
      refine DC.seq ?_
      refine DC.flow (cl := [.q, .q, .q, .v, .q, .q, .q, .v, .q]) (A := [0, 0, 3, 7, 0, 0, 48, 112, 255]) (order := [0, 1, 2, 3, 4, 5, 6, 7, 8]) [] mixed (by kernel_rfl) (fun w hw => hw.pick .nil) ?_
      refine Flow.pur rfl rfl rfl (p_move rfl rfl) ?_
      refine Flow.pur rfl rfl rfl (p_move rfl rfl) ?_
      refine Flow.pur rfl rfl rfl (p_index1 (ad' := ad.add i) rfl rfl rfl Try.underlying34 sz3 (by omega) (by omega) rfl) ?_
      refine Flow.old rfl rfl rfl (v_load rfl rfl ag3 (has_old' hX)) ?_
      refine Flow.pur rfl rfl rfl (p_move rfl rfl) ?_
      refine Flow.pur rfl rfl rfl (p_move rfl rfl) ?_
      refine Flow.pur rfl rfl rfl (p_index1 (ad' := bd.add i) rfl rfl rfl Try.underlying34 sz3 (by omega) (by omega) rfl) ?_
      refine Flow.old rfl rfl rfl (v_load rfl rfl ag3 (has_old' hY)) ?_
      refine Flow.pur rfl rfl rfl (p_neq rfl rfl rfl) ?_
      refine Flow.end rfl ?_
      simp only [List.map_cons, List.map_nil, List.nil_append, List.cons_append, List.append_nil]
      refine Fin.then ?_
      refine DC.cond rfl (fun c6 => ?_) (fun c6 => ?_)
      · refine DC.seq ?_
        refine DC.region ?_
        refine Seq.pur rfl rfl (p_assign rfl rfl) ?_
        refine Seq.nil ?_
        refine Fin.then ?_
        refine DC.ret ?_
        refine Fin.ret_block <| Fin.ret_then <| Fin.ret_then <| Fin.ret_block <| Fin.ret_then <| ?_
        refine Fin.end1 (.inl rfl) rfl rfl ?_
        refine ⟨rfl, by congr 1; symm; simp at c6 ⊢; intro h; subst h; rw [hx] at hy; exact c6 (Option.some.inj hy)⟩
      · refine DC.skip ?_
        refine Fin.inBlock ?_
        refine Fin.then ?_
        refine DC.region ?_
        refine Seq.pur rfl rfl (p_move rfl rfl) ?_
        refine Seq.pur rfl rfl (p_add rfl rfl rfl (by omega)) ?_
        refine Seq.pur rfl rfl (p_assign rfl rfl) ?_
        refine Seq.nil ?_
        refine Fin.again (i + 1) (by omega) ⟨by omega, fun j hj => ?_⟩ ⟨rfl, rfl, rfl, trivial⟩ .nil
        rcases Nat.lt_succ_iff_lt_or_eq.1 hj with hj | rfl
        · exact hok j hj
        · rw [hx, hy]; simp at c6; rw [c6]
    · refine DC.exit ?_
      refine Fin.exit_then <| Fin.exit_then <| Fin.exit_here <| ?_
      refine Fin.then ?_
      refine DC.seq ?_
      refine DC.region ?_
      refine Seq.pur rfl rfl (p_assign rfl rfl) ?_
      refine Seq.nil ?_
      refine Fin.then ?_
      refine DC.ret ?_
      refine Fin.end1 (.inl rfl) rfl rfl ?_
      have hie : i = xs.length := by simp at c4; omega
      subst hie
      refine ⟨rfl, by congr 1; symm; rw [decide_eq_true_eq]; apply List.ext_getElem?; intro j; by_cases hj : j < xs.length; exact hok j hj; rw [List.getElem?_eq_none (by omega), List.getElem?_eq_none (by omega)]⟩

def backB (pa oi : List Int) (e : Int) : Bool := if 0 ≤ e ∧ e < oi.length then decide (¬ (oi[e.toNat]?.getD 0) ∈ pa) else false
theorem backB_t {pa oi : List Int} {e : Nat} {h : Int} (ho : oi[e]? = some h) (hn : ∀ j : Nat, j < pa.length → pa[j]? ≠ some h) : backB pa oi e = true := by
  have h1 := (List.getElem?_eq_some_iff.1 ho).1
  unfold backB
  rw [if_pos (by omega)]
  simp only [Int.toNat_natCast, ho, Option.getD_some, decide_eq_true_eq]
  intro hm
  obtain ⟨j, hj⟩ := List.getElem?_of_mem hm
  exact hn j (List.getElem?_eq_some_iff.1 hj).1 hj
theorem backB_f {pa oi : List Int} {e j : Nat} {h : Int} (ho : oi[e]? = some h) (hp : pa[j]? = some h) : backB pa oi e = false := by
  have h1 := (List.getElem?_eq_some_iff.1 ho).1
  unfold backB
  rw [if_pos (by omega)]
  simp only [Int.toNat_natCast, ho, Option.getD_some, decide_eq_false_iff_not, Classical.not_not]
  exact List.mem_of_getElem? hp
theorem backB_o {pa oi : List Int} {e : Int} (h : ¬ (0 ≤ e ∧ e < oi.length)) : backB pa oi e = false := by unfold backB; rw [if_neg h]

section
variable {w : World} {v0 v1 v2 v3 : Value} {pa he od oi : List Int}
theorem Back_calls (e : Int) (h0 : SlV w v0 pa) (h3 : SlV w v3 oi) :
    Calls Try.prog 38 #[.agg #[v0, v1, v2, v3], .int .i64 e] w (Ret w [] fun v L => L = [] ∧ v = .bool (backB pa oi e)) := by
  obtain ⟨A, ca, rfl, hra, ha1, ha2, ha3⟩ := h0
  obtain ⟨B, cb, rfl, hrb, hb1, hb2, hb3⟩ := h3
  refine calls_of (args := [_, _]) (L := []) Try.func38 rfl Try.ntmps38 rfl (Own.start _ _) ?_
  refine DC.seq ?_
  refine DC.region ?_
  refine Seq.new rfl rfl (n_box rfl rfl rfl) fun g2 => ?_
  refine Seq.pur rfl rfl (p_assign rfl rfl) ?_
  refine Seq.nil ?_
  refine Fin.then ?_
  refine DC.seq ?_
  refine DC.seq ?_
  refine DC.region ?_
  refine Seq.pur rfl rfl (p_move rfl rfl) ?_
  refine Seq.pur rfl rfl (p_lss rfl rfl rfl) ?_
  refine Seq.pur rfl rfl (p_move rfl rfl) ?_
  refine Seq.split 9 rfl (fun k1_2 => ?_) (fun k1_2 => ?_)
  · refine Seq.skip rfl rfl ?_
    refine Seq.skip rfl rfl ?_
    refine Seq.skip rfl rfl ?_
    refine Seq.skip rfl rfl ?_
    refine Seq.skip rfl rfl ?_
    refine Seq.pur rfl rfl (p_pick_t rfl rfl rfl) ?_
    refine Seq.nil ?_
    refine Fin.then ?_
    refine DC.cond_t rfl ?_
    refine DC.seq ?_
    refine DC.region ?_
    refine Seq.pur rfl rfl (p_assign rfl rfl) ?_
    refine Seq.nil ?_
    refine Fin.then ?_
    refine DC.ret ?_
    refine Fin.ret_then <| ?_
    refine Fin.weak (E' := [(4, _)]) ⟨rfl, trivial⟩ .nil ?_
    refine Fin.end1 (.inl rfl) rfl rfl ?_
    exact ⟨rfl, by rw [backB_o (by simp at k1_2; omega)]⟩
  · refine Seq.pur rfl rfl (p_move rfl rfl) ?_
    refine Seq.pur rfl rfl (p_field rfl rfl fi55_3 (by first | exact add_at0 _ _ | exact add_at _ _ _ | rfl)) ?_
    refine Seq.val rfl rfl (v_load rfl rfl ag34 (by first | exact has_blk rfl | exact has_old' (by assumption))) ?_
    refine Seq.pur rfl rfl (p_len rfl rfl Try.underlying34) ?_
    refine Seq.pur rfl rfl (p_geq rfl rfl rfl) ?_
    refine Seq.pur rfl rfl (p_pick_f rfl rfl rfl) ?_
    refine Seq.nil ?_
    refine Fin.then ?_
    refine DC.cond rfl (fun c1 => ?_) (fun c1 => ?_)
    · refine DC.seq ?_
      refine DC.region ?_
      refine Seq.pur rfl rfl (p_assign rfl rfl) ?_
      refine Seq.nil ?_
      refine Fin.then ?_
      refine DC.ret ?_
      refine Fin.ret_then <| ?_
      refine Fin.weak (E' := [(4, _)]) ⟨rfl, trivial⟩ .nil ?_
      refine Fin.end1 (.inl rfl) rfl rfl ?_
      exact ⟨rfl, by rw [backB_o (by simp at c1; omega)]⟩
    · obtain ⟨en, rfl⟩ := Int.eq_ofNat_of_zero_le (show 0 ≤ e by simpa using k1_2)
      have hen : en < oi.length := by simpa using c1
      obtain ⟨h, hh⟩ : ∃ h, oi[en]? = some h := ⟨_, List.getElem?_eq_getElem hen⟩
      obtain ⟨bd, rfl, hY⟩ := hrb.int hh
      refine DC.skip ?_
      refine Fin.then ?_
      refine DC.seq ?_
      refine DC.seq ?_
      refine DC.region ?_
      refine Seq.pur rfl rfl (p_field rfl rfl fi55_0 (by first | exact add_at0 _ _ | exact add_at _ _ _ | rfl)) ?_
      refine Seq.val rfl rfl (v_load rfl rfl ag34 (by first | exact has_blk rfl | exact has_old' (by assumption))) ?_
      refine Seq.pur rfl rfl (p_len rfl rfl Try.underlying34) ?_
      refine Seq.pur rfl rfl (p_move rfl rfl) ?_
      refine Seq.nil ?_
      refine Fin.then ?_
      refine DC.block ?_
      refine DC.loop (ι := Nat) (fun i => i ≤ pa.length ∧ ∀ j : Nat, j < i → pa[j]? ≠ some h)
        (fun i => [(1, .int .i64 en), (2, .pointer (some ⟨g2, 0, none⟩)), (17, .slice A pa.length ca), (18, .int .i64 pa.length), (19, .int .i64 i)])
        (fun i => [blk g2 55 #[.slice A pa.length ca, v1, v2, .slice (some bd) oi.length cb]]) (fun i => pa.length - i) 0 ⟨Nat.zero_le _, fun _ h => absurd h (Nat.not_lt_zero _)⟩
        ⟨rfl, rfl, rfl, rfl, rfl, trivial⟩ (.cons 0 rfl .nil) ?_
      rintro i ⟨hi, hok⟩
      refine DC.seq ?_
      refine DC.region ?_
      refine Seq.pur rfl rfl (p_lss rfl rfl rfl) ?_
      refine Seq.nil ?_
      refine Fin.then ?_
      refine DC.seq ?_
      refine DC.cond rfl (fun c4 => ?_) (fun c4 => ?_)
      · have hlt : i < pa.length := by simpa using c4
        obtain ⟨x, hx⟩ : ∃ x, pa[i]? = some x := ⟨_, List.getElem?_eq_getElem hlt⟩
        obtain ⟨ad, rfl, hX⟩ := hra.int hx
        refine DC.skip ?_
        refine Fin.then ?_
        refine DC.seq ?_
        refine DC.block ?_
        refine DC.seq ?_
        refine DC.region ?_
        refine Seq.pur rfl rfl (p_index1 (ad' := ad.add i) rfl rfl rfl Try.underlying34 sz3 (by omega) (by omega) rfl) ?_
        refine Seq.val rfl rfl (v_load rfl rfl ag3 (has_old' hX)) ?_
        refine Seq.pur rfl rfl (p_assign rfl rfl) ?_
        refine Seq.nil ?_
        refine Fin.then ?_
        refine DC.seq ?_
        refine DC.region ?_
        refine Seq.pur rfl rfl (p_move rfl rfl) ?_
        refine Seq.pur rfl rfl (p_field rfl rfl fi55_3 (by first | exact add_at0 _ _ | exact add_at _ _ _ | rfl)) ?_
        refine Seq.val rfl rfl (v_load rfl rfl ag34 (by first | exact has_blk rfl | exact has_old' (by assumption))) ?_
        refine Seq.pur rfl rfl (p_move rfl rfl) ?_
        refine Seq.pur rfl rfl (p_index1 (ad' := bd.add en) rfl rfl rfl Try.underlying34 sz3 (by omega) (by omega) rfl) ?_
        refine Seq.val rfl rfl (v_load rfl rfl ag3 (has_old' hY)) ?_
        refine Seq.pur rfl rfl (p_eql rfl rfl rfl) ?_
        refine Seq.nil ?_
        refine Fin.then ?_
        refine DC.cond rfl (fun c6 => ?_) (fun c6 => ?_)
        · refine DC.seq ?_
          refine DC.region ?_
          refine Seq.pur rfl rfl (p_assign rfl rfl) ?_
          refine Seq.nil ?_
          refine Fin.then ?_
          refine DC.ret ?_
          refine Fin.ret_block <| Fin.ret_then <| Fin.ret_then <| Fin.ret_block <| Fin.ret_then <| ?_
          refine Fin.weak (E' := [(4, _)]) ⟨rfl, trivial⟩ .nil ?_
          refine Fin.end1 (.inl rfl) rfl rfl ?_
          refine ⟨rfl, by simp at c6; subst c6; rw [backB_f hh hx]⟩
        · refine DC.skip ?_
          refine Fin.inBlock ?_
          refine Fin.then ?_
          refine DC.region ?_
          refine Seq.pur rfl rfl (p_add rfl rfl rfl (by omega)) ?_
          refine Seq.pur rfl rfl (p_move rfl rfl) ?_
          refine Seq.nil ?_
          refine Fin.again (i + 1) (by omega) ⟨by omega, fun j hj => ?_⟩ ⟨rfl, rfl, rfl, rfl, rfl, trivial⟩ (.cons 0 rfl .nil)
          rcases Nat.lt_succ_iff_lt_or_eq.1 hj with hj | rfl
          · exact hok j hj
          · rw [hx]; simp at c6 ⊢; exact c6
      · refine DC.exit ?_
        refine Fin.exit_then <| Fin.exit_then <| Fin.exit_here <| ?_
        refine Fin.then ?_
        refine DC.seq ?_
        refine DC.region ?_
        refine Seq.pur rfl rfl (p_assign rfl rfl) ?_
        refine Seq.nil ?_
        refine Fin.then ?_
        refine DC.ret ?_
        refine Fin.weak (E' := [(4, _)]) ⟨rfl, trivial⟩ .nil ?_
        refine Fin.end1 (.inl rfl) rfl rfl ?_
        have hie : i = pa.length := by simp at c4; omega
        subst hie
        refine ⟨rfl, by rw [backB_t hh hok]⟩
theorem rBack_calls (e : Int) (h0 : SlV w v0 pa) (h3 : SlV w v3 oi) :
    Calls Try.prog 40 #[.agg #[v0, v1, v2, v3], .int .i64 e] w (Ret w [] fun v L => L = [] ∧ v = .bool (backB pa oi e)) := by
  obtain ⟨A, ca, rfl, hra, ha1, ha2, ha3⟩ := h0
  obtain ⟨B, cb, rfl, hrb, hb1, hb2, hb3⟩ := h3
  refine calls_of (args := [_, _]) (L := []) Try.func40 rfl Try.ntmps40 rfl (Own.start _ _) ?_
  refine DC.seq ?_
  refine DC.region ?_
  refine Seq.new rfl rfl (n_box rfl rfl rfl) fun g2 => ?_
  refine Seq.pur rfl rfl (p_assign rfl rfl) ?_
  refine Seq.nil ?_
  refine Fin.then ?_
  refine DC.seq ?_
  refine DC.seq ?_
  refine DC.region ?_
  refine Seq.pur rfl rfl (p_move rfl rfl) ?_
  refine Seq.pur rfl rfl (p_lss rfl rfl rfl) ?_
  refine Seq.pur rfl rfl (p_move rfl rfl) ?_
  refine Seq.split 8 rfl (fun k1_2 => ?_) (fun k1_2 => ?_)
  · refine Seq.skip rfl rfl ?_
    refine Seq.skip rfl rfl ?_
    refine Seq.skip rfl rfl ?_
    refine Seq.skip rfl rfl ?_
    refine Seq.skip rfl rfl ?_
    refine Seq.pur rfl rfl (p_pick_t rfl rfl rfl) ?_
    refine Seq.nil ?_
    refine Fin.then ?_
    refine DC.cond_t rfl ?_
    refine DC.seq ?_
    refine DC.region ?_
    refine Seq.pur rfl rfl (p_assign rfl rfl) ?_
    refine Seq.nil ?_
    refine Fin.then ?_
    refine DC.ret ?_
    refine Fin.ret_then <| ?_
    refine Fin.weak (E' := [(4, _)]) ⟨rfl, trivial⟩ .nil ?_
    refine Fin.end1 (.inl rfl) rfl rfl ?_
    exact ⟨rfl, by rw [backB_o (by simp at k1_2; omega)]⟩
  · refine Seq.pur rfl rfl (p_move rfl rfl) ?_
    refine Seq.pur rfl rfl (p_field rfl rfl fi55_3 (by first | exact add_at0 _ _ | exact add_at _ _ _ | rfl)) ?_
    refine Seq.val rfl rfl (v_load rfl rfl ag34 (by first | exact has_blk rfl | exact has_old' (by assumption))) ?_
    refine Seq.pur rfl rfl (p_len rfl rfl Try.underlying34) ?_
    refine Seq.pur rfl rfl (p_geq rfl rfl rfl) ?_
    refine Seq.pur rfl rfl (p_pick_f rfl rfl rfl) ?_
    refine Seq.nil ?_
    refine Fin.then ?_
    refine DC.cond rfl (fun c1 => ?_) (fun c1 => ?_)
    · refine DC.seq ?_
      refine DC.region ?_
      refine Seq.pur rfl rfl (p_assign rfl rfl) ?_
      refine Seq.nil ?_
      refine Fin.then ?_
      refine DC.ret ?_
      refine Fin.ret_then <| ?_
      refine Fin.weak (E' := [(4, _)]) ⟨rfl, trivial⟩ .nil ?_
      refine Fin.end1 (.inl rfl) rfl rfl ?_
      exact ⟨rfl, by rw [backB_o (by simp at c1; omega)]⟩
    · obtain ⟨en, rfl⟩ := Int.eq_ofNat_of_zero_le (show 0 ≤ e by simpa using k1_2)
      have hen : en < oi.length := by simpa using c1
      obtain ⟨h, hh⟩ : ∃ h, oi[en]? = some h := ⟨_, List.getElem?_eq_getElem hen⟩
      obtain ⟨bd, rfl, hY⟩ := hrb.int hh
      refine DC.skip ?_
      refine Fin.then ?_
      refine DC.seq ?_
      refine DC.seq ?_
      refine DC.region ?_
      refine Seq.pur rfl rfl (p_assign rfl rfl) ?_
      refine Seq.nil ?_
      refine Fin.then ?_
      refine DC.block ?_
      refine DC.loop (ι := Nat) (fun i => i ≤ pa.length ∧ ∀ j : Nat, j < i → pa[j]? ≠ some h)
        (fun i => [(1, .int .i64 en), (2, .pointer (some ⟨g2, 0, none⟩)), (5, .int .i64 i)])
        (fun i => [blk g2 55 #[.slice A pa.length ca, v1, v2, .slice (some bd) oi.length cb]]) (fun i => pa.length - i) 0 ⟨Nat.zero_le _, fun _ h => absurd h (Nat.not_lt_zero _)⟩
        ⟨rfl, rfl, rfl, trivial⟩ (.cons 0 rfl .nil) ?_
      rintro i ⟨hi, hok⟩
      refine DC.seq ?_
      refine DC.seq ?_
      refine DC.region ?_
      refine Seq.pur rfl rfl (p_move rfl rfl) ?_
      refine Seq.pur rfl rfl (p_field rfl rfl fi55_0 (by first | exact add_at0 _ _ | exact add_at _ _ _ | rfl)) ?_
      refine Seq.val rfl rfl (v_load rfl rfl ag34 (by first | exact has_blk rfl | exact has_old' (by assumption))) ?_
      refine Seq.pur rfl rfl (p_len rfl rfl Try.underlying34) ?_
      refine Seq.pur rfl rfl (p_lss rfl rfl rfl) ?_
      refine Seq.nil ?_
      refine Fin.then ?_
      refine DC.cond rfl (fun c4 => ?_) (fun c4 => ?_)
      · have hlt : i < pa.length := by simpa using c4
        obtain ⟨x, hx⟩ : ∃ x, pa[i]? = some x := ⟨_, List.getElem?_eq_getElem hlt⟩
        obtain ⟨ad, rfl, hX⟩ := hra.int hx
        refine DC.skip ?_
        refine Fin.then ?_
        refine DC.seq ?_
        refine DC.block ?_
        refine DC.seq ?_
        refine DC.flow (cl := [.q, .v, .q, .q, .v, .q, .v, .q, .q, .v, .q]) (A := [0, 1, 0, 7, 15, 0, 32, 0, 224, 480, 1023]) (order := [0, 1, 2, 3, 4, 5, 6, 7, 8, 9, 10]) [] mixed (by kernel_rfl) (fun w hw => hw.pick .nil) ?_
        refine Flow.pur rfl rfl rfl (p_field rfl rfl fi55_0 (by first | exact add_at0 _ _ | exact add_at _ _ _ | rfl)) ?_
        refine Flow.valS rfl rfl rfl rfl (v_load rfl rfl ag34 (by first | exact has_blk rfl | exact has_old' (by assumption))) ?_
        refine Flow.pur rfl rfl rfl (p_move rfl rfl) ?_
        refine Flow.pur rfl rfl rfl (p_index1 (ad' := ad.add i) rfl rfl rfl Try.underlying34 sz3 (by omega) (by omega) rfl) ?_
        refine Flow.valS rfl rfl rfl rfl (v_load rfl rfl ag3 (has_old' hX)) ?_
        refine Flow.pur rfl rfl rfl (p_field rfl rfl fi55_3 (by first | exact add_at0 _ _ | exact add_at _ _ _ | rfl)) ?_
        refine Flow.valS rfl rfl rfl rfl (v_load rfl rfl ag34 (by first | exact has_blk rfl | exact has_old' (by assumption))) ?_
        refine Flow.pur rfl rfl rfl (p_move rfl rfl) ?_
        refine Flow.pur rfl rfl rfl (p_index1 (ad' := bd.add en) rfl rfl rfl Try.underlying34 sz3 (by omega) (by omega) rfl) ?_
        refine Flow.valS rfl rfl rfl rfl (v_load rfl rfl ag3 (has_old' hY)) ?_
        refine Flow.pur rfl rfl rfl (p_eql rfl rfl rfl) ?_
        refine Flow.end rfl ?_
        simp only [List.map_cons, List.map_nil, List.nil_append, List.cons_append, List.append_nil]
        refine Fin.then ?_
        refine DC.cond rfl (fun c6 => ?_) (fun c6 => ?_)
        · refine DC.seq ?_
          refine DC.region ?_
          refine Seq.pur rfl rfl (p_assign rfl rfl) ?_
          refine Seq.nil ?_
          refine Fin.then ?_
          refine DC.ret ?_
          refine Fin.ret_block <| Fin.ret_then <| Fin.ret_then <| Fin.ret_block <| Fin.ret_then <| ?_
          refine Fin.weak (E' := [(4, _)]) ⟨rfl, trivial⟩ .nil ?_
          refine Fin.end1 (.inl rfl) rfl rfl ?_
          refine ⟨rfl, by simp at c6; subst c6; rw [backB_f hh hx]⟩
        · refine DC.skip ?_
          refine Fin.inBlock ?_
          refine Fin.then ?_
          refine DC.region ?_
          refine Seq.pur rfl rfl (p_move rfl rfl) ?_
          refine Seq.pur rfl rfl (p_add rfl rfl rfl (by omega)) ?_
          refine Seq.pur rfl rfl (p_assign rfl rfl) ?_
          refine Seq.nil ?_
          refine Fin.again (i + 1) (by omega) ⟨by omega, fun j hj => ?_⟩ ⟨rfl, rfl, rfl, trivial⟩ (.cons 0 rfl .nil)
          rcases Nat.lt_succ_iff_lt_or_eq.1 hj with hj | rfl
          · exact hok j hj
          · rw [hx]; simp at c6 ⊢; exact c6
      · refine DC.exit ?_
        refine Fin.exit_then <| Fin.exit_then <| Fin.exit_here <| ?_
        refine Fin.then ?_
        refine DC.seq ?_
        refine DC.region ?_
        refine Seq.pur rfl rfl (p_assign rfl rfl) ?_
        refine Seq.nil ?_
        refine Fin.then ?_
        refine DC.ret ?_
        refine Fin.weak (E' := [(4, _)]) ⟨rfl, trivial⟩ .nil ?_
        refine Fin.end1 (.inl rfl) rfl rfl ?_
        have hie : i = pa.length := by simp at c4; omega
        subst hie
        refine ⟨rfl, by rw [backB_t hh hok]⟩
theorem FSame_calls {u0 u1 u2 u3 : Value} {pb hb ob rb : List Int} (h0 : SlV w v0 pa) (h1 : SlV w v1 he) (h2 : SlV w v2 od) (h3 : SlV w v3 oi) (k0 : SlV w u0 pb) (k1 : SlV w u1 hb) (k2 : SlV w u2 ob) (k3 : SlV w u3 rb) :
    Calls Try.prog 36 #[.agg #[v0, v1, v2, v3], .agg #[u0, u1, u2, u3]] w (Ret w [] fun v L => L = [] ∧ v = .bool (decide (pa = pb ∧ he = hb ∧ od = ob ∧ oi = rb))) := by
  refine calls_of (args := [_, _]) (L := []) Try.func36 rfl Try.ntmps36 rfl (Own.start _ _) ?_
  refine DC.seq ?_
  refine DC.region ?_
  refine Seq.new rfl rfl (n_box rfl rfl rfl) fun g2 => ?_
  refine Seq.new rfl rfl (n_box rfl rfl rfl) fun g3 => ?_
  refine Seq.pur rfl rfl (p_assign rfl rfl) ?_
  refine Seq.nil ?_
  refine Fin.then ?_
  refine DC.seq ?_
  refine DC.region ?_
  refine Seq.pur rfl rfl (p_field rfl rfl fi55_0 (by first | exact add_at0 _ _ | exact add_at _ _ _ | rfl)) ?_
  refine Seq.val rfl rfl (v_load rfl rfl ag34 (by first | exact has_blk rfl | exact has_old' (by assumption))) ?_
  refine Seq.pur rfl rfl (p_field rfl rfl fi55_0 (by first | exact add_at0 _ _ | exact add_at _ _ _ | rfl)) ?_
  refine Seq.val rfl rfl (v_load rfl rfl ag34 (by first | exact has_blk rfl | exact has_old' (by assumption))) ?_
  -- calls tangram/tangramref01.SameInts
  refine Seq.rel0 rfl rfl (r_call en50 rfl rfl rfl (fun w' hw => SameInts_calls (h0.keep0 hw) (k0.keep0 hw))) ?_
  rintro _ rfl
  refine Seq.pur rfl rfl (p_move rfl rfl) ?_
  refine Seq.split 10 rfl (fun k1_5 => ?_) (fun k1_5 => ?_)
  · refine Seq.pur rfl rfl (p_field rfl rfl fi55_1 (by first | exact add_at0 _ _ | exact add_at _ _ _ | rfl)) ?_
    refine Seq.val rfl rfl (v_load rfl rfl ag34 (by first | exact has_blk rfl | exact has_old' (by assumption))) ?_
    refine Seq.pur rfl rfl (p_field rfl rfl fi55_1 (by first | exact add_at0 _ _ | exact add_at _ _ _ | rfl)) ?_
    refine Seq.val rfl rfl (v_load rfl rfl ag34 (by first | exact has_blk rfl | exact has_old' (by assumption))) ?_
    -- calls tangram/tangramref01.SameInts
    refine Seq.rel0 rfl rfl (r_call en50 rfl rfl rfl (fun w' hw => SameInts_calls (h1.keep0 hw) (k1.keep0 hw))) ?_
    rintro _ rfl
    refine Seq.pur rfl rfl (p_pick_t rfl rfl rfl) ?_
    refine Seq.pur rfl rfl (p_move rfl rfl) ?_
    refine Seq.split 17 rfl (fun k1_12 => ?_) (fun k1_12 => ?_)
    · refine Seq.pur rfl rfl (p_field rfl rfl fi55_2 (by first | exact add_at0 _ _ | exact add_at _ _ _ | rfl)) ?_
      refine Seq.val rfl rfl (v_load rfl rfl ag34 (by first | exact has_blk rfl | exact has_old' (by assumption))) ?_
      refine Seq.pur rfl rfl (p_field rfl rfl fi55_2 (by first | exact add_at0 _ _ | exact add_at _ _ _ | rfl)) ?_
      refine Seq.val rfl rfl (v_load rfl rfl ag34 (by first | exact has_blk rfl | exact has_old' (by assumption))) ?_
      -- calls tangram/tangramref01.SameInts
      refine Seq.rel0 rfl rfl (r_call en50 rfl rfl rfl (fun w' hw => SameInts_calls (h2.keep0 hw) (k2.keep0 hw))) ?_
      rintro _ rfl
      refine Seq.pur rfl rfl (p_pick_t rfl rfl rfl) ?_
      refine Seq.pur rfl rfl (p_move rfl rfl) ?_
      refine Seq.split 24 rfl (fun k1_19 => ?_) (fun k1_19 => ?_)
      · refine Seq.pur rfl rfl (p_field rfl rfl fi55_3 (by first | exact add_at0 _ _ | exact add_at _ _ _ | rfl)) ?_
        refine Seq.val rfl rfl (v_load rfl rfl ag34 (by first | exact has_blk rfl | exact has_old' (by assumption))) ?_
        refine Seq.pur rfl rfl (p_field rfl rfl fi55_3 (by first | exact add_at0 _ _ | exact add_at _ _ _ | rfl)) ?_
        refine Seq.val rfl rfl (v_load rfl rfl ag34 (by first | exact has_blk rfl | exact has_old' (by assumption))) ?_
        -- calls tangram/tangramref01.SameInts
        refine Seq.rel0 rfl rfl (r_call en50 rfl rfl rfl (fun w' hw => SameInts_calls (h3.keep0 hw) (k3.keep0 hw))) ?_
        rintro _ rfl
        refine Seq.pur rfl rfl (p_pick_t rfl rfl rfl) ?_
        refine Seq.pur rfl rfl (p_assign rfl rfl) ?_
        refine Seq.nil ?_
        refine Fin.then ?_
        refine DC.ret ?_
        refine Fin.weak (E' := [(4, _)]) ⟨rfl, trivial⟩ .nil ?_
        refine Fin.end1 (.inl rfl) rfl rfl ?_
        exact ⟨rfl, by simp_all⟩
      · refine Seq.skip rfl rfl ?_
        refine Seq.skip rfl rfl ?_
        refine Seq.skip rfl rfl ?_
        refine Seq.skip rfl rfl ?_
        refine Seq.skip rfl rfl ?_
        refine Seq.pur rfl rfl (p_pick_f rfl rfl rfl) ?_
        refine Seq.pur rfl rfl (p_assign rfl rfl) ?_
        refine Seq.nil ?_
        refine Fin.then ?_
        refine DC.ret ?_
        refine Fin.weak (E' := [(4, _)]) ⟨rfl, trivial⟩ .nil ?_
        refine Fin.end1 (.inl rfl) rfl rfl ?_
        exact ⟨rfl, by simp_all⟩
    · refine Seq.skip rfl rfl ?_
      refine Seq.skip rfl rfl ?_
      refine Seq.skip rfl rfl ?_
      refine Seq.skip rfl rfl ?_
      refine Seq.skip rfl rfl ?_
      refine Seq.pur rfl rfl (p_pick_f rfl rfl rfl) ?_
      refine Seq.pur rfl rfl (p_move rfl rfl) ?_
      refine Seq.skip rfl rfl ?_
      refine Seq.skip rfl rfl ?_
      refine Seq.skip rfl rfl ?_
      refine Seq.skip rfl rfl ?_
      refine Seq.skip rfl rfl ?_
      refine Seq.pur rfl rfl (p_pick_f rfl rfl rfl) ?_
      refine Seq.pur rfl rfl (p_assign rfl rfl) ?_
      refine Seq.nil ?_
      refine Fin.then ?_
      refine DC.ret ?_
      refine Fin.weak (E' := [(4, _)]) ⟨rfl, trivial⟩ .nil ?_
      refine Fin.end1 (.inl rfl) rfl rfl ?_
      exact ⟨rfl, by simp_all⟩
  · refine Seq.skip rfl rfl ?_
    refine Seq.skip rfl rfl ?_
    refine Seq.skip rfl rfl ?_
    refine Seq.skip rfl rfl ?_
    refine Seq.skip rfl rfl ?_
    refine Seq.pur rfl rfl (p_pick_f rfl rfl rfl) ?_
    refine Seq.pur rfl rfl (p_move rfl rfl) ?_
    refine Seq.skip rfl rfl ?_
    refine Seq.skip rfl rfl ?_
    refine Seq.skip rfl rfl ?_
    refine Seq.skip rfl rfl ?_
    refine Seq.skip rfl rfl ?_
    refine Seq.pur rfl rfl (p_pick_f rfl rfl rfl) ?_
    refine Seq.pur rfl rfl (p_move rfl rfl) ?_
    refine Seq.skip rfl rfl ?_
    refine Seq.skip rfl rfl ?_
    refine Seq.skip rfl rfl ?_
    refine Seq.skip rfl rfl ?_
    refine Seq.skip rfl rfl ?_
    refine Seq.pur rfl rfl (p_pick_f rfl rfl rfl) ?_
    refine Seq.pur rfl rfl (p_assign rfl rfl) ?_
    refine Seq.nil ?_
    refine Fin.then ?_
    refine DC.ret ?_
    refine Fin.weak (E' := [(4, _)]) ⟨rfl, trivial⟩ .nil ?_
    refine Fin.end1 (.inl rfl) rfl rfl ?_
    exact ⟨rfl, by simp_all⟩

def forL (v0 v1 v2 v3 : Value) (pa he od oi : List Int) : List Chunk := [slc v0 3 1 (ints pa), slc v1 3 1 (ints he), slc v2 3 1 (ints od), slc v3 3 1 (ints oi)]
theorem SlV.src {v : Value} {xs : List Int} {w0 : World} {L : List Chunk} (h : SlV w0 v xs) : Src w0 [] L v xs.length (ints xs) := by
  obtain ⟨A, c, rfl, hr, h1, h2, h3⟩ := h
  refine src_rd (m := 1) hr (by simp) (by simp) (fun e => ?_)
  subst e
  by_cases h0 : xs.length = 0
  · exact h0
  · obtain ⟨x, hx⟩ : ∃ x, xs[0]? = some x := ⟨_, List.getElem?_eq_getElem (by omega)⟩
    obtain ⟨ad, e, _⟩ := hr.int hx
    cases e
theorem PrV.src {v : Value} {es : List Pr} {w0 : World} {L : List Chunk} (h : PrV w0 v es) : Src w0 [] L v es.length (prs es) := by
  obtain ⟨A, c, rfl, hr, h1, h2, h3⟩ := h
  refine src_rd (m := 2) hr (by simp) (by simp) (fun e => ?_)
  subst e
  by_cases h0 : es.length = 0
  · exact h0
  · obtain ⟨x, hx⟩ : ∃ x, es[0]? = some x := ⟨_, List.getElem?_eq_getElem (by omega)⟩
    obtain ⟨ad, e, _⟩ := hr.pair hx
    cases e
theorem SlV.few {v : Value} {xs : List Int} (h : SlV w v xs) : xs.length ≤ 17592186044416 := by obtain ⟨A, c, rfl, hr, h1, h2, h3⟩ := h; exact h3
theorem PrV.few {v : Value} {es : List Pr} (h : PrV w v es) : es.length ≤ 8796093021952 := by obtain ⟨A, c, rfl, hr, h1, h2, h3⟩ := h; exact h3

theorem FCopy_calls (h0 : SlV w v0 pa) (h1 : SlV w v1 he) (h2 : SlV w v2 od) (h3 : SlV w v3 oi) :
    Calls Try.prog 39 #[.agg #[v0, v1, v2, v3]] w (Ret w [] fun v L => ∃ u0 u1 u2 u3, v = .agg #[u0, u1, u2, u3] ∧ L = forL u0 u1 u2 u3 pa he od oi) := by
  have f0 := h0.few
  have f1 := h1.few
  have f2 := h2.few
  have f3 := h3.few
  refine calls_of (args := [_]) (L := []) Try.func39 rfl Try.ntmps39 rfl (Own.start _ _) ?_
  refine DC.seq ?_
  refine DC.region ?_
  refine Seq.new rfl rfl (n_box rfl rfl rfl) fun g1 => ?_
  refine Seq.new rfl rfl (n_alloc rfl ze55 rfl) fun g2 => ?_
  refine Seq.nil ?_
  refine Fin.then ?_
  refine DC.seq ?_
  refine DC.flow (cl := [.n, .q, .v, .r, .n, .q, .v, .r, .n, .q, .v, .r, .n, .q, .v, .r, .q, .g]) (A := [0, 0, 2, 7, 0, 0, 32, 127, 0, 0, 512, 2047, 0, 0, 8192, 32767, 65535, 131071]) (order := [1, 2, 5, 6, 9, 10, 13, 14, 0, 3, 4, 7, 8, 11, 12, 15, 16, 17]) [] mixed (by kernel_rfl) (fun w hw => hw.pick .nil) ?_
  refine Flow.pur rfl rfl rfl (p_field rfl rfl fi55_0 (by first | exact add_at0 _ _ | exact add_at _ _ _ | rfl)) ?_
  refine Flow.valS rfl rfl rfl rfl (v_load rfl rfl ag34 (by first | exact has_blk rfl | exact has_old' (by assumption))) ?_
  refine Flow.pur rfl rfl rfl (p_field rfl rfl fi55_1 (by first | exact add_at0 _ _ | exact add_at _ _ _ | rfl)) ?_
  refine Flow.valS rfl rfl rfl rfl (v_load rfl rfl ag34 (by first | exact has_blk rfl | exact has_old' (by assumption))) ?_
  refine Flow.pur rfl rfl rfl (p_field rfl rfl fi55_2 (by first | exact add_at0 _ _ | exact add_at _ _ _ | rfl)) ?_
  refine Flow.valS rfl rfl rfl rfl (v_load rfl rfl ag34 (by first | exact has_blk rfl | exact has_old' (by assumption))) ?_
  refine Flow.pur rfl rfl rfl (p_field rfl rfl fi55_3 (by first | exact add_at0 _ _ | exact add_at _ _ _ | rfl)) ?_
  refine Flow.valS rfl rfl rfl rfl (v_load rfl rfl ag34 (by first | exact has_blk rfl | exact has_old' (by assumption))) ?_
  refine Flow.new' rfl rfl rfl rfl (n_slit (cs := #[]) rfl rfl Try.underlying34 sz3 ze3 rfl (by decide) (by decide) rfl rfl) fun g3 => ?_
  refine Flow.relS rfl rfl rfl rfl (r_append0 rfl rfl rfl Try.underlying34 sz3 by3 ze3 rfl (by decide) (by decide) h0.src (by simp) (by omega)) ?_
  rintro _ _ ⟨⟨A3, l3, c3, rfl⟩, rfl⟩
  refine Flow.new' rfl rfl rfl rfl (n_slit (cs := #[]) rfl rfl Try.underlying34 sz3 ze3 rfl (by decide) (by decide) rfl rfl) fun g7 => ?_
  refine Flow.relS rfl rfl rfl rfl (r_append0 rfl rfl rfl Try.underlying34 sz3 by3 ze3 rfl (by decide) (by decide) h1.src (by simp) (by omega)) ?_
  rintro _ _ ⟨⟨A7, l7, c7, rfl⟩, rfl⟩
  refine Flow.new' rfl rfl rfl rfl (n_slit (cs := #[]) rfl rfl Try.underlying34 sz3 ze3 rfl (by decide) (by decide) rfl rfl) fun g11 => ?_
  refine Flow.relS rfl rfl rfl rfl (r_append0 rfl rfl rfl Try.underlying34 sz3 by3 ze3 rfl (by decide) (by decide) h2.src (by simp) (by omega)) ?_
  rintro _ _ ⟨⟨A11, l11, c11, rfl⟩, rfl⟩
  refine Flow.new' rfl rfl rfl rfl (n_slit (cs := #[]) rfl rfl Try.underlying34 sz3 ze3 rfl (by decide) (by decide) rfl rfl) fun g15 => ?_
  refine Flow.relS rfl rfl rfl rfl (r_append0 rfl rfl rfl Try.underlying34 sz3 by3 ze3 rfl (by decide) (by decide) h3.src (by simp) (by omega)) ?_
  rintro _ _ ⟨⟨A15, l15, c15, rfl⟩, rfl⟩
  refine Flow.pur rfl rfl rfl (p_struct (cs := #[_, _, _, _]) rfl rfl bs55 rfl rfl) ?_
  refine Flow.sto (V := [ap0 (.slice A15 l15 c15) g15 3 1 (ints oi), blk g15 3 #[], ap0 (.slice A11 l11 c11) g11 3 1 (ints od), blk g11 3 #[], ap0 (.slice A7 l7 c7) g7 3 1 (ints he), blk g7 3 #[], ap0 (.slice A3 l3 c3) g3 3 1 (ints pa), blk g3 3 #[], blk g2 55 #[.slice none 0 0, .slice none 0 0, .slice none 0 0, .slice none 0 0], blk g1 55 #[v0, v1, v2, v3]]) rfl rfl rfl rfl rfl (s_stores (cs' := #[_, _, _, _]) rfl rfl rfl sz55 rfl (Nat.le_of_ble_eq_true rfl) rfl) (fun w hw => hw.pick (.nil)) ?_
  refine Flow.end rfl ?_
  simp only [List.map_cons, List.map_nil, List.nil_append, List.cons_append, List.append_nil]
  refine Fin.then ?_
  refine DC.ret ?_
  refine Fin.endc (cs := #[_, _, _, _]) (.inl rfl) rfl rfl ag55 sz55 ?_
  refine ⟨_, fun w hw => ?_, _, _, _, _, rfl, rfl⟩
  have k3 : Own _ _ w (slc _ _ _ _ :: _) := own_ap0 (Nat.one_pos) hw
  have k2 : Own _ _ w (slc _ _ _ _ :: _) := own_ap0 (Nat.one_pos) (k3.pick (.cons 1 rfl (.cons 1 rfl (Pick.all _))))
  have k1 : Own _ _ w (slc _ _ _ _ :: _) := own_ap0 (Nat.one_pos) (k2.pick (.cons 2 rfl (.cons 2 rfl (Pick.all _))))
  have k0 : Own _ _ w (slc _ _ _ _ :: _) := own_ap0 (Nat.one_pos) (k1.pick (.cons 3 rfl (.cons 3 rfl (Pick.all _))))
  exact k0.pick (.cons 0 rfl (.cons 0 rfl (.cons 0 rfl (.cons 0 rfl .nil))))

theorem GCopy_calls {v : Value} {N : Int} {es : List Pr} (h : PrV w v es) :
    Calls Try.prog 31 #[.agg #[.int .i64 N, v]] w (Ret w [] fun x L => ∃ u, x = .agg #[.int .i64 N, u] ∧ L = [slc u 39 2 (prs es)]) := by
  have f0 := h.few
  refine calls_of (args := [_]) (L := []) Try.func31 rfl Try.ntmps31 rfl (Own.start _ _) ?_
  refine DC.seq ?_
  refine DC.region ?_
  refine Seq.new rfl rfl (n_box rfl rfl rfl) fun g1 => ?_
  refine Seq.new rfl rfl (n_alloc rfl ze25 rfl) fun g2 => ?_
  refine Seq.nil ?_
  refine Fin.then ?_
  refine DC.seq ?_
  refine DC.region ?_
  refine Seq.new rfl rfl (n_slit (cs := #[]) rfl rfl Try.underlying23 sz39 ze39 rfl (by decide) (by decide) rfl rfl) fun g3 => ?_
  refine Seq.pur rfl rfl (p_field rfl rfl fi25_1 (by first | exact add_at0 _ _ | exact add_at _ _ _ | rfl)) ?_
  refine Seq.val rfl rfl (v_load rfl rfl ag23 (by first | exact has_blk rfl | exact has_old' (by assumption))) ?_
  refine Seq.rel rfl rfl (r_append0 rfl rfl rfl Try.underlying23 sz39 by39 ze39 rfl (by decide) (by decide) h.src (by simp) (by omega)) ?_
  rintro _ _ ⟨⟨A3, l3, c3, rfl⟩, rfl⟩
  simp only [List.cons_append, List.nil_append]
  refine Seq.pur rfl rfl (p_field rfl rfl fi25_1 (by first | exact add_at0 _ _ | exact add_at _ _ _ | rfl)) ?_
  refine Seq.sto rfl rfl (s_store (cs' := #[_, _]) rfl rfl rfl sz23 rfl (Nat.le_of_ble_eq_true rfl) rfl) ?_
  refine Seq.nil ?_
  refine Fin.then ?_
  refine DC.seq ?_
  refine DC.region ?_
  refine Seq.val rfl rfl (v_loads (vs := [_, _]) rfl rfl ag25 sz25 rfl (hass_blk rfl)) ?_
  refine Seq.sto rfl rfl (s_stores (cs' := #[_, _]) rfl rfl rfl sz25 rfl (Nat.le_of_ble_eq_true rfl) rfl) ?_
  refine Seq.nil ?_
  refine Fin.then ?_
  refine DC.ret ?_
  refine Fin.endc (cs := #[_, _]) (.inl rfl) rfl rfl ag25 sz25 ?_
  refine ⟨_, fun w hw => ?_, _, rfl, rfl⟩
  have k3 : Own _ _ w (slc _ _ _ _ :: _) := own_ap0 (by decide) (hw.pick (.cons 0 rfl (.cons 0 rfl (Pick.all _))))
  exact k3.pick (.cons 0 rfl .nil)

theorem GSame_calls {v u : Value} {N M : Int} {es fs : List Pr} (h : PrV w v es) (h' : PrV w u fs) :
    Calls Try.prog 33 #[.agg #[.int .i64 N, v], .agg #[.int .i64 M, u]] w (Ret w [] fun x L => L = [] ∧ x = .bool (decide (N = M ∧ es = fs))) := by
  obtain ⟨A, ca, rfl, hra, ha1, ha2, ha3⟩ := h
  obtain ⟨B, cb, rfl, hrb, hb1, hb2, hb3⟩ := h'
  refine calls_of (args := [_, _]) (L := []) Try.func33 rfl Try.ntmps33 rfl (Own.start _ _) ?_
  refine DC.seq ?_
  refine DC.region ?_
  refine Seq.new rfl rfl (n_box rfl rfl rfl) fun g2 => ?_
  refine Seq.new rfl rfl (n_box rfl rfl rfl) fun g3 => ?_
  refine Seq.pur rfl rfl (p_assign rfl rfl) ?_
  refine Seq.nil ?_
  refine Fin.then ?_
  refine DC.seq ?_
  refine DC.seq ?_
  refine DC.region ?_
  refine Seq.pur rfl rfl (p_field rfl rfl fi25_0 (by first | exact add_at0 _ _ | exact add_at _ _ _ | rfl)) ?_
  refine Seq.val rfl rfl (v_load rfl rfl ag3 (by first | exact has_blk rfl | exact has_old' (by assumption))) ?_
  refine Seq.pur rfl rfl (p_field rfl rfl fi25_0 (by first | exact add_at0 _ _ | exact add_at _ _ _ | rfl)) ?_
  refine Seq.val rfl rfl (v_load rfl rfl ag3 (by first | exact has_blk rfl | exact has_old' (by assumption))) ?_
  refine Seq.pur rfl rfl (p_neq rfl rfl rfl) ?_
  refine Seq.pur rfl rfl (p_move rfl rfl) ?_
  refine Seq.split 11 rfl (fun k1_5 => ?_) (fun k1_5 => ?_)
  · refine Seq.skip rfl rfl ?_
    refine Seq.skip rfl rfl ?_
    refine Seq.skip rfl rfl ?_
    refine Seq.skip rfl rfl ?_
    refine Seq.skip rfl rfl ?_
    refine Seq.skip rfl rfl ?_
    refine Seq.skip rfl rfl ?_
    refine Seq.pur rfl rfl (p_pick_t rfl rfl rfl) ?_
    refine Seq.nil ?_
    refine Fin.then ?_
    refine DC.cond_t rfl ?_
    refine DC.seq ?_
    refine DC.region ?_
    refine Seq.pur rfl rfl (p_assign rfl rfl) ?_
    refine Seq.nil ?_
    refine Fin.then ?_
    refine DC.ret ?_
    refine Fin.ret_then <| ?_
    refine Fin.weak (E' := [(4, _)]) ⟨rfl, trivial⟩ .nil ?_
    refine Fin.end1 (.inl rfl) rfl rfl ?_
    exact ⟨rfl, by congr 1; symm; simp at k1_5 ⊢; intro h; omega⟩
  · refine Seq.pur rfl rfl (p_field rfl rfl fi25_1 (by first | exact add_at0 _ _ | exact add_at _ _ _ | rfl)) ?_
    refine Seq.val rfl rfl (v_load rfl rfl ag23 (by first | exact has_blk rfl | exact has_old' (by assumption))) ?_
    refine Seq.pur rfl rfl (p_len rfl rfl Try.underlying23) ?_
    refine Seq.pur rfl rfl (p_field rfl rfl fi25_1 (by first | exact add_at0 _ _ | exact add_at _ _ _ | rfl)) ?_
    refine Seq.val rfl rfl (v_load rfl rfl ag23 (by first | exact has_blk rfl | exact has_old' (by assumption))) ?_
    refine Seq.pur rfl rfl (p_len rfl rfl Try.underlying23) ?_
    refine Seq.pur rfl rfl (p_neq rfl rfl rfl) ?_
    refine Seq.pur rfl rfl (p_pick_f rfl rfl rfl) ?_
    refine Seq.nil ?_
    refine Fin.then ?_
    refine DC.cond rfl (fun c1 => ?_) (fun c1 => ?_)
    · refine DC.seq ?_
      refine DC.region ?_
      refine Seq.pur rfl rfl (p_assign rfl rfl) ?_
      refine Seq.nil ?_
      refine Fin.then ?_
      refine DC.ret ?_
      refine Fin.ret_then <| ?_
      refine Fin.weak (E' := [(4, _)]) ⟨rfl, trivial⟩ .nil ?_
      refine Fin.end1 (.inl rfl) rfl rfl ?_
      exact ⟨rfl, by congr 1; symm; simp at c1 ⊢; rintro h rfl; omega⟩
    · have hN : N = M := by simpa using k1_5
      have hl : es.length = fs.length := by simp at c1; omega
      refine DC.skip ?_
      refine Fin.then ?_
      refine DC.seq ?_
      refine DC.seq ?_
      refine DC.region ?_
      refine Seq.pur rfl rfl (p_assign rfl rfl) ?_
      refine Seq.nil ?_
      refine Fin.then ?_
      refine DC.block ?_
      refine DC.loop (ι := Nat) (fun i => i ≤ es.length ∧ ∀ j : Nat, j < i → es[j]? = fs[j]?)
        (fun i => [(2, .pointer (some ⟨g2, 0, none⟩)), (3, .pointer (some ⟨g3, 0, none⟩)), (5, .int .i64 i)])
        (fun i => [blk g2 25 #[.int .i64 N, .slice A es.length ca], blk g3 25 #[.int .i64 M, .slice B fs.length cb]]) (fun i => es.length - i) 0 ⟨Nat.zero_le _, fun _ h => absurd h (Nat.not_lt_zero _)⟩
        ⟨rfl, rfl, rfl, trivial⟩ (.cons 1 rfl (.cons 0 rfl .nil)) ?_
      rintro i ⟨hi, hok⟩
      refine DC.seq ?_
      refine DC.seq ?_
      refine DC.region ?_
      refine Seq.pur rfl rfl (p_move rfl rfl) ?_
      refine Seq.pur rfl rfl (p_field rfl rfl fi25_1 (by first | exact add_at0 _ _ | exact add_at _ _ _ | rfl)) ?_
      refine Seq.val rfl rfl (v_load rfl rfl ag23 (by first | exact has_blk rfl | exact has_old' (by assumption))) ?_
      refine Seq.pur rfl rfl (p_len rfl rfl Try.underlying23) ?_
      refine Seq.pur rfl rfl (p_lss rfl rfl rfl) ?_
      refine Seq.nil ?_
      refine Fin.then ?_
      refine DC.cond rfl (fun c4 => ?_) (fun c4 => ?_)
      · have hlt : i < es.length := by simpa using c4
        obtain ⟨x, hx⟩ : ∃ x, es[i]? = some x := ⟨_, List.getElem?_eq_getElem hlt⟩
        obtain ⟨y, hy⟩ : ∃ y, fs[i]? = some y := ⟨_, List.getElem?_eq_getElem (by omega)⟩
        obtain ⟨ad, rfl, hX1, hX2⟩ := hra.pair hx
        obtain ⟨bd, rfl, hY1, hY2⟩ := hrb.pair hy
        refine DC.skip ?_
        refine Fin.then ?_
        refine DC.seq ?_
        refine DC.block ?_
        refine DC.seq ?_
        refine DC.flow (cl := [.q, .v, .q, .q, .v, .q, .v, .q, .q, .v, .q]) (A := [0, 1, 0, 7, 15, 0, 32, 0, 224, 480, 1023]) (order := [0, 1, 2, 3, 4, 5, 6, 7, 8, 9, 10]) [] mixed (by kernel_rfl) (fun w hw => hw.pick .nil) ?_
        refine Flow.pur rfl rfl rfl (p_field rfl rfl fi25_1 (by first | exact add_at0 _ _ | exact add_at _ _ _ | rfl)) ?_
        refine Flow.valS rfl rfl rfl rfl (v_load rfl rfl ag23 (by first | exact has_blk rfl | exact has_old' (by assumption))) ?_
        refine Flow.pur rfl rfl rfl (p_move rfl rfl) ?_
        refine Flow.pur rfl rfl rfl (p_index (ad' := ad.add (i * 2)) rfl rfl rfl Try.underlying23 sz39 (by omega) (by omega) rfl) ?_
        refine Flow.valS rfl rfl rfl rfl (v_loads (vs := [_, _]) rfl rfl ag39 sz39 rfl (hass2 hX1 hX2 (by simp))) ?_
        refine Flow.pur rfl rfl rfl (p_field rfl rfl fi25_1 (by first | exact add_at0 _ _ | exact add_at _ _ _ | rfl)) ?_
        refine Flow.valS rfl rfl rfl rfl (v_load rfl rfl ag23 (by first | exact has_blk rfl | exact has_old' (by assumption))) ?_
        refine Flow.pur rfl rfl rfl (p_move rfl rfl) ?_
        refine Flow.pur rfl rfl rfl (p_index (ad' := bd.add (i * 2)) rfl rfl rfl Try.underlying23 sz39 (by omega) (by omega) rfl) ?_
        refine Flow.valS rfl rfl rfl rfl (v_loads (vs := [_, _]) rfl rfl ag39 sz39 rfl (hass2 hY1 hY2 (by simp))) ?_
        refine Flow.pur rfl rfl rfl (p_neq_pair rfl rfl rfl (by kernel_rfl)) ?_
        refine Flow.end rfl ?_
        simp only [List.map_cons, List.map_nil, List.nil_append, List.cons_append, List.append_nil]
        refine Fin.then ?_
        refine DC.cond rfl (fun c6 => ?_) (fun c6 => ?_)
        · refine DC.seq ?_
          refine DC.region ?_
          refine Seq.pur rfl rfl (p_assign rfl rfl) ?_
          refine Seq.nil ?_
          refine Fin.then ?_
          refine DC.ret ?_
          refine Fin.ret_block <| Fin.ret_then <| Fin.ret_then <| Fin.ret_block <| Fin.ret_then <| ?_
          refine Fin.weak (E' := [(4, _)]) ⟨rfl, trivial⟩ .nil ?_
          refine Fin.end1 (.inl rfl) rfl rfl ?_
          refine ⟨rfl, by congr 1; symm; simp at c6 ⊢; rintro _ rfl; rw [hx] at hy; cases hy; simp at c6⟩
        · refine DC.skip ?_
          refine Fin.inBlock ?_
          refine Fin.then ?_
          refine DC.region ?_
          refine Seq.pur rfl rfl (p_move rfl rfl) ?_
          refine Seq.pur rfl rfl (p_add rfl rfl rfl (by omega)) ?_
          refine Seq.pur rfl rfl (p_assign rfl rfl) ?_
          refine Seq.nil ?_
          refine Fin.again (i + 1) (by omega) ⟨by omega, fun j hj => ?_⟩ ⟨rfl, rfl, rfl, trivial⟩ (.cons 0 rfl (.cons 0 rfl .nil))
          rcases Nat.lt_succ_iff_lt_or_eq.1 hj with hj | rfl
          · exact hok j hj
          · rw [hx, hy]; simp at c6; rw [Prod.ext c6.1 c6.2]
      · refine DC.exit ?_
        refine Fin.exit_then <| Fin.exit_then <| Fin.exit_here <| ?_
        refine Fin.then ?_
        refine DC.seq ?_
        refine DC.region ?_
        refine Seq.pur rfl rfl (p_assign rfl rfl) ?_
        refine Seq.nil ?_
        refine Fin.then ?_
        refine DC.ret ?_
        refine Fin.weak (E' := [(4, _)]) ⟨rfl, trivial⟩ .nil ?_
        refine Fin.end1 (.inl rfl) rfl rfl ?_
        have hie : i = es.length := by simp at c4; omega
        subst hie
        refine ⟨rfl, by congr 1; symm; rw [decide_eq_true_eq]; refine ⟨hN, ?_⟩; apply List.ext_getElem?; intro j; by_cases hj : j < es.length; exact hok j hj; rw [List.getElem?_eq_none (by omega), List.getElem?_eq_none (by omega)]⟩
end
end Go.Fl
