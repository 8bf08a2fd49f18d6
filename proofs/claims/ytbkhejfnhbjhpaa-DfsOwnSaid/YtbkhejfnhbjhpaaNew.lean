/- csr.New and the function that it calls for each half-edge. -/
import Derived.Test.YtbkhejfnhbjhpaaFlTab
import Derived.Test.YtbkhejfnhbjhpaaValid
import Derived.Test.YtbkhejfnhbjhpaaCsr1
set_option linter.unusedVariables false
set_option linter.unusedSimpArgs false
set_option maxRecDepth 100000
namespace Go.Fl
open Go Go.Proofs

/-- What the closure of csr.New works on. -/
def putL (gn ga gp g0 g1 gx g2 g3 capx : Nat) (fr st nx ou pl : List Int) (sp : List Value) : List Chunk :=
  [blk gn 34 #[.slice (some ⟨gx, 0, none⟩) nx.length capx], blk ga 26 #[.pointer (some ⟨gp, 0, none⟩)], blk gp 73 #[sl g0 fr, sl g1 st, sl g2 ou, sl g3 pl],
   blk g0 3 (ints fr).toArray, blk gx 3 (ints nx ++ sp).toArray, blk g2 3 (ints ou).toArray, blk g3 3 (ints pl).toArray]
theorem put_calls {gn ga gp g0 g1 gx g2 g3 capx : Nat} {fr st nx ou pl : List Int} {sp : List Value} {h u p : Int} {w : World}
    (hO : Own w (idsOf (putL gn ga gp g0 g1 gx g2 g3 capx fr st nx ou pl sp)) w (putL gn ga gp g0 g1 gx g2 g3 capx fr st nx ou pl sp))
    (h0 : 0 ≤ h) (hfr : fr[h.toNat]? = some u) (hu : 0 ≤ u) (hnx : nx[u.toNat]? = some p) (hp0 : 0 ≤ p) (hp1 : p.toNat < ou.length) (hh : h.toNat < pl.length) (hb : p < 9223372036854775807) :
    Calls Try.prog 54 #[.int .i64 h, .pointer (some ⟨gn, 0, none⟩), .pointer (some ⟨ga, 0, none⟩)] w
      (Ret w (idsOf (putL gn ga gp g0 g1 gx g2 g3 capx fr st nx ou pl sp)) fun v M => v = .tuple #[] ∧
        M = putL gn ga gp g0 g1 gx g2 g3 capx fr st (nx.set u.toNat (p + 1)) (ou.set p.toNat h) (pl.set h.toNat p) sp) := by
  have i1 := (List.getElem?_eq_some_iff.1 hfr).1
  have i2 := (List.getElem?_eq_some_iff.1 hnx).1
  refine calls_of (args := [_, _, _]) Try.func54 rfl Try.ntmps54 rfl hO ?_
  unfold putL
  refine DC.seq ?_
  refine DC.flow (cl := [.v, .v, .q, .q, .v, .q, .q, .v, .q, .v, .q]) (A := [0, 0, 2, 6, 14, 0, 62, 126, 255, 511, 1023]) (order := [0, 1, 2, 3, 4, 5, 6, 7, 8, 9, 10]) [] mixed (by kernel_rfl) (fun w hw => hw.pick .nil) ?_
  refine Flow.valS rfl rfl rfl rfl (v_load rfl rfl ag34 (by first | exact has_blk rfl | exact has_old' (by assumption))) ?_
  refine Flow.valS rfl rfl rfl rfl (v_load rfl rfl ag26 (by first | exact has_blk rfl | exact has_old' (by assumption))) ?_
  refine Flow.pur rfl rfl rfl (p_nil rfl rfl) ?_
  refine Flow.pur rfl rfl rfl (p_field rfl rfl fi73_0 (by first | exact add_at0 _ _ | exact add_at _ _ _ | rfl)) ?_
  refine Flow.valS rfl rfl rfl rfl (v_load rfl rfl ag34 (by first | exact has_blk rfl | exact has_old' (by assumption))) ?_
  refine Flow.pur rfl rfl rfl (p_move rfl rfl) ?_
  refine Flow.pur rfl rfl rfl (p_index1 rfl rfl rfl Try.underlying34 sz3 (by omega) (by omega) (by first | exact add_at0 _ _ | exact add_at _ _ _ | rfl)) ?_
  refine Flow.valS rfl rfl rfl rfl (v_load rfl rfl ag3 (has_row (ints_arr hfr))) ?_
  refine Flow.pur rfl rfl rfl (p_index1 rfl rfl rfl Try.underlying34 sz3 (by omega) (by omega) (by first | exact add_at0 _ _ | exact add_at _ _ _ | rfl)) ?_
  refine Flow.valS rfl rfl rfl rfl (v_load rfl rfl ag3 (has_row (row_get hnx))) ?_
  refine Flow.pur rfl rfl rfl (p_assign rfl rfl) ?_
  refine Flow.end rfl ?_
  simp only [List.map_cons, List.map_nil, List.nil_append, List.cons_append, List.append_nil]
  refine Fin.then ?_
  refine DC.seq ?_
  refine DC.flow (cl := [.v, .q, .q, .v, .q, .v, .q, .q, .v, .q, .q, .q, .q, .g, .q, .g]) (A := [0, 1, 3, 7, 0, 0, 32, 96, 224, 0, 0, 0, 1535, 5631, 16383, 32767]) (order := [0, 1, 2, 3, 4, 5, 6, 7, 8, 9, 10, 11, 12, 13, 14, 15]) [] mixed (by kernel_rfl) (fun w hw => hw.pick .nil) ?_
  refine Flow.valS rfl rfl rfl rfl (v_load rfl rfl ag26 (by first | exact has_blk rfl | exact has_old' (by assumption))) ?_
  refine Flow.pur rfl rfl rfl (p_nil rfl rfl) ?_
  refine Flow.pur rfl rfl rfl (p_field rfl rfl fi73_2 (by first | exact add_at0 _ _ | exact add_at _ _ _ | rfl)) ?_
  refine Flow.valS rfl rfl rfl rfl (v_load rfl rfl ag34 (by first | exact has_blk rfl | exact has_old' (by assumption))) ?_
  refine Flow.pur rfl rfl rfl (p_move rfl rfl) ?_
  refine Flow.valS rfl rfl rfl rfl (v_load rfl rfl ag26 (by first | exact has_blk rfl | exact has_old' (by assumption))) ?_
  refine Flow.pur rfl rfl rfl (p_nil rfl rfl) ?_
  refine Flow.pur rfl rfl rfl (p_field rfl rfl fi73_3 (by first | exact add_at0 _ _ | exact add_at _ _ _ | rfl)) ?_
  refine Flow.valS rfl rfl rfl rfl (v_load rfl rfl ag34 (by first | exact has_blk rfl | exact has_old' (by assumption))) ?_
  refine Flow.pur rfl rfl rfl (p_move rfl rfl) ?_
  refine Flow.pur rfl rfl rfl (p_move rfl rfl) ?_
  refine Flow.pur rfl rfl rfl (p_move rfl rfl) ?_
  refine Flow.pur rfl rfl rfl (p_index1 rfl rfl rfl Try.underlying34 sz3 (by omega) (by omega) (by first | exact add_at0 _ _ | exact add_at _ _ _ | rfl)) ?_
  refine Flow.sto0 rfl rfl rfl rfl (s_store (cs' := (ints (ou.set p.toNat h)).toArray) rfl rfl rfl sz3 rfl (by simpa using hp1) row_set0) (fun w hw => hw.pick (.nil)) ?_
  refine Flow.pur rfl rfl rfl (p_index1 rfl rfl rfl Try.underlying34 sz3 (by omega) (by omega) (by first | exact add_at0 _ _ | exact add_at _ _ _ | rfl)) ?_
  refine Flow.sto0 rfl rfl rfl rfl (s_store (cs' := (ints (pl.set h.toNat p)).toArray) rfl rfl rfl sz3 rfl (by simpa using hh) row_set0) (fun w hw => hw.pick (.nil)) ?_
  refine Flow.end rfl ?_
  simp only [List.map_cons, List.map_nil, List.nil_append, List.cons_append, List.append_nil]
  refine Fin.then ?_
  refine DC.flow (cl := [.v, .v, .q, .q, .v, .q, .q, .v, .q, .v, .q, .q, .g]) (A := [0, 0, 2, 6, 14, 0, 62, 126, 255, 511, 1023, 2047, 4095]) (order := [0, 1, 2, 3, 4, 5, 6, 7, 8, 9, 10, 11, 12]) [] mixed (by kernel_rfl) (fun w hw => hw.pick .nil) ?_
  refine Flow.valS rfl rfl rfl rfl (v_load rfl rfl ag34 (by first | exact has_blk rfl | exact has_old' (by assumption))) ?_
  refine Flow.valS rfl rfl rfl rfl (v_load rfl rfl ag26 (by first | exact has_blk rfl | exact has_old' (by assumption))) ?_
  refine Flow.pur rfl rfl rfl (p_nil rfl rfl) ?_
  refine Flow.pur rfl rfl rfl (p_field rfl rfl fi73_0 (by first | exact add_at0 _ _ | exact add_at _ _ _ | rfl)) ?_
  refine Flow.valS rfl rfl rfl rfl (v_load rfl rfl ag34 (by first | exact has_blk rfl | exact has_old' (by assumption))) ?_
  refine Flow.pur rfl rfl rfl (p_move rfl rfl) ?_
  refine Flow.pur rfl rfl rfl (p_index1 rfl rfl rfl Try.underlying34 sz3 (by omega) (by omega) (by first | exact add_at0 _ _ | exact add_at _ _ _ | rfl)) ?_
  refine Flow.valS rfl rfl rfl rfl (v_load rfl rfl ag3 (has_row (ints_arr hfr))) ?_
  refine Flow.pur rfl rfl rfl (p_index1 rfl rfl rfl Try.underlying34 sz3 (by omega) (by omega) (by first | exact add_at0 _ _ | exact add_at _ _ _ | rfl)) ?_
  refine Flow.valS rfl rfl rfl rfl (v_load rfl rfl ag3 (has_row (row_get hnx))) ?_
  refine Flow.pur rfl rfl rfl (p_add rfl rfl rfl (by omega)) ?_
  refine Flow.pur rfl rfl rfl (p_index1 rfl rfl rfl Try.underlying34 sz3 (by omega) (by omega) (by first | exact add_at0 _ _ | exact add_at _ _ _ | rfl)) ?_
  refine Flow.sto0 rfl rfl rfl rfl (s_store (cs' := (ints (nx.set u.toNat (p + 1)) ++ sp).toArray) rfl rfl rfl sz3 rfl (by simp; omega) (row_set i2)) (fun w hw => hw.pick (.nil)) ?_
  refine Flow.end rfl ?_
  simp only [List.map_cons, List.map_nil, List.nil_append, List.cons_append, List.append_nil]
  refine Fin.end0 (.inr rfl) rfl ?_
  refine ⟨rfl, ?_⟩
  simp [putL, sl]

def adjL (M : AdjM) : List Chunk :=
  [blk M.gp 73 #[sl M.g0 M.fr, sl M.g1 M.st, sl M.g2 M.ou, sl M.g3 M.pl], blk M.g0 3 (ints M.fr).toArray, blk M.g1 3 (ints M.st).toArray, blk M.g2 3 (ints M.ou).toArray, blk M.g3 3 (ints M.pl).toArray]

def frT (es : List Pr) (i : Nat) : Nat → Int := fun h => if h < 2 * i then ((frs es)[h]?).getD 0 else 0
def stA (es : List Pr) (i : Nat) : Nat → Int := fun x => if x = 0 then 0 else cnt (es.take i) (x - 1)
def stB (es : List Pr) (v : Nat) : Nat → Int := fun x => if x ≤ v then pre es x else cnt es (x - 1)
def nxA (es : List Pr) (i : Nat) : Nat → Int := fun v => pre es v + loV es i v
def nxB (es : List Pr) (i : Nat) : Nat → Int := fun v => pre es v + loV es es.length v + loU es i v
structure NewI where
  i : Nat
  fo : Nat → Int
  fp : Nat → Int

theorem frT_next {es : List Pr} {i : Nat} {e : Pr} (he : es[i]? = some e) (h : Nat) : upd (upd (frT es i) (2 * i) e.1) (2 * i + 1) e.2 h = frT es (i + 1) h := by
  obtain ⟨f1, f2⟩ := frs_get he
  unfold upd frT
  by_cases a1 : h = 2 * i + 1
  · subst a1; rw [if_pos rfl, if_pos (by omega), f2]; rfl
  · rw [if_neg a1]
    by_cases a2 : h = 2 * i
    · subst a2; rw [if_pos rfl, if_pos (by omega), f1]; rfl
    · rw [if_neg a2]
      by_cases a3 : h < 2 * i
      · rw [if_pos a3, if_pos (by omega)]
      · rw [if_neg a3, if_neg (by omega)]
theorem stA_next {es : List Pr} {i u v : Nat} (he : es[i]? = some ((u : Int), (v : Int))) (hne : u ≠ v) (x : Nat) :
    upd (upd (stA es i) (u + 1) (stA es i (u + 1) + 1)) (v + 1) (upd (stA es i) (u + 1) (stA es i (u + 1) + 1) (v + 1) + 1) x = stA es (i + 1) x := by
  have hc := fun y => cnt_succ he (by dsimp only; omega) y
  dsimp only at hc
  unfold upd stA
  match x with
  | 0 => rw [if_neg (by omega), if_neg (by omega)]; rfl
  | y + 1 =>
    simp only [hc, Nat.add_sub_cancel, if_neg (Nat.succ_ne_zero _)]
    by_cases a1 : y = v
    · subst a1
      rw [if_pos rfl, if_neg (by omega), if_neg (show ¬ (u : Int) = y by omega), if_pos rfl]; omega
    · by_cases a2 : y = u
      · subst a2
        rw [if_neg (by omega), if_pos rfl, if_pos rfl, if_neg (by omega)]; omega
      · rw [if_neg (by omega), if_neg (by omega), if_neg (by omega), if_neg (by omega)]; omega
theorem stB_next {es : List Pr} {v : Nat} (x : Nat) : upd (stB es v) (v + 1) (stB es v (v + 1) + stB es v v) x = stB es (v + 1) x := by
  unfold upd stB
  by_cases a1 : x = v + 1
  · subst a1
    rw [if_pos rfl, if_neg (by omega), if_pos (Nat.le_refl _), if_pos (Nat.le_refl _)]
    show cnt es (v + 1 - 1) + pre es v = pre es v + cnt es v
    simp only [Nat.add_sub_cancel]; omega
  · rw [if_neg a1]
    by_cases a2 : x ≤ v
    · rw [if_pos a2, if_pos (by omega)]
    · rw [if_neg a2, if_neg (by omega)]

theorem New_calls (N : Int) (es : List Pr) (A : Option Addr) (cap : Nat) (w : World) (hr : Rd w A (prs es)) (hl : es.length ≤ 9223372036854775807) :
    Calls Try.prog 32 #[.agg #[.int .i64 N, .slice A es.length cap]] w (Ret w [] fun v L =>
      (¬ Vld N es ∧ L = [] ∧ v = .tuple #[.pointer none, .int .i64 1]) ∨ (Vld N es ∧ ∃ M, AdjP N es M ∧ v = .tuple #[.pointer (some ⟨M.gp, 0, none⟩), .int .i64 0] ∧ L = adjL M)) := by
  refine calls_of (args := [_]) (L := []) Try.func32 rfl Try.ntmps32 rfl (Own.start _ _) ?_
  refine DC.seq ?_
  refine DC.region ?_
  refine Seq.new rfl rfl (n_box rfl rfl rfl) fun g1 => ?_
  refine Seq.pur rfl rfl (p_assign rfl rfl) ?_
  refine Seq.pur rfl rfl (p_assign rfl rfl) ?_
  refine Seq.nil ?_
  refine Fin.then ?_
  refine DC.seq ?_
  refine DC.seq ?_
  refine DC.region ?_
  refine Seq.val rfl rfl (v_loads (vs := [_, _]) rfl rfl ag25 sz25 rfl (hass_blk rfl)) ?_
  -- calls tangram/simple.Valid
  refine Seq.rel0 rfl rfl (r_call en53 rfl rfl rfl (fun w' hw => valid_calls N es A cap w' (hr.keep0 hw) hl)) ?_
  rintro _ ⟨b, rfl, hb⟩
  refine Seq.pur rfl rfl (p_not rfl rfl) ?_
  refine Seq.nil ?_
  refine Fin.then ?_
  refine DC.cond rfl (fun c1 => ?_) (fun c1 => ?_)
  · refine DC.seq ?_
    refine DC.region ?_
    refine Seq.pur rfl rfl (p_assign rfl rfl) ?_
    refine Seq.pur rfl rfl (p_assign rfl rfl) ?_
    refine Seq.nil ?_
    refine Fin.then ?_
    refine DC.ret ?_
    refine Fin.ret_then <| ?_
    refine Fin.weak (E' := [(2, _), (3, _)]) ⟨rfl, rfl, trivial⟩ .nil ?_
    refine Fin.end2 (.inl rfl) rfl rfl rfl ?_
    exact .inl ⟨fun hV => (by rw [hb.2 hV] at c1; cases c1), rfl, rfl⟩
  · have hV : Vld N es := hb.1 (by simpa using c1)
    have hN0 := hV.lo
    have hN1 := hV.hi
    have hfew := hV.few
    obtain ⟨Nn, rfl⟩ := Int.eq_ofNat_of_zero_le hN0
    have hNn : Nn ≤ 1048576 := by omega
    refine DC.skip ?_
    refine Fin.then ?_
    refine DC.seq ?_
    refine DC.region ?_
    refine Seq.pur rfl rfl (p_field rfl rfl fi25_1 (by first | exact add_at0 _ _ | exact add_at _ _ _ | rfl)) ?_
    refine Seq.val rfl rfl (v_load rfl rfl ag23 (by first | exact has_blk rfl | exact has_old' (by assumption))) ?_
    refine Seq.pur rfl rfl (p_len rfl rfl Try.underlying23) ?_
    refine Seq.pur rfl rfl (p_assign rfl rfl) ?_
    refine Seq.nil ?_
    refine Fin.then ?_
    refine DC.seq ?_
    refine DC.flow (cl := [.q, .q, .n, .q, .v, .q, .n, .q, .q, .n, .q, .q, .n, .q, .n, .n, .g]) (A := [0, 1, 3, 0, 8, 24, 56, 0, 128, 384, 0, 1024, 3072, 8191, 16383, 0, 65535]) (order := [0, 1, 3, 4, 5, 7, 8, 10, 11, 2, 6, 9, 12, 13, 14, 15, 16]) [] mixed (by kernel_rfl) (fun w hw => hw.pick .nil) ?_
    refine Flow.pur rfl rfl rfl (p_move rfl rfl) ?_
    refine Flow.pur rfl rfl rfl (p_mul rfl rfl rfl (by omega)) ?_
    refine Flow.pur rfl rfl rfl (p_field rfl rfl fi25_0 (by first | exact add_at0 _ _ | exact add_at _ _ _ | rfl)) ?_
    refine Flow.valS rfl rfl rfl rfl (v_load rfl rfl ag3 (by first | exact has_blk rfl | exact has_old' (by assumption))) ?_
    refine Flow.pur rfl rfl rfl (p_add rfl rfl rfl (by omega)) ?_
    refine Flow.pur rfl rfl rfl (p_move rfl rfl) ?_
    refine Flow.pur rfl rfl rfl (p_mul rfl rfl rfl (by omega)) ?_
    refine Flow.pur rfl rfl rfl (p_move rfl rfl) ?_
    refine Flow.pur rfl rfl rfl (p_mul rfl rfl rfl (by omega)) ?_
    refine Flow.new' rfl rfl rfl rfl (n_make (k := 2 * es.length) rfl rfl rfl Try.underlying34 sz3 by3 ze3 (by omega) (by omega) (by omega) (made_tab _)) fun g21 => ?_
    refine Flow.new' rfl rfl rfl rfl (n_make (k := Nn + 1) rfl rfl rfl Try.underlying34 sz3 by3 ze3 (by omega) (by omega) (by omega) (made_tab _)) fun g25 => ?_
    refine Flow.new' rfl rfl rfl rfl (n_make (k := 2 * es.length) rfl rfl rfl Try.underlying34 sz3 by3 ze3 (by omega) (by omega) (by omega) (made_tab _)) fun g28 => ?_
    refine Flow.new' rfl rfl rfl rfl (n_make (k := 2 * es.length) rfl rfl rfl Try.underlying34 sz3 by3 ze3 (by omega) (by omega) (by omega) (made_tab _)) fun g31 => ?_
    refine Flow.pur rfl rfl rfl (p_struct (cs := #[_, _, _, _]) rfl rfl bs73 rfl rfl) ?_
    refine Flow.new' rfl rfl rfl rfl (n_box rfl rfl rfl) fun g33 => ?_
    refine Flow.new' rfl rfl rfl rfl (n_alloc rfl ze26 rfl) fun g5 => ?_
    refine Flow.sto (V := [blk g5 26 #[.pointer none], blk g33 73 _, blk g31 _ _, blk g28 _ _, blk g25 _ _, blk g21 _ _, blk g1 _ _]) rfl rfl rfl rfl rfl (s_store (cs' := #[_]) rfl rfl rfl sz26 rfl (Nat.le_of_ble_eq_true rfl) rfl) (fun w hw => hw.pick (.nil)) ?_
    refine Flow.end rfl ?_
    simp only [List.map_cons, List.map_nil, List.nil_append, List.cons_append, List.append_nil]
    refine Fin.then ?_
    refine DC.seq ?_
    refine DC.seq ?_
    refine DC.region ?_
    refine Seq.pur rfl rfl (p_field rfl rfl fi25_1 (by first | exact add_at0 _ _ | exact add_at _ _ _ | rfl)) ?_
    refine Seq.val rfl rfl (v_load rfl rfl ag23 (by first | exact has_blk rfl | exact has_old' (by assumption))) ?_
    refine Seq.pur rfl rfl (p_len rfl rfl Try.underlying23) ?_
    refine Seq.pur rfl rfl (p_move rfl rfl) ?_
    refine Seq.nil ?_
    refine Fin.then ?_
    refine DC.block ?_
    refine DC.loop (ι := Nat) (fun i => i ≤ es.length)
      (fun i => [(1, .pointer (some ⟨g1, 0, none⟩)), (2, .pointer none), (3, .int .i64 0), (4, .int .i64 es.length), (5, .pointer (some ⟨g5, 0, none⟩)), (35, .slice A es.length cap), (36, .int .i64 es.length), (37, .int .i64 i)])
      (fun i => [blk g5 26 #[.pointer (some ⟨g33, 0, none⟩)], blk g33 73 #[sl g21 (tab (2 * es.length) fun _ => 0), sl g25 (tab (Nn + 1) fun _ => 0), sl g28 (tab (2 * es.length) fun _ => 0), sl g31 (tab (2 * es.length) fun _ => 0)],
        blk g31 3 (ints (tab (2 * es.length) fun _ => 0)).toArray, blk g28 3 (ints (tab (2 * es.length) fun _ => 0)).toArray, blk g25 3 (ints (tab (Nn + 1) (stA es i))).toArray, blk g21 3 (ints (tab (2 * es.length) (frT es i))).toArray, blk g1 25 #[.int .i64 (Nn : Int), .slice A es.length cap]])
      (fun i => es.length - i) 0 (Nat.zero_le _) ⟨rfl, rfl, rfl, rfl, rfl, rfl, rfl, rfl, trivial⟩
      (.cons 0 rfl (.cons' 0 rfl (by simp only [sl_tab]; rfl) (.cons 0 rfl (.cons 0 rfl (.cons' 0 rfl (blk_tab fun x _ => by simp [stA, cnt, outs, outsF]) (.cons' 0 rfl (blk_tab fun x _ => by simp [frT]) (.cons 0 rfl .nil))))))) ?_
    intro i hi
    simp only [sl_tab]
    refine DC.seq ?_
    refine DC.region ?_
    refine Seq.pur rfl rfl (p_lss rfl rfl rfl) ?_
    refine Seq.nil ?_
    refine Fin.then ?_
    refine DC.seq ?_
    refine DC.cond rfl (fun c6 => ?_) (fun c6 => ?_)
    · have hlt : i < es.length := by simpa using c6
      obtain ⟨e, he⟩ : ∃ e, es[i]? = some e := ⟨_, List.getElem?_eq_getElem hlt⟩
      obtain ⟨ad, rfl, hU, hVe⟩ := hr.pair he
      have ho := hV.ok i e he
      obtain ⟨u, hu⟩ := Int.eq_ofNat_of_zero_le ho.lo
      obtain ⟨v, hv⟩ := Int.eq_ofNat_of_zero_le (show 0 ≤ e.2 by have := ho.lo; have := ho.lt; omega)
      obtain rfl : e = ((u : Int), (v : Int)) := Prod.ext hu hv
      clear hu hv
      have huv : u < v := by have := ho.lt; simp at this; exact this
      have hvN : v < Nn := by have := ho.hi; simp at this; exact this
      replace hU : w.cell? (ad.add (i * 2)) = some (.int .i64 (u : Int)) := hU
      replace hVe : w.cell? (ad.add (i * 2 + 1)) = some (.int .i64 (v : Int)) := hVe
      refine DC.skip ?_
      refine Fin.then ?_
      refine DC.seq ?_
      refine DC.block ?_
      refine DC.seq ?_
      refine DC.region ?_
      refine Seq.pur rfl rfl (p_move rfl rfl) ?_
      refine Seq.pur rfl rfl (p_index rfl rfl rfl Try.underlying23 sz39 (by omega) (by omega) (by first | exact add_at0 _ _ | exact add_at _ _ _ | rfl)) ?_
      refine Seq.val rfl rfl (v_loads (vs := [_, _]) rfl rfl ag39 sz39 rfl (hass2 hU hVe (by simp))) ?_
      refine Seq.new rfl rfl (n_alloc rfl ze39 rfl) fun g7 => ?_
      refine Seq.pur rfl rfl (p_assign rfl rfl) ?_
      refine Seq.sto rfl rfl (s_stores (cs' := #[_, _]) rfl rfl rfl sz39 rfl (Nat.le_of_ble_eq_true rfl) rfl) ?_
      refine Seq.nil ?_
      refine Fin.then ?_
      refine DC.seq ?_
      refine DC.flow (cl := [.v, .q, .q, .v, .q, .q, .v, .q, .q, .v, .q, .q, .q, .q, .v, .q, .q, .q, .g, .q, .g]) (A := [0, 1, 3, 7, 0, 16, 0, 64, 192, 448, 0, 1024, 3072, 0, 8192, 0, 32768, 25599, 156671, 524287, 1048575]) (order := [0, 1, 2, 3, 4, 5, 6, 7, 8, 9, 10, 11, 12, 13, 14, 15, 16, 17, 18, 19, 20]) ([blk g7 39 #[.int .i64 (u : Int), .int .i64 (v : Int)]]) mixed (by kernel_rfl) (fun w hw => hw.pick (.cons 0 rfl .nil)) ?_
      refine Flow.valS rfl rfl rfl rfl (v_load rfl rfl ag26 (by first | exact has_blk rfl | exact has_old' (by assumption))) ?_
      refine Flow.pur rfl rfl rfl (p_nil rfl rfl) ?_
      refine Flow.pur rfl rfl rfl (p_field rfl rfl fi73_0 (by first | exact add_at0 _ _ | exact add_at _ _ _ | rfl)) ?_
      refine Flow.valS rfl rfl rfl rfl (v_load rfl rfl ag34 (by first | exact has_blk rfl | exact has_old' (by assumption))) ?_
      refine Flow.pur rfl rfl rfl (p_move rfl rfl) ?_
      refine Flow.pur rfl rfl rfl (p_mul rfl rfl rfl (by omega)) ?_
      refine Flow.valS rfl rfl rfl rfl (v_load rfl rfl ag26 (by first | exact has_blk rfl | exact has_old' (by assumption))) ?_
      refine Flow.pur rfl rfl rfl (p_nil rfl rfl) ?_
      refine Flow.pur rfl rfl rfl (p_field rfl rfl fi73_0 (by first | exact add_at0 _ _ | exact add_at _ _ _ | rfl)) ?_
      refine Flow.valS rfl rfl rfl rfl (v_load rfl rfl ag34 (by first | exact has_blk rfl | exact has_old' (by assumption))) ?_
      refine Flow.pur rfl rfl rfl (p_move rfl rfl) ?_
      refine Flow.pur rfl rfl rfl (p_mul rfl rfl rfl (by omega)) ?_
      refine Flow.pur rfl rfl rfl (p_add rfl rfl rfl (by omega)) ?_
      refine Flow.pur rfl rfl rfl (p_field rfl rfl fi39_0 (by first | exact add_at0 _ _ | exact add_at _ _ _ | rfl)) ?_
      refine Flow.valS rfl rfl rfl rfl (v_load rfl rfl ag3 (by first | exact has_blk rfl | exact has_old' (by assumption))) ?_
      refine Flow.pur rfl rfl rfl (p_field rfl rfl fi39_1 (by first | exact add_at0 _ _ | exact add_at _ _ _ | rfl)) ?_
      refine Flow.old rfl rfl rfl (v_load rfl rfl ag3 (has_blk rfl)) ?_
      refine Flow.pur rfl rfl rfl (p_index1 (ad' := ⟨g21, 2 * i, none⟩) rfl rfl rfl Try.underlying34 sz3 (by omega) (by omega) (by rw [add_at0]; rfl)) ?_
      refine Flow.sto0 rfl rfl rfl rfl (s_store (cs' := (ints (tab (2 * es.length) (upd (frT es i) (2 * i) u))).toArray) rfl rfl rfl sz3 rfl (by simp; omega) row_tab) (fun w hw => hw.pick (.cons 0 rfl .nil)) ?_
      refine Flow.pur rfl rfl rfl (p_index1 (ad' := ⟨g21, 2 * i + 1, none⟩) rfl rfl rfl Try.underlying34 sz3 (by omega) (by omega) (by rw [add_at0]; rfl)) ?_
      refine Flow.sto0 rfl rfl rfl rfl (s_store (cs' := (ints (tab (2 * es.length) (frT es (i + 1)))).toArray) rfl rfl rfl sz3 rfl (by simp; omega) (by rw [row_tab, tab_congr fun x _ => frT_next he x])) (fun w hw => hw.pick (.cons 0 rfl .nil)) ?_
      refine Flow.end rfl ?_
      simp only [List.map_cons, List.map_nil, List.nil_append, List.cons_append, List.append_nil]
      refine Fin.then ?_
      refine DC.seq ?_
      refine DC.flow (cl := [.v, .q, .q, .v, .q, .v, .q, .q, .v, .q, .q, .g]) (A := [0, 1, 3, 7, 0, 16, 48, 127, 255, 511, 1023, 2047]) (order := [0, 1, 2, 3, 4, 5, 6, 7, 8, 9, 10, 11]) [] mixed (by kernel_rfl) (fun w hw => hw.pick .nil) ?_
      refine Flow.valS rfl rfl rfl rfl (v_load rfl rfl ag26 (by first | exact has_blk rfl | exact has_old' (by assumption))) ?_
      refine Flow.pur rfl rfl rfl (p_nil rfl rfl) ?_
      refine Flow.pur rfl rfl rfl (p_field rfl rfl fi73_1 (by first | exact add_at0 _ _ | exact add_at _ _ _ | rfl)) ?_
      refine Flow.valS rfl rfl rfl rfl (v_load rfl rfl ag34 (by first | exact has_blk rfl | exact has_old' (by assumption))) ?_
      refine Flow.pur rfl rfl rfl (p_field rfl rfl fi39_0 (by first | exact add_at0 _ _ | exact add_at _ _ _ | rfl)) ?_
      refine Flow.valS rfl rfl rfl rfl (v_load rfl rfl ag3 (by first | exact has_blk rfl | exact has_old' (by assumption))) ?_
      refine Flow.pur rfl rfl rfl (p_add rfl rfl rfl (by omega)) ?_
      refine Flow.pur rfl rfl rfl (p_index1 (ad' := ⟨g25, u + 1, none⟩) rfl rfl rfl Try.underlying34 sz3 (by omega) (by omega) (by rw [add_at0]; rfl)) ?_
      refine Flow.valS rfl rfl rfl rfl (v_load rfl rfl ag3 (has_row (row_getT (by omega)))) ?_
      have hcb : 0 ≤ stA es i (u + 1) ∧ stA es i (u + 1) ≤ 8388608 := by
        simp only [stA, Nat.add_sub_cancel, if_neg (Nat.succ_ne_zero u)]
        have h1 := cnt_nonneg (es.take i) u
        have h2 := outs_lo hV (u : Int) i (by omega)
        have h3 : loV es i u ≤ i := by unfold loV; have := List.countP_le_length (p := fun e : Pr => decide (e.2 = (u : Int))) (l := es.take i); simp at this; omega
        have h4 : loU es i u ≤ i := by unfold loU; have := List.countP_le_length (p := fun e : Pr => decide (e.1 = (u : Int))) (l := es.take i); simp at this; omega
        unfold cnt at *; omega
      refine Flow.pur rfl rfl rfl (p_add rfl rfl rfl (by omega)) ?_
      refine Flow.pur rfl rfl rfl (p_index1 (ad' := ⟨g25, u + 1, none⟩) rfl rfl rfl Try.underlying34 sz3 (by omega) (by omega) (by rw [add_at0]; rfl)) ?_
      refine Flow.sto0 rfl rfl rfl rfl (s_store (cs' := (ints (tab (Nn + 1) (upd (stA es i) (u + 1) (stA es i (u + 1) + 1)))).toArray) rfl rfl rfl sz3 rfl (by simp; omega) row_tab) (fun w hw => hw.pick (.nil)) ?_
      refine Flow.end rfl ?_
      simp only [List.map_cons, List.map_nil, List.nil_append, List.cons_append, List.append_nil]
      refine Fin.then ?_
      refine DC.flow (cl := [.v, .q, .q, .v, .q, .v, .q, .q, .v, .q, .q, .g]) (A := [0, 1, 3, 7, 0, 16, 48, 127, 255, 511, 1023, 2047]) (order := [0, 1, 2, 3, 4, 5, 6, 7, 8, 9, 10, 11]) [] mixed (by kernel_rfl) (fun w hw => hw.pick .nil) ?_
      refine Flow.valS rfl rfl rfl rfl (v_load rfl rfl ag26 (by first | exact has_blk rfl | exact has_old' (by assumption))) ?_
      refine Flow.pur rfl rfl rfl (p_nil rfl rfl) ?_
      refine Flow.pur rfl rfl rfl (p_field rfl rfl fi73_1 (by first | exact add_at0 _ _ | exact add_at _ _ _ | rfl)) ?_
      refine Flow.valS rfl rfl rfl rfl (v_load rfl rfl ag34 (by first | exact has_blk rfl | exact has_old' (by assumption))) ?_
      refine Flow.pur rfl rfl rfl (p_field rfl rfl fi39_1 (by first | exact add_at0 _ _ | exact add_at _ _ _ | rfl)) ?_
      refine Flow.valS rfl rfl rfl rfl (v_load rfl rfl ag3 (by first | exact has_blk rfl | exact has_old' (by assumption))) ?_
      refine Flow.pur rfl rfl rfl (p_add rfl rfl rfl (by omega)) ?_
      refine Flow.pur rfl rfl rfl (p_index1 (ad' := ⟨g25, v + 1, none⟩) rfl rfl rfl Try.underlying34 sz3 (by omega) (by omega) (by rw [add_at0]; rfl)) ?_
      refine Flow.valS rfl rfl rfl rfl (v_load rfl rfl ag3 (has_row (row_getT (by omega)))) ?_
      have hcv : 0 ≤ upd (stA es i) (u + 1) (stA es i (u + 1) + 1) (v + 1) ∧ upd (stA es i) (u + 1) (stA es i (u + 1) + 1) (v + 1) ≤ 8388608 := by
        unfold upd
        rw [if_neg (by omega)]
        simp only [stA, Nat.add_sub_cancel, if_neg (Nat.succ_ne_zero v)]
        have h1 := cnt_nonneg (es.take i) v
        have h2 := outs_lo hV (v : Int) i (by omega)
        have h3 : loV es i v ≤ i := by unfold loV; have := List.countP_le_length (p := fun e : Pr => decide (e.2 = (v : Int))) (l := es.take i); simp at this; omega
        have h4 : loU es i v ≤ i := by unfold loU; have := List.countP_le_length (p := fun e : Pr => decide (e.1 = (v : Int))) (l := es.take i); simp at this; omega
        unfold cnt at *; omega
      refine Flow.pur rfl rfl rfl (p_add rfl rfl rfl (by omega)) ?_
      refine Flow.pur rfl rfl rfl (p_index1 (ad' := ⟨g25, v + 1, none⟩) rfl rfl rfl Try.underlying34 sz3 (by omega) (by omega) (by rw [add_at0]; rfl)) ?_
      refine Flow.sto0 rfl rfl rfl rfl (s_store (cs' := (ints (tab (Nn + 1) (stA es (i + 1)))).toArray) rfl rfl rfl sz3 rfl (by simp; omega) (by rw [row_tab, tab_congr fun x _ => stA_next he (by omega) x])) (fun w hw => hw.pick (.nil)) ?_
      refine Flow.end rfl ?_
      simp only [List.map_cons, List.map_nil, List.nil_append, List.cons_append, List.append_nil]
      refine Fin.inBlock ?_
      refine Fin.then ?_
      refine DC.region ?_
      refine Seq.pur rfl rfl (p_add rfl rfl rfl (by omega)) ?_
      refine Seq.pur rfl rfl (p_move rfl rfl) ?_
      refine Seq.nil ?_
      refine Fin.again (i + 1) (by omega) (by omega) ⟨rfl, rfl, rfl, rfl, rfl, rfl, rfl, rfl, trivial⟩ (.cons 1 rfl (.cons' 1 rfl (by simp only [sl_tab]) (.cons 1 rfl (.cons 1 rfl (.cons 1 rfl (.cons 1 rfl (.cons 1 rfl .nil)))))))
    · have hie : i = es.length := by simp at c6; omega
      subst hie
      refine DC.exit ?_
      refine Fin.exit_then <| Fin.exit_then <| Fin.exit_here <| ?_
      refine Fin.then ?_
      refine DC.seq ?_
      refine DC.seq ?_
      refine DC.region ?_
      refine Seq.pur rfl rfl (p_field rfl rfl fi25_0 (by first | exact add_at0 _ _ | exact add_at _ _ _ | rfl)) ?_
      refine Seq.val rfl rfl (v_load rfl rfl ag3 (by first | exact has_blk rfl | exact has_old' (by assumption))) ?_
      refine Seq.pur rfl rfl (p_move rfl rfl) ?_
      refine Seq.nil ?_
      refine Fin.then ?_
      refine DC.block ?_
      refine DC.loop (ι := Nat) (fun v => v ≤ Nn)
        (fun v => [(2, .pointer none), (3, .int .i64 0), (4, .int .i64 es.length), (5, .pointer (some ⟨g5, 0, none⟩)), (85, .int .i64 (Nn : Int)), (86, .int .i64 v)])
        (fun v => [blk g5 26 #[.pointer (some ⟨g33, 0, none⟩)], blk g33 73 #[sl g21 (tab (2 * es.length) fun _ => 0), sl g25 (tab (Nn + 1) fun _ => 0), sl g28 (tab (2 * es.length) fun _ => 0), sl g31 (tab (2 * es.length) fun _ => 0)],
          blk g31 3 (ints (tab (2 * es.length) fun _ => 0)).toArray, blk g28 3 (ints (tab (2 * es.length) fun _ => 0)).toArray, blk g25 3 (ints (tab (Nn + 1) (stB es v))).toArray, blk g21 3 (ints (tab (2 * es.length) (frT es es.length))).toArray])
        (fun v => Nn - v) 0 (Nat.zero_le _) ⟨rfl, rfl, rfl, rfl, rfl, rfl, trivial⟩
        (.cons 0 rfl (.cons' 0 rfl (by simp only [sl_tab]) (.cons 0 rfl (.cons 0 rfl (.cons' 0 rfl (blk_tab fun x _ => by
          unfold stA stB
          rw [List.take_length]
          by_cases h0 : x = 0
          · subst h0; rfl
          · rw [if_neg h0, if_neg (by omega)]) (.cons 0 rfl .nil)))))) ?_
      intro v hv
      simp only [sl_tab]
      refine DC.seq ?_
      refine DC.region ?_
      refine Seq.pur rfl rfl (p_lss rfl rfl rfl) ?_
      refine Seq.nil ?_
      refine Fin.then ?_
      refine DC.seq ?_
      refine DC.cond rfl (fun c13 => ?_) (fun c13 => ?_)
      · have hlt : v < Nn := by simpa using c13
        refine DC.skip ?_
        refine Fin.then ?_
        refine DC.seq ?_
        refine DC.block ?_
        refine DC.seq ?_
        refine DC.region ?_
        refine Seq.pur rfl rfl (p_move rfl rfl) ?_
        refine Seq.pur rfl rfl (p_assign rfl rfl) ?_
        refine Seq.nil ?_
        refine Fin.then ?_
        refine DC.flow (cl := [.v, .q, .q, .v, .q, .q, .q, .v, .v, .q, .q, .v, .q, .q, .v, .q, .q, .g]) (A := [0, 1, 3, 7, 0, 16, 63, 127, 0, 256, 768, 1792, 0, 7936, 16128, 32767, 65535, 131071]) (order := [0, 1, 2, 3, 4, 5, 6, 7, 8, 9, 10, 11, 12, 13, 14, 15, 16, 17]) [] mixed (by kernel_rfl) (fun w hw => hw.pick .nil) ?_
        refine Flow.valS rfl rfl rfl rfl (v_load rfl rfl ag26 (by first | exact has_blk rfl | exact has_old' (by assumption))) ?_
        refine Flow.pur rfl rfl rfl (p_nil rfl rfl) ?_
        refine Flow.pur rfl rfl rfl (p_field rfl rfl fi73_1 (by first | exact add_at0 _ _ | exact add_at _ _ _ | rfl)) ?_
        refine Flow.valS rfl rfl rfl rfl (v_load rfl rfl ag34 (by first | exact has_blk rfl | exact has_old' (by assumption))) ?_
        refine Flow.pur rfl rfl rfl (p_move rfl rfl) ?_
        refine Flow.pur rfl rfl rfl (p_add rfl rfl rfl (by omega)) ?_
        refine Flow.pur rfl rfl rfl (p_index1 (ad' := ⟨g25, v + 1, none⟩) rfl rfl rfl Try.underlying34 sz3 (by omega) (by omega) (by rw [add_at0]; rfl)) ?_
        refine Flow.valS rfl rfl rfl rfl (v_load rfl rfl ag3 (has_row (row_getT (by omega)))) ?_
        refine Flow.valS rfl rfl rfl rfl (v_load rfl rfl ag26 (by first | exact has_blk rfl | exact has_old' (by assumption))) ?_
        refine Flow.pur rfl rfl rfl (p_nil rfl rfl) ?_
        refine Flow.pur rfl rfl rfl (p_field rfl rfl fi73_1 (by first | exact add_at0 _ _ | exact add_at _ _ _ | rfl)) ?_
        refine Flow.valS rfl rfl rfl rfl (v_load rfl rfl ag34 (by first | exact has_blk rfl | exact has_old' (by assumption))) ?_
        refine Flow.pur rfl rfl rfl (p_move rfl rfl) ?_
        refine Flow.pur rfl rfl rfl (p_index1 rfl rfl rfl Try.underlying34 sz3 (by omega) (by omega) (by first | exact add_at0 _ _ | exact add_at _ _ _ | rfl)) ?_
        refine Flow.valS rfl rfl rfl rfl (v_load rfl rfl ag3 (has_row (row_getT (i := v) (by omega)))) ?_
        have hcb : 0 ≤ stB es v (v + 1) ∧ stB es v (v + 1) ≤ 8388608 ∧ 0 ≤ stB es v v ∧ stB es v v ≤ 8388608 := by
          unfold stB
          rw [if_neg (by omega), if_pos (Nat.le_refl _)]
          have h1 := pre_le hV (v := v + 1) (by omega)
          have h2 : pre es (v + 1) = pre es v + cnt es v := rfl
          have h3 := pre_nonneg es v
          have h4 := cnt_nonneg es v
          simp only [Nat.add_sub_cancel]
          omega
        refine Flow.pur rfl rfl rfl (p_add rfl rfl rfl (by omega)) ?_
        refine Flow.pur rfl rfl rfl (p_index1 (ad' := ⟨g25, v + 1, none⟩) rfl rfl rfl Try.underlying34 sz3 (by omega) (by omega) (by rw [add_at0]; rfl)) ?_
        refine Flow.sto0 rfl rfl rfl rfl (s_store (cs' := (ints (tab (Nn + 1) (stB es (v + 1)))).toArray) rfl rfl rfl sz3 rfl (by simp; omega) (by rw [row_tab, tab_congr fun x _ => stB_next x])) (fun w hw => hw.pick (.nil)) ?_
        refine Flow.end rfl ?_
        simp only [List.map_cons, List.map_nil, List.nil_append, List.cons_append, List.append_nil]
        refine Fin.inBlock ?_
        refine Fin.then ?_
        refine DC.region ?_
        refine Seq.pur rfl rfl (p_add rfl rfl rfl (by omega)) ?_
        refine Seq.pur rfl rfl (p_move rfl rfl) ?_
        refine Seq.nil ?_
        refine Fin.again (v + 1) (by omega) (by omega) ⟨rfl, rfl, rfl, rfl, rfl, rfl, trivial⟩ (.cons 0 rfl (.cons' 0 rfl (by simp only [sl_tab]) (.cons 0 rfl (.cons 0 rfl (.cons 0 rfl (.cons 0 rfl .nil))))))
      · have hve : v = Nn := by simp at c13; omega
        subst hve
        refine DC.exit ?_
        refine Fin.exit_then <| Fin.exit_then <| Fin.exit_here <| ?_
        refine Fin.then ?_
        refine DC.seq ?_
        refine DC.region ?_
        refine Seq.new rfl rfl (n_slit (cs := #[]) rfl rfl Try.underlying34 sz3 ze3 rfl (by decide) (by decide) rfl rfl) fun g107 => ?_
        refine Seq.val rfl rfl (v_load rfl rfl ag26 (by first | exact has_blk rfl | exact has_old' (by assumption))) ?_
        refine Seq.pur rfl rfl (p_nil rfl rfl) ?_
        refine Seq.pur rfl rfl (p_field rfl rfl fi73_1 (by first | exact add_at0 _ _ | exact add_at _ _ _ | rfl)) ?_
        refine Seq.val rfl rfl (v_load rfl rfl ag34 (by first | exact has_blk rfl | exact has_old' (by assumption))) ?_
        refine Seq.gen rfl rfl (g_append rfl rfl rfl Try.underlying34 sz3 by3 ze3 rfl (by decide) (by decide) (fun w hw => own_slc (vs := []) rfl (by decide) (Nat.le_refl _) (by decide) rfl rfl hw) (.inl ⟨_, _, rfl, hass_row0⟩) (by simp) (ints_one _ []) (by simp; omega)) ?_
        rintro v112 _ rfl
        refine Seq.open (fun _ h => absurd (congrArg List.length h) (by simp)) ?_
        rintro gx len capx sp rfl hlen hlc hcm hcs
        obtain rfl : len = v + 1 := by simp at hlen; omega
        simp only [List.nil_append]
        refine Seq.new rfl rfl (n_alloc rfl ze34 rfl) fun g9 => ?_
        refine Seq.sto rfl rfl (s_store (cs' := #[_]) rfl rfl rfl sz34 rfl (Nat.le_of_ble_eq_true rfl) rfl) ?_
        refine Seq.nil ?_
        refine Fin.then ?_
        refine DC.seq ?_
        refine DC.region ?_
        refine Seq.pur rfl rfl (p_func rfl rfl rfl) ?_
        refine Seq.pur rfl rfl (p_assign rfl rfl) ?_
        refine Seq.nil ?_
        refine Fin.then ?_
        refine DC.seq ?_
        refine DC.seq ?_
        refine DC.region ?_
        refine Seq.pur rfl rfl (p_move rfl rfl) ?_
        refine Seq.pur rfl rfl (p_move rfl rfl) ?_
        refine Seq.nil ?_
        refine Fin.then ?_
        refine DC.block ?_
        refine DC.loop (ι := NewI) (fun s => s.i ≤ es.length ∧ Done es (fun h => h % 2 = 1 ∧ h / 2 < s.i) s.fo s.fp)
          (fun s => [(2, .pointer none), (3, .int .i64 0), (4, .int .i64 es.length), (5, .pointer (some ⟨g5, 0, none⟩)), (10, .func (.func 54) #[] #[.pointer (some ⟨g9, 0, none⟩), .pointer (some ⟨g5, 0, none⟩)]), (114, .int .i64 es.length), (115, .int .i64 s.i)])
          (fun s => putL g9 g5 g33 g21 g25 gx g28 g31 capx (tab (2 * es.length) (frT es es.length)) (tab (v + 1) (stB es v)) (tab (v + 1) (nxA es s.i)) (tab (2 * es.length) s.fo) (tab (2 * es.length) s.fp) sp ++ [blk g25 3 (ints (tab (v + 1) (stB es v))).toArray])
          (fun s => es.length - s.i) ⟨0, fun _ => 0, fun _ => 0⟩ ⟨Nat.zero_le _, fun v k h hk hD => by dsimp only at hD; have := ((mem_outs hV).1 (List.mem_of_getElem? hk)).1; omega⟩ ⟨rfl, rfl, rfl, rfl, rfl, rfl, rfl, trivial⟩
          (.cons' 0 rfl (by simp) (.cons' 1 rfl rfl (.cons' 1 rfl (by simp only [sl_tab]) (.cons' 4 rfl rfl (.cons' 0 rfl (blk_tab_sp fun x hx => by
            unfold stB nxA loV
            rw [if_pos (by omega)]; simp) (.cons' 1 rfl rfl (.cons' 0 rfl rfl (.cons' 0 rfl rfl .nil)))))))) ?_
        rintro ⟨i, fo, fp⟩ ⟨hi, hD⟩
        dsimp only at hi hD ⊢
        refine DC.seq ?_
        refine DC.region ?_
        refine Seq.pur rfl rfl (p_lss rfl rfl rfl) ?_
        refine Seq.nil ?_
        refine Fin.then ?_
        refine DC.seq ?_
        refine DC.cond rfl (fun c20 => ?_) (fun c20 => ?_)
        · have hlt : i < es.length := by simpa using c20
          obtain ⟨e, he⟩ : ∃ e, es[i]? = some e := ⟨_, List.getElem?_eq_getElem hlt⟩
          have ho := hV.ok i e he
          obtain ⟨x, hx⟩ := Int.eq_ofNat_of_zero_le (show 0 ≤ e.2 by have := ho.lo; have := ho.lt; omega)
          have hxN : x < v := by have := ho.hi; omega
          have hpos := outs_pos2 he (by have := ho.lt; omega)
          rw [hx] at hpos
          have hk := (List.getElem?_eq_some_iff.1 hpos).1
          have hkl := outs_lo hV (x : Int) i (by omega)
          have hz := loU_zero hV he
          rw [hx] at hz
          have hpl := place_lt hV (v := x) (by omega) hk
          have hpn := pre_nonneg es x
          have hD' := Done.put hV hD hpos
          obtain ⟨p, hp⟩ : ∃ p, p = pre es x + ((outs (es.take i) (x : Int)).length : Int) := ⟨_, rfl⟩
          rw [← hp] at hD' hpl
          have hp0 : 0 ≤ p := by omega
          refine DC.skip ?_
          refine Fin.then ?_
          refine DC.seq ?_
          refine DC.block ?_
          refine DC.seq ?_
          refine DC.region ?_
          refine Seq.pur rfl rfl (p_move rfl rfl) ?_
          refine Seq.pur rfl rfl (p_assign rfl rfl) ?_
          refine Seq.nil ?_
          refine Fin.then ?_
          refine DC.region ?_
          refine Seq.pur rfl rfl (p_move rfl rfl) ?_
          refine Seq.pur rfl rfl (p_move rfl rfl) ?_
          refine Seq.pur rfl rfl (p_mul rfl rfl rfl (by omega)) ?_
          refine Seq.pur rfl rfl (p_add rfl rfl rfl (by omega)) ?_
          -- calls tangram/csr.New$1
          refine Seq.gen rfl rfl (g_call en54 rfl rfl rfl (.refl _) (fun _ h => h) (fun w hw => put_calls (h := 2 * (i : Int) + 1) (u := (x : Int)) (p := p) (hw.sub (List.sublist_append_left _ _)).self (by omega) (by
            have h1 : (2 * (i : Int) + 1).toNat = 2 * i + 1 := by omega
            rw [h1, tab_get _ (by omega)]; unfold frT; rw [if_pos (by omega), (frs_get he).2, hx]; rfl) (by omega) (by
            simp only [Int.toNat_natCast]
            rw [tab_get _ (by omega)]; unfold nxA; rw [hp]; congr 1; omega) hp0 (by simp; omega) (by simp; omega) (by omega))) ?_
          rintro _ _ ⟨_, ⟨rfl, rfl⟩, rfl⟩
          refine Seq.nil ?_
          refine Fin.inBlock ?_
          refine Fin.then ?_
          refine DC.region ?_
          refine Seq.pur rfl rfl (p_add rfl rfl rfl (by omega)) ?_
          refine Seq.pur rfl rfl (p_move rfl rfl) ?_
          refine Seq.nil ?_
          have e1 : (2 * (i : Int) + 1).toNat = 2 * i + 1 := by omega
          refine Fin.again (NewI.mk (i + 1) (upd fo p.toNat (2 * (i : Int) + 1)) (upd fp (2 * (i : Int) + 1).toNat p)) (by simp; omega) ⟨by simp; omega, hD'.imp fun y z hz hd => ?_⟩ ⟨rfl, rfl, rfl, rfl, rfl, rfl, rfl, trivial⟩
            (.cons' 0 rfl (by simp) (.cons' 0 rfl rfl (.cons' 0 rfl (by simp [sl]) (.cons' 0 rfl rfl (.cons' 0 rfl (by
              simp only [Int.toNat_natCast, tab_set]
              refine blk_tab_sp fun y hy => ?_
              unfold upd nxA
              rw [loV_succ he, hx]
              by_cases hyx : y = x
              · subst hyx; rw [if_pos rfl, if_pos rfl]; omega
              · rw [if_neg hyx, if_neg (by omega)]; omega) (.cons' 0 rfl (by rw [tab_set]) (.cons' 0 rfl (by rw [tab_set]) (.cons' 0 rfl rfl .nil))))))))
          · by_cases h1 : z / 2 < i
            · exact .inl ⟨hd.1, h1⟩
            · exact .inr (by have := hd.1; have := hd.2; simp at this; omega)
        · have hie : i = es.length := by simp at c20; omega
          subst hie
          refine DC.exit ?_
          refine Fin.exit_then <| Fin.exit_then <| Fin.exit_here <| ?_
          refine Fin.then ?_
          refine DC.seq ?_
          refine DC.seq ?_
          refine DC.region ?_
          refine Seq.pur rfl rfl (p_move rfl rfl) ?_
          refine Seq.pur rfl rfl (p_move rfl rfl) ?_
          refine Seq.nil ?_
          refine Fin.then ?_
          refine DC.block ?_
          refine DC.loop (ι := NewI) (fun s => s.i ≤ es.length ∧ Done es (fun h => h % 2 = 1 ∨ h / 2 < s.i) s.fo s.fp)
            (fun s => [(2, .pointer none), (3, .int .i64 0), (5, .pointer (some ⟨g5, 0, none⟩)), (10, .func (.func 54) #[] #[.pointer (some ⟨g9, 0, none⟩), .pointer (some ⟨g5, 0, none⟩)]), (124, .int .i64 es.length), (125, .int .i64 s.i)])
            (fun s => putL g9 g5 g33 g21 g25 gx g28 g31 capx (tab (2 * es.length) (frT es es.length)) (tab (v + 1) (stB es v)) (tab (v + 1) (nxB es s.i)) (tab (2 * es.length) s.fo) (tab (2 * es.length) s.fp) sp ++ [blk g25 3 (ints (tab (v + 1) (stB es v))).toArray])
            (fun s => es.length - s.i) ⟨0, fo, fp⟩ ⟨Nat.zero_le _, hD.imp fun y z hz hd => by dsimp only at hd; have := ((mem_outs hV).1 hz).2.1; have := ((mem_outs hV).1 hz).1; omega⟩ ⟨rfl, rfl, rfl, rfl, rfl, rfl, trivial⟩
            (.cons' 0 rfl (by simp) (.cons' 0 rfl rfl (.cons' 0 rfl rfl (.cons' 0 rfl rfl (.cons' 0 rfl (blk_tab_sp fun x hx => by
              unfold nxA nxB loU; simp) (.cons' 0 rfl rfl (.cons' 0 rfl rfl (.cons' 0 rfl rfl .nil)))))))) ?_
          rintro ⟨i, fo, fp⟩ ⟨hi, hD⟩
          dsimp only at hi hD ⊢
          refine DC.seq ?_
          refine DC.region ?_
          refine Seq.pur rfl rfl (p_lss rfl rfl rfl) ?_
          refine Seq.nil ?_
          refine Fin.then ?_
          refine DC.seq ?_
          refine DC.cond rfl (fun c25 => ?_) (fun c25 => ?_)
          · have hlt : i < es.length := by simpa using c25
            obtain ⟨e, he⟩ : ∃ e, es[i]? = some e := ⟨_, List.getElem?_eq_getElem hlt⟩
            have ho := hV.ok i e he
            obtain ⟨x, hx⟩ := Int.eq_ofNat_of_zero_le ho.lo
            have hxN : x < v := by have := ho.hi; have := ho.lt; omega
            have hpos := outs_pos1 he
            rw [hx] at hpos
            have hk := (List.getElem?_eq_some_iff.1 hpos).1
            have hkl := outs_lo hV (x : Int) i (by omega)
            have hz := loV_all hV he
            rw [hx] at hz
            have hpl := place_lt hV (v := x) (by omega) hk
            have hpn := pre_nonneg es x
            have hD' := Done.put hV hD hpos
            obtain ⟨p, hp⟩ : ∃ p, p = pre es x + ((outs (es.take i) (x : Int)).length : Int) := ⟨_, rfl⟩
            rw [← hp] at hD' hpl
            have hp0 : 0 ≤ p := by omega
            refine DC.skip ?_
            refine Fin.then ?_
            refine DC.seq ?_
            refine DC.block ?_
            refine DC.seq ?_
            refine DC.region ?_
            refine Seq.pur rfl rfl (p_move rfl rfl) ?_
            refine Seq.pur rfl rfl (p_assign rfl rfl) ?_
            refine Seq.nil ?_
            refine Fin.then ?_
            refine DC.region ?_
            refine Seq.pur rfl rfl (p_move rfl rfl) ?_
            refine Seq.pur rfl rfl (p_move rfl rfl) ?_
            refine Seq.pur rfl rfl (p_mul rfl rfl rfl (by omega)) ?_
            -- calls tangram/csr.New$1
            refine Seq.gen rfl rfl (g_call en54 rfl rfl rfl (.refl _) (fun _ h => h) (fun w hw => put_calls (h := 2 * (i : Int)) (u := (x : Int)) (p := p) (hw.sub (List.sublist_append_left _ _)).self (by omega) (by
              have h1 : (2 * (i : Int)).toNat = 2 * i := by omega
              rw [h1, tab_get _ (by omega)]; unfold frT; rw [if_pos (by omega), (frs_get he).1, hx]; rfl) (by omega) (by
              simp only [Int.toNat_natCast]
              rw [tab_get _ (by omega)]; unfold nxB; rw [hp]; congr 1; omega) hp0 (by simp; omega) (by simp; omega) (by omega))) ?_
            rintro _ _ ⟨_, ⟨rfl, rfl⟩, rfl⟩
            refine Seq.nil ?_
            refine Fin.inBlock ?_
            refine Fin.then ?_
            refine DC.region ?_
            refine Seq.pur rfl rfl (p_add rfl rfl rfl (by omega)) ?_
            refine Seq.pur rfl rfl (p_move rfl rfl) ?_
            refine Seq.nil ?_
            refine Fin.again (NewI.mk (i + 1) (upd fo p.toNat (2 * (i : Int))) (upd fp (2 * (i : Int)).toNat p)) (by simp; omega) ⟨by simp; omega, hD'.imp fun y z hz hd => ?_⟩ ⟨rfl, rfl, rfl, rfl, rfl, rfl, trivial⟩
              (.cons' 0 rfl (by simp) (.cons' 0 rfl rfl (.cons' 0 rfl (by simp [sl]) (.cons' 0 rfl rfl (.cons' 0 rfl (by
                simp only [Int.toNat_natCast, tab_set]
                refine blk_tab_sp fun y hy => ?_
                unfold upd nxB
                rw [loU_succ he, hx]
                by_cases hyx : y = x
                · subst hyx; rw [if_pos rfl, if_pos rfl]; omega
                · rw [if_neg hyx, if_neg (by omega)]; omega) (.cons' 0 rfl (by rw [tab_set]) (.cons' 0 rfl (by rw [tab_set]) (.cons' 0 rfl rfl .nil))))))))
            · rcases hd with hd | hd
              · exact .inl (.inl hd)
              · by_cases h1 : z / 2 < i
                · exact .inl (.inr h1)
                · by_cases h2 : z % 2 = 1
                  · exact .inl (.inl h2)
                  · exact .inr (by simp at hd; omega)
          · have hie : i = es.length := by simp at c25; omega
            subst hie
            simp only [putL, List.cons_append, List.nil_append]
            refine DC.exit ?_
            refine Fin.exit_then <| Fin.exit_then <| Fin.exit_here <| ?_
            refine Fin.then ?_
            refine DC.seq ?_
            refine DC.region ?_
            refine Seq.val rfl rfl (v_load rfl rfl ag26 (by first | exact has_blk rfl | exact has_old' (by assumption))) ?_
            refine Seq.pur rfl rfl (p_assign rfl rfl) ?_
            refine Seq.pur rfl rfl (p_assign rfl rfl) ?_
            refine Seq.nil ?_
            refine Fin.then ?_
            refine DC.ret ?_
            refine Fin.weak (E' := [(2, _), (3, _)]) (L' := adjL ⟨g33, g21, g25, g28, g31, tab (2 * es.length) (frT es es.length), tab (v + 1) (stB es v), tab (2 * es.length) fo, tab (2 * es.length) fp⟩) ⟨rfl, rfl, trivial⟩ (.cons 2 rfl (.cons 2 rfl (.cons 5 rfl (.cons 3 rfl (.cons 3 rfl .nil))))) ?_
            refine Fin.end2 (.inl rfl) rfl rfl rfl ?_
            refine .inr ⟨hV, _, ⟨hV, ?_, by simp, ?_, ?_, by simp; omega, by simp; omega, ?_, ?_⟩, rfl, rfl⟩
            · apply List.ext_getElem?
              intro j
              by_cases hj : j < 2 * es.length
              · rw [tab_get _ hj]
                have : j < (frs es).length := by rw [frs_length]; omega
                unfold frT
                rw [if_pos hj, List.getElem?_eq_getElem this]; rfl
              · rw [List.getElem?_eq_none (by simp; omega), List.getElem?_eq_none (by rw [frs_length]; omega)]
            · rw [tab_get _ (by omega)]; rfl
            · intro x y hxN hy
              obtain ⟨hx1, rfl⟩ := tab_get' hy
              rw [tab_get _ (by omega)]
              unfold stB
              rw [if_pos (by omega), if_pos (by omega)]; rfl
            · intro x y hxN hy k h hk
              obtain ⟨hx1, rfl⟩ := tab_get' hy
              have hm := (mem_outs hV).1 (List.mem_of_getElem? hk)
              have hkl := (List.getElem?_eq_some_iff.1 hk).1
              have hpl := place_lt hV hxN hkl
              have hpn := pre_nonneg es x
              obtain ⟨d1, d2⟩ := hD x k h hk (.inr (by omega))
              have hs : stB es v x = pre es x := by unfold stB; rw [if_pos (by omega)]
              rw [hs]
              have e1 : (pre es x).toNat + k = (pre es x + k).toNat := by omega
              refine ⟨?_, ?_⟩
              · show (tab (2 * es.length) fo)[_]? = _
                rw [e1, tab_get _ (by omega), d1]
              · show (tab (2 * es.length) fp)[_]? = _
                rw [tab_get _ (by omega), d2]
            · intro x y hy
              obtain ⟨hx1, rfl⟩ := tab_get' hy
              have hs : stB es v x = pre es x := by unfold stB; rw [if_pos (by omega)]
              rw [hs]
              have := pre_nonneg es x
              have := pre_le hV (v := x) (by omega)
              omega
end Go.Fl
