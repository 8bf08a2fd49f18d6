/- apart: lists that share no memory. -/
import Derived.Test.YtbkhejfnhbjhpaaFlTw
import Derived.Test.YtbkhejfnhbjhpaaTypes
set_option linter.unusedVariables false
set_option linter.unusedSimpArgs false
set_option maxRecDepth 100000
namespace Go.Fl
open Go Go.Proofs

section
variable {P : Program} {w0 : World} {K : List Nat} {n : Nat} {ds : List Deferred} {E : Env} {L : List Chunk}
theorem DC.know4 {Q : Exit → Act → World → Prop} {c : Code} {φ : Prop} (hf : ∀ w, Own w0 K w L → φ) (h : φ → DC P w0 K n ds Q c E L) : DC P w0 K n ds Q c E L := fun a w ha hw => h (hf w hw) a w ha hw
end
/-- The rows so far: the first i are written. -/
def Wr (rs : RL) (i : Nat) (rs' : RL) : Prop := rs'.length = rs.length ∧ rowsV rs' = rowsV rs ∧ ∀ (j : Nat) p, rs'[j]? = some p → (∀ q, rs[j]? = some q → p.1 = q.1 ∧ p.2.length = q.2.length) ∧ (j < i → p.2 = wr1 j p.2.length)
theorem rowsV_same {rs rs' : RL} (h1 : rowsV rs' = rowsV rs) {i : Nat} {p : Value × List Int} (h : rs'[i]? = some p) : (rowsV rs).toArray[i]? = some p.1 := by rw [← h1]; exact rowsV_get h
theorem rowsV_put {rs rs' : RL} (h1 : rowsV rs' = rowsV rs) {i : Nat} {p : Value × List Int} {xs : List Int} (h : rs'[i]? = some p) : rowsV (rs'.set i (p.1, xs)) = rowsV rs := by
  rw [← h1]
  unfold rowsV
  rw [List.map_set]
  apply List.ext_getElem?
  intro j
  by_cases hj : i = j
  · subst hj
    have hl := (List.getElem?_eq_some_iff.1 h).1
    rw [List.getElem?_set_self (by simpa using hl), List.getElem?_map, h]; rfl
  · rw [List.getElem?_set_ne hj]
def Tws (rs : RL) (i : Nat) (rt : RT) : Prop := rt.length = rs.length ∧ ∀ (j : Nat) p, rt[j]? = some p → (rowsV rs)[j]? = some p.1 ∧ p.2.1 = wr1 j p.2.1.length ∧ p.2.1.length ≤ 1000000000 ∧ p.2.2.2 = p.2.1 ++ List.replicate (if j < i then 40 else 0) (-(j : Int) - 1) ∧ (i ≤ j → p.2.2.1 = p.1)
theorem tws_start {rs r1 : RL} (h : Wr rs rs.length r1) (hn : ∀ (j : Nat) p, rs[j]? = some p → p.2.length ≤ 1000000000) : Tws rs 0 (twOf r1) := by
  obtain ⟨h1, h2, h3⟩ := h
  refine ⟨by simp [twOf, h1], fun j p hp => ?_⟩
  simp only [twOf, List.getElem?_map, Option.map_eq_some_iff] at hp
  obtain ⟨q, hq, rfl⟩ := hp
  have hj := (List.getElem?_eq_some_iff.1 hq).1
  obtain ⟨r, hr⟩ : ∃ r, rs[j]? = some r := ⟨rs[j]'(by omega), List.getElem?_eq_getElem (by omega)⟩
  have h4 := h3 j q hq
  have h5 := h4.1 r hr
  refine ⟨by rw [← h2]; simp [rowsV, hq], h4.2 (by omega), by dsimp only; have := hn j r hr; omega, by simp, fun _ => rfl⟩
section
variable {w0 : World} {K : List Nat} {F : List Chunk} {t : Nat} {rt : RT} {i j l c : Nat} {p : Value × List Int × Value × List Int} {ad : Addr} {h : Int}
theorem tw_elt1 (hp : rt[i]? = some p) (hv : p.1 = .slice (some ad) l c) (hj : p.2.1[j]? = some h) (hf : p.2.2.2.length ≤ 17592186044416) : Has w0 K (F ++ twC t rt) (ad.add j) (.int .i64 h) := by
  intro w hw
  obtain ⟨A, cap, he, hr, _⟩ := (tw_slv hw hp hf).1
  rw [hv] at he
  cases he
  obtain ⟨ad', ha, hc⟩ := hr.int hj
  cases ha
  exact hc
theorem tw_elt2 (hp : rt[i]? = some p) (hv : p.2.2.1 = .slice (some ad) l c) (hj : p.2.2.2[j]? = some h) (hf : p.2.2.2.length ≤ 17592186044416) : Has w0 K (F ++ twC t rt) (ad.add j) (.int .i64 h) := by
  intro w hw
  obtain ⟨A, cap, he, hr, _⟩ := (tw_slv hw hp hf).2
  rw [hv] at he
  cases he
  obtain ⟨ad', ha, hc⟩ := hr.int hj
  cases ha
  exact hc
end
theorem apart_calls {w : World} {gl : Nat} {rs : RL} (hO : Own w (idsOf ([blk gl 34 (rowsV rs).toArray] ++ rowsC 3 rs)) w ([blk gl 34 (rowsV rs).toArray] ++ rowsC 3 rs)) (hk : rs.length ≤ 1000000) (hn : ∀ (j : Nat) p, rs[j]? = some p → p.2.length ≤ 1000000000) :
    Calls Try.prog 44 #[.slice (some ⟨gl, 0, none⟩) rs.length rs.length] w (Ret w (idsOf ([blk gl 34 (rowsV rs).toArray] ++ rowsC 3 rs)) fun r M => r = .bool true) := by
  refine calls_of (args := [_]) Try.func44 rfl Try.ntmps44 rfl hO ?_
  simp only [List.cons_append, List.nil_append]
  refine DC.seq ?_
  refine DC.region ?_
  refine Seq.pur rfl rfl (p_assign rfl rfl) ?_
  refine Seq.nil ?_
  refine Fin.then ?_
  refine DC.seq ?_
  refine DC.region ?_
  refine Seq.pur rfl rfl (p_move rfl rfl) ?_
  refine Seq.pur rfl rfl (p_len rfl rfl Try.underlying41) ?_
  refine Seq.new rfl rfl (n_make (k := rs.length) (cs := (List.replicate rs.length (.slice none 0 0)).toArray) rfl rfl rfl Try.underlying41 sz34 by34 ze34 rfl (by omega) (by omega) (made_one _ rfl _)) fun g14 => ?_
  refine Seq.pur rfl rfl (p_assign rfl rfl) ?_
  refine Seq.nil ?_
  refine Fin.then ?_
  refine DC.seq ?_
  refine DC.seq ?_
  refine DC.region ?_
  refine Seq.pur rfl rfl (p_assign rfl rfl) ?_
  refine Seq.nil ?_
  refine Fin.then ?_
  refine DC.block ?_
  refine DC.loop (ι := Nat × RL) (fun q => q.1 ≤ rs.length ∧ Wr rs q.1 q.2) (fun q => [(0, .slice (some ⟨gl, 0, none⟩) rs.length rs.length), (3, .slice (some ⟨g14, 0, none⟩) rs.length rs.length), (4, .int .i64 q.1)]) (fun q => [blk g14 34 (List.replicate rs.length (.slice none 0 0)).toArray, blk gl 34 (rowsV rs).toArray] ++ rowsC 3 q.2) (fun q => rs.length - q.1) (0, rs) ⟨Nat.zero_le _, rfl, rfl, fun j p hp => ⟨fun q hq => by rw [hp] at hq; cases hq; exact ⟨rfl, rfl⟩, fun h => by dsimp only at h; omega⟩⟩ ⟨rfl, rfl, rfl, trivial⟩ (Pick.all _) ?_
  rintro ⟨i, r1⟩ ⟨hi, hr1, hr2, hr3⟩
  dsimp only at hi hr1 hr2 hr3 ⊢
  simp only [List.cons_append, List.nil_append]
  refine DC.seq ?_
  refine DC.seq ?_
  refine DC.region ?_
  refine Seq.pur rfl rfl (p_move rfl rfl) ?_
  refine Seq.pur rfl rfl (p_move rfl rfl) ?_
  refine Seq.pur rfl rfl (p_len rfl rfl Try.underlying41) ?_
  refine Seq.pur rfl rfl (p_lss rfl rfl rfl) ?_
  refine Seq.nil ?_
  refine Fin.then ?_
  refine DC.cond rfl (fun c3 => ?_) (fun c3 => ?_)
  · have hit : i < rs.length := by simpa using c3
    obtain ⟨p0, hp0⟩ : ∃ p, rs[i]? = some p := ⟨_, List.getElem?_eq_getElem hit⟩
    obtain ⟨⟨pv, x0⟩, hp⟩ : ∃ p, r1[i]? = some p := ⟨r1[i]'(by omega), List.getElem?_eq_getElem (by omega)⟩
    have hp3 := (hr3 i _ hp).1 p0 hp0
    dsimp only at hp3
    have hn0 := hn i p0 hp0
    refine DC.skip ?_
    refine Fin.then ?_
    refine DC.seq ?_
    refine DC.block ?_
    refine DC.seq ?_
    refine DC.region ?_
    refine Seq.pur rfl rfl (p_assign rfl rfl) ?_
    refine Seq.nil ?_
    refine Fin.then ?_
    refine DC.block ?_
    refine DC.loop (ι := Nat × List Int) (fun q => q.1 ≤ x0.length ∧ q.2.length = x0.length ∧ ∀ k : Nat, k < q.1 → q.2[k]? = some (1000 * (i : Int) + k)) (fun q => [(0, .slice (some ⟨gl, 0, none⟩) rs.length rs.length), (3, .slice (some ⟨g14, 0, none⟩) rs.length rs.length), (4, .int .i64 i), (5, .int .i64 q.1)])
      (fun q => [blk g14 34 (List.replicate rs.length (.slice none 0 0)).toArray, blk gl 34 (rowsV rs).toArray] ++ rowsC 3 (r1.set i (pv, q.2))) (fun q => x0.length - q.1) (0, x0) ⟨Nat.zero_le _, rfl, fun k h => by dsimp only at h; omega⟩ ⟨rfl, rfl, rfl, rfl, trivial⟩ (by
        have e : r1.set i (pv, x0) = r1 := by
          apply List.ext_getElem?
          intro j
          by_cases hj : i = j
          · subst hj; rw [List.getElem?_set_self (by omega), hp]
          · rw [List.getElem?_set_ne hj]
        dsimp only; rw [e]; exact Pick.all _) ?_
    rintro ⟨k, xs⟩ ⟨hk1, hk2, hk3⟩
    dsimp only at hk1 hk2 hk3 ⊢
    simp only [List.cons_append, List.nil_append]
    have hsi : (r1.set i (pv, xs))[i]? = some (pv, xs) := List.getElem?_set_self (by omega)
    refine DC.know4 (φ := ∃ A c, pv = .slice A xs.length c) (fun w hw => own_len0 (hw.perm (rows_at (t := 3) hsi [_, _]).symm)) ?_
    rintro ⟨A, c, rfl⟩
    refine DC.seq ?_
    refine DC.seq ?_
    refine DC.region ?_
    refine Seq.pur rfl rfl (p_move rfl rfl) ?_
    refine Seq.pur rfl rfl (p_move rfl rfl) ?_
    refine Seq.pur rfl rfl (p_move rfl rfl) ?_
    refine Seq.pur rfl rfl (p_index1 rfl rfl rfl Try.underlying41 sz34 (by omega) (by omega) (by first | exact add_at0 _ _ | exact add_at _ _ _ | rfl)) ?_
    refine Seq.val rfl rfl (v_load rfl rfl ag34 (has_row (rowsV_same hr2 hp))) ?_
    refine Seq.pur rfl rfl (p_len rfl rfl Try.underlying34) ?_
    refine Seq.pur rfl rfl (p_lss rfl rfl rfl) ?_
    refine Seq.nil ?_
    refine Fin.then ?_
    refine DC.cond rfl (fun c6 => ?_) (fun c6 => ?_)
    · have hkt : k < xs.length := by simpa using c6
      refine DC.know4 (φ := ∃ g, A = some ⟨g, 0, none⟩) (fun w hw => by
        obtain ⟨g, c', h⟩ := own_addr (hw.perm (rows_at (t := 3) hsi [_, _]).symm) (show 0 < xs.length by omega)
        cases h; exact ⟨g, rfl⟩) ?_
      rintro ⟨gr, rfl⟩
      refine DC.skip ?_
      refine Fin.then ?_
      refine DC.seq ?_
      refine DC.block ?_
      refine DC.region ?_
      refine Seq.pur rfl rfl (p_move rfl rfl) ?_
      refine Seq.pur rfl rfl (p_move rfl rfl) ?_
      refine Seq.pur rfl rfl (p_index1 rfl rfl rfl Try.underlying41 sz34 (by omega) (by omega) (by first | exact add_at0 _ _ | exact add_at _ _ _ | rfl)) ?_
      refine Seq.val rfl rfl (v_load rfl rfl ag34 (has_row (rowsV_same hr2 hp))) ?_
      refine Seq.pur rfl rfl (p_move rfl rfl) ?_
      refine Seq.pur rfl rfl (p_move rfl rfl) ?_
      refine Seq.pur rfl rfl (p_mul rfl rfl rfl (by omega)) ?_
      refine Seq.pur rfl rfl (p_move rfl rfl) ?_
      refine Seq.pur rfl rfl (p_add rfl rfl rfl (by omega)) ?_
      refine Seq.pur rfl rfl (p_index1 (ad' := ⟨gr, k, none⟩) rfl rfl rfl Try.underlying34 sz3 (by omega) (by omega) (add_at0 _ _)) ?_
      refine Seq.sto rfl rfl (s_elt (t := 3) (len := xs.length) (cap := c) (xs := xs) (F := [blk g14 34 (List.replicate rs.length (.slice none 0 0)).toArray, blk gl 34 (rowsV rs).toArray] ++ rowsC 3 ((r1.set i (.slice (some ⟨gr, 0, none⟩) xs.length c, xs)).eraseIdx i)) rfl rfl rfl sz3 (fun w hw => hw.perm (rows_at (t := 3) hsi [_, _]).symm) hkt) ?_
      refine Seq.nil ?_
      refine Fin.inBlock ?_
      refine Fin.then ?_
      refine DC.region ?_
      refine Seq.pur rfl rfl (p_move rfl rfl) ?_
      refine Seq.pur rfl rfl (p_add rfl rfl rfl (by omega)) ?_
      refine Seq.pur rfl rfl (p_assign rfl rfl) ?_
      refine Seq.nil ?_
      refine Fin.own (fun w hw => hw.perm (rows_set (t := 3) (rs := r1.set i (.slice (some ⟨gr, 0, none⟩) xs.length c, xs)) (i := i) (.slice (some ⟨gr, 0, none⟩) xs.length c, xs.set k (1000 * (i : Int) + k)) (by simp; omega) [_, _]).symm) ?_
      rw [List.set_set]
      refine Fin.again (k + 1, xs.set k (1000 * (i : Int) + k)) (by dsimp only; omega) ⟨by dsimp only; omega, by dsimp only; rw [List.length_set]; exact hk2, fun q hq => ?_⟩ ⟨rfl, rfl, rfl, rfl, trivial⟩ (Pick.all _)
      dsimp only at hq ⊢
      by_cases hqk : k = q
      · subst hqk; rw [List.getElem?_set_self hkt]
      · rw [List.getElem?_set_ne hqk]; exact hk3 q (by omega)
    · refine DC.exit ?_
      refine Fin.exit_then <| Fin.exit_then <| Fin.exit_here <| ?_
      refine Fin.inBlock ?_
      refine Fin.then ?_
      refine DC.region ?_
      refine Seq.pur rfl rfl (p_move rfl rfl) ?_
      refine Seq.pur rfl rfl (p_add rfl rfl rfl (by omega)) ?_
      refine Seq.pur rfl rfl (p_assign rfl rfl) ?_
      refine Seq.nil ?_
      have hke : k = xs.length := by simp at c6; omega
      refine Fin.again (i + 1, r1.set i (.slice A xs.length c, xs)) (by dsimp only; omega) ⟨by dsimp only; omega, by dsimp only; rw [List.length_set]; exact hr1, rowsV_put hr2 hp, fun j p hpj => ?_⟩ ⟨rfl, rfl, rfl, trivial⟩ (Pick.all _)
      dsimp only at hpj ⊢
      by_cases hj : i = j
      · subst hj
        rw [hsi] at hpj
        cases hpj
        refine ⟨fun q hq => ?_, fun _ => wr1_of fun q hq => hk3 q (by dsimp only at hq; omega)⟩
        rw [hp0] at hq; cases hq
        exact ⟨hp3.1, by dsimp only; omega⟩
      · rw [List.getElem?_set_ne hj] at hpj
        exact ⟨(hr3 j p hpj).1, fun h => (hr3 j p hpj).2 (by omega)⟩
  · have hie : i = rs.length := by simp at c3; omega
    have hT0 := tws_start (r1 := r1) (rs := rs) ⟨hr1, hr2, by rw [← hie]; exact hr3⟩ hn
    refine DC.exit ?_
    refine Fin.exit_then <| Fin.exit_then <| Fin.exit_here <| ?_
    refine Fin.then ?_
    refine DC.seq ?_
    refine DC.seq ?_
    refine DC.region ?_
    refine Seq.pur rfl rfl (p_assign rfl rfl) ?_
    refine Seq.nil ?_
    refine Fin.then ?_
    refine DC.block ?_
    refine DC.own (M := [blk g14 34 (List.replicate rs.length (.slice none 0 0)).toArray, blk gl 34 (rowsV rs).toArray] ++ twC 3 (twOf r1)) (fun w hw => tw_start hw) ?_
    refine DC.loop (ι := Nat × RT) (fun q => q.1 ≤ rs.length ∧ Tws rs q.1 q.2) (fun q => [(0, .slice (some ⟨gl, 0, none⟩) rs.length rs.length), (3, .slice (some ⟨g14, 0, none⟩) rs.length rs.length), (6, .int .i64 q.1)]) (fun q => [blk g14 34 (gsV q.1 q.2).toArray, blk gl 34 (rowsV rs).toArray] ++ twC 3 q.2) (fun q => rs.length - q.1) (0, twOf r1) ⟨Nat.zero_le _, hT0⟩ ⟨rfl, rfl, rfl, trivial⟩ (by
      dsimp only; rw [gsV_zero, hT0.1]; exact Pick.all _) ?_
    rintro ⟨i2, rt⟩ ⟨hi2, hT⟩
    dsimp only at hi2 hT ⊢
    simp only [List.cons_append, List.nil_append]
    refine DC.seq ?_
    refine DC.seq ?_
    refine DC.region ?_
    refine Seq.pur rfl rfl (p_move rfl rfl) ?_
    refine Seq.pur rfl rfl (p_move rfl rfl) ?_
    refine Seq.pur rfl rfl (p_len rfl rfl Try.underlying41) ?_
    refine Seq.pur rfl rfl (p_lss rfl rfl rfl) ?_
    refine Seq.nil ?_
    refine Fin.then ?_
    refine DC.cond rfl (fun c10 => ?_) (fun c10 => ?_)
    · have hit2 : i2 < rs.length := by simpa using c10
      obtain ⟨⟨v, xs, v', ys⟩, hp⟩ : ∃ p, rt[i2]? = some p := ⟨rt[i2]'(by have := hT.1; omega), List.getElem?_eq_getElem (by have := hT.1; omega)⟩
      obtain ⟨t1, t2, t3, t4, t5⟩ := hT.2 i2 _ hp
      dsimp only at t1 t2 t3 t4 t5
      rw [if_neg (by omega), List.replicate_zero, List.append_nil] at t4
      obtain rfl := t4
      obtain rfl := t5 (Nat.le_refl _)
      clear t5
      have hrtl := hT.1
      refine DC.know4 (φ := ∃ A c, v' = .slice A ys.length c) (fun w hw => by
        obtain ⟨A, c, h, _⟩ := (tw_slv (F := [_, _]) hw hp (by dsimp only; omega)).1
        exact ⟨A, c, h⟩) ?_
      rintro ⟨A, c, rfl⟩
      refine DC.skip ?_
      refine Fin.then ?_
      refine DC.seq ?_
      refine DC.block ?_
      refine DC.seq ?_
      refine DC.region ?_
      refine Seq.pur rfl rfl (p_move rfl rfl) ?_
      refine Seq.pur rfl rfl (p_move rfl rfl) ?_
      refine Seq.pur rfl rfl (p_index1 rfl rfl rfl Try.underlying41 sz34 (by omega) (by omega) (by first | exact add_at0 _ _ | exact add_at _ _ _ | rfl)) ?_
      refine Seq.val rfl rfl (v_load rfl rfl ag34 (has_row (by simpa using t1))) ?_
      refine Seq.pur rfl rfl (p_assign rfl rfl) ?_
      refine Seq.nil ?_
      refine Fin.then ?_
      refine DC.seq ?_
      refine DC.seq ?_
      refine DC.region ?_
      refine Seq.pur rfl rfl (p_assign rfl rfl) ?_
      refine Seq.nil ?_
      refine Fin.then ?_
      refine DC.block ?_
      refine DC.loop (ι := Nat × Value) (fun q => q.1 ≤ 40) (fun q => [(0, .slice (some ⟨gl, 0, none⟩) rs.length rs.length), (3, .slice (some ⟨g14, 0, none⟩) rs.length rs.length), (6, .int .i64 i2), (7, q.2), (8, .int .i64 q.1)])
        (fun q => [blk g14 34 (gsV i2 rt).toArray, blk gl 34 (rowsV rs).toArray] ++ twC 3 (rt.set i2 (.slice A ys.length c, ys, q.2, ys ++ List.replicate q.1 (-(i2 : Int) - 1)))) (fun q => 40 - q.1) (0, .slice A ys.length c) (Nat.zero_le _) ⟨rfl, rfl, rfl, rfl, rfl, trivial⟩ (by
          have e : rt.set i2 (.slice A ys.length c, ys, .slice A ys.length c, ys) = rt := by
            apply List.ext_getElem?
            intro j
            by_cases hj : i2 = j
            · subst hj; rw [List.getElem?_set_self (by omega), hp]
            · rw [List.getElem?_set_ne hj]
          dsimp only; rw [List.replicate_zero, List.append_nil, e]; exact Pick.all _) ?_
      rintro ⟨ct, v2⟩ hct
      dsimp only at hct ⊢
      simp only [List.cons_append, List.nil_append]
      have hsi : (rt.set i2 (.slice A ys.length c, ys, v2, ys ++ List.replicate ct (-(i2 : Int) - 1)))[i2]? = some (.slice A ys.length c, ys, v2, ys ++ List.replicate ct (-(i2 : Int) - 1)) := List.getElem?_set_self (by omega)
      refine DC.seq ?_
      refine DC.seq ?_
      refine DC.region ?_
      refine Seq.pur rfl rfl (p_move rfl rfl) ?_
      refine Seq.pur rfl rfl (p_lss rfl rfl rfl) ?_
      refine Seq.nil ?_
      refine Fin.then ?_
      refine DC.cond rfl (fun c14 => ?_) (fun c14 => ?_)
      · refine DC.skip ?_
        refine Fin.then ?_
        refine DC.seq ?_
        refine DC.block ?_
        refine DC.region ?_
        refine Seq.pur rfl rfl (p_move rfl rfl) ?_
        refine Seq.pur rfl rfl (p_move rfl rfl) ?_
        refine Seq.pur rfl rfl (p_neg rfl rfl (by omega)) ?_
        refine Seq.pur rfl rfl (p_sub rfl rfl rfl (by omega)) ?_
        refine Seq.new rfl rfl (n_slit (cs := #[_]) rfl rfl Try.underlying34 sz3 ze3 rfl (by decide) (by decide) rfl rfl) fun g58 => ?_
        refine Seq.gen rfl rfl (g_twin (F := [blk g14 34 (gsV i2 rt).toArray, blk gl 34 (rowsV rs).toArray] ++ twC 3 ((rt.set i2 (.slice A ys.length c, ys, v2, ys ++ List.replicate ct (-(i2 : Int) - 1))).eraseIdx i2)) (v := .slice A ys.length c) (xs := ys) (v' := v2) (ys := ys ++ List.replicate ct (-(i2 : Int) - 1)) (z := -(i2 : Int) - 1) (gz := g58) (tz := 3) rfl rfl rfl Try.underlying34 sz3 by3 ze3
          (fun w hw => hw.perm ((tw_at (t := 3) hsi [_, _]).cons _).symm) (by simp; omega)) ?_
        rintro v3 _ rfl
        refine Seq.pur rfl rfl (p_assign rfl rfl) ?_
        refine Seq.nil ?_
        refine Fin.inBlock ?_
        refine Fin.then ?_
        refine DC.region ?_
        refine Seq.pur rfl rfl (p_move rfl rfl) ?_
        refine Seq.pur rfl rfl (p_add rfl rfl rfl (by omega)) ?_
        refine Seq.pur rfl rfl (p_assign rfl rfl) ?_
        refine Seq.nil ?_
        refine Fin.own (fun w hw => hw.perm (tw_set (t := 3) (rt := rt.set i2 (.slice A ys.length c, ys, v2, ys ++ List.replicate ct (-(i2 : Int) - 1))) (i := i2) (.slice A ys.length c, ys, v3, ys ++ List.replicate ct (-(i2 : Int) - 1) ++ [-(i2 : Int) - 1]) (by simp; omega) [_, _]).symm) ?_
        rw [List.set_set, List.append_assoc, ← List.replicate_succ']
        refine Fin.again (ct + 1, v3) (by dsimp only; simp at c14; omega) (by dsimp only; simp at c14; omega) ⟨rfl, rfl, rfl, rfl, rfl, trivial⟩ (Pick.all _)
      · have hce : ct = 40 := by simp at c14; omega
        subst hce
        refine DC.know4 (φ := ∃ A2 l2 c2, v2 = .slice A2 l2 c2) (fun w hw => by
          obtain ⟨A, c, h, _⟩ := (tw_slv (F := [_, _]) hw hsi (by simp; omega)).2
          exact ⟨A, _, c, h⟩) ?_
        rintro ⟨A2, l2, c2, rfl⟩
        rw [← gsV_other (i := i2) (rt := rt) (.slice A ys.length c, ys, .slice A2 l2 c2, ys ++ List.replicate 40 (-(i2 : Int) - 1))]
        refine DC.exit ?_
        refine Fin.exit_then <| Fin.exit_then <| Fin.exit_here <| ?_
        refine Fin.then ?_
        refine DC.region ?_
        refine Seq.pur rfl rfl (p_move rfl rfl) ?_
        refine Seq.pur rfl rfl (p_move rfl rfl) ?_
        refine Seq.pur rfl rfl (p_move rfl rfl) ?_
        refine Seq.pur rfl rfl (p_index1 rfl rfl rfl Try.underlying41 sz34 (by omega) (by omega) (by first | exact add_at0 _ _ | exact add_at _ _ _ | rfl)) ?_
        refine Seq.sto rfl rfl (s_store (cs' := (gsV (i2 + 1) ((rt.set i2 (.slice A ys.length c, ys, .slice A2 l2 c2, ys ++ List.replicate 40 (-(i2 : Int) - 1))).set i2 (.slice A ys.length c, ys, .slice A2 l2 c2, ys ++ List.replicate 40 (-(i2 : Int) - 1)))).toArray) rfl rfl rfl sz34 rfl (by simp; omega) (gsV_set (.slice A ys.length c, ys, .slice A2 l2 c2, ys ++ List.replicate 40 (-(i2 : Int) - 1)) (by simp; omega))) ?_
        refine Seq.nil ?_
        refine Fin.inBlock ?_
        refine Fin.then ?_
        refine DC.region ?_
        refine Seq.pur rfl rfl (p_move rfl rfl) ?_
        refine Seq.pur rfl rfl (p_add rfl rfl rfl (by omega)) ?_
        refine Seq.pur rfl rfl (p_assign rfl rfl) ?_
        refine Seq.nil ?_
        rw [List.set_set]
        refine Fin.again (i2 + 1, rt.set i2 (.slice A ys.length c, ys, .slice A2 l2 c2, ys ++ List.replicate 40 (-(i2 : Int) - 1))) (by dsimp only; omega) ⟨by dsimp only; omega, by dsimp only; rw [List.length_set]; exact hrtl, fun j p hpj => ?_⟩ ⟨rfl, rfl, rfl, trivial⟩ (Pick.all _)
        dsimp only at hpj ⊢
        by_cases hj : i2 = j
        · subst hj
          rw [hsi] at hpj
          cases hpj
          exact ⟨t1, t2, t3, by rw [if_pos (by omega)], fun h => by omega⟩
        · rw [List.getElem?_set_ne hj] at hpj
          have h := hT.2 j p hpj
          refine ⟨h.1, h.2.1, h.2.2.1, ?_, fun h2 => h.2.2.2.2 (by omega)⟩
          have h4 := h.2.2.2.1
          by_cases h5 : j < i2
          · rw [if_pos h5] at h4; rw [if_pos (by omega)]; exact h4
          · rw [if_neg h5] at h4; rw [if_neg (by omega)]; exact h4
    · have hie2 : i2 = rs.length := by simp at c10; omega
      obtain rfl := hie2
      have hrtl := hT.1
      refine DC.exit ?_
      refine Fin.exit_then <| Fin.exit_then <| Fin.exit_here <| ?_
      refine Fin.then ?_
      refine DC.seq ?_
      refine DC.seq ?_
      refine DC.region ?_
      refine Seq.pur rfl rfl (p_assign rfl rfl) ?_
      refine Seq.nil ?_
      refine Fin.then ?_
      refine DC.block ?_
      refine DC.loop (ι := Nat) (fun i => i ≤ rs.length) (fun i => [(0, .slice (some ⟨gl, 0, none⟩) rs.length rs.length), (3, .slice (some ⟨g14, 0, none⟩) rs.length rs.length), (9, .int .i64 i)]) (fun _ => [blk g14 34 (gsV rs.length rt).toArray, blk gl 34 (rowsV rs).toArray] ++ twC 3 rt) (fun i => rs.length - i) 0 (Nat.zero_le _) ⟨rfl, rfl, rfl, trivial⟩ (Pick.all _) ?_
      intro i3 hi3
      simp only [List.cons_append, List.nil_append]
      refine DC.seq ?_
      refine DC.seq ?_
      refine DC.region ?_
      refine Seq.pur rfl rfl (p_move rfl rfl) ?_
      refine Seq.pur rfl rfl (p_move rfl rfl) ?_
      refine Seq.pur rfl rfl (p_len rfl rfl Try.underlying41) ?_
      refine Seq.pur rfl rfl (p_lss rfl rfl rfl) ?_
      refine Seq.nil ?_
      refine Fin.then ?_
      refine DC.cond rfl (fun c19 => ?_) (fun c19 => ?_)
      · have hit3 : i3 < rs.length := by simpa using c19
        obtain ⟨⟨v, xs, v', ys⟩, hp⟩ : ∃ p, rt[i3]? = some p := ⟨rt[i3]'(by omega), List.getElem?_eq_getElem (by omega)⟩
        obtain ⟨t1, t2, t3, t4, t5⟩ := hT.2 i3 _ hp
        dsimp only at t1 t2 t3 t4 t5
        rw [if_pos hit3] at t4
        clear t5
        have hyl : ys.length = xs.length + 40 := by rw [t4]; simp
        refine DC.know4 (φ := ∃ A c A' c', v = .slice A xs.length c ∧ v' = .slice A' ys.length c') (fun w hw => by
          obtain ⟨⟨A, c, h, _⟩, ⟨A', c', h', _⟩⟩ := tw_slv (F := [_, _]) hw hp (by dsimp only; omega)
          exact ⟨A, c, A', c', h, h'⟩) ?_
        rintro ⟨A, c, A', c', rfl, rfl⟩
        refine DC.skip ?_
        refine Fin.then ?_
        refine DC.seq ?_
        refine DC.block ?_
        refine DC.seq ?_
        refine DC.seq ?_
        refine DC.region ?_
        refine Seq.pur rfl rfl (p_assign rfl rfl) ?_
        refine Seq.nil ?_
        refine Fin.then ?_
        refine DC.block ?_
        refine DC.loop (ι := Nat) (fun k => k ≤ xs.length) (fun k => [(0, .slice (some ⟨gl, 0, none⟩) rs.length rs.length), (3, .slice (some ⟨g14, 0, none⟩) rs.length rs.length), (9, .int .i64 i3), (10, .int .i64 k)]) (fun _ => [blk g14 34 (gsV rs.length rt).toArray, blk gl 34 (rowsV rs).toArray] ++ twC 3 rt) (fun k => xs.length - k) 0 (Nat.zero_le _) ⟨rfl, rfl, rfl, rfl, trivial⟩ (Pick.all _) ?_
        intro k hk
        simp only [List.cons_append, List.nil_append]
        refine DC.seq ?_
        refine DC.seq ?_
        refine DC.region ?_
        refine Seq.pur rfl rfl (p_move rfl rfl) ?_
        refine Seq.pur rfl rfl (p_move rfl rfl) ?_
        refine Seq.pur rfl rfl (p_move rfl rfl) ?_
        refine Seq.pur rfl rfl (p_index1 rfl rfl rfl Try.underlying41 sz34 (by omega) (by omega) (by first | exact add_at0 _ _ | exact add_at _ _ _ | rfl)) ?_
        refine Seq.val rfl rfl (v_load rfl rfl ag34 (has_row (by simpa using t1))) ?_
        refine Seq.pur rfl rfl (p_len rfl rfl Try.underlying34) ?_
        refine Seq.pur rfl rfl (p_lss rfl rfl rfl) ?_
        refine Seq.nil ?_
        refine Fin.then ?_
        refine DC.cond rfl (fun c22 => ?_) (fun c22 => ?_)
        · have hkt : k < xs.length := by simpa using c22
          have hxk : xs[k]? = some (1000 * (i3 : Int) + k) := by rw [t2]; exact wr1_get hkt
          refine DC.know4 (φ := ∃ ad, A = some ad) (fun w hw => by
            obtain ⟨A', c, h1, hc, _⟩ := (tw_slv (F := [_, _]) hw hp (by dsimp only; omega)).1
            obtain ⟨ad, h2, _⟩ := hc.int hxk
            cases h1
            exact ⟨ad, h2⟩) ?_
          rintro ⟨ad, rfl⟩
          refine DC.skip ?_
          refine Fin.then ?_
          refine DC.seq ?_
          refine DC.block ?_
          refine DC.seq ?_
          refine DC.region ?_
          refine Seq.pur rfl rfl (p_move rfl rfl) ?_
          refine Seq.pur rfl rfl (p_move rfl rfl) ?_
          refine Seq.pur rfl rfl (p_index1 rfl rfl rfl Try.underlying41 sz34 (by omega) (by omega) (by first | exact add_at0 _ _ | exact add_at _ _ _ | rfl)) ?_
          refine Seq.val rfl rfl (v_load rfl rfl ag34 (has_row (by simpa using t1))) ?_
          refine Seq.pur rfl rfl (p_move rfl rfl) ?_
          refine Seq.pur rfl rfl (p_index1 (ad' := ad.add k) rfl rfl rfl Try.underlying34 sz3 (by omega) (by omega) rfl) ?_
          refine Seq.val rfl rfl (v_load rfl rfl ag3 (tw_elt1 (t := 3) (F := [_, _]) hp rfl hxk (by dsimp only; omega))) ?_
          refine Seq.pur rfl rfl (p_move rfl rfl) ?_
          refine Seq.pur rfl rfl (p_mul rfl rfl rfl (by omega)) ?_
          refine Seq.pur rfl rfl (p_move rfl rfl) ?_
          refine Seq.pur rfl rfl (p_add rfl rfl rfl (by omega)) ?_
          refine Seq.pur rfl rfl (p_neq rfl rfl rfl) ?_
          refine Seq.nil ?_
          refine Fin.then ?_
          refine DC.cond rfl (fun c24 => ?_) (fun c24 => ?_)
          · exact absurd c24 (by simp)
            --closed
          · refine DC.skip ?_
            refine Fin.inBlock ?_
            refine Fin.then ?_
            refine DC.region ?_
            refine Seq.pur rfl rfl (p_move rfl rfl) ?_
            refine Seq.pur rfl rfl (p_add rfl rfl rfl (by omega)) ?_
            refine Seq.pur rfl rfl (p_assign rfl rfl) ?_
            refine Seq.nil ?_
            refine Fin.again (k + 1) (by omega) (by omega) ⟨rfl, rfl, rfl, rfl, trivial⟩ (Pick.all _)
        · refine DC.exit ?_
          refine Fin.exit_then <| Fin.exit_then <| Fin.exit_here <| ?_
          refine Fin.then ?_
          refine DC.seq ?_
          refine DC.region ?_
          refine Seq.pur rfl rfl (p_assign rfl rfl) ?_
          refine Seq.nil ?_
          refine Fin.then ?_
          refine DC.block ?_
          refine DC.loop (ι := Nat) (fun q => q ≤ 40) (fun q => [(0, .slice (some ⟨gl, 0, none⟩) rs.length rs.length), (3, .slice (some ⟨g14, 0, none⟩) rs.length rs.length), (9, .int .i64 i3), (11, .int .i64 q)]) (fun _ => [blk g14 34 (gsV rs.length rt).toArray, blk gl 34 (rowsV rs).toArray] ++ twC 3 rt) (fun q => 40 - q) 0 (Nat.zero_le _) ⟨rfl, rfl, rfl, rfl, trivial⟩ (Pick.all _) ?_
          intro q hq
          simp only [List.cons_append, List.nil_append]
          refine DC.seq ?_
          refine DC.seq ?_
          refine DC.region ?_
          refine Seq.pur rfl rfl (p_move rfl rfl) ?_
          refine Seq.pur rfl rfl (p_lss rfl rfl rfl) ?_
          refine Seq.nil ?_
          refine Fin.then ?_
          refine DC.cond rfl (fun c27 => ?_) (fun c27 => ?_)
          · have hqt : q < 40 := by simp at c27; omega
            have hyq : ys[xs.length + q]? = some (-(i3 : Int) - 1) := by rw [t4, List.getElem?_append_right (by omega), List.getElem?_replicate, if_pos (by omega)]
            refine DC.know4 (φ := ∃ ad, A' = some ad) (fun w hw => by
              obtain ⟨A'', c, h1, hc, _⟩ := (tw_slv (F := [_, _]) hw hp (by dsimp only; omega)).2
              obtain ⟨ad, h2, _⟩ := hc.int hyq
              cases h1
              exact ⟨ad, h2⟩) ?_
            rintro ⟨ad, rfl⟩
            refine DC.skip ?_
            refine Fin.then ?_
            refine DC.seq ?_
            refine DC.block ?_
            refine DC.seq ?_
            refine DC.flow (cl := [.q, .q, .q, .v, .q, .q, .q, .v, .q, .q, .q, .q, .v, .q, .q, .q, .q]) (A := [0, 0, 3, 7, 0, 0, 48, 112, 240, 0, 1008, 2047, 4095, 0, 8192, 24576, 65535]) (order := [0, 1, 2, 3, 4, 5, 6, 7, 8, 9, 10, 11, 12, 13, 14, 15, 16]) [] mixed (by kernel_rfl) (fun w hw => hw.pick .nil) ?_
            refine Flow.pur rfl rfl rfl (p_move rfl rfl) ?_
            refine Flow.pur rfl rfl rfl (p_move rfl rfl) ?_
            refine Flow.pur rfl rfl rfl (p_index1 rfl rfl rfl Try.underlying41 sz34 (by omega) (by omega) (by first | exact add_at0 _ _ | exact add_at _ _ _ | rfl)) ?_
            refine Flow.valS rfl rfl rfl rfl (v_load rfl rfl ag34 (has_row (v := .slice (some ad) ys.length c') (by simpa using gsV_get hp hit3))) ?_
            refine Flow.pur rfl rfl rfl (p_move rfl rfl) ?_
            refine Flow.pur rfl rfl rfl (p_move rfl rfl) ?_
            refine Flow.pur rfl rfl rfl (p_index1 rfl rfl rfl Try.underlying41 sz34 (by omega) (by omega) (by first | exact add_at0 _ _ | exact add_at _ _ _ | rfl)) ?_
            refine Flow.valS rfl rfl rfl rfl (v_load rfl rfl ag34 (has_row (by simpa using t1))) ?_
            refine Flow.pur rfl rfl rfl (p_len rfl rfl Try.underlying34) ?_
            refine Flow.pur rfl rfl rfl (p_move rfl rfl) ?_
            refine Flow.pur rfl rfl rfl (p_add rfl rfl rfl (by omega)) ?_
            refine Flow.pur rfl rfl rfl (p_index1 (ad' := ad.add (xs.length + q)) rfl rfl rfl Try.underlying34 sz3 (by omega) (by omega) (by congr 1)) ?_
            refine Flow.valS rfl rfl rfl rfl (v_load rfl rfl ag3 (tw_elt2 (t := 3) (F := [_, _]) hp rfl hyq (by dsimp only; omega))) ?_
            refine Flow.pur rfl rfl rfl (p_move rfl rfl) ?_
            refine Flow.pur rfl rfl rfl (p_neg rfl rfl (by omega)) ?_
            refine Flow.pur rfl rfl rfl (p_sub rfl rfl rfl (by omega)) ?_
            refine Flow.pur rfl rfl rfl (p_neq rfl rfl rfl) ?_
            refine Flow.end rfl ?_
            simp only [List.map_cons, List.map_nil, List.nil_append, List.cons_append, List.append_nil]
            refine Fin.then ?_
            refine DC.cond rfl (fun c29 => ?_) (fun c29 => ?_)
            · exact absurd c29 (by simp)
              --closed
            · refine DC.skip ?_
              refine Fin.inBlock ?_
              refine Fin.then ?_
              refine DC.region ?_
              refine Seq.pur rfl rfl (p_move rfl rfl) ?_
              refine Seq.pur rfl rfl (p_add rfl rfl rfl (by omega)) ?_
              refine Seq.pur rfl rfl (p_assign rfl rfl) ?_
              refine Seq.nil ?_
              refine Fin.again (q + 1) (by omega) (by omega) ⟨rfl, rfl, rfl, rfl, trivial⟩ (Pick.all _)
          · refine DC.exit ?_
            refine Fin.exit_then <| Fin.exit_then <| Fin.exit_here <| ?_
            refine Fin.inBlock ?_
            refine Fin.then ?_
            refine DC.region ?_
            refine Seq.pur rfl rfl (p_move rfl rfl) ?_
            refine Seq.pur rfl rfl (p_add rfl rfl rfl (by omega)) ?_
            refine Seq.pur rfl rfl (p_assign rfl rfl) ?_
            refine Seq.nil ?_
            refine Fin.again (i3 + 1) (by omega) (by omega) ⟨rfl, rfl, rfl, trivial⟩ (Pick.all _)
      · refine DC.exit ?_
        refine Fin.exit_then <| Fin.exit_then <| Fin.exit_here <| ?_
        refine Fin.then ?_
        refine DC.seq ?_
        refine DC.region ?_
        refine Seq.pur rfl rfl (p_assign rfl rfl) ?_
        refine Seq.nil ?_
        refine Fin.then ?_
        refine DC.ret ?_
        refine Fin.end1 (.inl rfl) rfl rfl ?_
        rfl
end Go.Fl
