/- The iterator Out of an Adj, and the law's 'out'. -/
import Derived.Test.YtbkhejfnhbjhpaaFlRng
import Derived.Test.YtbkhejfnhbjhpaaCsr1
import Derived.Test.YtbkhejfnhbjhpaaTypes
set_option linter.unusedVariables false
set_option linter.unusedSimpArgs false
set_option maxRecDepth 100000
namespace Go.Fl
open Go Go.Proofs

section
variable {N : Int} {es : List Pr} {M : AdjM} {p : Option Addr} {w : World}
theorem COut_calls (p : Option Addr) (v : Int) (w : World) : Calls Try.prog 17 #[.pointer p, .int .i64 v] w (Ret w [] fun r L =>
    ∃ gb gv, r = .func (.func 47) #[] #[.pointer (some ⟨gb, 0, none⟩), .pointer (some ⟨gv, 0, none⟩)] ∧ L = [blk gv 3 #[.int .i64 v], blk gb 26 #[.pointer p]]) := by
  refine calls_of (args := [_, _]) (L := []) Try.func17 rfl Try.ntmps17 rfl (Own.start _ _) ?_
  refine DC.seq ?_
  refine DC.region ?_
  refine Seq.new rfl rfl (n_box rfl rfl rfl) fun g2 => ?_
  refine Seq.new rfl rfl (n_box rfl rfl rfl) fun g3 => ?_
  refine Seq.pur rfl rfl (p_assign rfl rfl) ?_
  refine Seq.nil ?_
  refine Fin.then ?_
  refine DC.seq ?_
  refine DC.region ?_
  refine Seq.pur rfl rfl (p_func rfl rfl rfl) ?_
  refine Seq.pur rfl rfl (p_assign rfl rfl) ?_
  refine Seq.nil ?_
  refine Fin.then ?_
  refine DC.ret ?_
  refine Fin.end1 (.inl rfl) rfl rfl ?_
  exact ⟨g2, g3, rfl, rfl⟩

theorem out_cell {v s h : Int} {k : Nat} (hA : AV w N es M p) (hv0 : 0 ≤ v) (hv1 : v < N) (hs : M.st[v.toNat]? = some s) (hh : (outs es v)[k]? = some h) : w.cell? ⟨M.g2, s.toNat + k, none⟩ = some (.int .i64 h) := by
  cases hA with
  | nil hN he => subst he; simp [outs, outsF] at hh
  | «at» hAt hP =>
    have e := hP.ou v.toNat s (by omega) hs k h (by rw [Int.toNat_of_nonneg hv0]; exact hh)
    exact cellh hAt.h2 (by simpa [ints] using e.1)
def OutRdy (gb gv : Nat) (N : Int) (es : List Pr) (M : AdjM) (p : Option Addr) (v : Int) (w : World) : Prop :=
  w.cell? ⟨gb, 0, none⟩ = some (.pointer p) ∧ w.cell? ⟨gv, 0, none⟩ = some (.int .i64 v) ∧ AV w N es M p
theorem Out1_iter (gb gv : Nat) (v : Int) : Iter Try.prog 47 #[.pointer (some ⟨gb, 0, none⟩), .pointer (some ⟨gv, 0, none⟩)] (ints (outs es v)) (OutRdy gb gv N es M p v) := by
  intro l w0 K ι Inv Ls κ Inx Lx hR hY j0 w hj0 hO
  have hav := (hR 0 j0 w hj0 hO).2.2
  have hfew := hav.vld.few
  have houl : (outs es v).length ≤ 9223372036854775807 := by
    have : (outs es v).length ≤ es.length := by
      clear hY hR hav hfew
      unfold outs
      generalize 0 = k
      induction es generalizing k with
      | nil => simp [outsF]
      | cons e es ih =>
        unfold outsF
        have := ih (k + 1)
        split <;> (try split) <;> simp <;> omega
    omega
  refine calls_ofW (args := [_, _, _]) (L := Ls j0) Try.func47 rfl Try.ntmps47 rfl hO ?_
  refine DC.seq ?_
  refine DC.region ?_
  refine Seq.val rfl rfl (v_load rfl rfl ag26 (fun w hw => (hR 0 j0 w hj0 hw).1)) ?_
  refine Seq.val rfl rfl (v_load rfl rfl ag3 (fun w hw => (hR 0 j0 w hj0 hw).2.1)) ?_
  -- calls (*tangram/csr.Adj).leave
  refine Seq.rel0 rfl rfl (r_call en48 rfl rfl rfl (fun w hw => leave_calls (hR 0 j0 w hj0 hw).2.2 v)) ?_
  rintro _ ⟨A, cap, rfl, hcap, hmax, hA⟩
  refine Seq.pur rfl rfl (p_len rfl rfl Try.underlying34) ?_
  refine Seq.pur rfl rfl (p_move rfl rfl) ?_
  refine Seq.nil ?_
  refine Fin.then ?_
  refine DC.block ?_
  refine DC.loop (ι := Nat × ι) (fun q => q.1 ≤ (outs es v).length ∧ Inv q.1 q.2) (fun q => [(0, .func (.yield l) #[] #[]), (8, .slice A (outs es v).length cap), (9, .int .i64 (outs es v).length), (10, .int .i64 q.1)]) (fun q => Ls q.2) (fun q => (outs es v).length - q.1) (0, j0) ⟨Nat.zero_le _, hj0⟩ ⟨rfl, rfl, rfl, rfl, trivial⟩ (Pick.all _) ?_
  rintro ⟨k, j⟩ ⟨hk, hj⟩
  dsimp only at hk hj ⊢
  refine DC.seq ?_
  refine DC.region ?_
  refine Seq.pur rfl rfl (p_lss rfl rfl rfl) ?_
  refine Seq.nil ?_
  refine Fin.then ?_
  refine DC.seq ?_
  refine DC.cond rfl (fun c1 => ?_) (fun c1 => ?_)
  · have hlt : k < (outs es v).length := by simpa using c1
    obtain ⟨s, hv0, hv1, hs, rfl⟩ := hA (by omega)
    obtain ⟨h, hh⟩ : ∃ h, (outs es v)[k]? = some h := ⟨_, List.getElem?_eq_getElem hlt⟩
    refine DC.skip ?_
    refine Fin.then ?_
    refine DC.seq ?_
    refine DC.block ?_
    refine DC.seq ?_
    refine DC.region ?_
    refine Seq.pur rfl rfl (p_index1 (ad' := ⟨M.g2, s.toNat + k, none⟩) rfl rfl rfl Try.underlying34 sz3 (by omega) (by omega) (by simp [Addr.add])) ?_
    refine Seq.val rfl rfl (v_load rfl rfl ag3 (fun w' hw' => out_cell (hR k j w' hj hw').2.2 hv0 hv1 hs hh)) ?_
    refine Seq.pur rfl rfl (p_assign rfl rfl) ?_
    refine Seq.nil ?_
    refine Fin.then ?_
    refine DC.seq ?_
    refine DC.regionR ?_
    refine SeqR.pur rfl rfl rfl (p_move rfl rfl) ?_
    refine SeqR.pur rfl rfl rfl (p_move rfl rfl) ?_
    refine SeqR.yield1 (Inv := fun j' => Inv (k + 1) j') (Ls := Ls) (Inx := Inx) (Lx := Lx) rfl rfl rfl rfl rfl (fun w hw => hY k j w _ (by simp [ints, hh]) hj hw) (fun s hs' => ?_)
    refine SeqR.pur rfl rfl rfl (p_not rfl rfl) ?_
    refine SeqR.nil ?_
    refine Fin.then ?_
    refine DC.cond rfl (fun c3 => ?_) (fun c3 => ?_)
    · cases s with
      | inl j' => simp at c3
      | inr j' =>
      refine DC.ret ?_
      refine Fin.ret_block <| Fin.ret_then <| Fin.ret_then <| Fin.ret_block <| ?_
      exact Fin.end0W (.inl rfl) rfl fun w hw => ⟨⟨_, rfl⟩, .inr ⟨j', hs', hw⟩⟩
    · cases s with
      | inr j' => simp at c3
      | inl j' =>
      refine DC.skip ?_
      refine Fin.inBlock ?_
      refine Fin.then ?_
      refine DC.region ?_
      refine Seq.pur rfl rfl (p_add rfl rfl rfl (by omega)) ?_
      refine Seq.pur rfl rfl (p_move rfl rfl) ?_
      refine Seq.nil ?_
      refine Fin.again (k + 1, j') (by dsimp only; omega) ⟨by dsimp only; omega, hs'⟩ ⟨rfl, rfl, rfl, rfl, trivial⟩ (Pick.all _)
  · refine DC.exit ?_
    refine Fin.exit_then <| Fin.exit_then <| Fin.exit_here <| ?_
    refine Fin.end0W (.inr rfl) rfl fun w hw => ⟨⟨_, rfl⟩, .inl ⟨j, ?_, hw⟩⟩
    have hke : k = (outs es v).length := by simp at c1; omega
    have he : (ints (outs es v)).length = k := by rw [hke]; simp [ints]
    rw [he]; exact hj
theorem outs_le (es : List Pr) (v : Int) : (outs es v).length ≤ es.length := by
  unfold outs
  generalize 0 = k
  induction es generalizing k with
  | nil => simp [outsF]
  | cons e es ih =>
    unfold outsF
    have := ih (k + 1)
    split <;> (try split) <;> simp <;> omega
theorem outs_few (h : Vld N es) (v : Int) : (outs es v).length ≤ 4194304 := by
  have h1 := outs_le es v
  have := h.few
  omega
/-- What Out gives, at most n + 1 half-edges. -/
theorem out_calls (hA : AV w N es M p) (v n : Int) : Calls Try.prog 19 #[.pointer p, .int .i64 v, .int .i64 n] w (Ret w [] fun r L => ∃ u, r = .tuple #[u, .bool true] ∧ L = [slc u 3 1 (ints ((outs es v).take (n.toNat + 1)))]) := by
  have hfew := outs_few hA.vld v
  refine calls_ofM (args := [_, _, _]) (L := []) Try.func19 rfl Try.ntmps19 rfl (Own.start w []) ?_
  refine DC.seq ?_
  refine DC.region ?_
  refine Seq.new rfl rfl (n_box rfl rfl rfl) fun g5 => ?_
  refine Seq.pur rfl rfl (p_assign rfl rfl) ?_
  refine Seq.pur rfl rfl (p_assign rfl rfl) ?_
  refine Seq.nil ?_
  refine Fin.then ?_
  refine DC.seq ?_
  refine DC.region ?_
  refine Seq.new rfl rfl (n_alloc rfl ze34 rfl) fun g8 => ?_
  refine Seq.nil ?_
  refine Fin.then ?_
  refine DC.seq ?_
  refine DC.region ?_
  refine Seq.pur rfl rfl (p_move rfl rfl) ?_
  refine Seq.pur rfl rfl (p_move rfl rfl) ?_
  -- calls (*tangram/csr.Adj).Out
  refine Seq.rel rfl rfl (r_call en17 rfl rfl rfl (fun w' hw => COut_calls p v w')) ?_
  rintro _ _ ⟨gb, gv, rfl, rfl⟩
  simp only [List.cons_append, List.nil_append]
  refine Seq.pur rfl rfl (p_assign rfl rfl) ?_
  refine Seq.nil ?_
  refine Fin.then ?_
  refine DC.seq ?_
  refine DC.seq ?_
  refine DC.region ?_
  refine Seq.pur rfl rfl (p_move rfl rfl) ?_
  refine Seq.pur rfl rfl (p_eql_nilf (p := []) (q := []) rfl rfl rfl Try.underlying31) ?_
  refine Seq.nil ?_
  refine Fin.then ?_
  refine DC.cond rfl (fun c3 => ?_) (fun c3 => ?_)
  · exact absurd c3 (by decide)
    --closed
  · refine DC.skip ?_
    refine Fin.then ?_
    refine DC.seq ?_
    refine DC.seq ?_
    refine DC.region ?_
    refine Seq.pur rfl rfl (p_move rfl rfl) ?_
    refine Seq.nil ?_
    refine Fin.then ?_
    refine DC.block ?_
    refine DC.own (fun w hw => own_nil (t := 3) (m := 1) hw) ?_
    refine DC.range (ι := Nat × Value) (κ := Value) (fun k j => j.1 = k ∧ k ≤ n.toNat) (fun j => [slc j.2 3 1 (ints ((outs es v).take j.1)), blk g8 34 #[j.2], blk g5 3 #[.int .i64 n], blk gv 3 #[.int .i64 v], blk gb 26 #[.pointer p]])
      (fun c j => c = some 0) (fun j => [slc j 3 1 (ints ((outs es v).take (n.toNat + 1))), blk g8 34 #[j]]) (0, .slice none 0 0) rfl en47 (Out1_iter (N := N) (es := es) (M := M) (p := p) gb gv v) ?rdy1 ⟨rfl, Nat.zero_le _⟩ (.cons 0 rfl (.cons 2 rfl (.cons 2 rfl (.cons 0 rfl (.cons 0 rfl .nil))))) ?body1 ?done1 ?stop1
    case rdy1 =>
      exact fun k j w' hj hw => ⟨has_blk (K := []) rfl w' hw, has_blk (K := []) rfl w' hw, hA.keep hw⟩
    case body1 =>
      intro l r q D k j x hx hj
      obtain ⟨k, sv⟩ := j
      obtain ⟨rfl, hk⟩ := hj
      dsimp only at hk ⊢
      obtain ⟨h, hh, rfl⟩ : ∃ h, (outs es v)[k]? = some h ∧ x = .int .i64 h := by
        simp [ints] at hx; obtain ⟨h, h1, h2⟩ := hx; exact ⟨h, h1, h2.symm⟩
      have hkl : k < (outs es v).length := (List.getElem?_eq_some_iff.1 hh).1
      have htk : ints ((outs es v).take k) ++ [.int .i64 h] = ints ((outs es v).take (k + 1)) := by
        rw [List.take_add_one, hh]; simp [ints]
      simp only [List.cons_append, List.nil_append]
      refine DR.region rfl (fun _ _ h => h) ?_
      refine Seq.pur rfl rfl (p_assign rfl rfl) ?_
      refine Seq.nil ?_
      refine Fin.asg0 ?_
      refine DR.block ?_
      refine DR.seq ?_
      refine DR.region rfl (fun _ _ h => h) ?_
      refine Seq.val rfl rfl (v_load rfl rfl ag34 (by first | exact has_blk rfl | exact has_old' (by assumption))) ?_
      refine Seq.pur rfl rfl (p_move rfl rfl) ?_
      refine Seq.new rfl rfl (n_slit (cs := #[_]) rfl rfl Try.underlying34 sz3 ze3 rfl (by decide) (by decide) rfl rfl) fun g21 => ?_
      refine Seq.gen rfl rfl (Gen.shapeL (g_append (F := [blk g21 3 #[.int .i64 h], lop l q, dfr D, blk g8 _ _, blk g5 _ _, blk gv _ _, blk gb _ _]) (vs := ints ((outs es v).take k)) (k := 1) (news := [.int .i64 h]) rfl rfl rfl Try.underlying34 sz3 by3 ze3 rfl (by decide) (by decide)
        (fun w hw => hw.pick (.cons 3 rfl (Pick.all _))) (.inl ⟨_, _, rfl, hass_blk rfl⟩) rfl (by intro u hu; simp at hu; subst hu; rfl) (by rw [ints_length]; simp; omega))) ?_
      rintro _ _ ⟨⟨A22, l22, c22, rfl, hl22⟩, rfl⟩
      rw [htk] at hl22 ⊢
      have hl : l22 = k + 1 := by simp [ints] at hl22; omega
      subst hl
      refine Seq.sto rfl rfl (s_store (cs' := #[_]) rfl rfl rfl sz34 rfl (Nat.le_of_ble_eq_true rfl) rfl) ?_
      refine Seq.nil ?_
      refine Fin.thenR ?_
      refine DR.seq ?_
      refine DR.region rfl (fun _ _ h => h) ?_
      refine Seq.val rfl rfl (v_load rfl rfl ag34 (by first | exact has_blk rfl | exact has_old' (by assumption))) ?_
      refine Seq.pur rfl rfl (p_len rfl rfl Try.underlying34) ?_
      refine Seq.val rfl rfl (v_load rfl rfl ag3 (by first | exact has_blk rfl | exact has_old' (by assumption))) ?_
      refine Seq.pur rfl rfl (p_gtr rfl rfl rfl) ?_
      refine Seq.nil ?_
      refine Fin.thenR ?_
      refine DR.cond rfl (fun c8 => ?_) (fun c8 => ?_)
      · refine DR.exit ?_
        refine Fin.exit_past (by decide) <| ?_
        refine Fin.roundExit (.slice A22 (k + 1) c22) rfl (.cons 2 rfl (.cons 2 rfl ?_))
        have e : k + 1 = n.toNat + 1 := by simp at c8; omega
        rw [← e]
        exact .cons 0 rfl (.cons 1 rfl .nil)
      · refine DR.skip ?_
        refine Fin.inBlock ?_
        refine Fin.round (k + 1, .slice A22 (k + 1) c22) ⟨rfl, by simp at c8; omega⟩ (.cons 2 rfl (.cons 2 rfl (.cons 0 rfl (.cons 1 rfl (.cons 1 rfl (.cons 1 rfl (.cons 1 rfl .nil)))))))
    case done1 =>
      rintro D ⟨k, sv⟩ ⟨h1, h2⟩
      dsimp only at h1 h2 ⊢
      have hk : (outs es v).take k = (outs es v).take (n.toNat + 1) := by
        have : (ints (outs es v)).length = (outs es v).length := by simp [ints]
        rw [List.take_of_length_le (by omega), List.take_of_length_le (by omega)]
      rw [hk]
      refine Fin.inBlock ?_
      refine Fin.then ?_
      refine DC.seq ?_
      refine DC.region ?_
      refine Seq.val rfl rfl (v_load rfl rfl ag34 (by first | exact has_blk rfl | exact has_old' (by assumption))) ?_
      refine Seq.pur rfl rfl (p_assign rfl rfl) ?_
      refine Seq.pur rfl rfl (p_assign rfl rfl) ?_
      refine Seq.nil ?_
      refine Fin.then ?_
      refine DC.ret ?_
      refine Fin.leave (.inl rfl) ?_
      refine Fin.leave1 ?_
      refine Fin.leave0 ?_
      refine Fin.weak (E' := [(6, _), (7, _)]) ⟨rfl, rfl, trivial⟩ (.cons 0 rfl .nil) ?_
      refine Fin.res2 rfl rfl rfl ?_
      exact ⟨_, rfl, rfl⟩
    case stop1 =>
      rintro D c sv rfl
      refine Fin.exit_here <| ?_
      refine Fin.then ?_
      refine DC.seq ?_
      refine DC.region ?_
      refine Seq.val rfl rfl (v_load rfl rfl ag34 (by first | exact has_blk rfl | exact has_old' (by assumption))) ?_
      refine Seq.pur rfl rfl (p_assign rfl rfl) ?_
      refine Seq.pur rfl rfl (p_assign rfl rfl) ?_
      refine Seq.nil ?_
      refine Fin.then ?_
      refine DC.ret ?_
      refine Fin.leave (.inl rfl) ?_
      refine Fin.leave1 ?_
      refine Fin.leave0 ?_
      refine Fin.weak (E' := [(6, _), (7, _)]) ⟨rfl, rfl, trivial⟩ (.cons 0 rfl .nil) ?_
      refine Fin.res2 rfl rfl rfl ?_
      exact ⟨_, rfl, rfl⟩
end
end Go.Fl
