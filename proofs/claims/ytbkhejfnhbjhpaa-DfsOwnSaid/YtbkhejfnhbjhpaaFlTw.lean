/- A slice of ours and one that was made of it by append: as long as there is room they lie in one block. Stores into elements of a slice of ours. -/
import Derived.Test.YtbkhejfnhbjhpaaFlRws
import Derived.Test.YtbkhejfnhbjhpaaFlRng
set_option linter.unusedVariables false
set_option linter.unusedSimpArgs false
namespace Go.Fl
open Go

section
variable {P : Program} {w0 w : World} {K : List Nat} {n : Nat} {ds : List Deferred} {E : Env} {L F : List Chunk} {o : Oper} {x y z : Operand} {v u : Value} {t : Nat}

/-- A store into an element of a list of integers of ours. -/
theorem s_elt {ty g len cap j : Nat} {xs : List Int} {z : Int} (ho : o.op = .store ty x y) (hx : ev n E x = some (.pointer (some ⟨g, j, none⟩))) (hy : ev n E y = some (.int .i64 z)) (hs : sizeT P ty = some 1)
    (hown : ∀ w, Own w0 K w L → Own w0 K w (slc (.slice (some ⟨g, 0, none⟩) len cap) t 1 (ints xs) :: F)) (hj : j < xs.length) : Sto P w0 K n ds E L o (slc (.slice (some ⟨g, 0, none⟩) len cap) t 1 (ints (xs.set j z)) :: F) := by
  intro a w ha hw
  rcases own_open (hown w hw) with ⟨h, _⟩ | ⟨g', len', cap', sp, e, h1, h2, h3, h4, hO⟩
  · cases h
  · cases e
    have hst := s_store (P := P) (w0 := w0) (K := K) (n := n) (ds := ds) (E := E) (L := blk g t (ints xs ++ sp).toArray :: F) (o := o) (x := x) (y := y) (t := ty) (g := g) (i := j) (cs' := (ints (xs.set j z) ++ sp).toArray) ho hx hy hs rfl (by simp; omega) (row_set hj) a w ha hO
    obtain ⟨w', hr, hO'⟩ := hst
    refine ⟨w', hr, ?_⟩
    have hlen : (ints (xs.set j z)).length = (ints xs).length := by simp
    refine own_slc (by rw [hlen]; exact h1) Nat.one_pos h2 h3 ?_ ?_ hO'
    · simp only [List.size_toArray, List.length_append, hlen]; exact h4
    · simp only [List.toList_toArray]
      rw [← h1, ← hlen]
      exact List.take_left

/-- v shows xs, v' shows ys, which begins with xs; both of ours. -/
def twin (v : Value) (xs : List Int) (v' : Value) (ys : List Int) (t : Nat) : Chunk :=
  ⟨if v.ownBlock = v'.ownBlock then v'.ownBlock.toList else v'.ownBlock.toList ++ v.ownBlock.toList,
   fun w => xs.length ≤ ys.length ∧ ys.take xs.length = xs ∧ w.ownsRow 0 t 1 v xs.length (ints xs) ∧ w.ownsRow 0 t 1 v' ys.length (ints ys),
   fun w w' h hh => ⟨hh.1, hh.2.1, ownsRow_of hh.2.2.1 fun g hg => h g (by split <;> simp_all), ownsRow_of hh.2.2.2 fun g hg => h g (by split <;> simp_all)⟩⟩
theorem twin_of {xs : List Int} (hw : Own w0 K w (slc v t 1 (ints xs) :: F)) : Own w0 K w (twin v xs v xs t :: F) := by
  refine own_imp (by simp [twin, slc]) (fun w hh => ?_) hw
  have h : w.ownsRow 0 t 1 v ((ints xs).length / 1) (ints xs) := hh
  simp only [ints_length, Nat.div_one] at h
  exact ⟨Nat.le_refl _, List.take_length, h, h⟩
theorem slv_of_owns {xs : List Int} (h : w.ownsRow 0 t 1 v xs.length (ints xs)) (hf : xs.length ≤ 17592186044416) : SlV w v xs := by
  obtain ⟨h1, h2⟩ := h
  rcases h2 with ⟨rfl, h3⟩ | ⟨g, cap, cur, rfl, _, hg, hnc, hcm, hcs, ht⟩
  · have : xs = [] := List.eq_nil_of_length_eq_zero h3
    subst this
    exact ⟨none, 0, rfl, fun j u hj => by simp [ints] at hj, Nat.le_refl _, by omega, by simp⟩
  · refine ⟨some ⟨g, 0, none⟩, cap, rfl, fun j u hj => ⟨_, rfl, ?_⟩, hnc, by simp only [maxLen] at hcm; omega, hf⟩
    rw [add_at0, cell_of_row w g j cur t (0, 0) hg]
    rw [← ht] at hj
    rw [List.getElem?_take] at hj
    split at hj
    · simpa using hj
    · cases hj
theorem twin_slv {v' : Value} {xs ys : List Int} (hw : Own w0 K w (twin v xs v' ys t :: F)) (hf : ys.length ≤ 17592186044416) : SlV w v xs ∧ SlV w v' ys := by
  obtain ⟨h1, h2, h3, h4⟩ := hw.holds _ (List.mem_cons_self ..)
  exact ⟨slv_of_owns h3 (by omega), slv_of_owns h4 hf⟩
theorem own_block {xs : List Int} {g : Nat} (h : w.ownsRow 0 t 1 v xs.length (ints xs)) (hg : v.ownBlock = some g) : ∃ cap cur, v = .slice (some ⟨g, 0, none⟩) xs.length cap ∧ w.heap[g]? = some (.cells cur t (0, 0)) ∧ xs.length ≤ cap ∧ cap ≤ 9223372036854775807 ∧ cur.size = cap ∧ cur.toList.take xs.length = ints xs := by
  obtain ⟨h1, h2⟩ := h
  rcases h2 with ⟨rfl, h3⟩ | ⟨g', cap, cur, rfl, _, hg', hnc, hcm, hcs, ht⟩
  · cases hg
  · cases hg
    exact ⟨cap, cur, rfl, hg', hnc, by simp only [maxLen] at hcm; omega, by simpa using hcs, by simpa using ht⟩

/-- append to the second of two. -/
theorem g_twin {ty e : Nat} {v' : Value} {xs ys : List Int} {z : Int} {gz : Nat} {tz : Nat} (ho : o.op = .call ⟨.builtin .append, #[x, y], #[ty, ty]⟩) (hx : ev n E x = some v') (hy : ev n E y = some (.slice (some ⟨gz, 0, none⟩) 1 1))
    (ht : P.underlying ty = some (.slice e)) (hm : sizeT P e = some 1) (hb : bytesT P e = some 8) (hz : zeroT P e = some (.int .i64 0))
    (hown : ∀ w, Own w0 K w L → Own w0 K w (blk gz tz #[.int .i64 z] :: twin v xs v' ys e :: F)) (hfit : ys.length + 1 ≤ 17592186044416) :
    Gen P w0 K n ds E L o (fun v'' M => M = twin v xs v'' (ys ++ [z]) e :: F) := by
  intro a w ha hw
  obtain ⟨i, hi, e1, e2, e3⟩ := info_of hm hb hz
  have hw' := hown w hw
  have hsrc : ∀ j u, [Value.int .i64 z][j]? = some u → w.cell? ((⟨gz, 0, none⟩ : Addr).add j) = some u := by
    have hgz : w.heap[gz]? = some (.cells #[.int .i64 z] tz (0, 0)) := hw'.holds _ (List.mem_cons_self ..)
    intro j u hj
    match j, hj with
    | 0, hj => simp at hj; subst hj; rw [add_at0, cell_of_row w gz 0 _ tz (0, 0) hgz]; rfl
    | _ + 1, hj => simp at hj
  have hT : Own w0 K w (twin v xs v' ys e :: F) := own_tail hw'
  have hF : Own w0 K w F := own_tail hT
  obtain ⟨t1, t2, t3, t4⟩ := hT.holds _ (List.mem_cons_self ..)
  have hzs : (Value.int .i64 0).cells.size = 1 := rfl
  have hints : ints (ys ++ [z]) = ints ys ++ [.int .i64 z] := by simp [ints]
  have hlen1 : (ints ys ++ [Value.int .i64 z]).length = ys.length + 1 := by simp
  have hpre : (ys ++ [z]).take xs.length = xs := by rw [List.take_append_of_le_length t1]; exact t2
  have hrun : ∀ v'' w1, (Builtin.append_ #[ty, ty] o.type #[v', .slice (some ⟨gz, 0, none⟩) 1 1]).run P w = .ok v'' w1 → Own w0 K w1 (twin v xs v'' (ys ++ [z]) e :: F) →
      RunsTo P (execOp a.eval o) w (fun v2 w' => ∃ L', L' = twin v xs v2 (ys ++ [z]) e :: F ∧ Own w0 K w' L') := by
    intro v'' w1 hr hO
    unfold RunsTo
    have : (execOp a.eval o).run P w = .ok (.value v'') w1 := by
      simp [execOp, ho, resolve, ha.ev hx, ha.ev hy, invoke, builtin, hr]
    rw [this]
    exact ⟨_, rfl, hO⟩
  -- a new block: the old ones stay
  have hnew : ∀ (cap : Nat) (zs : List Value), ys.length + 1 ≤ cap → cap ≤ 9223372036854775807 → (ints ys ++ [Value.int .i64 z] ++ zs).length = cap →
      Own w0 K (w.drew.alloc (.cells (ints ys ++ [Value.int .i64 z] ++ zs).toArray e)) (twin v xs (.slice (some ⟨w.heap.size, 0, none⟩) (ys.length + 1) cap) (ys ++ [z]) e :: F) := by
    intro cap zs h2 h3 h4
    have hO : Own w0 K (w.drew.alloc (.cells (ints ys ++ [Value.int .i64 z] ++ zs).toArray e)) (blk w.heap.size e (ints ys ++ [Value.int .i64 z] ++ zs).toArray :: twin v xs v' ys e :: F) := (hT.drew).alloc e (ints ys ++ [Value.int .i64 z] ++ zs).toArray
    have hnb : v.ownBlock ≠ some w.heap.size := by
      intro hb
      obtain ⟨_, cur, _, hg, _⟩ := own_block t3 hb
      have := (Array.getElem?_eq_some_iff.1 hg).1
      omega
    have hids : idsOf (twin v xs (.slice (some ⟨w.heap.size, 0, none⟩) (ys.length + 1) cap) (ys ++ [z]) e :: F) = w.heap.size :: (v.ownBlock.toList ++ idsOf F) := by
      simp only [idsOf_cons, twin]
      rw [if_neg (by simp [Value.ownBlock]; exact hnb)]
      simp [Value.ownBlock]
    have hsub : (v.ownBlock.toList ++ idsOf F).Sublist (idsOf (twin v xs v' ys e :: F)) := by
      simp only [idsOf_cons, twin]
      refine List.Sublist.append_right ?_ _
      split
      · rename_i hE; rw [hE]; exact List.Sublist.refl _
      · exact List.sublist_append_right ..
    have hfull : idsOf (blk w.heap.size e (ints ys ++ [Value.int .i64 z] ++ zs).toArray :: twin v xs v' ys e :: F) = w.heap.size :: idsOf (twin v xs v' ys e :: F) := by simp [blk]
    have hnd := hO.nodup
    have hfr := hO.fresh
    have hlt := hO.lt
    rw [hfull] at hnd hfr hlt
    refine ⟨hO.os, hO.tape, hO.output, hO.size, hO.old, ?_, ?_, ?_, fun c hc => ?_⟩
    · rw [hids]
      rw [List.nodup_cons] at hnd ⊢
      exact ⟨fun hm => hnd.1 (hsub.subset hm), hsub.nodup hnd.2⟩
    · rw [hids]
      intro g hg
      rcases List.mem_cons.1 hg with rfl | hg
      · exact hfr _ (List.mem_cons_self ..)
      · exact hfr _ (List.mem_cons_of_mem _ (hsub.subset hg))
    · rw [hids]
      intro g hg
      rcases List.mem_cons.1 hg with rfl | hg
      · exact hlt _ (List.mem_cons_self ..)
      · exact hlt _ (List.mem_cons_of_mem _ (hsub.subset hg))
    · rcases List.mem_cons.1 hc with rfl | hc
      · have hb := hO.holds _ (List.mem_cons_self ..)
        have htw := hO.holds (twin v xs v' ys e) (by simp)
        refine ⟨by simp; omega, hpre, htw.2.2.1, ?_⟩
        refine ⟨by simp, .inr ⟨w.heap.size, cap, _, by simp, Nat.zero_le _, hb, by simp; omega, by simp only [maxLen]; omega, by simpa using h4, ?_⟩⟩
        rw [hints]
        simp only [List.toList_toArray, Nat.mul_one, List.length_append, List.length_singleton]
        rw [← hlen1]
        exact List.take_left
      · exact hO.holds c (by simp [hc])
  subst_vars
  cases hv : v'.ownBlock with
  | none =>
    have h4 := t4
    obtain ⟨h41, h42⟩ := h4
    rcases h42 with ⟨rfl, h0⟩ | ⟨g, cap, cur, rfl, _⟩
    · have hys : ys = [] := List.eq_nil_of_length_eq_zero h0
      subst hys
      have hr := run_append_nil (P := P) w ty o.type e i (.int .i64 0) ht hi e3 ⟨gz, 0, none⟩ 1 1 [.int .i64 z] (by rw [e1]; rfl) hsrc (by omega) (by first | omega | decide) (by rw [e2]; omega)
      refine hrun _ _ hr ?_
      have h5 := grownCap_ge w 1 0 e
      have := hnew (grownCap w 1 0 e) (Builtin.zeroCells (Value.int .i64 0).cells (grownCap w 1 0 e - 1)).toList (by simpa using h5)
        (by have := grownCap_le_maxLen w 1 0 e (by simp only [maxLen]; omega); simp only [maxLen] at this; omega)
        (by simp only [ints, List.map_nil, List.nil_append, List.length_append, List.length_singleton, Array.length_toList, size_zeroCells, hzs]; omega)
      have e5 : (ints [] ++ [Value.int .i64 z] ++ (Builtin.zeroCells (Value.int .i64 0).cells (grownCap w 1 0 e - 1)).toList).toArray = [Value.int .i64 z].toArray ++ Builtin.zeroCells (Value.int .i64 0).cells (grownCap w 1 0 e - 1) := by simp [ints]
      rw [e5] at this
      exact this
    · cases hv
  | some g =>
    obtain ⟨cap, cur, rfl, hg, hnc, hcm, hcs, htk⟩ := own_block t4 hv
    by_cases hroom : ys.length + 1 ≤ cap
    · have hr := run_append_room (P := P) w ty o.type e i ht hi g ys.length cap cur hg ⟨gz, 0, none⟩ 1 1 [.int .i64 z] (by rw [e1]; rfl) hsrc (by intro u hu; simp at hu; subst hu; rfl) hroom (by rw [e1, hcs]; simp; omega)
      refine hrun _ _ hr ?_
      rw [e1]
      simp only [Nat.mul_one, List.length_singleton]
      generalize hcur : (cur.toList.take ys.length ++ [Value.int .i64 z] ++ cur.toList.drop (ys.length + 1)).toArray = cur'
      have hO := heap_setRow w g cur cur' e hg
      have hids : (twin v xs (.slice (some ⟨g, 0, none⟩) (ys.length + 1) cap) (ys ++ [z]) e).ids = (twin v xs (.slice (some ⟨g, 0, none⟩) ys.length cap) ys e).ids := rfl
      have hgin : g ∈ (twin v xs (.slice (some ⟨g, 0, none⟩) ys.length cap) ys e).ids := by
        simp only [twin]
        split <;> simp [Value.ownBlock]
      have hds := hT.nodup
      have hcurl : cur'.toList.take (ys.length + 1) = ints (ys ++ [z]) := by
        rw [← hcur, hints, htk]
        simp only [List.toList_toArray]
        rw [← hlen1]
        exact List.take_left
      have hcurs : cur'.size = cap := by
        rw [← hcur]
        simp only [List.size_toArray, List.length_append, List.length_take, List.length_drop, Array.length_toList, List.length_singleton]
        omega
      have hcurg : (w.setRow g cur').heap[g]? = some (.cells cur' e (0, 0)) := by have := hO.holds (blk g e cur') (by simp); exact this
      have hTself : Own w (idsOf [twin v xs (.slice (some ⟨g, 0, none⟩) ys.length cap) ys e]) w [twin v xs (.slice (some ⟨g, 0, none⟩) ys.length cap) ys e] := (hT.sub (List.Sublist.cons_cons _ (List.nil_sublist _))).self
      have hids' : idsOf [twin v xs (.slice (some ⟨g, 0, none⟩) (ys.length + 1) cap) (ys ++ [z]) e] = idsOf [twin v xs (.slice (some ⟨g, 0, none⟩) ys.length cap) ys e] := by simp [hids]
      refine Own.frame (Lc := [twin v xs (.slice (some ⟨g, 0, none⟩) ys.length cap) ys e]) (K' := idsOf [twin v xs (.slice (some ⟨g, 0, none⟩) ys.length cap) ys e]) (L' := [twin v xs (.slice (some ⟨g, 0, none⟩) (ys.length + 1) cap) (ys ++ [z]) e]) hT ?_ (fun k hk => hk)
      refine ⟨hO.os, hO.tape, hO.output, hO.size, fun k hk hn => hO.old k hk (fun hm => ?_), ?_, ?_, ?_, fun c hc => ?_⟩
      · simp at hm; subst hm
        exact hn (by simpa using hgin)
      · rw [hids']; exact hTself.nodup
      · rw [hids']; exact hTself.fresh
      · rw [hids']
        intro k hk
        have := hTself.lt k hk
        simpa using this
      · simp at hc; subst hc
        refine ⟨by simp; omega, hpre, ?_, ?_⟩
        · by_cases hvb : v.ownBlock = some g
          · obtain ⟨cap2, cur2, rfl, hg2, hnc2, hcm2, hcs2, htk2⟩ := own_block t3 hvb
            rw [hg] at hg2
            cases hg2
            refine ⟨by simp, .inr ⟨g, cap2, cur', rfl, Nat.zero_le _, hcurg, hnc2, by simp only [maxLen]; omega, by omega, ?_⟩⟩
            have h6 : (cur'.toList.take (ys.length + 1)).take xs.length = ints xs := by
              rw [hcurl]
              have : (ints (ys ++ [z])).take xs.length = ints ((ys ++ [z]).take xs.length) := by simp [ints, List.map_take]
              rw [this, hpre]
            rw [List.take_take, Nat.min_eq_left (by omega)] at h6
            simpa using h6
          · exact ownsRow_of t3 fun g' hg' => by
              obtain ⟨_, _, _, hb', _⟩ := own_block t3 hg'
              exact hO.old g' (Array.getElem?_eq_some_iff.1 hb').1 (by simp; rintro rfl; exact hvb hg')
        · refine ⟨by simp, .inr ⟨g, cap, cur', by simp, Nat.zero_le _, hcurg, by simp; omega, by simp only [maxLen]; omega, by simpa using hcurs, ?_⟩⟩
          simpa using hcurl
    · have hr := run_append_grow (P := P) w ty o.type e i (.int .i64 0) ht hi e3 ⟨g, 0, none⟩ ys.length cap (ints ys) (by rw [e1]; simp)
        (by
          intro j u hj
          rw [add_at, cell_of_row w g _ cur e (0, 0) hg]
          rw [← htk, List.getElem?_take] at hj
          split at hj
          · simpa using hj
          · cases hj) ⟨gz, 0, none⟩ 1 1 [.int .i64 z] (by rw [e1]; rfl) hsrc (by omega) (by first | omega | (unfold maxLen; omega)) (growslice_fits (by omega) (by rw [e2]; omega))
      refine hrun _ _ hr ?_
      have h5 := grownCap_ge w (ys.length + 1) cap e
      have := hnew (grownCap w (ys.length + 1) cap e) (Builtin.zeroCells (Value.int .i64 0).cells (grownCap w (ys.length + 1) cap e - (ys.length + 1))).toList h5
        (by have := grownCap_le_maxLen w (ys.length + 1) cap e (by simp only [maxLen]; omega); simp only [maxLen] at this; omega)
        (by rw [List.length_append, hlen1]; simp only [Array.length_toList, size_zeroCells, hzs]; omega)
      have e5 : (ints ys ++ [Value.int .i64 z] ++ (Builtin.zeroCells (Value.int .i64 0).cells (grownCap w (ys.length + 1) cap e - (ys.length + 1))).toList).toArray = (ints ys).toArray ++ [Value.int .i64 z].toArray ++ Builtin.zeroCells (Value.int .i64 0).cells (grownCap w (ys.length + 1) cap e - (ys.length + 1)) := by apply Array.ext'; simp
      rw [e5] at this
      exact this

theorem own_addr {xs : List Int} (hw : Own w0 K w (slc v t 1 (ints xs) :: F)) (hne : 0 < xs.length) : ∃ g c, v = .slice (some ⟨g, 0, none⟩) xs.length c := by
  rcases own_open hw with ⟨_, h, _⟩ | ⟨g, len, cap, sp, rfl, h1, _⟩
  · have : (ints xs).length = 0 := by rw [h]; rfl
    rw [ints_length] at this; omega
  · rw [ints_length] at h1
    exact ⟨g, cap, by rw [show len = xs.length by omega]⟩
theorem own_len0 {xs : List Int} (hw : Own w0 K w (slc v t 1 (ints xs) :: F)) : ∃ A c, v = .slice A xs.length c := by
  obtain ⟨A, len, cap, rfl, h1, _⟩ := rd_own hw
  rw [ints_length] at h1
  exact ⟨A, cap, by rw [show len = xs.length by omega]⟩

/-! ### many of them -/
abbrev RT := List (Value × List Int × Value × List Int)
def tw1 (t : Nat) (p : Value × List Int × Value × List Int) : Chunk := twin p.1 p.2.1 p.2.2.1 p.2.2.2 t
def twC (t : Nat) (rt : RT) : List Chunk := rt.map (tw1 t)
theorem tw_at {rt : RT} {i : Nat} {p : Value × List Int × Value × List Int} (h : rt[i]? = some p) (F : List Chunk) : (F ++ twC t rt).Perm (tw1 t p :: (F ++ twC t (rt.eraseIdx i))) := by
  have h1 : (twC t rt)[i]? = some (tw1 t p) := by simp [twC, h]
  have h2 := perm_eraseIdx h1
  have h3 : (twC t rt).eraseIdx i = twC t (rt.eraseIdx i) := erase_map _ _ _
  rw [h3] at h2
  exact ((List.Perm.refl F).append h2).trans List.perm_middle
theorem tw_set {rt : RT} {i : Nat} (p : Value × List Int × Value × List Int) (h : i < rt.length) (F : List Chunk) : (tw1 t p :: (F ++ twC t (rt.eraseIdx i))).Perm (F ++ twC t (rt.set i p)) := by
  have h1 : (rt.set i p)[i]? = some p := by rw [List.getElem?_set_self h]
  have h2 := tw_at (t := t) h1 F
  have h3 : (rt.set i p).eraseIdx i = rt.eraseIdx i := by rw [List.eraseIdx_set_eq]
  rw [h3] at h2
  exact h2.symm
theorem tw_slv {rt : RT} {i : Nat} {p : Value × List Int × Value × List Int} (hw : Own w0 K w (F ++ twC t rt)) (h : rt[i]? = some p) (hf : p.2.2.2.length ≤ 17592186044416) : SlV w p.1 p.2.1 ∧ SlV w p.2.2.1 p.2.2.2 :=
  twin_slv (hw.perm (tw_at h F).symm) hf
def twOf (rs : RL) : RT := rs.map fun p => (p.1, p.2, p.1, p.2)
theorem tw_start {rs : RL} (hw : Own w0 K w (F ++ rowsC t rs)) : Own w0 K w (F ++ twC t (twOf rs)) := by
  induction rs generalizing F with
  | nil => simpa [rowsC, twC, twOf] using hw
  | cons p r ih =>
    have h1 : Own w0 K w (slc p.1 t 1 (ints p.2) :: (F ++ rowsC t r)) := hw.perm (by simp only [rowsC, List.map_cons]; exact List.perm_middle.symm)
    have h2 := twin_of h1
    have h3 : Own w0 K w ((twin p.1 p.2 p.1 p.2 t :: F) ++ rowsC t r) := h2
    have h4 := ih h3
    refine h4.perm ?_
    simp only [twOf, twC, List.map_cons]
    exact List.perm_middle
end

/-- What is written into row i. -/
def wr1 (i n : Nat) : List Int := (List.range n).map fun (k : Nat) => 1000 * (i : Int) + (k : Int)
@[simp] theorem wr1_length (i n : Nat) : (wr1 i n).length = n := by simp [wr1]
theorem wr1_get {i n k : Nat} (h : k < n) : (wr1 i n)[k]? = some (1000 * (i : Int) + k) := by simp [wr1, h]
theorem wr1_of {i : Nat} {xs : List Int} (h : ∀ k : Nat, k < xs.length → xs[k]? = some (1000 * (i : Int) + k)) : xs = wr1 i xs.length := by
  apply List.ext_getElem?
  intro k
  by_cases hk : k < xs.length
  · rw [h k hk, wr1_get hk]
  · rw [List.getElem?_eq_none (by omega), List.getElem?_eq_none (by simp; omega)]
/-- The second list, by row. -/
def gsV (i : Nat) (rt : RT) : List Value := (List.range rt.length).map fun j => if j < i then ((rt[j]?).map fun p => p.2.2.1).getD (.slice none 0 0) else .slice none 0 0
@[simp] theorem gsV_length (i : Nat) (rt : RT) : (gsV i rt).length = rt.length := by simp [gsV]
theorem gsV_zero (rt : RT) : gsV 0 rt = List.replicate rt.length (.slice none 0 0) := by
  apply List.ext_getElem?
  intro j
  simp [gsV, List.getElem?_replicate]
  by_cases h : j < rt.length
  · simp [h]
  · simp [h]
theorem gsV_get {i j : Nat} {rt : RT} {p : Value × List Int × Value × List Int} (h : rt[j]? = some p) (hj : j < i) : (gsV i rt)[j]? = some p.2.2.1 := by
  obtain ⟨hl, rfl⟩ := List.getElem?_eq_some_iff.1 h
  simp [gsV, hl, hj]
theorem gsV_set {i : Nat} {rt : RT} (p : Value × List Int × Value × List Int) (h : i < rt.length) : (gsV i rt).toArray.setIfInBounds i p.2.2.1 = (gsV (i + 1) (rt.set i p)).toArray := by
  apply Array.ext'
  simp only [List.setIfInBounds_toArray, List.toList_toArray]
  apply List.ext_getElem?
  intro j
  by_cases hj : i = j
  · subst hj
    rw [List.getElem?_set_self (by simpa using h), gsV_get (p := p) (by rw [List.getElem?_set_self h]) (by omega)]
  · rw [List.getElem?_set_ne hj]
    simp only [gsV, List.getElem?_map, List.length_set]
    by_cases hl : j < rt.length
    · rw [List.getElem?_range hl]
      simp only [Option.map_some]
      by_cases h2 : j < i
      · rw [if_pos h2, if_pos (by omega), List.getElem?_set_ne hj]
      · rw [if_neg h2, if_neg (by omega)]
    · rw [List.getElem?_eq_none (by simpa using hl)]
      simp
theorem gsV_other {i : Nat} {rt : RT} (p : Value × List Int × Value × List Int) : gsV i (rt.set i p) = gsV i rt := by
  unfold gsV
  rw [List.length_set]
  apply List.map_congr_left
  intro j hj
  by_cases h : j < i
  · rw [if_pos h, if_pos h, List.getElem?_set_ne (by omega)]
  · rw [if_neg h, if_neg h]
end Go.Fl
