/- Lists as arguments, forests; results that lie in a cell. -/
import Derived.Test.YtbkhejfnhbjhpaaFlTab
set_option linter.unusedVariables false
set_option linter.unusedSimpArgs false
namespace Go.Fl
open Go

/-- A slice of integers that reads so. -/
def SlV (w : World) (v : Value) (xs : List Int) : Prop :=
  ∃ A cap, v = .slice A xs.length cap ∧ Rd w A (ints xs) ∧ xs.length ≤ cap ∧ cap ≤ 9223372036854775807 ∧ xs.length ≤ 17592186044416
/-- A slice of pairs that reads so. -/
def PrV (w : World) (v : Value) (es : List Pr) : Prop :=
  ∃ A cap, v = .slice A es.length cap ∧ Rd w A (prs es) ∧ es.length ≤ cap ∧ cap ≤ 9223372036854775807 ∧ es.length ≤ 8796093021952

section
variable {P : Program} {ops : Array Oper} {w0 w : World} {K : List Nat} {n : Nat} {ds : List Deferred} {E : Env} {L F : List Chunk} {o : Oper} {x y z : Operand} {v u : Value}
theorem SlV.keep0 {xs : List Int} (h : SlV w0 v xs) (hw : Own w0 [] w L) : SlV w v xs := by
  obtain ⟨A, cap, rfl, hr, h1, h2, h3⟩ := h
  exact ⟨A, cap, rfl, hr.keep0 hw, h1, h2, h3⟩
theorem PrV.keep0 {es : List Pr} (h : PrV w0 v es) (hw : Own w0 [] w L) : PrV w v es := by
  obtain ⟨A, cap, rfl, hr, h1, h2, h3⟩ := h
  exact ⟨A, cap, rfl, hr.keep0 hw, h1, h2, h3⟩
theorem rd_own {t m : Nat} {vs : List Value} (hw : Own w0 K w (slc v t m vs :: F)) : ∃ A len cap, v = .slice A len cap ∧ vs.length = len * m ∧ Rd w A vs ∧ len ≤ cap ∧ cap ≤ 9223372036854775807 := by
  rcases own_open hw with ⟨rfl, rfl, _⟩ | ⟨g, len, cap, sp, rfl, h1, h2, h3, h4, hO⟩
  · exact ⟨none, 0, 0, rfl, by simp, fun j u h => by simp at h, Nat.le_refl _, by omega⟩
  · refine ⟨_, _, _, rfl, h1, fun j u h => ⟨_, rfl, ?_⟩, h2, h3⟩
    have := hO.holds _ (List.mem_cons_self ..)
    rw [add_at0, cell_of_row w g _ _ t (0, 0) this]
    have hj := (List.getElem?_eq_some_iff.1 h).1
    simpa [List.getElem?_append_left hj] using h
theorem slv_own {t : Nat} {xs : List Int} (hw : Own w0 K w L) (i : Nat) (h : L[i]? = some (slc v t 1 (ints xs))) (hf : xs.length ≤ 17592186044416) : SlV w v xs := by
  have hp := perm_eraseIdx h
  obtain ⟨A, len, cap, rfl, h1, hr, h2, h3⟩ := rd_own (hw.perm hp.symm)
  simp at h1; subst h1
  exact ⟨A, cap, rfl, hr, h2, h3, hf⟩
theorem prv_own {t : Nat} {es : List Pr} (hw : Own w0 K w L) (i : Nat) (h : L[i]? = some (slc v t 2 (prs es))) (hf : es.length ≤ 8796093021952) : PrV w v es := by
  have hp := perm_eraseIdx h
  obtain ⟨A, len, cap, rfl, h1, hr, h2, h3⟩ := rd_own (hw.perm hp.symm)
  simp at h1
  obtain rfl : es.length = len := by omega
  exact ⟨A, cap, rfl, hr, h2, h3, hf⟩

/-! ### results that lie in a cell -/
theorem run_cellT {t : Nat} {ty : TypeId} {g : Nat} {cs : Array Value} {w : World} (hg : w.heap[g]? = some (.cells cs t (0, 0))) (ht : aggT P ty = some true) (hs : sizeT P ty = some cs.size) :
    (loadVar ty ⟨g, 0, none⟩).run P w = .ok (.agg cs) w := by
  unfold aggT at ht
  cases hu : P.underlying ty with
  | none => rw [hu] at ht; cases ht
  | some d =>
    rw [hu] at ht
    refine run_loadVar_row w g t ty cs (0, 0) d hg hu ?_ hs
    cases d <;> simp_all
theorem Fin.endc {fn : Func} {p : Tmp} {ty : TypeId} {g t : Nat} {cs : Array Value} {C : Value → List Chunk → Prop} {e : Exit} (he : e = .ret ∨ e = .normal) (hr : fn.results = #[.cell p ty])
    (hv : ev n E (.tmp p) = some (.pointer (some ⟨g, 0, none⟩))) [h : Find L g t cs] (ht : aggT P ty = some true) (hs : sizeT P ty = some cs.size) (hR : ∃ L', (∀ w, Own w0 K w L → Own w0 K w L') ∧ C (.agg cs) L') :
    Fin w0 K n [] (bodyPost P fn (Ret w0 K C) e) E L := by
  intro a w ha hO
  obtain ⟨L', hL, hC⟩ := hR
  have hg := hO.holds _ h.mem
  have hp : a.tmps.getD p undef = .pointer (some ⟨g, 0, none⟩) := by have := ha.ev hv; simpa only [Act.eval] using this
  have h1 : a.defers = [] ∧ ∃ v, (results fn a.tmps).run P w = .ok v w ∧ Ret w0 K C (.returned v) w := by
    refine ⟨ha.defers, _, ?_, .agg cs, L', rfl, hC, hL w hO⟩
    have hp' : a.tmps[p]?.getD undef = .pointer (some ⟨g, 0, none⟩) := by simpa using hp
    simp [results, hr, hp', asAddr, run_cellT hg ht hs]
  rcases he with rfl | rfl <;> exact h1
theorem Fin.endct {fn : Func} {p q : Tmp} {ty : TypeId} {g t : Nat} {cs : Array Value} {C : Value → List Chunk → Prop} {e : Exit} (he : e = .ret ∨ e = .normal) (hr : fn.results = #[.cell p ty, .tmp q])
    (hv : ev n E (.tmp p) = some (.pointer (some ⟨g, 0, none⟩))) (hq : ev n E (.tmp q) = some u) [h : Find L g t cs] (ht : aggT P ty = some true) (hs : sizeT P ty = some cs.size) (hR : ∃ L', (∀ w, Own w0 K w L → Own w0 K w L') ∧ C (.tuple #[.agg cs, u]) L') :
    Fin w0 K n [] (bodyPost P fn (Ret w0 K C) e) E L := by
  intro a w ha hO
  obtain ⟨L', hL, hC⟩ := hR
  have hg := hO.holds _ h.mem
  have hp : a.tmps.getD p undef = .pointer (some ⟨g, 0, none⟩) := by have := ha.ev hv; simpa only [Act.eval] using this
  have hq' : a.tmps.getD q undef = u := by have := ha.ev hq; simpa only [Act.eval] using this
  have h1 : a.defers = [] ∧ ∃ v, (results fn a.tmps).run P w = .ok v w ∧ Ret w0 K C (.returned v) w := by
    refine ⟨ha.defers, _, ?_, .tuple #[.agg cs, u], L', rfl, hC, hL w hO⟩
    rw [results_cell_tmp hr, hp, hq']
    simp [asAddr, run_cellT hg ht hs, Result.andThen]
  rcases he with rfl | rfl <;> exact h1
/-! ### append to a new empty slice -/
def ap0 (v : Value) (g e m : Nat) (news : List Value) : Chunk :=
  ⟨if news = [] then [] else v.ownBlock.toList, fun w => if news = [] then v = .slice (some ⟨g, 0, none⟩) 0 0 else (slc v e m news).holds w,
   fun w w' h hh => by
    by_cases hn : news = []
    · simp only [if_pos hn] at hh ⊢; exact hh
    · simp only [if_neg hn] at h hh ⊢
      exact (slc v e m news).loc w w' h hh⟩
theorem own_ap0 {g e m : Nat} {news : List Value} (hm : 0 < m) (hw : Own w0 K w (ap0 v g e m news :: blk g e #[] :: F)) : Own w0 K w (slc v e m news :: F) := by
  by_cases hn : news = []
  · subst hn
    have hv : v = .slice (some ⟨g, 0, none⟩) 0 0 := by have := hw.holds _ (List.mem_cons_self ..); simpa [ap0] using this
    subst hv
    exact own_slc (cs := #[]) (len := 0) (by simp) hm (Nat.le_refl _) (by omega) (by simp) (by simp) (hw.sub (List.sublist_cons_self ..))
  · have h1 : Own w0 K w (ap0 v g e m news :: F) := hw.sub ((List.sublist_cons_self _ _).cons_cons _)
    exact own_imp (by simp [ap0, slc, if_neg hn]) (fun w hh => by simpa [ap0, if_neg hn] using hh) h1
theorem ap0_of {g e m : Nat} {news : List Value} (hn : news ≠ []) (hw : Own w0 K w (slc v e m news :: F)) : Own w0 K w (ap0 v g e m news :: F) :=
  own_imp (by simp [ap0, slc, if_neg hn]) (fun w hh => by simpa [ap0, if_neg hn] using hh) hw
theorem r_append0 {t e m b k g : Nat} {zv yv : Value} {news : List Value} (ho : o.op = .call ⟨.builtin .append, #[x, y], #[t, t]⟩) (hx : ev n E x = some (.slice (some ⟨g, 0, none⟩) 0 0)) (hy : ev n E y = some yv)
    (ht : P.underlying t = some (.slice e)) (hm : sizeT P e = some m) (hb : bytesT P e = some b) (hz : zeroT P e = some zv) (hzs : zv.cells.size = m) (hm0 : 0 < m) (hb0 : 0 < b)
    (hn : Src w0 K L yv k news) (hk : news.length = k * m) (hfit : k * b ≤ 140737488355328) : Rel P w0 K n ds E L o (fun v' M => (∃ A l c, v' = .slice A l c) ∧ M = [ap0 v' g e m news]) := by
  intro a w ha hw
  obtain ⟨i, hi, e1, e2, e3⟩ := info_of hm hb hz
  subst e1 e2
  have hrun : ∀ v' w1, (Builtin.append_ #[t, t] o.type #[.slice (some ⟨g, 0, none⟩) 0 0, yv]).run P w = .ok v' w1 → Own w [] w1 [ap0 v' g e i.size news] → (∃ A l c, v' = .slice A l c) →
      RunsTo P (execOp a.eval o) w (fun v w' => ∃ L', ((∃ A l c, v = .slice A l c) ∧ L' = [ap0 v g e i.size news]) ∧ Own w [] w' L') := by
    intro v' w1 hr hO hsh
    unfold RunsTo
    have : (execOp a.eval o).run P w = .ok (.value v') w1 := by
      simp [execOp, ho, resolve, ha.ev hx, ha.ev hy, invoke, builtin, hr]
    rw [this]
    exact ⟨_, ⟨hsh, rfl⟩, hO⟩
  by_cases hk0 : k = 0
  · subst hk0
    have hn0 : news = [] := List.eq_nil_of_length_eq_zero (by simpa using hk)
    subst hn0
    have h0 : Own w [] w [ap0 (.slice (some ⟨g, 0, none⟩) 0 0) g e i.size []] := by
      refine ⟨rfl, rfl, rfl, Nat.le_refl _, fun _ _ _ => rfl, by simp [ap0], by simp [ap0], by simp [ap0], fun c hc => ?_⟩
      simp at hc; subst hc; simp [ap0]
    rcases hn with ⟨ad, c, rfl, _⟩ | ⟨c, rfl, _, _⟩
    · refine hrun (.slice (some ⟨g, 0, none⟩) 0 0) w ?_ h0 ⟨_, _, _, rfl⟩
      simp [Builtin.append_, run_underlying ht, sizeOf, typeInfo, hi, Builtin.lenOf, Builtin.firstCells, loadCells, loadCellsFrom, storeCells]
    · exact hrun _ w (run_append0 ht hm (Nat.le_refl _)) h0 ⟨_, _, _, rfl⟩
  · have hkb : k ≤ k * i.bytes := Nat.le_mul_of_pos_right _ hb0
    rcases hn with ⟨ad, c, rfl, hnews⟩ | ⟨c, rfl, rfl, rfl⟩
    · have hnews' := hnews w hw
      have hne : news ≠ [] := by
        intro en
        have h1 := congrArg List.length en
        rw [hk, List.length_nil] at h1
        rcases Nat.mul_eq_zero.1 h1 with h1 | h1 <;> omega
      have hr := run_append_grow (P := P) w t o.type e i zv ht hi e3 ⟨g, 0, none⟩ 0 0 [] (by simp) (by intro j u hj; simp at hj) ad k c news hk hnews' (by omega) (by omega) (growslice_fits (by omega) (by rw [Nat.zero_add]; exact hfit))
      refine hrun _ _ hr ?_ ⟨_, _, _, rfl⟩
      have h5 := grownCap_ge w (0 + k) 0 e
      have hO := (Own.start w []).drew.alloc e ([] ++ news ++ (Builtin.zeroCells zv.cells (grownCap w (0 + k) 0 e - (0 + k))).toList).toArray
      have := own_slc (len := k) (cap := grownCap w (0 + k) 0 e) (vs := news) (by rw [hk]) hm0 (by omega)
        (by have := grownCap_le_maxLen w (0 + k) 0 e (by simp only [maxLen]; omega); simp only [maxLen] at this; omega)
        (by simp only [List.size_toArray, List.length_append, List.length_nil, Array.length_toList, size_zeroCells, hzs, hk, Nat.zero_add, ← Nat.add_mul]; congr 1; simp only [Nat.zero_add] at h5; omega)
        (by simp only [List.nil_append, ← hk]; exact List.take_left) hO
      have e5 : ([] ++ news ++ (Builtin.zeroCells zv.cells (grownCap w (0 + k) 0 e - (0 + k))).toList).toArray = ([] : List Value).toArray ++ news.toArray ++ Builtin.zeroCells zv.cells (grownCap w (0 + k) 0 e - (0 + k)) := by apply Array.ext'; simp
      rw [e5] at this
      refine ap0_of hne ?_
      simp only [Nat.zero_add] at this ⊢
      exact this
    · exact absurd rfl hk0

/-! ### structs of two integers are compared -/
def intT (P : Program) (t : TypeId) : Bool := match P.underlying t with | some (.int _) => true | _ => false
def pairT (P : Program) (t : TypeId) : Bool :=
  (match P.underlying t with
  | some (.struct fs) => (match fs.toList with
    | [a, b] => (a.name != "_") && (b.name != "_") && Nat.beq a.offset 0 && Nat.beq b.offset 1 && intT P a.type && intT P b.type
    | _ => false)
  | _ => false) && !P.stoodInHeld t && !P.eqGuardType P.depth t
theorem run_part_int {t : TypeId} {cs : Array Value} {i : Nat} {u : Value} (h : intT P t = true) (hi : cs[i]? = some u) : (part t cs i).run P w = .ok u w := by
  unfold intT at h
  split at h
  · rename_i k hk
    have : aggT P t = some false := by simp [aggT, hk]
    simp [part, run_aggT this, hi]
  · cases h
theorem run_eq_int {t : TypeId} {k : IntKind} {a b : Int} (d : Nat) (h : intT P t = true) : (Op.equalIn (d + 1) t (.int k a) (.int k b)).run P w = .ok (a == b) w := by
  unfold intT at h
  split at h
  · rename_i k' hk; exact run_equalIn_int w d t k k' a b hk
  · cases h
theorem run_pairs {t : TypeId} {a b c d : Int} (h : pairT P t = true) (m : Nat) : (Op.equalIn (m + 2) t (.agg #[.int .i64 a, .int .i64 b]) (.agg #[.int .i64 c, .int .i64 d])).run P w = .ok (decide (a = c ∧ b = d)) w := by
  unfold pairT at h
  simp only [Bool.and_eq_true, Bool.not_eq_true'] at h
  obtain ⟨⟨h1, h2⟩, h3⟩ := h
  split at h1
  · rename_i fs hfs
    split at h1
    · rename_i f g hl
      simp only [Bool.and_eq_true, bne_iff_ne, ne_eq] at h1
      obtain ⟨⟨⟨⟨⟨n1, n2⟩, o1⟩, o2⟩, i1⟩, i2⟩ := h1
      have o1 := Nat.eq_of_beq_eq_true o1
      have o2 := Nat.eq_of_beq_eq_true o2
      have hff : P.fieldsOf t = fs := by simp [Program.fieldsOf, hfs]
      rw [run_equalIn_struct w (m + 1) t _ _ (by rw [hff]; exact hfs) h2, hff, hl]
      simp only [Op.eqFields, ne_eq, n1, n2, not_false_eq_true, if_true, Sem.run_bind, o1, o2]
      rw [run_part_int (u := .int .i64 a) i1 (by rfl), Result.andThen_ok, run_part_int (u := .int .i64 c) i1 (by rfl), Result.andThen_ok, run_eq_int m i1, Result.andThen_ok]
      by_cases hac : a = c
      · subst hac
        simp only [beq_self_eq_true, Bool.not_true, Bool.false_eq_true, if_false, Sem.run_bind]
        rw [run_part_int (u := .int .i64 b) i2 (by rfl), Result.andThen_ok, run_part_int (u := .int .i64 d) i2 (by rfl), Result.andThen_ok, run_eq_int m i2, Result.andThen_ok]
        by_cases hbd : b = d
        · subst hbd; simp
        · have : (b == d) = false := by simpa using hbd
          simp [this, hbd]
      · have : (a == c) = false := by simpa using hac
        simp [this, hac]
    · cases h1
  · cases h1
theorem eqg_pair {op : BinOp} {t : TypeId} {xs ys : Array Value} (h : pairT P t = true) : (eqGuard op t x y (.agg xs) (.agg ys)).run P w = .ok () w := by
  unfold pairT at h
  simp only [Bool.and_eq_true, Bool.not_eq_true'] at h
  exact run_eqGuard_agg w op t x y xs ys h.2
theorem p_neq_pair {t t' : TypeId} {a b c d : Int} (ho : o.op = .binOp .neq t x y t') (hx : ev n E x = some (.agg #[.int .i64 a, .int .i64 b])) (hy : ev n E y = some (.agg #[.int .i64 c, .int .i64 d])) (h : pairT P t = true) :
    Pur P n ds E o (.bool (!decide (a = c ∧ b = d))) := by
  intro s w ha
  have h2 := run_pairs (P := P) (w := w) (a := a) (b := b) (c := c) (d := d) h 9998
  simp only [execOp, ho, ha.ev hx, ha.ev hy, Sem.run_bind, eqg_pair h, run_neq_struct, h2, Result.andThen_ok, Sem.run_pure]
theorem p_eql_pair {t t' : TypeId} {a b c d : Int} (ho : o.op = .binOp .eql t x y t') (hx : ev n E x = some (.agg #[.int .i64 a, .int .i64 b])) (hy : ev n E y = some (.agg #[.int .i64 c, .int .i64 d])) (h : pairT P t = true) :
    Pur P n ds E o (.bool (decide (a = c ∧ b = d))) := by
  intro s w ha
  have h2 := run_pairs (P := P) (w := w) (a := a) (b := b) (c := c) (d := d) h 9998
  simp only [execOp, ho, ha.ev hx, ha.ev hy, Sem.run_bind, eqg_pair h, run_eql_struct, h2, Result.andThen_ok, Sem.run_pure]

/-- The value of a slice of ours is a slice. -/
theorem own_shape {t m : Nat} {vs : List Value} (hw : Own w0 K w (slc v t m vs :: F)) : ∃ A l c, v = .slice A l c := by
  rcases own_open hw with ⟨rfl, _⟩ | ⟨g, len, cap, sp, rfl, _⟩
  · exact ⟨_, _, _, rfl⟩
  · exact ⟨_, _, _, rfl⟩
theorem Gen.shape {t m : Nat} {vs : List Value} (h : Gen P w0 K n ds E L o (fun v' M => M = slc v' t m vs :: F)) : Gen P w0 K n ds E L o (fun v' M => (∃ A l c, v' = .slice A l c) ∧ M = slc v' t m vs :: F) := by
  intro a w ha hw
  refine (h a w ha hw).mono ?_
  rintro v w' ⟨L', rfl, hO⟩
  exact ⟨_, ⟨own_shape hO, rfl⟩, hO⟩
/-- A call that works on memory of ours, which is first seen in another way. -/
theorem g_call' {f : FuncId} {xs : Array Operand} {ts : Array Nat} {vs : List Value} {cap : Array Value} {C : Value → List Chunk → Prop} {K' : List Nat} {Lc F : List Chunk} (hf : Ent P f) (ho : o.op = .call ⟨.value x, xs, ts⟩)
    (hx : ev n E x = some (.func (.func f) #[] cap)) (hxs : evs n E xs.toList = some vs) (hL : ∀ w, Own w0 K w L → Own w0 K w (Lc ++ F)) (hK : ∀ k, k ∈ K' → k ∈ idsOf Lc)
    (hcon : ∀ w, Own w0 K w (Lc ++ F) → Calls P f (vs.toArray ++ cap) w (Ret w K' C)) : Gen P w0 K n ds E L o (fun v M => ∃ L', C v L' ∧ M = L' ++ F) := by
  intro a w ha hw
  unfold RunsTo
  rw [run_call hf ho ha hx hxs]
  refine Calls.mono (hcon w (hL w hw)) ?_
  rintro e w' ⟨v, L', he, hC, hO⟩
  exact ⟨v, he, L' ++ F, ⟨L', hC, rfl⟩, Own.frame (hL w hw) hO hK⟩
theorem Fin.own {Qb : Act → World → Prop} {M : List Chunk} (hL : ∀ w, Own w0 K w L → Own w0 K w M) (h : Fin w0 K n ds Qb E M) : Fin w0 K n ds Qb E L := fun a w ha hw => h a w ha (hL w hw)
theorem DC.own {Q : Exit → Act → World → Prop} {c : Code} {M : List Chunk} (hL : ∀ w, Own w0 K w L → Own w0 K w M) (h : DC P w0 K n ds Q c E M) : DC P w0 K n ds Q c E L := fun a w ha hw => h a w ha (hL w hw)
theorem Seq.own {Q : Exit → Act → World → Prop} {l : List Oper} {M : List Chunk} (hL : ∀ w, Own w0 K w L → Own w0 K w M) (h : Seq P ops w0 K n ds Q l E M) : Seq P ops w0 K n ds Q l E L := fun a w ha hw => h a w ha (hL w hw)
theorem own_shapeAt {t m : Nat} {vs : List Value} (i : Nat) (h : L[i]? = some (slc v t m vs)) (hw : Own w0 K w L) : ∃ A l c, v = .slice A l c := own_shape (hw.perm (perm_eraseIdx h).symm)
theorem DC.shape {Q : Exit → Act → World → Prop} {c : Code} {t m : Nat} {vs : List Value} (i : Nat) (hi : L[i]? = some (slc v t m vs)) (h : (∃ A l c, v = .slice A l c) → DC P w0 K n ds Q c E L) : DC P w0 K n ds Q c E L :=
  fun a w ha hw => h (own_shapeAt i hi hw) a w ha hw
theorem Fin.shape {Qb : Act → World → Prop} {t m : Nat} {vs : List Value} (i : Nat) (hi : L[i]? = some (slc v t m vs)) (h : (∃ A l c, v = .slice A l c) → Fin w0 K n ds Qb E L) : Fin w0 K n ds Qb E L :=
  fun a w ha hw => h (own_shapeAt i hi hw) a w ha hw
theorem own_blk {w : World} (g : Nat) {t : Nat} {cs : Array Value} [h : Find L g t cs] (hw : Own w0 K w L) : w.heap[g]? = some (.cells cs t (0, 0)) := hw.holds _ h.mem
theorem slv_blk {w : World} {g t len : Nat} {cs : Array Value} [h : Find L g t cs] {xs : List Int} (hw : Own w0 K w L) (hc : cs.toList = ints xs) (hl : xs.length = len) (hf : len ≤ 17592186044416) : SlV w (.slice (some ⟨g, 0, none⟩) len len) xs := by
  subst hl
  refine ⟨_, _, rfl, fun j u hj => ⟨_, rfl, ?_⟩, Nat.le_refl _, by omega, hf⟩
  rw [add_at0, cell_of_row w g _ cs t (0, 0) (own_blk g hw), ← hj, ← hc]; simp
theorem prv_blk {w : World} {g t len : Nat} {cs : Array Value} [h : Find L g t cs] {es : List Pr} (hw : Own w0 K w L) (hc : cs.toList = prs es) (hl : es.length = len) (hf : len ≤ 8796093021952) : PrV w (.slice (some ⟨g, 0, none⟩) len len) es := by
  subst hl
  refine ⟨_, _, rfl, fun j u hj => ⟨_, rfl, ?_⟩, Nat.le_refl _, by omega, hf⟩
  rw [add_at0, cell_of_row w g _ cs t (0, 0) (own_blk g hw), ← hj, ← hc]; simp
theorem Seq.shape {Q : Exit → Act → World → Prop} {l : List Oper} {t m : Nat} {vs : List Value} (i : Nat) (hi : L[i]? = some (slc v t m vs)) (h : (∃ A l c, v = .slice A l c) → Seq P ops w0 K n ds Q l E L) : Seq P ops w0 K n ds Q l E L :=
  fun a w ha hw => h (own_shapeAt i hi hw) a w ha hw
/-- A call in a region that draws its order, which sees what its elders have made. -/
theorem Flow.rel0V {Lf : List Chunk} {cl : List Cls} {A : List Nat} {Qa : Act → World → Prop} {i : Nat} {ri : List Nat} {Ls : List Chunk} {Ln : List (Nat × Chunk)} {V : List Chunk} {d : Nat}
    (ho : ops[i]? = some o) (hc : cl.getD i .q = .r) (hd : o.dst = some d) (hw : want n E ops o = some true) (hV : vis A i Ln ++ Ls = V) {D : Value → Prop}
    (hx : Rel P w0 K n ds E V o (fun v M => M = [] ∧ D v)) (h : ∀ v, D v → Flow P ops w0 K n ds Lf cl A Qa ri ((d, v) :: E) Ls Ln) : Flow P ops w0 K n ds Lf cl A Qa (i :: ri) E Ls Ln :=
  Flow.rel' ho hc hd hw hV hx fun v L' hC => by obtain ⟨rfl, hD⟩ := hC; exact h v hD
end
end Go.Fl
