/- The rules of a walk: operations in the text's order, statements, loops, calls. -/
import Derived.Test.YtbkhejfnhbjhpaaFlAny
set_option linter.unusedVariables false
set_option linter.unusedSimpArgs false
namespace Go.Fl
open Go

/-! ### what an operation's guard says -/
def want (n : Nat) (E : Env) (ops : Array Oper) (o : Oper) : Option Bool :=
  match o.guard with
  | none => some true
  | some (j, b) =>
    match (ops[j]?).bind (·.dst) with
    | none => some false
    | some d =>
      match ev n E (.tmp d) with
      | some (.bool c) => some (c == b)
      | some (.tuple _) => some false
      | _ => none

section
variable {P : Program} {ops : Array Oper} {w0 : World} {K : List Nat} {n : Nat} {ds : List Deferred} {E : Env} {L : List Chunk}

theorem want_spec {o : Oper} {b : Bool} {a : Act} (h : want n E ops o = some b) (ha : Sat n ds E a) : Region.wanted o (yielded ops a.tmps) = b := by
  unfold want at h
  unfold Region.wanted
  split at h
  · rename_i hg; cases h; rw [hg]
  · rename_i j c hg
    rw [hg]
    simp only
    unfold yielded
    split at h
    · rename_i hd; rw [hd]; cases h; rfl
    · rename_i d hd
      rw [hd]
      simp only [Option.bind_some]
      have key : ∀ v, ev n E (.tmp d) = some v → a.tmps[d]? = some v := by
        intro v hv
        replace hv : (bif Nat.blt d n then E.get d else none) = some v := hv
        cases hb : Nat.blt d n with
        | false => rw [hb] at hv; cases hv
        | true => rw [hb] at hv; exact ha.has d v hv (by rw [Nat.blt_eq] at hb; exact hb)
      split at h
      · rename_i c' hv
        rw [key _ hv]
        cases h
        cases c' <;> cases c <;> rfl
      · rename_i t hv
        rw [key _ hv]
        cases h; rfl
      · cases h

/-! ### what single operations do -/
def Pur (P : Program) (n : Nat) (ds : List Deferred) (E : Env) (o : Oper) (v : Value) : Prop :=
  ∀ a w, Sat n ds E a → (execOp a.eval o).run P w = .ok (.value v) w
def Val (P : Program) (w0 : World) (K : List Nat) (n : Nat) (ds : List Deferred) (E : Env) (L : List Chunk) (o : Oper) (v : Value) : Prop :=
  ∀ a w, Sat n ds E a → Own w0 K w L → (execOp a.eval o).run P w = .ok (.value v) w
def New (P : Program) (n : Nat) (ds : List Deferred) (E : Env) (o : Oper) (nv : NewV) (t : Nat) (cs : Array Value) : Prop :=
  ∀ a w, Sat n ds E a → (execOp a.eval o).run P w = .ok (.value (nv.val w.heap.size)) (w.alloc (.cells cs t))
def Rel (P : Program) (w0 : World) (K : List Nat) (n : Nat) (ds : List Deferred) (E : Env) (L : List Chunk) (o : Oper) (C : Value → List Chunk → Prop) : Prop :=
  ∀ a w, Sat n ds E a → Own w0 K w L → RunsTo P (execOp a.eval o) w (fun v w' => ∃ L', C v L' ∧ Own w [] w' L')
def Gen (P : Program) (w0 : World) (K : List Nat) (n : Nat) (ds : List Deferred) (E : Env) (L : List Chunk) (o : Oper) (C : Value → List Chunk → Prop) : Prop :=
  ∀ a w, Sat n ds E a → Own w0 K w L → RunsTo P (execOp a.eval o) w (fun v w' => ∃ L', C v L' ∧ Own w0 K w' L')

theorem Pur.val {o : Oper} {v : Value} (h : Pur P n ds E o v) : Val P w0 K n ds E L o v := fun a w ha _ => h a w ha

/-! ### operations in the text's order -/
def Seq (P : Program) (ops : Array Oper) (w0 : World) (K : List Nat) (n : Nat) (ds : List Deferred) (Q : Exit → Act → World → Prop) (l : List Oper) (E : Env) (L : List Chunk) : Prop :=
  ∀ a w, Sat n ds E a → Own w0 K w L → wpList P ops Q l a w
def Fin (w0 : World) (K : List Nat) (n : Nat) (ds : List Deferred) (Q : Act → World → Prop) (E : Env) (L : List Chunk) : Prop :=
  ∀ a w, Sat n ds E a → Own w0 K w L → Q a w
def DC (P : Program) (w0 : World) (K : List Nat) (n : Nat) (ds : List Deferred) (Q : Exit → Act → World → Prop) (c : Code) (E : Env) (L : List Chunk) : Prop :=
  ∀ a w, Sat n ds E a → Own w0 K w L → c.wp P Q a w

variable {Q : Exit → Act → World → Prop} {o : Oper} {r : List Oper} {v : Value} {d : Nat}

theorem Seq.nil (h : Fin w0 K n ds (Q .normal) E L) : Seq P ops w0 K n ds Q [] E L := h

theorem Seq.run {d : Option Tmp} (hd : o.dst = d) {R : Value → World → Prop} (hw : want n E ops o = some true) (hx : ∀ a w, Sat n ds E a → Own w0 K w L → RunsTo P (execOp a.eval o) w R)
    (h : ∀ a w v w', Sat n ds E a → Own w0 K w L → R v w' → wpList P ops Q r (a.put d v) w') : Seq P ops w0 K n ds Q (o :: r) E L := by
  intro a w ha hL
  unfold wpList
  rw [if_pos (want_spec hw ha)]
  subst hd
  exact .inl ((hx a w ha hL).wp fun v w' hR => h a w v w' ha hL hR)

theorem Seq.val (hd : o.dst = some d) (hw : want n E ops o = some true) (hv : Val P w0 K n ds E L o v) (h : Seq P ops w0 K n ds Q r ((d, v) :: E) L) : Seq P ops w0 K n ds Q (o :: r) E L :=
  Seq.run hd hw (R := fun v' w' => v' = v ∧ ∃ a0 : Unit, Own w0 K w' L) (fun a w ha hL => RunsTo.value (hv a w ha hL) ⟨rfl, (), hL⟩)
    (fun a w v' w' ha _ hR => by obtain ⟨rfl, _, hL'⟩ := hR; exact h _ _ (ha.put (some d) _) hL')

theorem Seq.pur (hd : o.dst = some d) (hw : want n E ops o = some true) (hv : Pur P n ds E o v) (h : Seq P ops w0 K n ds Q r ((d, v) :: E) L) : Seq P ops w0 K n ds Q (o :: r) E L :=
  Seq.val hd hw hv.val h

theorem Seq.skip (hd : o.dst = some d) (hw : want n E ops o = some false) (h : Seq P ops w0 K n ds Q r ((d, undef) :: E) L) : Seq P ops w0 K n ds Q (o :: r) E L := by
  intro a w ha hL
  unfold wpList
  rw [if_neg (by rw [want_spec hw ha]; simp), hd]
  exact h _ _ (ha.put (some d) _) hL

theorem Seq.skip0 (hd : o.dst = none) (hw : want n E ops o = some false) (h : Seq P ops w0 K n ds Q r E L) : Seq P ops w0 K n ds Q (o :: r) E L := by
  intro a w ha hL
  unfold wpList
  rw [if_neg (by rw [want_spec hw ha]; simp), hd]
  exact h _ _ ha hL

theorem Seq.new (hd : o.dst = some d) (hw : want n E ops o = some true) {nv : NewV} {t : Nat} {cs : Array Value} (hx : New P n ds E o nv t cs)
    (h : ∀ g, Seq P ops w0 K n ds Q r ((d, nv.val g) :: E) (blk g t cs :: L)) : Seq P ops w0 K n ds Q (o :: r) E L := by
  intro a w ha hL
  unfold wpList
  rw [if_pos (want_spec hw ha)]
  refine .inl ?_
  unfold Oper.wp
  rw [hx a w ha, Oper.upon_value, hd]
  exact h w.heap.size _ _ (ha.put (some d) _) (hL.alloc t cs)

theorem Seq.rel (hd : o.dst = some d) (hw : want n E ops o = some true) {C : Value → List Chunk → Prop} (hx : Rel P w0 K n ds E L o C)
    (h : ∀ v L', C v L' → Seq P ops w0 K n ds Q r ((d, v) :: E) (L' ++ L)) : Seq P ops w0 K n ds Q (o :: r) E L :=
  Seq.run hd hw (R := fun v w' => ∃ L', C v L' ∧ Own w0 K w' (L' ++ L)) (fun a w ha hL => (hx a w ha hL).mono fun v w' ⟨L', hC, hO⟩ => ⟨L', hC, hL.add hO⟩)
    (fun a w v w' ha _ ⟨L', hC, hO⟩ => h v L' hC _ _ (ha.put (some d) _) hO)

theorem Seq.gen (hd : o.dst = some d) (hw : want n E ops o = some true) {C : Value → List Chunk → Prop} (hx : Gen P w0 K n ds E L o C)
    (h : ∀ v L', C v L' → Seq P ops w0 K n ds Q r ((d, v) :: E) L') : Seq P ops w0 K n ds Q (o :: r) E L :=
  Seq.run hd hw (R := fun v w' => ∃ L', C v L' ∧ Own w0 K w' L') (fun a w ha hL => hx a w ha hL)
    (fun a w v w' ha _ ⟨L', hC, hO⟩ => h v L' hC _ _ (ha.put (some d) _) hO)

theorem Seq.gen0 (hd : o.dst = none) (hw : want n E ops o = some true) {C : Value → List Chunk → Prop} (hx : Gen P w0 K n ds E L o C)
    (h : ∀ v L', C v L' → Seq P ops w0 K n ds Q r E L') : Seq P ops w0 K n ds Q (o :: r) E L :=
  Seq.run hd hw (R := fun v w' => ∃ L', C v L' ∧ Own w0 K w' L') (fun a w ha hL => hx a w ha hL)
    (fun a w v w' ha _ ⟨L', hC, hO⟩ => h v L' hC _ _ ha hO)

/-- A store: the memory behind it is told, no value. -/
def Sto (P : Program) (w0 : World) (K : List Nat) (n : Nat) (ds : List Deferred) (E : Env) (L : List Chunk) (o : Oper) (L' : List Chunk) : Prop :=
  ∀ a w, Sat n ds E a → Own w0 K w L → ∃ w', (execOp a.eval o).run P w = .ok .skip w' ∧ Own w0 K w' L'
theorem Sto.gen {L' : List Chunk} (h : Sto P w0 K n ds E L o L') : Gen P w0 K n ds E L o (fun v M => v = undef ∧ M = L') := by
  intro a w ha hL
  obtain ⟨w', h1, h2⟩ := h a w ha hL
  unfold RunsTo
  rw [h1]
  exact ⟨L', ⟨rfl, rfl⟩, h2⟩
theorem Seq.sto (hd : o.dst = none) (hw : want n E ops o = some true) {L' : List Chunk} (hx : Sto P w0 K n ds E L o L') (h : Seq P ops w0 K n ds Q r E L') : Seq P ops w0 K n ds Q (o :: r) E L :=
  Seq.gen0 hd hw hx.gen fun v M hC => by obtain ⟨rfl, rfl⟩ := hC; exact h

/-! ### the same inside a region that draws its order -/
variable {Lf : List Chunk} {cl : List Cls} {A : List Nat} {Qa : Act → World → Prop} {i : Nat} {ri : List Nat} {Ls : List Chunk} {Ln : List (Nat × Chunk)}

theorem Flow.pur (ho : ops[i]? = some o) (hd : o.dst = some d) (hw : want n E ops o = some true) (hv : Pur P n ds E o v) (h : Flow P ops w0 K n ds Lf cl A Qa ri ((d, v) :: E) Ls Ln) :
    Flow P ops w0 K n ds Lf cl A Qa (i :: ri) E Ls Ln :=
  .val true ho (.inl rfl) (fun a w ha _ _ => .inl ⟨want_spec hw ha, hv a w ha⟩) (by rw [hd]; exact h)
theorem Flow.skip (ho : ops[i]? = some o) (hd : o.dst = some d) (hw : want n E ops o = some false) (h : Flow P ops w0 K n ds Lf cl A Qa ri ((d, undef) :: E) Ls Ln) :
    Flow P ops w0 K n ds Lf cl A Qa (i :: ri) E Ls Ln :=
  .val true ho (.inl rfl) (fun a w ha _ _ => .inr ⟨want_spec hw ha, rfl⟩) (by rw [hd]; exact h)
theorem Flow.skip0 (ho : ops[i]? = some o) (hd : o.dst = none) (hw : want n E ops o = some false) (h : Flow P ops w0 K n ds Lf cl A Qa ri E Ls Ln) :
    Flow P ops w0 K n ds Lf cl A Qa (i :: ri) E Ls Ln :=
  .val (v := undef) true ho (.inl rfl) (fun a w ha _ _ => .inr ⟨want_spec hw ha, rfl⟩) (by rw [hd]; exact h)
/-- A value out of old memory, or out of the pieces that stay. -/
theorem Flow.old (ho : ops[i]? = some o) (hd : o.dst = some d) (hw : want n E ops o = some true) (hv : Val P w0 K n ds E Lf o v) (h : Flow P ops w0 K n ds Lf cl A Qa ri ((d, v) :: E) Ls Ln) :
    Flow P ops w0 K n ds Lf cl A Qa (i :: ri) E Ls Ln :=
  .val true ho (.inl rfl) (fun a w ha hf _ => .inl ⟨want_spec hw ha, hv a w ha hf⟩) (by rw [hd]; exact h)
theorem Flow.val' (ho : ops[i]? = some o) (hc : cl.getD i .q = .v) (hd : o.dst = some d) (hw : want n E ops o = some true) {V : List Chunk} (hV : vis A i Ln ++ Ls = V) (hv : Val P w0 K n ds E V o v)
    (h : Flow P ops w0 K n ds Lf cl A Qa ri ((d, v) :: E) Ls Ln) : Flow P ops w0 K n ds Lf cl A Qa (i :: ri) E Ls Ln :=
  .val false ho (.inr hc) (fun a w ha _ hw' => .inl ⟨want_spec hw ha, hv a w ha (by subst hV; exact hw'.resolve_left (by simp))⟩) (by rw [hd]; exact h)
theorem Flow.new' (ho : ops[i]? = some o) (hc : cl.getD i .q = .n) (hd : o.dst = some d) (hw : want n E ops o = some true) {nv : NewV} {t : Nat} {cs : Array Value} (hx : New P n ds E o nv t cs)
    (h : ∀ g, Flow P ops w0 K n ds Lf cl A Qa ri ((d, nv.val g) :: E) Ls ((i, blk g t cs) :: Ln)) : Flow P ops w0 K n ds Lf cl A Qa (i :: ri) E Ls Ln :=
  .new ho hc (fun a ha => want_spec hw ha) nv t cs hx (by rw [hd]; exact h)
theorem Flow.rel' (ho : ops[i]? = some o) (hc : cl.getD i .q = .r) (hd : o.dst = some d) (hw : want n E ops o = some true) {V : List Chunk} (hV : vis A i Ln ++ Ls = V) {C : Value → List Chunk → Prop}
    (hx : Rel P w0 K n ds E V o C) (h : ∀ v L', C v L' → Flow P ops w0 K n ds Lf cl A Qa ri ((d, v) :: E) Ls (L'.map (fun c => (i, c)) ++ Ln)) : Flow P ops w0 K n ds Lf cl A Qa (i :: ri) E Ls Ln :=
  .rel ho hc (fun a ha => want_spec hw ha) C (fun a w ha hw' => hx a w ha (by subst hV; exact hw')) (by rw [hd]; exact h)
theorem Flow.gen' (ho : ops[i]? = some o) (hc : cl.getD i .q = .g) (hd : o.dst = some d) (hw : want n E ops o = some true) {V : List Chunk} (hV : Ln.map (·.2) ++ Ls = V) {C : Value → List Chunk → Prop}
    (hx : Gen P w0 K n ds E V o C) (hl : ∀ v L', C v L' → ∀ w, Own w0 K w L' → Own w0 K w Lf) (h : ∀ v L', C v L' → Flow P ops w0 K n ds Lf cl A Qa ri ((d, v) :: E) L' []) : Flow P ops w0 K n ds Lf cl A Qa (i :: ri) E Ls Ln :=
  .gen ho hc (fun a ha => want_spec hw ha) C (fun a w ha hw' => hx a w ha (by subst hV; exact hw')) hl (by rw [hd]; exact h)
theorem Flow.sto (ho : ops[i]? = some o) (hc : cl.getD i .q = .g) (hd : o.dst = none) (hw : want n E ops o = some true) {V : List Chunk} (hV : Ln.map (·.2) ++ Ls = V) {L' : List Chunk}
    (hx : Sto P w0 K n ds E V o L') (hl : ∀ w, Own w0 K w L' → Own w0 K w Lf) (h : Flow P ops w0 K n ds Lf cl A Qa ri E L' []) : Flow P ops w0 K n ds Lf cl A Qa (i :: ri) E Ls Ln :=
  .gen ho hc (fun a ha => want_spec hw ha) _ (fun a w ha hw' => hx.gen a w ha (by subst hV; exact hw')) (fun v M hC w ho => by obtain ⟨rfl, rfl⟩ := hC; exact hl w ho) (fun v M hC => by obtain ⟨rfl, rfl⟩ := hC; rw [hd]; exact h)
theorem Flow.end {V : List Chunk} (hV : Ln.map (·.2) ++ Ls = V) (h : Fin w0 K n ds Qa E V) : Flow P ops w0 K n ds Lf cl A Qa [] E Ls Ln := .done (by subst hV; exact h)

/-! ### statements -/
theorem DC.seq {x y : Code} (h : DC P w0 K n ds (Exit.then (y.wp P Q) Q) x E L) : DC P w0 K n ds Q (.seq x y) E L := fun a w ha hL => wp_seq (h a w ha hL)
theorem Fin.then {y : Code} (h : DC P w0 K n ds Q y E L) : Fin w0 K n ds (Exit.then (y.wp P Q) Q .normal) E L := h
theorem Fin.inBlock {id : Nat} (h : Fin w0 K n ds (Q .normal) E L) : Fin w0 K n ds (Exit.inBlock id Q .normal) E L := h
theorem Fin.ret_then {k : Act → World → Prop} (h : Fin w0 K n ds (Q .ret) E L) : Fin w0 K n ds (Exit.then k Q .ret) E L := h
theorem Fin.ret_block {id : Nat} (h : Fin w0 K n ds (Q .ret) E L) : Fin w0 K n ds (Exit.inBlock id Q .ret) E L := h
theorem Fin.exit_then {k : Act → World → Prop} {id : Nat} (h : Fin w0 K n ds (Q (.exit id)) E L) : Fin w0 K n ds (Exit.then k Q (.exit id)) E L := h
theorem Fin.exit_here {id : Nat} (h : Fin w0 K n ds (Q .normal) E L) : Fin w0 K n ds (Exit.inBlock id Q (.exit id)) E L := by
  intro a w ha hL; show (if id = id then Q .normal a w else Q (.exit id) a w); rw [if_pos rfl]; exact h a w ha hL
theorem Fin.exit_past {id id' : Nat} (hne : id' ≠ id) (h : Fin w0 K n ds (Q (.exit id')) E L) : Fin w0 K n ds (Exit.inBlock id Q (.exit id')) E L := by
  intro a w ha hL; show (if id' = id then Q .normal a w else Q (.exit id') a w); rw [if_neg hne]; exact h a w ha hL
theorem DC.region {l : List Oper} {id : Nat} (h : Seq P l.toArray w0 K n ds Q l E L) : DC P w0 K n ds Q (.region id l.toArray false) E L := fun a w ha hL => wp_region_lit (h a w ha hL)
theorem DC.flow {id : Nat} {order : List Nat} (Lf : List Chunk) (hm : P.follows .mixedOrders = true) (hchk : flowChk ops cl A order = true) (hLf : ∀ w, Own w0 K w L → Own w0 K w Lf) (h : Flow P ops w0 K n ds Lf cl A (Q .normal) order E L []) :
    DC P w0 K n ds Q (.region id ops true) E L := wp_region_flow hm hchk hLf h
theorem DC.ret (h : Fin w0 K n ds (Q .ret) E L) : DC P w0 K n ds Q .ret E L := fun a w ha hL => wp_ret (h a w ha hL)
theorem DC.exit {id : Nat} (h : Fin w0 K n ds (Q (.exit id)) E L) : DC P w0 K n ds Q (.exit id) E L := fun a w ha hL => wp_exit (h a w ha hL)
theorem DC.skip (h : Fin w0 K n ds (Q .normal) E L) : DC P w0 K n ds Q .skip E L := fun a w ha hL => wp_skip (h a w ha hL)
theorem DC.block {id : Nat} {c : Code} (h : DC P w0 K n ds (Exit.inBlock id Q) c E L) : DC P w0 K n ds Q (.block id c) E L := fun a w ha hL => wp_block (h a w ha hL)
theorem DC.cond {c : Operand} {x y : Code} {b : Bool} (hc : ev n E c = some (.bool b)) (h1 : b = true → DC P w0 K n ds Q x E L) (h2 : b = false → DC P w0 K n ds Q y E L) :
    DC P w0 K n ds Q (.cond c x y) E L := fun a w ha hL => wp_cond_split (ha.ev hc) (fun h => h1 h a w ha hL) (fun h => h2 h a w ha hL)

/-! ### forgetting -/
def Sub (E : Env) : Env → Prop
  | [] => True
  | (t, v) :: r => E.get t = some v ∧ Sub E r
theorem Sub.get {E E' : Env} (h : Sub E E') : ∀ t v, E'.get t = some v → E.get t = some v := by
  induction E' with
  | nil => intro t v hv; cases hv
  | cons p r ih =>
    obtain ⟨k, u⟩ := p
    intro t v hv
    rw [Env.get_cons] at hv
    split at hv
    · rename_i hk; cases hv; subst hk; exact h.1
    · exact ih h.2 t v hv
inductive Pick : List Chunk → List Chunk → Prop
  | nil {M : List Chunk} : Pick M []
  | cons {M : List Chunk} {c : Chunk} {L' : List Chunk} (i : Nat) (h : M[i]? = some c) (r : Pick (M.eraseIdx i) L') : Pick M (c :: L')
theorem perm_eraseIdx : ∀ {M : List Chunk} {i : Nat} {c : Chunk}, M[i]? = some c → M.Perm (c :: M.eraseIdx i)
  | [], i, c, h => by simp at h
  | x :: M, 0, c, h => by simp at h; subst h; simp
  | x :: M, i + 1, c, h => by
    simp only [List.getElem?_cons_succ] at h
    simp only [List.eraseIdx_cons_succ]
    exact ((perm_eraseIdx h).cons x).trans (.swap _ _ _)
theorem Own.pick {w : World} {L' : List Chunk} (h : Own w0 K w L) (hp : Pick L L') : Own w0 K w L' := by
  have : ∃ F, L.Perm (L' ++ F) := by
    clear h
    induction hp with
    | nil => exact ⟨_, .refl _⟩
    | cons i h r ih =>
      rename_i M c L'
      obtain ⟨F, hF⟩ := ih
      refine ⟨F, ?_⟩
      have h1 : M.Perm (c :: M.eraseIdx i) := perm_eraseIdx h
      exact h1.trans (by simpa using hF.cons c)
  obtain ⟨F, hF⟩ := this
  exact (h.perm hF.symm).sub (List.sublist_append_left _ _)
theorem Pick.all (L : List Chunk) : Pick L L := by
  induction L with
  | nil => exact .nil
  | cons c L ih => exact .cons 0 rfl ih
theorem Fin.weak {Qa : Act → World → Prop} {E' : Env} {L' : List Chunk} (hE : Sub E E') (hL : Pick L L') (h : Fin w0 K n ds Qa E' L') : Fin w0 K n ds Qa E L :=
  fun a w ha hO => h a w (ha.mono hE.get) (hO.pick hL)
theorem DC.weak {c : Code} {E' : Env} {L' : List Chunk} (hE : Sub E E') (hL : Pick L L') (h : DC P w0 K n ds Q c E' L') : DC P w0 K n ds Q c E L :=
  fun a w ha hO => h a w (ha.mono hE.get) (hO.pick hL)
theorem Seq.weak {l : List Oper} {E' : Env} {L' : List Chunk} (hE : Sub E E') (hL : Pick L L') (h : Seq P ops w0 K n ds Q l E' L') : Seq P ops w0 K n ds Q l E L :=
  fun a w ha hO => h a w (ha.mono hE.get) (hO.pick hL)

/-! ### a loop: states by ghosts -/
def Again (w0 : World) (K : List Nat) (n : Nat) (ds : List Deferred) {ι : Type} (Inv : ι → Prop) (Es : ι → Env) (Ls : ι → List Chunk) (m : ι → Nat) (k : Nat) (a : Act) (w : World) : Prop :=
  ∃ j, m j < k ∧ Inv j ∧ Sat n ds (Es j) a ∧ Own w0 K w (Ls j)
theorem DC.loop {ι : Type} (Inv : ι → Prop) (Es : ι → Env) (Ls : ι → List Chunk) (m : ι → Nat) (i0 : ι) {c : Code} (h0 : Inv i0) (hE : Sub E (Es i0)) (hL : Pick L (Ls i0))
    (h : ∀ i, Inv i → DC P w0 K n ds (Exit.then (Again w0 K n ds Inv Es Ls m (m i)) Q) c (Es i) (Ls i)) : DC P w0 K n ds Q (.loop c) E L := by
  intro a w ha hO
  refine wp_loop_ghost (fun k a w => ∃ i, m i = k ∧ Inv i ∧ Sat n ds (Es i) a ∧ Own w0 K w (Ls i)) (m i0) ⟨i0, rfl, h0, ha.mono hE.get, hO.pick hL⟩ ?_
  rintro k a w ⟨i, rfl, hi, ha, hO⟩
  refine wp_mono (h i hi a w ha hO) ?_
  intro e a' w' hq
  cases e with
  | normal => obtain ⟨j, hlt, hj, hs, ho⟩ := hq; exact ⟨m j, hlt, j, rfl, hj, hs, ho⟩
  | exit id => exact hq
  | goto l => exact hq
  | ret => exact hq
  | panic ch => exact hq
  | outgrown => exact hq
theorem Fin.again {ι : Type} {Inv : ι → Prop} {Es : ι → Env} {Ls : ι → List Chunk} {m : ι → Nat} {k : Nat} (j : ι) (hlt : m j < k) (hj : Inv j) (hE : Sub E (Es j)) (hL : Pick L (Ls j)) :
    Fin w0 K n ds (Exit.then (Again w0 K n ds Inv Es Ls m k) Q .normal) E L :=
  fun a w ha hO => ⟨j, hlt, hj, ha.mono hE.get, hO.pick hL⟩

/-! ### calls -/
def Ret (w0 : World) (K : List Nat) (C : Value → List Chunk → Prop) (e : Ending) (w : World) : Prop := ∃ v L, e = .returned v ∧ C v L ∧ Own w0 K w L

def argEnv : Nat → List Value → Env
  | _, [] => []
  | k, v :: r => (k, v) :: argEnv (k + 1) r
theorem argEnv_get : ∀ (l : List Value) (k t : Nat) (v : Value), (argEnv k l).get t = some v → k ≤ t ∧ l[t - k]? = some v
  | [], _, _, _, h => by cases h
  | u :: r, k, t, v, h => by
    unfold argEnv at h
    rw [Env.get_cons] at h
    split at h
    · rename_i hk; cases h; subst hk; simp
    · rename_i hk
      obtain ⟨h1, h2⟩ := argEnv_get r (k + 1) t v h
      refine ⟨by omega, ?_⟩
      have : t - k = (t - (k + 1)) + 1 := by omega
      rw [this, List.getElem?_cons_succ]; exact h2

theorem calls_of {f : FuncId} {fn : Func} {c : Code} {args : List Value} {C : Value → List Chunk → Prop} {w : World} {K : List Nat} {L : List Chunk} (hf : P.funcs[f]? = some fn) (hb : fn.body = some c)
    (hn : fn.ntmps = n) (hle : Nat.ble args.length n = true) (hO : Own w K w L) (h : DC P w K n [] (bodyPost P fn (Ret w K C)) c (argEnv 0 args) L) : Calls P f args.toArray w (Ret w K C) := by
  refine calls_of_wp hf hb (h _ _ ⟨?_, rfl, fun t v hv ht => ?_⟩ hO)
  · have := Nat.le_of_ble_eq_true hle; simp [hn]; omega
  · obtain ⟨_, h2⟩ := argEnv_get args 0 t v hv
    simp only [Nat.sub_zero] at h2
    have hlt : t < args.length := (List.getElem?_eq_some_iff.1 h2).1
    simp [Array.getElem?_append, hlt]
    simpa [List.getElem?_eq_getElem hlt] using h2

theorem Fin.end1 {fn : Func} {t : Tmp} {C : Value → List Chunk → Prop} {e : Exit} (he : e = .ret ∨ e = .normal) (hr : fn.results = #[.tmp t]) (hv : ev n E (.tmp t) = some v) (hC : C v L) : Fin w0 K n [] (bodyPost P fn (Ret w0 K C) e) E L := by
  intro a w ha hO
  have h1 : a.defers = [] ∧ ∃ v, (results fn a.tmps).run P w = .ok v w ∧ Ret w0 K C (.returned v) w := by
    refine ⟨ha.defers, _, results_tmp hr _ _ _, _, L, rfl, ?_, hO⟩
    have := ha.ev hv
    simp only [Act.eval] at this
    rw [this]; exact hC
  rcases he with rfl | rfl <;> exact h1
theorem Fin.end0 {fn : Func} {C : Value → List Chunk → Prop} {e : Exit} (he : e = .ret ∨ e = .normal) (hr : fn.results = #[]) (hC : C (.tuple #[]) L) : Fin w0 K n [] (bodyPost P fn (Ret w0 K C) e) E L := by
  intro a w ha hO
  have h1 : a.defers = [] ∧ ∃ v, (results fn a.tmps).run P w = .ok v w ∧ Ret w0 K C (.returned v) w := ⟨ha.defers, _, results_none hr _ _ _, _, L, rfl, hC, hO⟩
  rcases he with rfl | rfl <;> exact h1
theorem Fin.end2 {fn : Func} {t u : Tmp} {v1 v2 : Value} {C : Value → List Chunk → Prop} {e : Exit} (he : e = .ret ∨ e = .normal) (hr : fn.results = #[.tmp t, .tmp u]) (hv1 : ev n E (.tmp t) = some v1)
    (hv2 : ev n E (.tmp u) = some v2) (hC : C (.tuple #[v1, v2]) L) : Fin w0 K n [] (bodyPost P fn (Ret w0 K C) e) E L := by
  intro a w ha hO
  have h1 : a.defers = [] ∧ ∃ v, (results fn a.tmps).run P w = .ok v w ∧ Ret w0 K C (.returned v) w := by
    refine ⟨ha.defers, _, results_tmp2 hr _ _ _, _, L, rfl, ?_, hO⟩
    have h1 := ha.ev hv1
    have h2 := ha.ev hv2
    simp only [Act.eval] at h1 h2
    rw [h1, h2]; exact hC
  rcases he with rfl | rfl <;> exact h1
end
end Go.Fl
