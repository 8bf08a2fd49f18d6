/- A range over a function: the loop's record as a piece of memory; the rules of a walk in a round; iterators. -/
import Derived.Test.YtbkhejfnhbjhpaaFlFo
import Derived.RangeFuncNested
import Derived.RangeFuncCalls
import Derived.RangeFuncLeaves
import Derived.OrdersIn
import Derived.TacticsIn
set_option linter.unusedVariables false
set_option linter.unusedSimpArgs false
namespace Go.Fl
open Go

abbrev FR (rd : Option Nat) : Fence := { Fence.wide with round := rd }

/-! ### pieces that are no cells -/
def lop (l : Nat) (r : Loop) : Chunk := ⟨[l], fun w => w.heap[l]? = some (.loop r), fun w w' h hh => (h l (List.mem_cons_self ..)).trans hh⟩
def dfr (g : Nat) : Chunk := ⟨[g], fun w => w.heap[g]? = some (.deferred (some [])), fun w w' h hh => (h g (List.mem_cons_self ..)).trans hh⟩
def shut (g : Nat) : Chunk := ⟨[g], fun w => w.heap[g]? = some (.deferred none), fun w w' h hh => (h g (List.mem_cons_self ..)).trans hh⟩

section
variable {w0 w w' : World} {K : List Nat} {L F : List Chunk}
theorem Own.allocObj (h : Own w0 K w L) (ob : Obj) (c : Chunk) (hi : c.ids = [w.heap.size]) (hh : c.holds (w.alloc ob)) : Own w0 K (w.alloc ob) (c :: L) := by
  refine h.add (L' := [c]) ⟨rfl, rfl, rfl, by simp, fun k hk _ => ?_, by simp [hi], fun g hg => ?_, fun g hg => ?_, fun d hd => ?_⟩
  · simp only [World.alloc, Array.getElem?_push]; rw [if_neg (by omega)]
  · simp [hi] at hg; subst hg; exact .inr (Nat.le_refl _)
  · simp [hi] at hg; subst hg; simp
  · simp at hd; subst hd; exact hh
theorem Own.putObj {c c' : Chunk} {g : Nat} (h : Own w0 K w (c :: L)) (ob : Obj) (hi : c.ids = [g]) (hi' : c'.ids = [g]) (hh : g < w.heap.size → c'.holds (w.putObj g ob)) : Own w0 K (w.putObj g ob) (c' :: L) := by
  have hlt : g < w.heap.size := h.lt g (by simp [hi])
  refine Own.frame (Lc := [c]) (K' := [g]) (L' := [c']) h ⟨rfl, rfl, rfl, by simp, fun k hk hn => ?_, by simp [hi'], fun x hx => ?_, fun x hx => ?_, fun d hd => ?_⟩ (fun k hk => by simp [hi] at hk ⊢; exact hk)
  · simp at hn; exact World.putObj_heap_other hn
  · simp [hi'] at hx; subst hx; exact .inl (by simp)
  · simp [hi'] at hx; subst hx; simpa using hlt
  · simp at hd; subst hd; exact hh hlt
theorem Own.loop_put {l : Nat} {r r' : Loop} (h : Own w0 K w (lop l r :: L)) : Own w0 K (w.putObj l (.loop r')) (lop l r' :: L) :=
  h.putObj _ rfl rfl fun hlt => World.putObj_heap_same hlt
end

/-! ### pieces named by their places -/
theorem Pick.of_perm : ∀ {L' M F : List Chunk}, M.Perm (L' ++ F) → Pick M L'
  | [], _, _, _ => .nil
  | c :: l, M, F, h => by
    have hm : c ∈ M := h.mem_iff.2 (by simp)
    obtain ⟨i, hi⟩ := List.getElem?_of_mem hm
    refine .cons i hi (Pick.of_perm (F := F) ?_)
    have h1 := (perm_eraseIdx hi).symm.trans h
    exact h1.cons_inv
inductive PickI (M : List Chunk) : List Nat → List Chunk → Prop
  | nil : PickI M [] []
  | cons {i : Nat} {is : List Nat} {c : Chunk} {L' : List Chunk} (h : M[i]? = some c) (r : PickI M is L') : PickI M (i :: is) (c :: L')
def nodupB : List Nat → Bool
  | [] => true
  | i :: r => !r.contains i && nodupB r
theorem nodupB_spec : ∀ {l : List Nat}, nodupB l = true → l.Nodup
  | [], _ => by simp
  | i :: r, h => by
    simp only [nodupB, Bool.and_eq_true, Bool.not_eq_true'] at h
    refine List.nodup_cons.2 ⟨fun hm => ?_, nodupB_spec h.2⟩
    have := List.contains_iff_mem.2 hm
    rw [this] at h; cases h.1
theorem Pick.idx {M L' : List Chunk} (is : List Nat) (hn : nodupB is = true) (h : PickI M is L') : Pick M L' := by
  have hnd := nodupB_spec hn
  have hlt : ∀ i, i ∈ is → i < M.length := by
    clear hn hnd
    induction h with
    | nil => intro i hi; cases hi
    | cons h r ih =>
      intro i hi
      rcases List.mem_cons.1 hi with rfl | hi
      · exact (List.getElem?_eq_some_iff.1 h).1
      · exact ih i hi
  have hmap : L' = is.map fun i => M.getD i ⟨[], fun _ => True, fun _ _ _ h => h⟩ := by
    clear hn hnd hlt
    induction h with
    | nil => rfl
    | cons h r ih => rw [List.map_cons, ← ih, List.getD_eq_getElem?_getD, h]; rfl
  have hp : (List.range M.length).Perm (is ++ (List.range M.length).filter fun i => !is.contains i) := by
    refine (List.perm_ext_iff_of_nodup List.nodup_range ?_).2 fun a => ?_
    · rw [List.nodup_append]
      refine ⟨hnd, List.Pairwise.filter _ List.nodup_range, fun a ha b hb e => ?_⟩
      subst e
      have := (List.mem_filter.1 hb).2
      rw [List.contains_iff_mem.2 ha] at this; cases this
    · rw [List.mem_append, List.mem_filter, List.mem_range]
      constructor
      · intro h
        by_cases hm : a ∈ is
        · exact .inl hm
        · exact .inr ⟨h, by simp [hm]⟩
      · rintro (h | h)
        · exact hlt a h
        · exact h.1
  have hM : M = (List.range M.length).map fun i => M.getD i ⟨[], fun _ => True, fun _ _ _ h => h⟩ := by
    apply List.ext_getElem (by simp)
    intro i h1 h2
    simp [h1]
  refine Pick.of_perm (F := ((List.range M.length).filter fun i => !is.contains i).map fun i => M.getD i ⟨[], fun _ => True, fun _ _ _ h => h⟩) ?_
  rw [hmap, ← List.map_append]
  have := hp.map fun i => M.getD i ⟨[], fun _ => True, fun _ _ _ h => h⟩
  rw [← hM] at this
  exact this

/-! ### operations in a round go as everywhere -/
def noDef (l : List Oper) : Bool := l.all fun o => match o.op with | .defer _ => false | _ => true
theorem noDef_spec {l : List Oper} (h : noDef l = true) : ∀ o, o ∈ l → ∀ c, o.op ≠ .defer c := by
  intro o ho c hc
  have := List.all_eq_true.1 h o ho
  rw [hc] at this
  cases this
def NL (Q : Exit → Act → World → Prop) : Prop := ∀ a w, ¬ Q .outgrown a w

section
variable {P : Program} {ops : Array Oper} {Q : Exit → Act → World → Prop} {rd : Option Nat} {m : Nat}
theorem calls_any {f : FuncId} {args : Array Value} {w : World} {R : Ending → World → Prop} (h : Calls P f args w R) : CallsIn (FR rd) m P f args w R := callsIn_wide.2 h
theorem calls_wide {f : FuncId} {args : Array Value} {w : World} {R : Ending → World → Prop} (h : CallsIn (FR rd) m P f args w R) : Calls P f args w R := callsIn_wide.1 h
theorem rows_any {row : String} {args : Array Value} {w : World} {R : Value → World → Prop} (h : Rows P row args w R) : RowsIn (FR rd) m P row args w R :=
  fun c cs _ => let ⟨v, w', r, s⟩ := h c cs; ⟨v, w', r, stepsIn_wide.2 s⟩
theorem upon_in {o : Oper} {a : Act} {next next' : Act → World → Prop} {r : Result Next} (hn : ∀ a w, next a w → next' a w) (h : o.upon P a next Q r) : o.uponIn (FR rd) m P a next' Q r := by
  cases r with
  | ok x w' =>
    cases x <;> simp only [Oper.upon, Oper.uponIn] at h ⊢ <;>
      first
        | exact hn _ _ h
        | exact ⟨fun h => by simp [Fence.wide] at h, calls_any (Calls.mono h (fun e w'' he => by cases e <;> first | exact hn _ _ he | exact he))⟩
        | exact ⟨fun h => by simp [Fence.wide] at h, rows_any (Rows.mono h (fun _ _ he => hn _ _ he))⟩
        | exact h.elim
  | halt x w' => cases x <;> simp only [Oper.upon, Oper.uponIn] at h ⊢ <;> exact h
theorem semAt_in {o : Oper} (hd : ∀ c, o.op ≠ .defer c) (a : Act) : o.semAt rd a.eval = execOp a.eval o := by
  cases rd with
  | none => simp [Oper.semAt]
  | some l => exact Oper.semAt_some l _ _ hd
theorem op_in {o : Oper} {a : Act} {w : World} {next next' : Act → World → Prop} (hd : ∀ c, o.op ≠ .defer c) (hq : NL Q) (hn : ∀ a w, next a w → next' a w) (h : o.wp P a w next Q ∨ (o.asks P a w ∧ LetsOut Q)) : o.wpIn (FR rd) m P a w next' Q := by
  refine ⟨fun _ _ => trivial, ?_⟩
  rcases h with h | ⟨_, a, w, h⟩
  · show o.uponIn (FR rd) m P a next' Q ((o.semAt rd a.eval).run P w)
    rw [semAt_in hd]
    exact upon_in hn h
  · exact absurd h (hq a w)
theorem wpList_in {l : List Oper} (hd : ∀ o, o ∈ l → ∀ c, o.op ≠ .defer c) (hq : NL Q) : ∀ a w, wpList P ops Q l a w → wpListIn (FR rd) m P ops Q l a w := by
  induction l with
  | nil => intro a w h; exact h
  | cons o l ih =>
    intro a w h
    have ih' := ih fun o ho => hd o (List.mem_cons_of_mem _ ho)
    unfold wpList at h
    unfold wpListIn
    split
    · rename_i hw; rw [if_pos hw] at h
      exact op_in (hd o (List.mem_cons_self ..)) hq ih' h
    · rename_i hw; rw [if_neg hw] at h
      exact ⟨fun _ _ => trivial, ih' _ _ h⟩
theorem wpAny_in (hd : ∀ o, o ∈ ops.toList → ∀ c, o.op ≠ .defer c) (hq : NL Q) : ∀ (fuel : Nat) (listed : Array Bool) (a : Act) (w : World), wpAny P .any ops Q fuel listed a w → wpAnyIn (FR rd) m P .any ops Q fuel listed a w := by
  intro fuel
  induction fuel with
  | zero => intro listed a w h; exact h
  | succ k ih =>
    intro listed a w h
    refine ⟨h.1, fun i hi => ?_⟩
    have h2 := h.2 i hi
    unfold wpOp at h2
    unfold wpOpIn
    split
    · rename_i ho; rw [ho] at h2; exact ih _ _ _ h2
    · rename_i o ho
      rw [ho] at h2
      simp only at h2
      have hm : o ∈ ops.toList := by
        have := List.mem_of_getElem? (l := ops.toList) (i := i) (a := o) (by simpa using ho)
        exact this
      split
      · rename_i hw; rw [if_pos hw] at h2
        exact op_in (hd o hm) hq (ih _) h2
      · rename_i hw; rw [if_neg hw] at h2
        exact ⟨fun _ _ => trivial, ih _ _ _ h2⟩
end

/-! ### statements in a round -/
def DR (rd : Option Nat) (P : Program) (w0 : World) (K : List Nat) (n : Nat) (ds : List Deferred) (Q : Exit → Act → World → Prop) (c : Code) (E : Env) (L : List Chunk) : Prop :=
  ∀ a w, Sat n ds E a → Own w0 K w L → c.wpIn (FR rd) 0 P Q a w

section
variable {P : Program} {ops : Array Oper} {w0 : World} {K : List Nat} {n : Nat} {ds : List Deferred} {E : Env} {L : List Chunk} {Q : Exit → Act → World → Prop} {rd : Option Nat}
theorem DC.round {c : Code} (h : DR none P w0 K n ds Q c E L) : DC P w0 K n ds Q c E L := fun a w ha hL => wpIn_wide.1 (h a w ha hL)
theorem DR.plain {c : Code} (h : DC P w0 K n ds Q c E L) : DR none P w0 K n ds Q c E L := fun a w ha hL => wpIn_wide.2 (h a w ha hL)
theorem DR.seq {x y : Code} (h : DR rd P w0 K n ds (Exit.then (y.wpIn (FR rd) 0 P Q) Q) x E L) : DR rd P w0 K n ds Q (.seq x y) E L := fun a w ha hL => wpIn_seq (h a w ha hL)
theorem Fin.thenR {y : Code} (h : DR rd P w0 K n ds Q y E L) : Fin w0 K n ds (Exit.then (y.wpIn (FR rd) 0 P Q) Q .normal) E L := h
theorem DR.region {l : List Oper} {id : Nat} (hd : noDef l = true) (hq : NL Q) (h : Seq P l.toArray w0 K n ds Q l E L) : DR rd P w0 K n ds Q (.region id l.toArray false) E L :=
  fun a w ha hL => wpIn_region_lit (wpList_in (noDef_spec hd) hq a w (h a w ha hL))
theorem DR.flow {id : Nat} {order : List Nat} {cl : List Cls} {A : List Nat} (Lf : List Chunk) (hm : P.follows .mixedOrders = true) (hchk : flowChk ops cl A order = true) (hd : noDef ops.toList = true) (hq : NL Q) (hLf : ∀ w, Own w0 K w L → Own w0 K w Lf)
    (h : Flow P ops w0 K n ds Lf cl A (Q .normal) order E L []) : DR rd P w0 K n ds Q (.region id ops true) E L := by
  intro a w ha hw
  obtain ⟨h1, h2, h3, h4, h5⟩ := flowChk_spec hchk
  have hlt : ∀ x, x ∈ order → x < ops.size := fun x hx => by
    have := h3 x hx
    unfold needsOk at this
    split at this
    · rename_i o ho; exact (Array.getElem?_eq_some_iff.1 ho).1
    · cases this
  refine wpIn_region_any hm (wpAny_in (noDef_spec hd) hq _ _ _ _ ?_)
  have hlen := length_of_all (pairsOk_nodup h4) (fun j => ⟨hlt j, h2 j⟩)
  refine flow_any h1 h5 ops.size order (Array.replicate ops.size false) E L [] hlen h (by simp) (fun j => ⟨fun hj => ⟨hlt j hj, by simp [hlt j hj]⟩, fun hj => h2 j hj.1⟩) h4 h3 ?_ a _ ha (by simpa using hw.drew) ((hLf w hw).drew)
  intro z i hz hi hl
  simp [hz] at hl
theorem DR.ret (h : Fin w0 K n ds (Q .ret) E L) : DR rd P w0 K n ds Q .ret E L := fun a w ha hL => wpIn_ret (h a w ha hL)
theorem DR.exit {id : Nat} (h : Fin w0 K n ds (Q (.exit id)) E L) : DR rd P w0 K n ds Q (.exit id) E L := fun a w ha hL => wpIn_exit (h a w ha hL)
theorem DR.skip (h : Fin w0 K n ds (Q .normal) E L) : DR rd P w0 K n ds Q .skip E L := fun a w ha hL => wpIn_skip (h a w ha hL)
theorem DR.block {id : Nat} {c : Code} (h : DR rd P w0 K n ds (Exit.inBlock id Q) c E L) : DR rd P w0 K n ds Q (.block id c) E L := fun a w ha hL => wpIn_block (h a w ha hL)
theorem DR.cond {c : Operand} {x y : Code} {b : Bool} (hc : ev n E c = some (.bool b)) (h1 : b = true → DR rd P w0 K n ds Q x E L) (h2 : b = false → DR rd P w0 K n ds Q y E L) :
    DR rd P w0 K n ds Q (.cond c x y) E L := fun a w ha hL => wpIn_cond_split (ha.ev hc) (fun h => h1 h a w ha hL) (fun h => h2 h a w ha hL)
theorem DR.cond_t {c : Operand} {xc yc : Code} (hc : ev n E c = some (.bool true)) (h : DR rd P w0 K n ds Q xc E L) : DR rd P w0 K n ds Q (.cond c xc yc) E L := DR.cond hc (fun _ => h) (fun e => by cases e)
theorem DR.cond_f {c : Operand} {xc yc : Code} (hc : ev n E c = some (.bool false)) (h : DR rd P w0 K n ds Q yc E L) : DR rd P w0 K n ds Q (.cond c xc yc) E L := DR.cond hc (fun e => by cases e) (fun _ => h)
theorem DR.weak {c : Code} {E' : Env} {L' : List Chunk} (hE : Sub E E') (hL : Pick L L') (h : DR rd P w0 K n ds Q c E' L') : DR rd P w0 K n ds Q c E L :=
  fun a w ha hO => h a w (ha.mono hE.get) (hO.pick hL)

/-! ### operations of a region that calls yield -/
def SeqR (rd : Option Nat) (P : Program) (ops : Array Oper) (w0 : World) (K : List Nat) (n : Nat) (ds : List Deferred) (Q : Exit → Act → World → Prop) (l : List Oper) (E : Env) (L : List Chunk) : Prop :=
  ∀ a w, Sat n ds E a → Own w0 K w L → wpListIn (FR rd) 0 P ops Q l a w
theorem DR.regionR {l : List Oper} {id : Nat} (h : SeqR rd P l.toArray w0 K n ds Q l E L) : DR rd P w0 K n ds Q (.region id l.toArray false) E L := fun a w ha hL => wpIn_region_lit (h a w ha hL)
theorem DC.regionR {l : List Oper} {id : Nat} (h : SeqR none P l.toArray w0 K n ds Q l E L) : DC P w0 K n ds Q (.region id l.toArray false) E L := DC.round (DR.regionR h)
variable {o : Oper} {r : List Oper} {v : Value} {d : Nat}
theorem SeqR.nil (h : Fin w0 K n ds (Q .normal) E L) : SeqR rd P ops w0 K n ds Q [] E L := h
theorem SeqR.pur (hd : o.dst = some d) (hw : want n E ops o = some true) (hdf : noDef [o] = true) (hv : Pur P n ds E o v) (h : SeqR rd P ops w0 K n ds Q r ((d, v) :: E) L) : SeqR rd P ops w0 K n ds Q (o :: r) E L := by
  intro a w ha hL
  unfold wpListIn
  rw [if_pos (want_spec hw ha)]
  refine ⟨fun _ _ => trivial, ?_⟩
  show o.uponIn (FR rd) 0 P a _ Q ((o.semAt rd a.eval).run P w)
  rw [semAt_in (noDef_spec hdf o (by simp)), hv a w ha, Oper.uponIn_value, hd]
  exact h _ _ (ha.put (some d) v) hL
/-- The call of yield. -/
theorem SeqR.yield {x y : Operand} {ts : Array Nat} {l : Nat} {u : Value} {ι : Type} {Inv : ι → Prop} {Ls : ι → List Chunk} {κ : Type} {Inx : κ → Prop} {Lx : κ → List Chunk} (hd : o.dst = some d) (hw : want n E ops o = some true) (ho : o.op = .call ⟨.value x, #[y], ts⟩)
    (hx : ev n E x = some (.func (.yield l) #[] #[])) (hy : ev n E y = some u)
    (hY : ∀ w, Own w0 K w L → YieldAt Fence.wide 0 P l #[u] w fun e w' => (e = .returned (.bool true) ∧ ∃ j, Inv j ∧ Own w0 K w' (Ls j)) ∨ (e = .returned (.bool false) ∧ ∃ j, Inx j ∧ Own w0 K w' (Lx j)))
    (h1 : ∀ j, Inv j → SeqR rd P ops w0 K n ds Q r ((d, .bool true) :: E) (Ls j)) (h2 : ∀ j, Inx j → SeqR rd P ops w0 K n ds Q r ((d, .bool false) :: E) (Lx j)) : SeqR rd P ops w0 K n ds Q (o :: r) E L := by
  intro a w ha hL
  unfold wpListIn
  rw [if_pos (want_spec hw ha)]
  refine ⟨fun _ _ => trivial, ?_⟩
  show o.uponIn (FR rd) 0 P a _ Q ((o.semAt rd a.eval).run P w)
  rw [semAt_in (fun c hc => by rw [ho] at hc; cases hc)]
  obtain ⟨fn, tmps, assign, body, hy1, hR⟩ := hY w hL
  have hrun : (execOp a.eval o).run P w = .ok (.round l fn tmps assign body) w := by
    simp only [execOp, ho, resolve, ha.ev hx]
    simp [Deferred.ofValue, invoke, ha.ev hy, hy1]
  rw [hrun, Oper.uponIn_round]
  refine ⟨fun h => by simp [Fence.wide] at h, ?_⟩
  have hR' : RoundIn (FR rd) (0 - 1) P l fn tmps assign body w fun e w' => (e = .returned (.bool true) ∧ ∃ j, Inv j ∧ Own w0 K w' (Ls j)) ∨ (e = .returned (.bool false) ∧ ∃ j, Inx j ∧ Own w0 K w' (Lx j)) := hR
  refine hR'.mono ?_
  rintro e w' (⟨rfl, j, hj, hO⟩ | ⟨rfl, j, hj, hO⟩)
  · rw [hd]; exact h1 j hj _ _ (ha.put (some d) _) hO
  · rw [hd]; exact h2 j hj _ _ (ha.put (some d) _) hO
end

section
variable {P : Program} {ops : Array Oper} {w0 : World} {K : List Nat} {n : Nat} {ds : List Deferred} {E : Env} {L : List Chunk} {Q : Exit → Act → World → Prop} {rd : Option Nat} {o : Oper} {r : List Oper} {d : Nat}
theorem SeqR.yield1 {x y : Operand} {ts : Array Nat} {l : Nat} {u : Value} {ι : Type} {Inv : ι → Prop} {Ls : ι → List Chunk} {κ : Type} {Inx : κ → Prop} {Lx : κ → List Chunk} (hd : o.dst = some d) (hw : want n E ops o = some true) (ho : o.op = .call ⟨.value x, #[y], ts⟩)
    (hx : ev n E x = some (.func (.yield l) #[] #[])) (hy : ev n E y = some u)
    (hY : ∀ w, Own w0 K w L → YieldAt Fence.wide 0 P l #[u] w fun e w' => (e = .returned (.bool true) ∧ ∃ j, Inv j ∧ Own w0 K w' (Ls j)) ∨ (e = .returned (.bool false) ∧ ∃ j, Inx j ∧ Own w0 K w' (Lx j)))
    (h : ∀ s : ι ⊕ κ, Sum.elim Inv Inx s → SeqR rd P ops w0 K n ds Q r ((d, .bool s.isLeft) :: E) (Sum.elim Ls Lx s)) : SeqR rd P ops w0 K n ds Q (o :: r) E L :=
  SeqR.yield hd hw ho hx hy hY (fun j hj => h (.inl j) hj) (fun j hj => h (.inr j) hj)
theorem Fin.end0W {fn : Func} {R : Ending → World → Prop} {e : Exit} (he : e = .ret ∨ e = .normal) (hr : fn.results = #[]) (h : ∀ w, Own w0 K w L → R (.returned (.tuple #[])) w) : Fin w0 K n [] (bodyPost P fn R e) E L := by
  intro a w ha hO
  have h1 : a.defers = [] ∧ ∃ v, (results fn a.tmps).run P w = .ok v w ∧ R (.returned v) w := ⟨ha.defers, _, results_none hr _ _ _, h w hO⟩
  rcases he with rfl | rfl <;> exact h1
end

section
variable {P : Program} {w0 : World} {K : List Nat} {n : Nat} {ds : List Deferred} {E : Env} {L F : List Chunk} {o : Oper}
theorem Gen.shapeL {t m : Nat} {vs : List Value} (h : Gen P w0 K n ds E L o (fun v' M => M = slc v' t m vs :: F)) : Gen P w0 K n ds E L o (fun v' M => (∃ A l c, v' = .slice A l c ∧ vs.length = l * m) ∧ M = slc v' t m vs :: F) := by
  intro a w ha hw
  refine (h a w ha hw).mono ?_
  rintro v w' ⟨L', rfl, hO⟩
  obtain ⟨A, len, cap, e, h1, _⟩ := rd_own hO
  exact ⟨_, ⟨⟨A, len, cap, e, h1⟩, rfl⟩, hO⟩
end

/-! ### an iterator -/
/-- Called with a yield, it hands over xs, one after the other, until a round says no more; Rdy: what it reads. -/
def Iter (P : Program) (gf : FuncId) (lb : Array Value) (xs : List Value) (Rdy : World → Prop) : Prop :=
  ∀ (l : Nat) (w0 : World) (K : List Nat) (ι : Type) (Inv : Nat → ι → Prop) (Ls : ι → List Chunk) (κ : Type) (Inx : κ → Prop) (Lx : κ → List Chunk),
    (∀ k j w, Inv k j → Own w0 K w (Ls j) → Rdy w) →
    (∀ k j w x, xs[k]? = some x → Inv k j → Own w0 K w (Ls j) → YieldAt Fence.wide 0 P l #[x] w fun e w' =>
      (e = .returned (.bool true) ∧ ∃ j', Inv (k + 1) j' ∧ Own w0 K w' (Ls j')) ∨ (e = .returned (.bool false) ∧ ∃ j', Inx j' ∧ Own w0 K w' (Lx j'))) →
    ∀ j w, Inv 0 j → Own w0 K w (Ls j) → Calls P gf (#[.func (.yield l) #[] #[]] ++ lb) w fun e w' =>
      (∃ v, e = .returned v) ∧ ((∃ j', Inv xs.length j' ∧ Own w0 K w' (Ls j')) ∨ (∃ j', Inx j' ∧ Own w0 K w' (Lx j')))

/-! ### the statement -/
def jmp : Option Nat → Code
  | none => .ret
  | some id => .exit id
def jex : Option Nat → Exit
  | none => .ret
  | some id => .exit id
/-- How a round may end. -/
def roundQ (w0 : World) (K : List Nat) (l : Nat) (r : Loop) (Mk : List Chunk) {ι κ : Type} (Inv : ι → Prop) (Ls : ι → List Chunk) (Inx : Option Nat → κ → Prop) (Lx : κ → List Chunk) : Exit → Act → World → Prop
  | .normal, _, w => ∃ j, Inv j ∧ Own w0 K w (lop l r :: (Mk ++ Ls j))
  | .ret, _, w => ∃ j, Inx none j ∧ Own w0 K w (lop l r :: (Mk ++ Lx j))
  | .exit id, _, w => ∃ j, Inx (some id) j ∧ Own w0 K w (lop l r :: (Mk ++ Lx j))
  | _, _, _ => False
/-- Behind the assignment to the loop's left side. -/
def asgK (P : Program) (w0 : World) (K : List Nat) (n : Nat) (l : Nat) (r r' : Loop) (Q : Exit → Act → World → Prop) (body : Code) (a : Act) (w : World) : Prop :=
  ∃ E' L', Sat n [] E' a ∧ Own w0 K w (lop l r :: L') ∧ DR (some l) P w0 K n [] Q body E' (lop l r' :: L')
def noQ : Exit → Act → World → Prop := fun _ _ _ => False
section
variable {P : Program} {w0 : World} {K : List Nat} {n : Nat} {ds : List Deferred} {E : Env} {L : List Chunk} {Q : Exit → Act → World → Prop} {rd : Option Nat} {ι κ : Type} {l : Nat} {r r' : Loop} {Mk : List Chunk}
theorem Fin.asg {body : Code} {E' : Env} {L' : List Chunk} (hE : Sub E E') (hL : Pick L (lop l r :: L')) (h : DR (some l) P w0 K n [] Q body E' (lop l r' :: L')) : Fin w0 K n [] (Exit.then (asgK P w0 K n l r r' Q body) noQ .normal) E L :=
  fun a w ha hO => ⟨E', L', ha.mono hE.get, hO.pick hL, h⟩
theorem Fin.asg0 {body : Code} {L' : List Chunk} (h : DR (some l) P w0 K n [] Q body E (lop l r' :: L')) : Fin w0 K n [] (Exit.then (asgK P w0 K n l r r' Q body) noQ .normal) E (lop l r :: L') :=
  fun a w ha hO => ⟨E, L', ha, hO, h⟩
theorem Fin.round {Inv : ι → Prop} {Ls : ι → List Chunk} {Inx : Option Nat → κ → Prop} {Lx : κ → List Chunk} (j : ι) (hj : Inv j) (hL : Pick L (lop l r :: (Mk ++ Ls j))) : Fin w0 K n ds (roundQ w0 K l r Mk Inv Ls Inx Lx .normal) E L :=
  fun a w ha hO => ⟨j, hj, hO.pick hL⟩
theorem Fin.roundRet {Inv : ι → Prop} {Ls : ι → List Chunk} {Inx : Option Nat → κ → Prop} {Lx : κ → List Chunk} (j : κ) (hj : Inx none j) (hL : Pick L (lop l r :: (Mk ++ Lx j))) : Fin w0 K n ds (roundQ w0 K l r Mk Inv Ls Inx Lx .ret) E L :=
  fun a w ha hO => ⟨j, hj, hO.pick hL⟩
theorem Fin.roundExit {Inv : ι → Prop} {Ls : ι → List Chunk} {Inx : Option Nat → κ → Prop} {Lx : κ → List Chunk} {id : Nat} (j : κ) (hj : Inx (some id) j) (hL : Pick L (lop l r :: (Mk ++ Lx j))) : Fin w0 K n ds (roundQ w0 K l r Mk Inv Ls Inx Lx (.exit id)) E L :=
  fun a w ha hO => ⟨j, hj, hO.pick hL⟩

def mark (D : Nat) : Deferred := { target := .collected D, args := #[] }

theorem run_iter {gf : FuncId} {g : Operand} {lb : Array Value} {a : Act} {w : World} (hent : Ent P gf) (hg : a.eval g = .func (.func gf) #[] lb) (l : Nat) :
    (resolve a.eval (rangeCall g l) 0).run P w = .ok { target := .fn (.func gf) lb, args := #[.func (.yield l) #[] #[]] } w ∧
    (invoke (.fn (.func gf) lb) #[.func (.yield l) #[] #[]]).run P w = .ok (.enter gf (#[.func (.yield l) #[] #[]] ++ lb)) w := by
  obtain ⟨fn, h1, h2, h3⟩ := hent.go
  have h4 : ¬ fn.name = "runtime.NumGoroutine" := by simpa using h2
  have h5 : ¬ fn.body = none := fun e => by rw [e] at h3; cases h3
  constructor
  · simp only [resolve, hg]
    simp [go_sem]
  · simp [invoke, callFunc, h1, h4, h5]

/-- One round, as the iterator sees it. -/
theorem round_yield {body assign : Code} {t : Tmp} {x : Value} {fnn : FuncId} {a : Act} (hr : r = { state := .ready, pending := none, fn := fnn, tmps := a.tmps, params := #[t], assign, body, defers := r.defers })
    {Inv : Nat → ι → Prop} {Ls : ι → List Chunk} {Inx : Option Nat → κ → Prop} {Lx : κ → List Chunk} {k : Nat} {j : ι} (ha : Sat n ds E a) (hinv : Inv k j)
    (hbody : DR (some l) P w0 K n [] (Exit.then (asgK P w0 K n l r { r with state := .busy } (roundQ w0 K l { r with state := .busy } Mk (Inv (k + 1)) Ls Inx Lx) body) noQ) assign ((t, x) :: E) (lop l r :: (Mk ++ Ls j)))
    {w : World} (hO : Own w0 K w (lop l r :: (Mk ++ Ls j))) :
    YieldAt Fence.wide 0 P l #[x] w fun e w' =>
      (e = .returned (.bool true) ∧ ∃ j', Inv (k + 1) j' ∧ Own w0 K w' (lop l r :: (Mk ++ Ls j'))) ∨
      (e = .returned (.bool false) ∧ ∃ p : Option Nat × κ, Inx p.1 p.2 ∧ Own w0 K w' (lop l { r with state := .done, pending := some (jmp p.1) } :: (Mk ++ Lx p.2))) := by
  have hl : w.heap[l]? = some (.loop r) := hO.holds _ (List.mem_cons_self ..)
  have hps : r.params = #[t] := by rw [hr]
  have hfn : r.fn = fnn := by rw [hr]
  have has : r.assign = assign := by rw [hr]
  have hbd : r.body = body := by rw [hr]
  have htm : r.tmps = a.tmps := by rw [hr]
  have hst : r.state = .ready := by rw [hr]
  have hpe : r.pending = none := by rw [hr]
  have hy := run_yield (P := P) (args := #[x]) hl (by rw [hps]; rfl)
  rw [hps, hfn, has, hbd, htm] at hy
  refine ⟨fnn, _, assign, body, hy, roundIn_of_wpIn (F := Fence.wide) trivial ?_⟩
  have hsat : Sat n [] ((t, x) :: E) { tmps := ((#[t] : Array Tmp).zip #[x]).foldl (fun tmps (p : Tmp × Value) => tmps.setIfInBounds p.1 p.2) a.tmps, defers := [] } := by
    have h0 : Sat n [] E { tmps := a.tmps, defers := [] } := ⟨ha.size, rfl, ha.has⟩
    have := h0.put (some t) x
    simpa [Act.put, Env.put] using this
  refine wpIn_mono (hbody _ w hsat hO) ?_
  intro e a1 w1 hq
  cases e with
  | normal =>
    obtain ⟨E', L', hs', hO', hD⟩ := hq
    have hl1 : w1.heap[l]? = some (.loop r) := hO'.holds _ (List.mem_cons_self ..)
    refine ⟨_, run_beginRound hl1 hst, ?_⟩
    have hO2 : Own w0 K (w1.putObj l (.loop { r with state := .busy })) (lop l { r with state := .busy } :: L') := hO'.loop_put
    refine wpIn_mono (hD a1 _ hs' hO2) ?_
    have fin : ∀ (jump : Option Code) (w3 : World) (M : List Chunk), Own w0 K w3 (lop l { r with state := .busy } :: M) →
        (Instr.endRound l jump).run P w3 = .ok (.bool jump.isNone) (w3.putObj l (.loop { r with state := if jump.isNone then .ready else .done, pending := jump })) ∧
        Own w0 K (w3.putObj l (.loop { r with state := if jump.isNone then .ready else .done, pending := jump })) (lop l { r with state := if jump.isNone then .ready else .done, pending := jump } :: M) := fun jump w3 M h3 =>
      ⟨run_endRound (r := { r with state := .busy }) jump (h3.holds _ (List.mem_cons_self ..)), h3.loop_put⟩
    intro e a3 w3 hp
    cases e with
    | normal =>
      obtain ⟨j', hj', h3⟩ := hp
      obtain ⟨f1, f2⟩ := fin none w3 _ h3
      refine ⟨_, _, f1, .inl ⟨rfl, j', hj', ?_⟩⟩
      have e : ({ r with state := if (none : Option Code).isNone then .ready else .done, pending := none } : Loop) = r := by
        rw [hr]; rfl
      rw [e] at f2 ⊢
      exact f2
    | ret =>
      obtain ⟨j', hj', h3⟩ := hp
      obtain ⟨f1, f2⟩ := fin (some .ret) w3 _ h3
      exact ⟨_, _, f1, .inr ⟨rfl, (none, j'), hj', f2⟩⟩
    | exit id =>
      obtain ⟨j', hj', h3⟩ := hp
      obtain ⟨f1, f2⟩ := fin (some (.exit id)) w3 _ h3
      exact ⟨_, _, f1, .inr ⟨rfl, (some id, j'), hj', f2⟩⟩
    | goto t => exact hp.elim
    | panic ch => exact hp.elim
    | outgrown => exact hp.elim
  | exit id => exact hq.elim
  | goto t => exact hq.elim
  | ret => exact hq.elim
  | panic ch => exact hq.elim
  | outgrown => exact hq.elim

theorem own_tail {w : World} {c : Chunk} (h : Own w0 K w (c :: L)) : Own w0 K w L := h.sub (List.sublist_cons_self ..)
theorem own_right {w : World} {M : List Chunk} (h : Own w0 K w (M ++ L)) : Own w0 K w L := h.sub (List.sublist_append_right ..)

/-- An outermost loop. -/
theorem DC.range {g : Operand} {t : Tmp} {assign body : Code} {gf : FuncId} {lb : Array Value} {xs : List Value} {Rdy : World → Prop} (Inv : Nat → ι → Prop) (Ls : ι → List Chunk) (Inx : Option Nat → κ → Prop) (Lx : κ → List Chunk) (j0 : ι)
    (hg : ev n E g = some (.func (.func gf) #[] lb)) (hent : Ent P gf) (hit : Iter P gf lb xs Rdy) (hrdy : ∀ k j w, Inv k j → Own w0 K w (Ls j) → Rdy w) (h0 : Inv 0 j0) (hL : Pick L (Ls j0))
    (hbody : ∀ l r r' D k j x, xs[k]? = some x → Inv k j → DR (some l) P w0 K n [] (Exit.then (asgK P w0 K n l r r' (roundQ w0 K l r' [dfr D] (Inv (k + 1)) Ls Inx Lx) body) noQ) assign ((t, x) :: E) (lop l r :: ([dfr D] ++ Ls j)))
    (hdone : ∀ D j, Inv xs.length j → Fin w0 K n (mark D :: ds) (Q .normal) E (dfr D :: Ls j))
    (hstop : ∀ D c j, Inx c j → Fin w0 K n (mark D :: ds) (Q (jex c)) E (dfr D :: Lx j)) : DC P w0 K n ds Q (.rangeFunc g #[t] assign body) E L := by
  refine DC.round fun a w ha hO => ?_
  refine wpIn_rangeFunc ?_
  intro fnn _
  obtain ⟨rec, hrec⟩ : ∃ rec : Loop, rec = { state := .ready, pending := none, fn := fnn, tmps := a.tmps, params := #[t], assign, body, defers := w.heap.size } := ⟨_, rfl⟩
  have hent' := run_enterLoop_outer (P := P) (w := w) fnn a.tmps #[t] assign body
  rw [← hrec] at hent'
  obtain ⟨h1, h2⟩ := run_iter (P := P) (w := (w.alloc (.deferred (some []))).alloc (.loop rec)) hent (ha.ev hg) (w.heap.size + 1)
  refine ⟨w.heap.size + 1, [mark w.heap.size], _, _, _, gf, _, _, hent', h1, fun _ _ => trivial, h2, fun h => by simp [Fence.wide] at h, ?_⟩
  have hO1 : Own w0 K ((w.alloc (.deferred (some []))).alloc (.loop rec)) (lop (w.heap.size + 1) rec :: ([dfr w.heap.size] ++ Ls j0)) := by
    have o1 : Own w0 K (w.alloc (.deferred (some []))) (dfr w.heap.size :: Ls j0) := (hO.pick hL).allocObj _ _ rfl (World.alloc_heap_new w _)
    have o2 := o1.allocObj (.loop rec) (lop (w.heap.size + 1) rec) (by simp [lop]) (by
      have := World.alloc_heap_new (w.alloc (.deferred (some []))) (.loop rec)
      rwa [World.size_alloc] at this)
    exact o2
  refine (calls_any (Calls.mono (hit (w.heap.size + 1) w0 K ι Inv (fun j => lop (w.heap.size + 1) rec :: ([dfr w.heap.size] ++ Ls j)) (Option Nat × κ) (fun p => Inx p.1 p.2)
    (fun p => lop (w.heap.size + 1) { rec with state := .done, pending := some (jmp p.1) } :: ([dfr w.heap.size] ++ Lx p.2)) (fun k j w' hj ho => hrdy k j w' hj (own_right (own_tail ho))) ?_ j0 _ h0 hO1) ?_))
  · intro k j w' x hx hj ho
    exact round_yield (by subst hrec; rfl) ha hj (hbody _ _ _ _ k j x hx hj) ho
  · rintro e w' ⟨⟨v, rfl⟩, (⟨j, hj, ho⟩ | ⟨⟨c, j⟩, hj, ho⟩)⟩
    · refine ⟨none, _, by have := run_endLoop (P := P) (r := rec) (ho.holds _ (List.mem_cons_self ..)) (by rw [hrec]; simp); rw [show rec.pending = none by rw [hrec]] at this; exact this, ?_⟩
      exact hdone _ j hj _ _ ⟨ha.size, by simp [ha.defers], ha.has⟩ (own_tail (ho.loop_put (r' := { rec with state := .exhausted, pending := none })))
    · refine ⟨some (jmp c), _, run_endLoop (P := P) (r := { rec with state := .done, pending := some (jmp c) }) (ho.holds _ (List.mem_cons_self ..)) (by simp), ?_⟩
      have hf := hstop w.heap.size c j hj { a with defers := [mark w.heap.size] ++ a.defers } _ ⟨ha.size, by simp [ha.defers], ha.has⟩ (own_tail (ho.loop_put (r' := { { rec with state := .done, pending := some (jmp c) } with state := .exhausted })))
      cases c with
      | none => exact wpIn_ret hf
      | some id => exact wpIn_exit hf

/-- A loop in a round of another. -/
theorem DR.range {l₀ : Nat} {g : Operand} {t : Tmp} {assign body : Code} {gf : FuncId} {lb : Array Value} {xs : List Value} {Rdy : World → Prop} (Inv : Nat → ι → Prop) (Ls : ι → List Chunk) (Inx : Option Nat → κ → Prop) (Lx : κ → List Chunk) (j0 : ι)
    (hg : ev n E g = some (.func (.func gf) #[] lb)) (hent : Ent P gf) (hit : Iter P gf lb xs Rdy) (hrdy : ∀ k j w, Inv k j → Own w0 K w (Ls j) → Rdy w) (h0 : Inv 0 j0) (hL : Pick L (Ls j0))
    (hl₀ : ∃ r₀, lop l₀ r₀ ∈ L)
    (hbody : ∀ l r r' k j x, xs[k]? = some x → Inv k j → DR (some l) P w0 K n [] (Exit.then (asgK P w0 K n l r r' (roundQ w0 K l r' [] (Inv (k + 1)) Ls Inx Lx) body) noQ) assign ((t, x) :: E) (lop l r :: ([] ++ Ls j)))
    (hdone : ∀ j, Inv xs.length j → Fin w0 K n ds (Q .normal) E (Ls j))
    (hstop : ∀ c j, Inx c j → Fin w0 K n ds (Q (jex c)) E (Lx j)) : DR (some l₀) P w0 K n ds Q (.rangeFunc g #[t] assign body) E L := by
  intro a w ha hO
  obtain ⟨r₀, hr₀⟩ := hl₀
  refine wpIn_rangeFunc ?_
  intro fnn _
  obtain ⟨rec, hrec⟩ : ∃ rec : Loop, rec = { state := .ready, pending := none, fn := fnn, tmps := a.tmps, params := #[t], assign, body, defers := r₀.defers } := ⟨_, rfl⟩
  have hent' := run_enterLoop_inner (P := P) (w := w) (l₀ := l₀) (r₀ := r₀) (hO.holds _ hr₀) fnn a.tmps #[t] assign body
  rw [← hrec] at hent'
  obtain ⟨h1, h2⟩ := run_iter (P := P) (w := w.alloc (.loop rec)) hent (ha.ev hg) w.heap.size
  refine ⟨w.heap.size, [], _, _, _, gf, _, _, hent', h1, fun _ _ => trivial, h2, fun h => by simp [Fence.wide] at h, ?_⟩
  have hO1 : Own w0 K (w.alloc (.loop rec)) (lop w.heap.size rec :: ([] ++ Ls j0)) := (hO.pick hL).allocObj (.loop rec) (lop w.heap.size rec) (by simp [lop]) (World.alloc_heap_new w _)
  refine (calls_any (Calls.mono (hit w.heap.size w0 K ι Inv (fun j => lop w.heap.size rec :: ([] ++ Ls j)) (Option Nat × κ) (fun p => Inx p.1 p.2)
    (fun p => lop w.heap.size { rec with state := .done, pending := some (jmp p.1) } :: ([] ++ Lx p.2)) (fun k j w' hj ho => hrdy k j w' hj (own_right (own_tail ho))) ?_ j0 _ h0 hO1) ?_))
  · intro k j w' x hx hj ho
    exact round_yield (by subst hrec; rfl) ha hj (hbody _ _ _ k j x hx hj) ho
  · rintro e w' ⟨⟨v, rfl⟩, (⟨j, hj, ho⟩ | ⟨⟨c, j⟩, hj, ho⟩)⟩
    · refine ⟨none, _, by have := run_endLoop (P := P) (r := rec) (ho.holds _ (List.mem_cons_self ..)) (by rw [hrec]; simp); rw [show rec.pending = none by rw [hrec]] at this; exact this, ?_⟩
      exact hdone j hj _ _ ⟨ha.size, ha.defers, ha.has⟩ (own_tail (ho.loop_put (r' := { rec with state := .exhausted, pending := none })))
    · refine ⟨some (jmp c), _, run_endLoop (P := P) (r := { rec with state := .done, pending := some (jmp c) }) (ho.holds _ (List.mem_cons_self ..)) (by simp), ?_⟩
      have hf := hstop c j hj { a with defers := [] ++ a.defers } _ ⟨ha.size, ha.defers, ha.has⟩ (own_tail (ho.loop_put (r' := { { rec with state := .done, pending := some (jmp c) } with state := .exhausted })))
      cases c with
      | none => exact wpIn_ret hf
      | some id => exact wpIn_exit hf

/-! ### joins where marks may have come -/
def MetD (w0 : World) (K : List Nat) (n : Nat) {ι : Type} (Inv : ι → Prop) (Ds : ι → List Deferred) (Es : ι → Env) (Ls : ι → List Chunk) (a : Act) (w : World) : Prop := ∃ j, Inv j ∧ Sat n (Ds j) (Es j) a ∧ Own w0 K w (Ls j)
theorem DC.cutD {ι : Type} (Inv : ι → Prop) (Ds : ι → List Deferred) (Es : ι → Env) (Lc : ι → List Chunk) {xc yc : Code} (first : DC P w0 K n ds (Exit.then (MetD w0 K n Inv Ds Es Lc) Q) xc E L)
    (rest : ∀ i, Inv i → DC P w0 K n (Ds i) Q yc (Es i) (Lc i)) : DC P w0 K n ds Q (.seq xc yc) E L := by
  refine DC.seq fun a w ha hw => wp_mono (first a w ha hw) ?_
  intro e a w h
  cases e with
  | normal => obtain ⟨j, hj, hs, ho⟩ := h; exact rest j hj a w hs ho
  | exit id => exact h
  | goto l => exact h
  | ret => exact h
  | panic ch => exact h
  | outgrown => exact h
theorem Fin.meetD {ι : Type} {Inv : ι → Prop} {Ds : ι → List Deferred} {Es : ι → Env} {Lc : ι → List Chunk} (j : ι) (hj : Inv j) (hd : Ds j = ds) (hE : Sub E (Es j)) (hL : Pick L (Lc j)) : Fin w0 K n ds (Exit.then (MetD w0 K n Inv Ds Es Lc) Q .normal) E L :=
  fun a w ha hO => ⟨j, hj, hd ▸ ha.mono hE.get, hO.pick hL⟩

theorem own_len {w : World} {t : Nat} {v : Value} {xs : List Int} (i : Nat) (hi : L[i]? = some (slc v t 1 (ints xs))) (hw : Own w0 K w L) : ∃ A c, v = .slice A xs.length c := by
  obtain ⟨A, len, cap, rfl, h1, _⟩ := rd_own (hw.perm (perm_eraseIdx hi).symm)
  have h2 : xs.length = len := by simpa [ints] using h1
  subst h2
  exact ⟨A, cap, rfl⟩
theorem DC.shapeL {c : Code} {t : Nat} {v : Value} {xs : List Int} (i : Nat) (hi : L[i]? = some (slc v t 1 (ints xs))) (h : (∃ A c, v = .slice A xs.length c) → DC P w0 K n ds Q c E L) : DC P w0 K n ds Q c E L :=
  fun a w ha hw => h (own_len i hi hw) a w ha hw
theorem Fin.shapeL {Qb : Act → World → Prop} {t : Nat} {v : Value} {xs : List Int} (i : Nat) (hi : L[i]? = some (slc v t 1 (ints xs))) (h : (∃ A c, v = .slice A xs.length c) → Fin w0 K n ds Qb E L) : Fin w0 K n ds Qb E L :=
  fun a w ha hw => h (own_len i hi hw) a w ha hw

/-! ### a function that holds such loops -/
theorem calls_ofM {f : FuncId} {fn : Func} {c : Code} {args : List Value} {R : Ending → World → Prop} {w : World} {L : List Chunk} (hf : P.funcs[f]? = some fn) (hb : fn.body = some c)
    (hn : fn.ntmps = n) (hle : Nat.ble args.length n = true) (hO : Own w0 K w L) (h : DC P w0 K n [] (bodyPostM Fence.wide 0 P fn R) c (argEnv 0 args) L) : Calls P f args.toArray w R := by
  refine (callsIn_wide (n := 0)).1 (callsIn_of_wp_marks (F := Fence.wide) hf hb trivial (wpIn_wide.2 (h _ _ ⟨?_, rfl, fun t v hv ht => ?_⟩ hO)))
  · have := Nat.le_of_ble_eq_true hle; simp [hn]; omega
  · obtain ⟨_, h2⟩ := argEnv_get args 0 t v hv
    simp only [Nat.sub_zero] at h2
    have hlt : t < args.length := (List.getElem?_eq_some_iff.1 h2).1
    simp [Array.getElem?_append, hlt]
    simpa [List.getElem?_eq_getElem hlt] using h2
theorem calls_ofW {f : FuncId} {fn : Func} {c : Code} {args : List Value} {R : Ending → World → Prop} {w : World} {L : List Chunk} (hf : P.funcs[f]? = some fn) (hb : fn.body = some c)
    (hn : fn.ntmps = n) (hle : Nat.ble args.length n = true) (hO : Own w0 K w L) (h : DC P w0 K n [] (bodyPost P fn R) c (argEnv 0 args) L) : Calls P f args.toArray w R := by
  refine calls_of_wp hf hb (h _ _ ⟨?_, rfl, fun t v hv ht => ?_⟩ hO)
  · have := Nat.le_of_ble_eq_true hle; simp [hn]; omega
  · obtain ⟨_, h2⟩ := argEnv_get args 0 t v hv
    simp only [Nat.sub_zero] at h2
    have hlt : t < args.length := (List.getElem?_eq_some_iff.1 h2).1
    simp [Array.getElem?_append, hlt]
    simpa [List.getElem?_eq_getElem hlt] using h2
def Lv (P : Program) (fn : Func) (R : Ending → World → Prop) (ds : List Deferred) (a : Act) (w : World) : Prop := LeavesInM Fence.wide 0 P fn a.tmps R ds .returning w
theorem Fin.leave {fn : Func} {R : Ending → World → Prop} {e : Exit} (he : e = .ret ∨ e = .normal) (h : Fin w0 K n ds (Lv P fn R ds) E L) : Fin w0 K n ds (bodyPostM Fence.wide 0 P fn R e) E L := by
  intro a w ha hO
  have h1 := h a w ha hO
  have h2 : LeavesInM Fence.wide 0 P fn a.tmps R a.defers .returning w := by rw [ha.defers]; exact h1
  rcases he with rfl | rfl <;> exact h2
theorem Fin.leave1 {fn : Func} {R : Ending → World → Prop} {D : Nat} {es : List Deferred} (h : Fin w0 K n ds (Lv P fn R es) E L) : Fin w0 K n ds (Lv P fn R (mark D :: es)) E (dfr D :: L) := by
  intro a w ha hO
  have hD : w.heap[D]? = some (.deferred (some [])) := hO.holds _ (List.mem_cons_self ..)
  have hO' : Own w0 K (w.putObj D (.deferred none)) (shut D :: L) := hO.putObj _ rfl rfl fun hlt => World.putObj_heap_same hlt
  exact ⟨by simp, .inl ⟨D, _, rfl, run_takeDeferred hD, h a _ ha (own_tail hO')⟩⟩
theorem Fin.leave0 {fn : Func} {R : Ending → World → Prop} (h : Fin w0 K n ds (fun a w => ∃ v, (results fn a.tmps).run P w = .ok v w ∧ R (.returned v) w) E L) : Fin w0 K n ds (Lv P fn R []) E L := h
theorem Fin.res2 {fn : Func} {t u : Tmp} {v1 v2 : Value} {C : Value → List Chunk → Prop} (hr : fn.results = #[.tmp t, .tmp u]) (hv1 : ev n E (.tmp t) = some v1) (hv2 : ev n E (.tmp u) = some v2) (hC : C (.tuple #[v1, v2]) L) :
    Fin w0 K n ds (fun a w => ∃ v, (results fn a.tmps).run P w = .ok v w ∧ Ret w0 K C (.returned v) w) E L := by
  intro a w ha hO
  refine ⟨_, results_tmp2 hr _ _ _, _, L, rfl, ?_, hO⟩
  have h1 := ha.ev hv1
  have h2 := ha.ev hv2
  simp only [Act.eval] at h1 h2
  rw [h1, h2]; exact hC
theorem Fin.res1 {fn : Func} {t : Tmp} {v1 : Value} {C : Value → List Chunk → Prop} (hr : fn.results = #[.tmp t]) (hv1 : ev n E (.tmp t) = some v1) (hC : C v1 L) :
    Fin w0 K n ds (fun a w => ∃ v, (results fn a.tmps).run P w = .ok v w ∧ Ret w0 K C (.returned v) w) E L := by
  intro a w ha hO
  refine ⟨_, results_tmp hr _ _ _, _, L, rfl, ?_, hO⟩
  have h1 := ha.ev hv1
  simp only [Act.eval] at h1
  rw [h1]; exact hC
theorem Fin.resc {fn : Func} {p : Tmp} {ty : TypeId} {g t : Nat} {u : Value} {C : Value → List Chunk → Prop} (hr : fn.results = #[.cell p ty]) (hv : ev n E (.tmp p) = some (.pointer (some ⟨g, 0, none⟩))) [h : Find L g t #[u]] (ht : aggT P ty = some false)
    (hC : C u L) : Fin w0 K n ds (fun a w => ∃ v, (results fn a.tmps).run P w = .ok v w ∧ Ret w0 K C (.returned v) w) E L := by
  intro a w ha hO
  have hg : w.cell? ⟨g, 0, none⟩ = some u := by
    have := hO.holds _ h.mem
    rw [cell_of_row w g 0 #[u] t (0, 0) this]; rfl
  have hp : a.tmps.getD p undef = .pointer (some ⟨g, 0, none⟩) := by have := ha.ev hv; simpa only [Act.eval] using this
  have hp' : a.tmps[p]?.getD undef = .pointer (some ⟨g, 0, none⟩) := by simpa using hp
  refine ⟨u, ?_, u, L, rfl, hC, hO⟩
  simp [results, hr, hp', asAddr, loadVar, run_aggT ht, hg]
end
end Go.Fl
