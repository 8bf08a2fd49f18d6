/- Regions that draw their order: a walk in one fixed order serves for every order, where what is unordered commutes. -/
import Derived.Test.YtbkhejfnhbjhpaaFlCore
set_option linter.unusedVariables false
set_option linter.unusedSimpArgs false
namespace Go.Fl
open Go

/-- What an operation's meaning comes to, as a relation of its value and the world behind it. -/
def RunsTo (P : Program) (s : Sem Next) (w : World) (R : Value → World → Prop) : Prop :=
  match s.run P w with
  | .ok (.value v) w' => R v w'
  | .ok .skip w' => R undef w'
  | .ok (.enter f args) w' => Calls P f args w' (fun e w'' => ∃ v, e = .returned v ∧ R v w'')
  | .ok (.row row args) w' => Rows P row args w' R
  | _ => False

section
variable {P : Program} {s : Sem Next} {w : World} {R R' : Value → World → Prop}
theorem RunsTo.mono (h : RunsTo P s w R) (hr : ∀ v w', R v w' → R' v w') : RunsTo P s w R' := by
  unfold RunsTo at *
  generalize s.run P w = r at *
  cases r with
  | ok x w' =>
    cases x <;> first
      | exact h.elim
      | exact hr _ _ h
      | exact Calls.mono h (fun e w'' ⟨v, he, hv⟩ => ⟨v, he, hr _ _ hv⟩)
      | exact Rows.mono h hr
  | halt x w' => exact h.elim

theorem RunsTo.some (h : RunsTo P s w R) : ∃ v w', R v w' := by
  unfold RunsTo at h
  generalize s.run P w = r at h
  cases r with
  | ok x w' =>
    cases x <;> first
      | exact h.elim
      | exact ⟨_, _, h⟩
      | (obtain ⟨e, w'', fr, ⟨v, _, hv⟩, _⟩ := h []; exact ⟨v, w'', hv⟩)
      | (obtain ⟨v, w'', hv, _⟩ := h default []; exact ⟨v, w'', hv⟩)
  | halt x w' => exact h.elim

theorem RunsTo.wp {o : Oper} {a : Act} {next : Act → World → Prop} {Q : Exit → Act → World → Prop} (h : RunsTo P (execOp a.eval o) w R)
    (hn : ∀ v w', R v w' → next (a.put o.dst v) w') : o.wp P a w next Q := by
  unfold RunsTo at h
  unfold Oper.wp
  generalize (execOp a.eval o).run P w = r at h
  cases r with
  | ok x w' =>
    cases x <;> first
      | exact h.elim
      | exact hn _ _ h
      | exact Calls.mono h (fun e w'' ⟨v, he, hv⟩ => by subst he; exact hn _ _ hv)
      | exact Rows.mono h hn
  | halt x w' => exact h.elim

theorem RunsTo.value {v : Value} {w' : World} (h : s.run P w = .ok (.value v) w') (hR : R v w') : RunsTo P s w R := by
  unfold RunsTo; rw [h]; exact hR
end

inductive Cls | v | n | r | g | q
  deriving DecidableEq

inductive NewV | ptr | sl (len cap : Nat)
def NewV.val : NewV → Nat → Value
  | .ptr, g => .pointer (some ⟨g, 0, none⟩)
  | .sl len cap, g => .slice (some ⟨g, 0, none⟩) len cap
theorem NewV.val_inj {x y : NewV} {g : Nat} (h : x.val g = y.val g) : x = y := by
  cases x <;> cases y <;> simp [NewV.val] at h ⊢
  exact h

def vis (A : List Nat) (i : Nat) (Ln : List (Nat × Chunk)) : List Chunk := (Ln.filter fun p => (A.getD i 0).testBit p.1).map (·.2)
theorem vis_skip {A : List Nat} {i x : Nat} {Ln : List (Nat × Chunk)} (c : Chunk) (h : (A.getD i 0).testBit x = false) : vis A i ((x, c) :: Ln) = vis A i Ln := by
  unfold vis; rw [List.filter_cons_of_neg (by simp only [h]; decide)]
theorem vis_skips {A : List Nat} {i x : Nat} {Ln : List (Nat × Chunk)} (L : List Chunk) (h : (A.getD i 0).testBit x = false) : vis A i (L.map (fun c => (x, c)) ++ Ln) = vis A i Ln := by
  induction L with
  | nil => rfl
  | cons c L ih => simp only [List.map_cons, List.cons_append]; rw [vis_skip _ h, ih]
theorem vis_sub (A : List Nat) (i : Nat) (Ln : List (Nat × Chunk)) : (vis A i Ln).Sublist (Ln.map (·.2)) := by
  unfold vis; exact List.filter_sublist.map _
theorem vis_perm {A : List Nat} {i : Nat} {Ln Ln' : List (Nat × Chunk)} (h : Ln'.Perm Ln) : (vis A i Ln').Perm (vis A i Ln) := (h.filter _).map _

/-- One operation: carried out, it leaves v and does nothing else; or its guard says no. -/
def Yd (P : Program) (ops : Array Oper) (o : Oper) (v : Value) (a : Act) (w : World) : Prop :=
  (Region.wanted o (yielded ops a.tmps) = true ∧ (execOp a.eval o).run P w = .ok (.value v) w) ∨ (Region.wanted o (yielded ops a.tmps) = false ∧ v = undef)

section
variable {P : Program} {ops : Array Oper}
theorem Yd.unique {o : Oper} {v u : Value} {a : Act} {w : World} (h : Yd P ops o v a w) (k : Yd P ops o u a w) : v = u := by
  rcases h with ⟨h1, h2⟩ | ⟨h1, h2⟩ <;> rcases k with ⟨k1, k2⟩ | ⟨k1, k2⟩
  · rw [h2] at k2; cases k2; rfl
  · rw [h1] at k1; cases k1
  · rw [h1] at k1; cases k1
  · rw [h2, k2]
theorem Yd.put {o : Oper} {v u : Value} {d : Option Tmp} {a : Act} {w : World} (hs : ∀ cs b, o.op ≠ .select cs b) (hd : ∀ t, d = some t → t ∉ o.looksAt ops) :
    Yd P ops o v (a.put d u) w ↔ Yd P ops o v a w := by
  unfold Yd
  rw [execOp_put o hs a d u hd, wanted_put o a d u hd]
end

section
variable (P : Program) (ops : Array Oper) (w0 : World) (K : List Nat) (n : Nat) (ds : List Deferred) (Lf : List Chunk) (cl : List Cls) (A : List Nat) (Q : Act → World → Prop)

/-- A walk over the operations of a region in the order of the list. Lf: pieces that stay as they are through the whole region; Ls: what the call owned before; Ln: what the region's own operations have made, each with its operation's number. -/
inductive Flow : List Nat → Env → List Chunk → List (Nat × Chunk) → Prop
  | done {E Ls Ln} : (∀ a w, Sat n ds E a → Own w0 K w (Ln.map (·.2) ++ Ls) → Q a w) → Flow [] E Ls Ln
  | void {l E Ls Ln} : (∀ a w, Sat n ds E a → Own w0 K w (Ln.map (·.2) ++ Ls) → Own w0 K w Lf → False) → Flow l E Ls Ln
  | val {i r E Ls Ln o v} (ml : Bool) (ho : ops[i]? = some o) (hm : ml = true ∨ cl.getD i .q = .v)
      (hv : ∀ a w, Sat n ds E a → Own w0 K w Lf → (ml = true ∨ Own w0 K w (vis A i Ln ++ Ls)) → Yd P ops o v a w)
      (h : Flow r (E.put o.dst v) Ls Ln) : Flow (i :: r) E Ls Ln
  | new {i r E Ls Ln o} (ho : ops[i]? = some o) (hc : cl.getD i .q = .n) (hw : ∀ a, Sat n ds E a → Region.wanted o (yielded ops a.tmps) = true) (nv : NewV) (t : Nat) (cs : Array Value)
      (hx : ∀ a w, Sat n ds E a → (execOp a.eval o).run P w = .ok (.value (nv.val w.heap.size)) (w.alloc (.cells cs t)))
      (h : ∀ g, Flow r (E.put o.dst (nv.val g)) Ls ((i, blk g t cs) :: Ln)) : Flow (i :: r) E Ls Ln
  | rel {i r E Ls Ln o} (ho : ops[i]? = some o) (hc : cl.getD i .q = .r) (hw : ∀ a, Sat n ds E a → Region.wanted o (yielded ops a.tmps) = true) (C : Value → List Chunk → Prop)
      (hx : ∀ a w, Sat n ds E a → Own w0 K w (vis A i Ln ++ Ls) → RunsTo P (execOp a.eval o) w (fun v w' => ∃ L', C v L' ∧ Own w [] w' L'))
      (h : ∀ v L', C v L' → Flow r (E.put o.dst v) Ls (L'.map (fun c => (i, c)) ++ Ln)) : Flow (i :: r) E Ls Ln
  | gen {i r E Ls Ln o} (ho : ops[i]? = some o) (hc : cl.getD i .q = .g) (hw : ∀ a, Sat n ds E a → Region.wanted o (yielded ops a.tmps) = true) (C : Value → List Chunk → Prop)
      (hx : ∀ a w, Sat n ds E a → Own w0 K w (Ln.map (·.2) ++ Ls) → RunsTo P (execOp a.eval o) w (fun v w' => ∃ L', C v L' ∧ Own w0 K w' L'))
      (hl : ∀ v L', C v L' → ∀ w, Own w0 K w L' → Own w0 K w Lf)
      (h : ∀ v L', C v L' → Flow r (E.put o.dst v) L' []) : Flow (i :: r) E Ls Ln
end

section
variable {P : Program} {ops : Array Oper} {w0 : World} {K : List Nat} {n : Nat} {ds : List Deferred} {Lf : List Chunk} {cl : List Cls} {A : List Nat} {Q : Act → World → Prop}

theorem put_get {E E' : Env} (h : ∀ t, E'.get t = E.get t) (d : Option Tmp) (v : Value) (t : Nat) : (E'.put d v).get t = (E.put d v).get t := by
  cases d with
  | none => exact h t
  | some d => simp only [Env.put, Env.get_cons, h]

theorem Flow.congr {l : List Nat} {E : Env} {Ls : List Chunk} {Ln : List (Nat × Chunk)} (h : Flow P ops w0 K n ds Lf cl A Q l E Ls Ln) :
    ∀ {E' : Env} {Ln' : List (Nat × Chunk)}, (∀ t, E'.get t = E.get t) → Ln'.Perm Ln → Flow P ops w0 K n ds Lf cl A Q l E' Ls Ln' := by
  induction h with
  | done hd =>
    intro E' Ln' he hp
    exact .done fun a w hs hw => hd a w (hs.mono fun t v h => by rw [he]; exact h) (hw.perm ((hp.symm.map _).append_right _))
  | void hd =>
    intro E' Ln' he hp
    exact .void fun a w hs hw => hd a w (hs.mono fun t v h => by rw [he]; exact h) (hw.perm ((hp.symm.map _).append_right _))
  | val ml ho hm hv _ ih =>
    intro E' Ln' he hp
    exact .val ml ho hm (fun a w hs hf hw => hv a w (hs.mono fun t v h => by rw [he]; exact h) hf (hw.imp id fun hw => hw.perm ((vis_perm hp.symm).append_right _)))
      (ih (put_get he _ _) hp)
  | new ho hc hw nv t cs hx _ ih =>
    intro E' Ln' he hp
    exact .new ho hc (fun a hs => hw a (hs.mono fun t v h => by rw [he]; exact h)) nv t cs (fun a w hs => hx a w (hs.mono fun t v h => by rw [he]; exact h))
      (fun g => ih g (put_get he _ _) (hp.cons _))
  | rel ho hc hw C hx _ ih =>
    intro E' Ln' he hp
    exact .rel ho hc (fun a hs => hw a (hs.mono fun t v h => by rw [he]; exact h)) C
      (fun a w hs hw => hx a w (hs.mono fun t v h => by rw [he]; exact h) (hw.perm ((vis_perm hp.symm).append_right _)))
      (fun v L' hC => ih v L' hC (put_get he _ _) (hp.append_left _))
  | gen ho hc hw C hx hl _ ih =>
    intro E' Ln' he hp
    exact .gen ho hc (fun a hs => hw a (hs.mono fun t v h => by rw [he]; exact h)) C
      (fun a w hs hw => hx a w (hs.mono fun t v h => by rw [he]; exact h) (hw.perm ((hp.symm.map _).append_right _))) hl
      (fun v L' hC => ih v L' hC (put_get he _ _) (List.Perm.refl _))

def clOk : Cls → Cls → Bool
  | .g, .q => true
  | .g, _ => false
  | .q, .g => true
  | _, .g => false
  | .n, .r => false
  | .r, .r => false
  | _, _ => true

theorem own_vis {w : World} {Ls : List Chunk} {Ln : List (Nat × Chunk)} (i : Nat) (h : Own w0 K w (Ln.map (·.2) ++ Ls)) : Own w0 K w (vis A i Ln ++ Ls) :=
  h.sub ((vis_sub A i Ln).append_right _)

/-- Two neighbours that are not ordered change places. -/
theorem Flow.swap {x y : Nat} {r : List Nat} {E : Env} {Ls : List Chunk} {Ln : List (Nat × Chunk)} {ox oy : Oper} (hox : ops[x]? = some ox) (hoy : ops[y]? = some oy)
    (hsx : ∀ cs b, ox.op ≠ .select cs b) (hsy : ∀ cs b, oy.op ≠ .select cs b)
    (hap : ox.apart ops oy = true) (hcl : clOk (cl.getD x .q) (cl.getD y .q) = true) (hAy : (A.getD y 0).testBit x = false) (hAx : (A.getD x 0).testBit y = false)
    (h : Flow P ops w0 K n ds Lf cl A Q (x :: y :: r) E Ls Ln) : Flow P ops w0 K n ds Lf cl A Q (y :: x :: r) E Ls Ln := by
  by_cases hex : ∃ a w, Sat n ds E a ∧ Own w0 K w (Ln.map (·.2) ++ Ls) ∧ Own w0 K w Lf
  case neg => exact .void fun a w hs hw hf => hex ⟨a, w, hs, hw, hf⟩
  obtain ⟨a, w, ha, hown, hlf⟩ := hex
  -- nothing can be at a state behind both that nothing can be at behind x
  have gone : ∀ {u v : Value} {Ls' : List Chunk} {Ln1 Ln2 : List (Nat × Chunk)}, (∀ a w, Sat n ds (E.put ox.dst u) a → Own w0 K w (Ln1.map (·.2) ++ Ls') → Own w0 K w Lf → False) →
      ((Ln1.map (·.2) ++ Ls').Sublist (Ln2.map (·.2) ++ Ls')) → Flow P ops w0 K n ds Lf cl A Q r ((E.put ox.dst u).put oy.dst v) Ls' Ln2 := fun hv hs =>
    .void fun a w hsat hw hf => by
      obtain ⟨a0, hs0, rfl⟩ := hsat.unput
      exact hv a0 w hs0 (hw.sub hs) hf
  obtain ⟨h1, h2, h3⟩ := Oper.apart_spec hap
  have hcomm : ∀ (vx vy : Value) (t : Nat), ((E.put oy.dst vy).put ox.dst vx).get t = ((E.put ox.dst vx).put oy.dst vy).get t := fun vx vy t =>
    (Env.put_comm E ox.dst oy.dst vx vy h2 t).symm
  -- y at E, out of what is known of it behind x
  have exy : ∀ (b : Act) (u : Value), execOp (b.put ox.dst u).eval oy = execOp b.eval oy := fun b u => execOp_put oy hsy b ox.dst u h1
  have exx : ∀ (b : Act) (u : Value), execOp (b.put oy.dst u).eval ox = execOp b.eval ox := fun b u => execOp_put ox hsx b oy.dst u h3
  have wxy : ∀ (b : Act) (u : Value), Region.wanted oy (yielded ops (b.put ox.dst u).tmps) = Region.wanted oy (yielded ops b.tmps) := fun b u => wanted_put oy b ox.dst u h1
  have wxx : ∀ (b : Act) (u : Value), Region.wanted ox (yielded ops (b.put oy.dst u).tmps) = Region.wanted ox (yielded ops b.tmps) := fun b u => wanted_put ox b oy.dst u h3
  have ydy : ∀ (b : Act) (u v : Value) (w : World), Yd P ops oy v (b.put ox.dst u) w → Yd P ops oy v b w := fun b u v w => (Yd.put hsy h1).1
  have ydx : ∀ (b : Act) (u v : Value) (w : World), Yd P ops ox v b w → Yd P ops ox v (b.put oy.dst u) w := fun b u v w => (Yd.put hsx h3).2
  -- x behind y
  have xval : ∀ {mlx : Bool} {vx : Value} {u : Value} {Ls' : List Chunk} {Ln0 Ln' : List (Nat × Chunk)}, (∀ a w, Sat n ds E a → Own w0 K w Lf → (mlx = true ∨ Own w0 K w (vis A x Ln0 ++ Ls)) → Yd P ops ox vx a w) →
      (mlx = true ∨ (Ls' = Ls ∧ vis A x Ln' = vis A x Ln0)) → ∀ a w, Sat n ds (E.put oy.dst u) a → Own w0 K w Lf → (mlx = true ∨ Own w0 K w (vis A x Ln' ++ Ls')) → Yd P ops ox vx a w := by
    intro mlx vx u Ls' Ln0 Ln' hv hl a w hs hf hw
    obtain ⟨a0, hs0, rfl⟩ := hs.unput
    refine ydx _ _ _ _ (hv a0 w hs0 hf ?_)
    rcases hl with hl | ⟨rfl, hl⟩
    · exact .inl hl
    · rw [hl] at hw; exact hw
  have xw : ∀ {u : Value}, (∀ a, Sat n ds E a → Region.wanted ox (yielded ops a.tmps) = true) → ∀ a, Sat n ds (E.put oy.dst u) a → Region.wanted ox (yielded ops a.tmps) = true := by
    intro u hw a hs
    obtain ⟨a0, hs0, rfl⟩ := hs.unput
    rw [wxx]; exact hw a0 hs0
  cases h with
  | void hd => exact (hd a w ha hown hlf).elim
  | val mlx hox' hmx hvx hy =>
    rename_i ox' vx
    rw [hox] at hox'; cases hox'
    cases hy with
    | void hd => exact (hd _ w (ha.put _ _) hown hlf).elim
    | val mly hoy' hmy hvy hr =>
      rename_i oy' vy
      rw [hoy] at hoy'; cases hoy'
      exact .val mly hoy hmy (fun a w hs hf hw => ydy a vx vy w (hvy _ w (hs.put _ _) hf hw)) (.val mlx hox hmx (xval hvx (.inr ⟨rfl, rfl⟩)) (hr.congr (hcomm _ _) (.refl _)))
    | new hoy' hc hw nv t cs hx hr =>
      rw [hoy] at hoy'; cases hoy'
      refine .new hoy hc (fun a hs => by rw [← wxy a vx]; exact hw _ (hs.put _ _)) nv t cs (fun a w hs => by rw [← exy a vx]; exact hx _ w (hs.put _ _)) fun g => ?_
      exact .val mlx hox hmx (xval hvx (.inr ⟨rfl, vis_skip _ hAx⟩)) ((hr g).congr (hcomm _ _) (.refl _))
    | rel hoy' hc hw C hx hr =>
      rw [hoy] at hoy'; cases hoy'
      refine .rel hoy hc (fun a hs => by rw [← wxy a vx]; exact hw _ (hs.put _ _)) C (fun a w hs ho => by rw [← exy a vx]; exact hx _ w (hs.put _ _) ho) fun v L' hC => ?_
      exact .val mlx hox hmx (xval hvx (.inr ⟨rfl, vis_skips _ hAx⟩)) ((hr v L' hC).congr (hcomm _ _) (.refl _))
    | gen hoy' hc hw C hx hl hr =>
      rw [hoy] at hoy'; cases hoy'
      have hml : mlx = true := hmx.resolve_right fun he => by rw [he, hc] at hcl; cases hcl
      refine .gen hoy hc (fun a hs => by rw [← wxy a vx]; exact hw _ (hs.put _ _)) C (fun a w hs ho => by rw [← exy a vx]; exact hx _ w (hs.put _ _) ho) hl fun v L' hC => ?_
      exact .val mlx hox hmx (xval hvx (.inl hml)) ((hr v L' hC).congr (hcomm _ _) (.refl _))
  | new hox' hcx hwx nvx tx csx hxx hy =>
    rw [hox] at hox'; cases hox'
    have xnew : ∀ {u : Value}, ∀ a w, Sat n ds (E.put oy.dst u) a → (execOp a.eval ox).run P w = .ok (.value (nvx.val w.heap.size)) (w.alloc (.cells csx tx)) := by
      intro u a w hs
      obtain ⟨a0, hs0, rfl⟩ := hs.unput
      rw [exx]; exact hxx a0 w hs0
    obtain ⟨g0, hg0⟩ : ∃ g0, g0 = w.heap.size := ⟨_, rfl⟩
    have hy0 := hy g0
    cases hy0 with
    | void hd => exact (hd _ _ (ha.put _ _) (by have := hown.alloc tx csx; rw [← hg0] at this; simpa using this) ((hlf.alloc tx csx).sub (List.sublist_cons_self ..))).elim
    | val mly0 hoy' hmy0 hvy0 hr0 =>
      rename_i oy' vy0
      rw [hoy] at hoy'; cases hoy'
      have hvis : ∀ g, vis A y ((x, blk g tx csx) :: Ln) = vis A y Ln := fun g => vis_skip _ hAy
      have u0 : Yd P ops oy vy0 a w := ydy a (nvx.val g0) vy0 w (hvy0 _ w (ha.put _ _) hlf (.inr (by rw [hvis]; exact own_vis y hown)))
      refine .val mly0 hoy hmy0 (fun a w hs hf hw => ydy a (nvx.val g0) vy0 w (hvy0 _ w (hs.put _ _) hf (by rw [hvis]; exact hw))) ?_
      refine .new hox hcx (xw hwx) nvx tx csx xnew fun g => ?_
      have hyg := hy g
      cases hyg with
      | void hd => exact (gone hd (.refl _)).congr (hcomm _ _) (.refl _)
      | val mly hoy' hmy hvy hr =>
        rename_i oy' vy
        rw [hoy] at hoy'; cases hoy'
        have ug : Yd P ops oy vy a w := ydy a (nvx.val g) vy w (hvy _ w (ha.put _ _) hlf (.inr (by rw [hvis]; exact own_vis y hown)))
        obtain rfl := ug.unique u0
        exact hr.congr (hcomm _ _) (.refl _)
      | new hoy' hc hw nv t cs hx hr =>
        rw [hoy] at hoy'; cases hoy'
        exfalso
        have k1 := hw _ (ha.put ox.dst (nvx.val g))
        have k2 := hx _ w (ha.put ox.dst (nvx.val g))
        rw [wxy] at k1
        rw [exy] at k2
        rcases u0 with ⟨_, u2⟩ | ⟨u1, _⟩
        · rw [k2] at u2
          have := congrArg (fun r : Result Next => match r with | .ok _ w => w.heap.size | .halt _ _ => 0) u2
          simp at this
        · rw [u1] at k1; cases k1
      | rel hoy' hc hw C hx hr => rw [hcx, hc] at hcl; cases hcl
      | gen hoy' hc hw C hx hl hr => rw [hcx, hc] at hcl; cases hcl
    | new hoy' hc hw0 nv0 t0 cs0 hx0 hr0 =>
      rw [hoy] at hoy'; cases hoy'
      have k0 := hx0 _ w (ha.put ox.dst (nvx.val g0))
      rw [exy] at k0
      refine .new hoy hc (fun a hs => by rw [← wxy a (nvx.val g0)]; exact hw0 _ (hs.put _ _)) nv0 t0 cs0 (fun a w hs => by rw [← exy a (nvx.val g0)]; exact hx0 _ w (hs.put _ _)) fun gy => ?_
      refine .new hox hcx (xw hwx) nvx tx csx xnew fun g => ?_
      have hyg := hy g
      cases hyg with
      | void hd => exact (gone hd (Ln2 := (y, blk gy t0 cs0) :: (x, blk g tx csx) :: Ln) (by simp)).congr (hcomm _ _) (.swap _ _ _)
      | val mly hoy' hmy hvy hr =>
        rename_i oy' vy
        rw [hoy] at hoy'; cases hoy'
        exfalso
        have ug : Yd P ops oy vy a w := ydy a (nvx.val g) vy w (hvy _ w (ha.put _ _) hlf (.inr (by rw [vis_skip _ hAy]; exact own_vis y hown)))
        have k1 := hw0 _ (ha.put ox.dst (nvx.val g0))
        rw [wxy] at k1
        rcases ug with ⟨_, u2⟩ | ⟨u1, _⟩
        · rw [k0] at u2
          have := congrArg (fun r : Result Next => match r with | .ok _ w => w.heap.size | .halt _ _ => 0) u2
          simp at this
        · rw [u1] at k1; cases k1
      | new hoy' hc' hw nv t cs hx hr =>
        rw [hoy] at hoy'; cases hoy'
        have k2 := hx _ w (ha.put ox.dst (nvx.val g))
        rw [exy, k0] at k2
        injection k2 with k3 k4
        injection k3 with k5
        have e1 := NewV.val_inj k5
        have e2 : Obj.cells cs0 t0 = Obj.cells cs t := by
          have h5 : w.heap.push (Obj.cells cs0 t0) = w.heap.push (Obj.cells cs t) := congrArg World.heap k4
          exact (Array.push_eq_push.1 h5).1
        injection e2 with e3 e4
        subst e1 e3 e4
        exact (hr gy).congr (hcomm _ _) (.swap _ _ _)
      | rel hoy' hc' hw C hx hr => rw [hc] at hc'; cases hc'
      | gen hoy' hc' hw C hx hl hr => rw [hc] at hc'; cases hc'
    | rel hoy' hc hw C hx hr => rw [hcx, hc] at hcl; cases hcl
    | gen hoy' hc hw C hx hl hr => rw [hcx, hc] at hcl; cases hcl
  | rel hox' hcx hwx Cx hxx hy =>
    rw [hox] at hox'; cases hox'
    obtain ⟨v0, w0', L0, hC0, hO0⟩ := (hxx a w ha (own_vis x hown)).some
    have xrel : ∀ {u : Value} {Ln' : List (Nat × Chunk)}, vis A x Ln' = vis A x Ln → ∀ a w, Sat n ds (E.put oy.dst u) a → Own w0 K w (vis A x Ln' ++ Ls) →
        RunsTo P (execOp a.eval ox) w (fun v w' => ∃ L', Cx v L' ∧ Own w [] w' L') := by
      intro u Ln' hl a w hs ho
      obtain ⟨a0, hs0, rfl⟩ := hs.unput
      rw [exx]; rw [hl] at ho; exact hxx a0 w hs0 ho
    have hy0 := hy v0 L0 hC0
    cases hy0 with
    | void hd => exact (hd _ _ (ha.put _ _) (by have := hown.add hO0; simpa [Function.comp_def] using this) ((hlf.add hO0).sub (List.sublist_append_right _ _))).elim
    | val mly0 hoy' hmy0 hvy0 hr0 =>
      rename_i oy' vy0
      rw [hoy] at hoy'; cases hoy'
      have hvis : ∀ L : List Chunk, vis A y (L.map (fun c => (x, c)) ++ Ln) = vis A y Ln := fun L => vis_skips _ hAy
      have u0 : Yd P ops oy vy0 a w := ydy a v0 vy0 w (hvy0 _ w (ha.put _ _) hlf (.inr (by rw [hvis]; exact own_vis y hown)))
      refine .val mly0 hoy hmy0 (fun a w hs hf hw => ydy a v0 vy0 w (hvy0 _ w (hs.put _ _) hf (by rw [hvis]; exact hw))) ?_
      refine .rel hox hcx (xw hwx) Cx (xrel rfl) fun v L' hC => ?_
      have hyg := hy v L' hC
      cases hyg with
      | void hd => exact (gone hd (.refl _)).congr (hcomm _ _) (.refl _)
      | val mly hoy' hmy hvy hr =>
        rename_i oy' vy
        rw [hoy] at hoy'; cases hoy'
        have ug : Yd P ops oy vy a w := ydy a v vy w (hvy _ w (ha.put _ _) hlf (.inr (by rw [hvis]; exact own_vis y hown)))
        obtain rfl := ug.unique u0
        exact hr.congr (hcomm _ _) (.refl _)
      | new hoy' hc hw nv t cs hx hr =>
        rw [hoy] at hoy'; cases hoy'
        exfalso
        have k1 := hw _ (ha.put ox.dst v)
        have k2 := hx _ w (ha.put ox.dst v)
        rw [wxy] at k1
        rw [exy] at k2
        rcases u0 with ⟨_, u2⟩ | ⟨u1, _⟩
        · rw [k2] at u2
          have := congrArg (fun r : Result Next => match r with | .ok _ w => w.heap.size | .halt _ _ => 0) u2
          simp at this
        · rw [u1] at k1; cases k1
      | rel hoy' hc hw C hx hr => rw [hcx, hc] at hcl; cases hcl
      | gen hoy' hc hw C hx hl hr => rw [hcx, hc] at hcl; cases hcl
    | new hoy' hc hw0 nv0 t0 cs0 hx0 hr0 =>
      rw [hoy] at hoy'; cases hoy'
      have k0 := hx0 _ w (ha.put ox.dst v0)
      rw [exy] at k0
      refine .new hoy hc (fun a hs => by rw [← wxy a v0]; exact hw0 _ (hs.put _ _)) nv0 t0 cs0 (fun a w hs => by rw [← exy a v0]; exact hx0 _ w (hs.put _ _)) fun gy => ?_
      refine .rel hox hcx (xw hwx) Cx (xrel (vis_skip _ hAx)) fun v L' hC => ?_
      have hyg := hy v L' hC
      cases hyg with
      | void hd => exact (gone hd (Ln2 := (y, blk gy t0 cs0) :: (L'.map (fun c => (x, c)) ++ Ln)) (by simp)).congr (hcomm _ _) (List.perm_middle)
      | val mly hoy' hmy hvy hr =>
        rename_i oy' vy
        rw [hoy] at hoy'; cases hoy'
        exfalso
        have ug : Yd P ops oy vy a w := ydy a v vy w (hvy _ w (ha.put _ _) hlf (.inr (by rw [vis_skips _ hAy]; exact own_vis y hown)))
        have k1 := hw0 _ (ha.put ox.dst v0)
        rw [wxy] at k1
        rcases ug with ⟨_, u2⟩ | ⟨u1, _⟩
        · rw [k0] at u2
          have := congrArg (fun r : Result Next => match r with | .ok _ w => w.heap.size | .halt _ _ => 0) u2
          simp at this
        · rw [u1] at k1; cases k1
      | new hoy' hc' hw nv t cs hx hr =>
        rw [hoy] at hoy'; cases hoy'
        have k2 := hx _ w (ha.put ox.dst v)
        rw [exy, k0] at k2
        injection k2 with k3 k4
        injection k3 with k5
        have e1 := NewV.val_inj k5
        have e2 : Obj.cells cs0 t0 = Obj.cells cs t := by
          have h5 : w.heap.push (Obj.cells cs0 t0) = w.heap.push (Obj.cells cs t) := congrArg World.heap k4
          exact (Array.push_eq_push.1 h5).1
        injection e2 with e3 e4
        subst e1 e3 e4
        exact (hr gy).congr (hcomm _ _) (List.perm_middle)
      | rel hoy' hc' hw C hx hr => rw [hc] at hc'; cases hc'
      | gen hoy' hc' hw C hx hl hr => rw [hc] at hc'; cases hc'
    | rel hoy' hc hw C hx hr => rw [hcx, hc] at hcl; cases hcl
    | gen hoy' hc hw C hx hl hr => rw [hcx, hc] at hcl; cases hcl
  | gen hox' hcx hwx Cx hxx hlx hy =>
    rw [hox] at hox'; cases hox'
    obtain ⟨v0, w0', L0, hC0, hO0⟩ := (hxx a w ha hown).some
    have xgen : ∀ {u : Value}, ∀ a w, Sat n ds (E.put oy.dst u) a → Own w0 K w (Ln.map (·.2) ++ Ls) →
        RunsTo P (execOp a.eval ox) w (fun v w' => ∃ L', Cx v L' ∧ Own w0 K w' L') := by
      intro u a w hs ho
      obtain ⟨a0, hs0, rfl⟩ := hs.unput
      rw [exx]; exact hxx a0 w hs0 ho
    have hy0 := hy v0 L0 hC0
    cases hy0 with
    | void hd => exact (hd _ _ (ha.put _ _) (by simpa using hO0) (hlx _ _ hC0 _ hO0)).elim
    | val mly0 hoy' hmy0 hvy0 hr0 =>
      rename_i oy' vy0
      rw [hoy] at hoy'; cases hoy'
      have hml0 : mly0 = true := hmy0.resolve_right fun he => by rw [he, hcx] at hcl; cases hcl
      have u0 : Yd P ops oy vy0 a w := ydy a v0 vy0 w (hvy0 _ w (ha.put _ _) hlf (.inl hml0))
      refine .val mly0 hoy hmy0 (fun a w hs hf hw => ydy a v0 vy0 w (hvy0 _ w (hs.put _ _) hf (.inl hml0))) ?_
      refine .gen hox hcx (xw hwx) Cx xgen hlx fun v L' hC => ?_
      have hyg := hy v L' hC
      cases hyg with
      | void hd => exact (gone hd (.refl _)).congr (hcomm _ _) (.refl _)
      | val mly hoy' hmy hvy hr =>
        rename_i oy' vy
        rw [hoy] at hoy'; cases hoy'
        have hml : mly = true := hmy.resolve_right fun he => by rw [he, hcx] at hcl; cases hcl
        have ug : Yd P ops oy vy a w := ydy a v vy w (hvy _ w (ha.put _ _) hlf (.inl hml))
        obtain rfl := ug.unique u0
        exact hr.congr (hcomm _ _) (.refl _)
      | new hoy' hc hw nv t cs hx hr => rw [hcx, hc] at hcl; cases hcl
      | rel hoy' hc hw C hx hr => rw [hcx, hc] at hcl; cases hcl
      | gen hoy' hc hw C hx hl hr => rw [hcx, hc] at hcl; cases hcl
    | new hoy' hc hw nv t cs hx hr => rw [hcx, hc] at hcl; cases hcl
    | rel hoy' hc hw C hx hr => rw [hcx, hc] at hcl; cases hcl
    | gen hoy' hc hw C hx hl hr => rw [hcx, hc] at hcl; cases hcl
end
end Go.Fl
