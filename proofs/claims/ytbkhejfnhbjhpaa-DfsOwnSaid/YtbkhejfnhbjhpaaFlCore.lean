/- A walk by slots and owned memory: the state of a walk is a list of slots with their values and a list of pieces of memory that the call owns; the rules of single operations, and of regions that draw their order. -/
import Derived.WalkKit
import Derived.Orders
set_option linter.unusedVariables false
set_option linter.unusedSimpArgs false
namespace Go.Fl
open Go

/-! ### slots -/
abbrev Env := List (Nat × Value)
def Env.get : Env → Nat → Option Value
  | [], _ => none
  | (k, v) :: r, t => bif Nat.beq k t then some v else Env.get r t
def Env.put (E : Env) (d : Option Tmp) (v : Value) : Env :=
  match d with
  | none => E
  | some d => (d, v) :: E
theorem Env.get_cons (E : Env) (d : Nat) (v : Value) (t : Nat) : Env.get ((d, v) :: E) t = if d = t then some v else E.get t := by
  show (bif Nat.beq d t then some v else Env.get E t) = _
  by_cases h : d = t
  · subst h; simp
  · have : Nat.beq d t = false := by rw [Bool.eq_false_iff]; exact fun e => h (Nat.eq_of_beq_eq_true e)
    rw [this, if_neg h]; rfl
theorem Env.put_comm (E : Env) (x y : Option Tmp) (v u : Value) (h : ∀ d, x = some d → y ≠ some d) (t : Nat) :
    ((E.put x v).put y u).get t = ((E.put y u).put x v).get t := by
  cases x with
  | none => rfl
  | some d =>
    cases y with
    | none => rfl
    | some e =>
      have hne : d ≠ e := fun he => h d rfl (he ▸ rfl)
      simp only [Env.put, Env.get_cons]
      by_cases h1 : e = t
      · subst h1; simp [hne]
      · simp [h1]

structure Sat (n : Nat) (ds : List Deferred) (E : Env) (a : Act) : Prop where
  size : a.tmps.size = n
  defers : a.defers = ds
  has : ∀ t v, E.get t = some v → t < n → a.tmps[t]? = some v

def ev (n : Nat) (E : Env) : Operand → Option Value
  | .tmp t => bif Nat.blt t n then E.get t else none
  | .const v => some v
  | .global g => some (.pointer (some ⟨g, 0, none⟩))
  | .func f => some (.func (.func f) #[] #[])

section
variable {n : Nat} {ds : List Deferred} {E E' : Env} {a : Act} {x : Operand} {v : Value}
theorem Sat.ev (h : Sat n ds E a) (hx : ev n E x = some v) : a.eval x = v := by
  cases x with
  | tmp t =>
    replace hx : (bif Nat.blt t n then E.get t else none) = some v := hx
    cases hb : Nat.blt t n with
    | false => rw [hb] at hx; cases hx
    | true =>
      rw [hb] at hx
      have hlt : t < n := by rw [Nat.blt_eq] at hb; exact hb
      have := h.has t v hx hlt
      simp [Act.eval, Array.getD_eq_getD_getElem?, this]
  | const v' => simp [Fl.ev] at hx; simp [Act.eval, hx]
  | global g => simp [Fl.ev] at hx; simp [Act.eval, hx]
  | func f => simp [Fl.ev] at hx; simp [Act.eval, hx]

theorem Sat.put (h : Sat n ds E a) (d : Option Tmp) (v : Value) : Sat n ds (E.put d v) (a.put d v) := by
  cases d with
  | none => exact h
  | some d =>
    refine ⟨by simp [Act.put, h.size], h.defers, fun t u hu ht => ?_⟩
    simp only [Env.put, Env.get_cons] at hu
    simp only [Act.put]
    by_cases hd : d = t
    · subst hd
      simp at hu; subst hu
      simp [h.size, ht]
    · rw [if_neg hd] at hu
      rw [Array.getElem?_setIfInBounds_ne hd]
      exact h.has t u hu ht

theorem Sat.mono (h : Sat n ds E a) (hs : ∀ t v, E'.get t = some v → E.get t = some v) : Sat n ds E' a :=
  ⟨h.size, h.defers, fun t v ht hl => h.has t v (hs t v ht) hl⟩

theorem Sat.unput {d : Option Tmp} (h : Sat n ds (E.put d v) a) : ∃ a0, Sat n ds E a0 ∧ a = a0.put d v := by
  cases d with
  | none => exact ⟨a, h, rfl⟩
  | some d =>
    by_cases hd : d < n
    · have hv : a.tmps[d]? = some v := h.has d v (by simp [Env.put, Env.get_cons]) hd
      have back : ∀ u, (a.put (some d) u).put (some d) v = a := fun u => by
        have hsz : d < a.tmps.size := by rw [h.size]; exact hd
        cases a with
        | mk tm df =>
          simp only [Act.put, Act.mk.injEq, and_true]
          apply Array.ext_getElem?
          intro i
          by_cases hi : d = i
          · subst hi
            simp at hv ⊢
            have : d < tm.size := hsz
            simp [this] at hv ⊢
            exact hv.symm
          · rw [Array.getElem?_setIfInBounds_ne hi, Array.getElem?_setIfInBounds_ne hi]
      cases hg : E.get d with
      | none =>
        refine ⟨a, h.mono (fun t u hu => ?_), ?_⟩
        · simp only [Env.put, Env.get_cons]
          have : d ≠ t := fun e => by subst e; rw [hg] at hu; cases hu
          rw [if_neg this]; exact hu
        · have := back v
          have h2 : a.put (some d) v = a := by
            have hsz : d < a.tmps.size := by rw [h.size]; exact hd
            cases a with
            | mk tm df =>
              simp only [Act.put, Act.mk.injEq, and_true]
              apply Array.ext_getElem?
              intro i
              by_cases hi : d = i
              · subst hi
                simp at hv ⊢
                have : d < tm.size := hsz
                simp [this] at hv ⊢
                exact hv.symm
              · rw [Array.getElem?_setIfInBounds_ne hi]
          exact h2.symm
      | some u =>
        refine ⟨a.put (some d) u, ⟨by simp [Act.put, h.size], h.defers, fun t x hx ht => ?_⟩, (back u).symm⟩
        simp only [Act.put]
        by_cases he : d = t
        · subst he
          rw [hg] at hx; cases hx
          have : d < a.tmps.size := by rw [h.size]; exact hd
          simp [this]
        · rw [Array.getElem?_setIfInBounds_ne he]
          exact h.has t x (by simp only [Env.put, Env.get_cons]; rw [if_neg he]; exact hx) ht
    · refine ⟨a, ⟨h.size, h.defers, fun t x hx ht => h.has t x (by simp only [Env.put, Env.get_cons]; rw [if_neg (show ¬ d = t from fun e => hd (by rw [e]; exact ht))]; exact hx) ht⟩, ?_⟩
      cases a with
      | mk tm df =>
        have hs : tm.size = n := h.size
        simp only [Act.put, Act.mk.injEq, and_true]
        apply Array.ext_getElem?
        intro i
        by_cases hi : d = i
        · subst hi
          have : ¬ d < tm.size := hs ▸ hd
          simp [this]
        · rw [Array.getElem?_setIfInBounds_ne hi]
end

/-! ### memory -/
structure Chunk where
  ids : List Nat
  holds : World → Prop
  loc : ∀ w w' : World, (∀ g, g ∈ ids → w'.heap[g]? = w.heap[g]?) → holds w → holds w'

def blk (g t : Nat) (cs : Array Value) : Chunk :=
  ⟨[g], fun w => w.heap[g]? = some (.cells cs t (0, 0)), fun w w' h hh => (h g (List.mem_cons_self ..)).trans hh⟩

def idsOf (L : List Chunk) : List Nat := L.flatMap Chunk.ids
@[simp] theorem idsOf_nil : idsOf [] = [] := rfl
@[simp] theorem idsOf_cons (c : Chunk) (L : List Chunk) : idsOf (c :: L) = c.ids ++ idsOf L := by simp [idsOf]
@[simp] theorem idsOf_append (L M : List Chunk) : idsOf (L ++ M) = idsOf L ++ idsOf M := by simp [idsOf]
theorem mem_idsOf {L : List Chunk} {g : Nat} : g ∈ idsOf L ↔ ∃ c ∈ L, g ∈ c.ids := by simp [idsOf]

structure Own (w0 : World) (K : List Nat) (w : World) (L : List Chunk) : Prop where
  os : w.os = w0.os
  tape : w.tape = w0.tape
  output : w.output = w0.output
  size : w0.heap.size ≤ w.heap.size
  old : ∀ k, k < w0.heap.size → k ∉ K → w.heap[k]? = w0.heap[k]?
  nodup : (idsOf L).Nodup
  fresh : ∀ g, g ∈ idsOf L → g ∈ K ∨ w0.heap.size ≤ g
  lt : ∀ g, g ∈ idsOf L → g < w.heap.size
  holds : ∀ c, c ∈ L → c.holds w

section
variable {w0 w w' : World} {K K' : List Nat} {L L' F : List Chunk}

theorem Own.start (w : World) (K : List Nat) : Own w K w [] :=
  ⟨rfl, rfl, rfl, Nat.le_refl _, fun _ _ _ => rfl, by simp, by simp, by simp, by simp⟩

theorem Own.perm (h : Own w0 K w L) (hp : L'.Perm L) : Own w0 K w L' := by
  have hi : (idsOf L').Perm (idsOf L) := hp.flatMap_right _
  exact ⟨h.os, h.tape, h.output, h.size, h.old, hi.nodup_iff.2 h.nodup, fun g hg => h.fresh g (hi.mem_iff.1 hg), fun g hg => h.lt g (hi.mem_iff.1 hg),
    fun c hc => h.holds c (hp.mem_iff.1 hc)⟩

theorem idsOf_sublist (hs : L'.Sublist L) : (idsOf L').Sublist (idsOf L) := by
  induction hs with
  | slnil => exact List.Sublist.refl _
  | cons a _ ih => simp only [idsOf_cons]; exact ih.trans (List.sublist_append_right _ _)
  | cons_cons a _ ih => simp only [idsOf_cons]; exact ih.append_left _

theorem Own.sub (h : Own w0 K w L) (hs : L'.Sublist L) : Own w0 K w L' := by
  have hi := idsOf_sublist hs
  exact ⟨h.os, h.tape, h.output, h.size, h.old, hi.nodup h.nodup, fun g hg => h.fresh g (hi.subset hg), fun g hg => h.lt g (hi.subset hg),
    fun c hc => h.holds c (hs.subset hc)⟩

theorem Own.drew (h : Own w0 K w L) : Own w0 K { w with drawn := w.drawn + 1 } L :=
  ⟨h.os, h.tape, h.output, h.size, h.old, h.nodup, h.fresh, h.lt, fun c hc => c.loc w _ (fun _ _ => rfl) (h.holds c hc)⟩

theorem Own.anyDrawn (h : Own w0 K w L) (d : Nat) : Own w0 K { w with drawn := d } L :=
  ⟨h.os, h.tape, h.output, h.size, h.old, h.nodup, h.fresh, h.lt, fun c hc => c.loc w _ (fun _ _ => rfl) (h.holds c hc)⟩

/-- What a call or a step leaves, beside what it did not touch. -/
theorem Own.frame {Lc : List Chunk} (h : Own w0 K w (Lc ++ F)) (hc : Own w K' w' L') (hK : ∀ k, k ∈ K' → k ∈ idsOf Lc) : Own w0 K w' (L' ++ F) := by
  have hnd := h.nodup
  rw [idsOf_append, List.nodup_append] at hnd
  obtain ⟨_, hndF, hdis⟩ := hnd
  have hF : ∀ g, g ∈ idsOf F → g ∉ K' := fun g hg hk => hdis g (hK g hk) g hg rfl
  have hFlt : ∀ g, g ∈ idsOf F → g < w.heap.size := fun g hg => h.lt g (by simp [hg])
  refine ⟨hc.os.trans h.os, hc.tape.trans h.tape, hc.output.trans h.output, Nat.le_trans h.size hc.size, ?_, ?_, ?_, ?_, ?_⟩
  · intro k hk hnk
    rw [hc.old k (Nat.lt_of_lt_of_le hk h.size) (fun hk' => ?_)]
    · exact h.old k hk hnk
    · rcases h.fresh k (by rw [idsOf_append]; exact List.mem_append_left _ (hK k hk')) with h1 | h1
      · exact hnk h1
      · omega
  · rw [idsOf_append, List.nodup_append]
    refine ⟨hc.nodup, hndF, fun a ha b hb hab => ?_⟩
    subst hab
    rcases hc.fresh a ha with h1 | h1
    · exact hF a hb h1
    · have := hFlt a hb; omega
  · intro g hg
    rw [idsOf_append, List.mem_append] at hg
    rcases hg with hg | hg
    · rcases hc.fresh g hg with h1 | h1
      · exact h.fresh g (by rw [idsOf_append]; exact List.mem_append_left _ (hK g h1))
      · exact .inr (Nat.le_trans h.size h1)
    · exact h.fresh g (by rw [idsOf_append]; exact List.mem_append_right _ hg)
  · intro g hg
    rw [idsOf_append, List.mem_append] at hg
    rcases hg with hg | hg
    · exact hc.lt g hg
    · exact Nat.lt_of_lt_of_le (hFlt g hg) hc.size
  · intro c hcm
    rw [List.mem_append] at hcm
    rcases hcm with hcm | hcm
    · exact hc.holds c hcm
    · refine c.loc w w' (fun g hg => ?_) (h.holds c (List.mem_append_right _ hcm))
      have hgF : g ∈ idsOf F := mem_idsOf.2 ⟨c, hcm, hg⟩
      exact hc.old g (hFlt g hgF) (hF g hgF)

theorem Own.add (h : Own w0 K w F) (hc : Own w [] w' L') : Own w0 K w' (L' ++ F) :=
  Own.frame (Lc := []) h hc (fun k hk => by simp at hk)

theorem Own.alloc1 (w : World) (t : Nat) (cs : Array Value) : Own w [] (w.alloc (.cells cs t)) [blk w.heap.size t cs] := by
  refine ⟨rfl, rfl, rfl, by simp, fun k hk _ => ?_, by simp [blk], fun g hg => ?_, fun g hg => ?_, fun c hc => ?_⟩
  · simp only [World.alloc, Array.getElem?_push]; rw [if_neg (by omega)]
  · simp [blk] at hg; subst hg; exact .inr (Nat.le_refl _)
  · simp [blk] at hg; subst hg; simp
  · simp at hc; subst hc
    show (w.heap.push _)[w.heap.size]? = _
    simp

theorem Own.alloc (h : Own w0 K w L) (t : Nat) (cs : Array Value) : Own w0 K (w.alloc (.cells cs t)) (blk w.heap.size t cs :: L) :=
  h.add (Own.alloc1 w t cs)

theorem Own.set1 {g t : Nat} {cs : Array Value} (hg : w.heap[g]? = some (.cells cs t (0, 0))) (i : Nat) (v : Value) :
    Own w [g] (w.setCell ⟨g, i, none⟩ v) [blk g t (cs.setIfInBounds i v)] := by
  have hlt : g < w.heap.size := (Array.getElem?_eq_some_iff.1 hg).1
  refine ⟨rfl, rfl, rfl, by simp, fun k hk hn => ?_, by simp [blk], fun x hx => ?_, fun x hx => ?_, fun c hc => ?_⟩
  · simp at hn
    simp only [World.setCell, Array.getElem?_modify]
    rw [if_neg (by omega)]
  · simp [blk] at hx; subst hx; exact .inl (by simp)
  · simp [blk] at hx; subst hx; simpa using hlt
  · simp at hc; subst hc
    simp [blk, World.setCell, Array.getElem?_modify, hg]

theorem Own.set {g t : Nat} {cs : Array Value} (h : Own w0 K w (blk g t cs :: L)) (i : Nat) (v : Value) :
    Own w0 K (w.setCell ⟨g, i, none⟩ v) (blk g t (cs.setIfInBounds i v) :: L) :=
  Own.frame (Lc := [blk g t cs]) h (Own.set1 (h.holds _ (List.mem_cons_self ..)) i v) (fun k hk => by simp [blk] at hk ⊢; exact hk)

theorem Own.oldCell (h : Own w0 K w L) {p : Addr} (hp : p.block < w0.heap.size) (hn : p.block ∉ K) : w.cell? p = w0.cell? p :=
  World.cell?_of_block (h.old p.block hp hn)
end

end Go.Fl
