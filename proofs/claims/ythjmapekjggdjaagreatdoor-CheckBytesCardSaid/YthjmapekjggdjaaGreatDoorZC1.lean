/- Part 1 of the proof: the library of the walk and the walks, in build order; no condition. -/
import Derived.WalkKit
import Derived.Orders
import Derived.Deep.LoopGhost
import Derived.IntWalk
import Derived.Test.YthjmapekjggdjaaGreatDoorProg
import Derived.KernelRfl
import Derived.Shelf.SlSortCmp.NoneTotal
import Derived.Shelf.SlicesG.Cmp
import Derived.Ground.SlsfProg
import Derived.Ground.SlgcProg
import Derived.Test.YthjmapekjggdjaaGreatDoorChecked
import Derived.Below
import Derived.Defers
import Derived.Recover
import Derived.MapKept
import Derived.ChangeKeysEq
import Derived.WideKeyRuns
import Derived.Lib.ItoaNum
import Derived.Lib.Join
import Derived.Sort.Grow
import Derived.Deep.Draws
import Derived.Shelf.Strings.Builder1
import Derived.Shelf.Strings.OnBuilder
import Derived.Shelf.LaysM
import Derived.Shelf.Strconv.Itoa3
import Derived.Shelf.Slices.Reverse
import Derived.Ground.Names2Prog
import Derived.Shelf.Slices.Clone
import Derived.Sort.Row
import Derived.Maps.RangeRun
import Derived.Lib.AppendStr
import Derived.Lib.UnsafeStr
import Derived.Laws.IdiomStrings
import Derived.Scope
import Derived.Lib.SlBytesConst
import Derived.Lib.SmallJoins
import Derived.Deep.SlicePairs
import Derived.Deep.Fields
import Derived.Carry
import Derived.ChangeSlices
import Derived.SizedLaws
import Derived.Lib.LaidU8
import Derived.LaidMore
import Derived.Handed
import Derived.JoinedOf
import Derived.ProofKit
import Derived.OpenShut
import Derived.ChangeOld
import Derived.SevenTiedAt
import Derived.Test.YthjmapekjggdjaaGreatDoorRows
import Derived.Test.YthjmapekjggdjaaGreatDoorTie
import Derived.Test.YthjmapekjggdjaaGreatDoorCards
section
open Go Go.Proofs
abbrev Tz := @List.getElem?_eq_getElem
abbrev TA := @List.getElem?_eq_some_iff
abbrev TB := @Nat.le_of_ble_eq_true
abbrev TC := @Int.toNat_natCast
abbrev TD := @List.mem_of_getElem?
abbrev TE := @Nat.lt_succ_iff_lt_or_eq
abbrev TF := @List.mem_iff_getElem?
abbrev TG := @List.sublist_cons_self
abbrev TH := @List.nil_sublist
abbrev TI := @List.mem_cons_self
abbrev TJ := @Int.eq_ofNat_of_zero_le
abbrev TK := @List.getElem?_append_left
abbrev TL := @List.getElem?_append_right
abbrev TM := @List.mem_cons_of_mem
abbrev TN := @List.mem_range
abbrev TO := @List.eq_nil_of_length_eq_zero
abbrev TP := @Array.getElem?_eq_some_iff
abbrev TQ := @List.getElem?_eq_none
abbrev TR := @List.perm_append_comm
abbrev TS := @Nat.not_lt_zero
abbrev TT := @Tryz.underlying44
abbrev TU := @Tryz.underlying22
abbrev TV := @Tryz.underlying47
abbrev TW := @Tryz.underlying25
abbrev TX := @Tryz.underlying131
abbrev TY := @Tryz.underlying59
abbrev TZ := @Tryz.underlying188
end
set_option linter.unusedVariables false
set_option linter.unusedSimpArgs false
set_option linter.unusedSectionVars false
set_option maxRecDepth 100000
namespace Go.Fl
open Go
/-! ### slots -/
abbrev Env := List (Nat × Value)
def Env.get : Env → Nat → Option Value
 | [], _ => none
 | (k, v) :: r, t => bif Nat.beq k t then some v else Env.get r t
def Env.put (E : Env) (d : Option Tmp) (v : Value) : Env :=
 match d with
 | none => E
 | some d => (d, v) :: E
theorem Br (E : Env) (d : Nat) (v : Value) (t : Nat) : Env.get ((d, v) :: E) t = if d = t then some v else E.get t := by
 show (bif Nat.beq d t then some v else Env.get E t) = _
 by_cases h : d = t
 ·subst h; simp
 have : Nat.beq d t = false := by rw [Bool.eq_false_iff]; exact fun e => h (Nat.eq_of_beq_eq_true e)
 rw [this, if_neg h]; rfl
theorem Kl (E : Env) (x y : Option Tmp) (v u : Value) (h : ∀ d, x = some d → y ≠ some d) (t : Nat) :
  ((E.put x v).put y u).get t = ((E.put y u).put x v).get t := by
 cases x with
 | none => rfl
 | some d =>
  cases y with
  | none => rfl
  | some e =>
   have hne : d ≠ e := fun he => h d rfl (he ▸ rfl)
   simp only [Env.put, Br]
   by_cases h1 : e = t
   ·subst h1; simp [hne]
   simp [h1]
structure Sat (n : Nat) (ds : List Deferred) (E : Env) (a : Act) : Prop where
 size : a.tmps.size = n
 defers : a.defers = ds
 has : ∀ t v, E.get t = some v → t < n → a.tmps[t]? = some v
def ev (n : Nat) (E : Env) : Operand → Option Value
 | .tmp t => bif Nat.blt t n then E.get t else none
 | .const v => some v
 | .global g => some (.pointer (some ⟨g, 0, none⟩))
 | .func f => some (.func (.func f) #[] #[])
section
variable {n : Nat} {ds : List Deferred} {E E' : Env} {a : Act} {x : Operand} {v : Value}
theorem Sat.ev (h : Sat n ds E a) (hx : ev n E x = some v) : a.eval x = v := by
 cases x with
 | tmp t =>
  replace hx : (bif Nat.blt t n then E.get t else none) = some v := hx
  cases hb : Nat.blt t n with
  | false => rw [hb] at hx; cases hx
  | true =>
   rw [hb] at hx
   have hlt : t < n := by rw [Nat.blt_eq] at hb; exact hb
   have := h.has t v hx hlt
   simp [Act.eval, Array.getD_eq_getD_getElem?, this]
 | const v' => simp [Fl.ev] at hx; simp [Act.eval, hx]
 | global g => simp [Fl.ev] at hx; simp [Act.eval, hx]
 | func f => simp [Fl.ev] at hx; simp [Act.eval, hx]
theorem Sat.put (h : Sat n ds E a) (d : Option Tmp) (v : Value) : Sat n ds (E.put d v) (a.put d v) := by
 cases d with
 | none => exact h
 | some d =>
  refine ⟨by simp [Act.put, h.size], h.defers, fun t u hu ht => ?_⟩
  simp only [Env.put, Br] at hu
  simp only [Act.put]
  by_cases hd : d = t
  ·subst hd
   simp at hu; subst hu
   simp [h.size, ht]
  rw [if_neg hd] at hu
  rw [Array.getElem?_setIfInBounds_ne hd]
  exact h.has t u hu ht
theorem Sat.mono (h : Sat n ds E a) (hs : ∀ t v, E'.get t = some v → E.get t = some v) : Sat n ds E' a :=
 ⟨h.size, h.defers, fun t v ht hl => h.has t v (hs t v ht) hl⟩
theorem Sat.unput {d : Option Tmp} (h : Sat n ds (E.put d v) a) : ∃ a0, Sat n ds E a0 ∧ a = a0.put d v := by
 cases d with
 | none => exact ⟨a, h, rfl⟩
 | some d =>
  by_cases hd : d < n
  ·have hv : a.tmps[d]? = some v := h.has d v (by simp [Env.put, Br]) hd
   have back : ∀ u, (a.put (some d) u).put (some d) v = a := fun u => by
    have hsz : d < a.tmps.size := by rw [h.size]; exact hd
    cases a with
    | mk tm df =>
     simp only [Act.put, Act.mk.injEq, and_true]
     apply Array.ext_getElem?
     intro i
     by_cases hi : d = i
     ·subst hi
      simp at hv ⊢
      have : d < tm.size := hsz
      simp [this] at hv ⊢
      exact hv.symm
     rw [Array.getElem?_setIfInBounds_ne hi, Array.getElem?_setIfInBounds_ne hi]
   cases hg : E.get d with
   | none =>
    refine ⟨a, h.mono (fun t u hu => ?_), ?_⟩
    ·simp only [Env.put, Br]
     have : d ≠ t := fun e => by subst e; rw [hg] at hu; cases hu
     rw [if_neg this]; exact hu
    have := back v
    have h2 : a.put (some d) v = a := by
     have hsz : d < a.tmps.size := by rw [h.size]; exact hd
     cases a with
     | mk tm df =>
      simp only [Act.put, Act.mk.injEq, and_true]
      apply Array.ext_getElem?
      intro i
      by_cases hi : d = i
      ·subst hi
       simp at hv ⊢
       have : d < tm.size := hsz
       simp [this] at hv ⊢
       exact hv.symm
      rw [Array.getElem?_setIfInBounds_ne hi]
    exact h2.symm
   | some u =>
    refine ⟨a.put (some d) u, ⟨by simp [Act.put, h.size], h.defers, fun t x hx ht => ?_⟩, (back u).symm⟩
    simp only [Act.put]
    by_cases he : d = t
    ·subst he
     rw [hg] at hx; cases hx
     have : d < a.tmps.size := by rw [h.size]; exact hd
     simp [this]
    rw [Array.getElem?_setIfInBounds_ne he]
    exact h.has t x (by simp only [Env.put, Br]; rw [if_neg he]; exact hx) ht
  refine ⟨a, ⟨h.size, h.defers, fun t x hx ht => h.has t x (by simp only [Env.put, Br]; rw [if_neg (show ¬ d = t from fun e => hd (by rw [e]; exact ht))]; exact hx) ht⟩, ?_⟩
  cases a with
  | mk tm df =>
   have hs : tm.size = n := h.size
   simp only [Act.put, Act.mk.injEq, and_true]
   apply Array.ext_getElem?
   intro i
   by_cases hi : d = i
   ·subst hi
    have : ¬ d < tm.size := hs ▸ hd
    simp [this]
   rw [Array.getElem?_setIfInBounds_ne hi]
end
/-! ### memory -/
structure Chunk where
 ids : List Nat
 holds : World → Prop
 loc : ∀ w w' : World, (∀ g, g ∈ ids → w'.heap[g]? = w.heap[g]?) → holds w → holds w'
def blk (g t : Nat) (cs : Array Value) : Chunk :=
 ⟨[g], fun w => w.heap[g]? = some (.cells cs t (0, 0)), fun w w' h hh => (h g (TI ..)).trans hh⟩
def idsOf (L : List Chunk) : List Nat := L.flatMap Chunk.ids
@[simp] theorem idsOf_nil : idsOf [] = [] := rfl
@[simp] theorem idsOf_cons (c : Chunk) (L : List Chunk) : idsOf (c :: L) = c.ids ++ idsOf L := by simp [idsOf]
@[simp] theorem idsOf_append (L M : List Chunk) : idsOf (L ++ M) = idsOf L ++ idsOf M := by simp [idsOf]
theorem Gq {L : List Chunk} {g : Nat} : g ∈ idsOf L ↔ ∃ c ∈ L, g ∈ c.ids := by simp [idsOf]
/-- Whether the count of draws may go back (it never does; but not every contract of the library says so). -/
class Lo where
 p : Prop
variable [Lo]
theorem Lo.trans {a b c : Nat} (h : Lo.p ∨ a ≤ b) (k : Lo.p ∨ b ≤ c) : Lo.p ∨ a ≤ c := h.elim .inl fun x => k.elim .inl fun y => .inr (Nat.le_trans x y)
theorem Lo.refl (a : Nat) : Lo.p ∨ a ≤ a := .inr (Nat.le_refl _)
structure Own (w0 : World) (K : List Nat) (w : World) (L : List Chunk) : Prop where
 os : w.os = w0.os
 tape : w.tape = w0.tape
 output : w.output = w0.output
 drawn : Lo.p ∨ w0.drawn ≤ w.drawn
 size : w0.heap.size ≤ w.heap.size
 old : ∀ k, k < w0.heap.size → k ∉ K → w.heap[k]? = w0.heap[k]?
 nodup : (idsOf L).Nodup
 fresh : ∀ g, g ∈ idsOf L → g ∈ K ∨ w0.heap.size ≤ g
 lt : ∀ g, g ∈ idsOf L → g < w.heap.size
 holds : ∀ c, c ∈ L → c.holds w
section
variable {w0 w w' : World} {K K' : List Nat} {L L' F : List Chunk}
theorem Own.start (w : World) (K : List Nat) : Own w K w [] :=
 ⟨rfl, rfl, rfl, Lo.refl _, Nat.le_refl _, fun _ _ _ => rfl, by simp, by simp, by simp, by simp⟩
theorem Own.perm (h : Own w0 K w L) (hp : L'.Perm L) : Own w0 K w L' := by
 have hi : (idsOf L').Perm (idsOf L) := hp.flatMap_right _
 exact ⟨h.os, h.tape, h.output, h.drawn, h.size, h.old, hi.nodup_iff.2 h.nodup, fun g hg => h.fresh g (hi.mem_iff.1 hg), fun g hg => h.lt g (hi.mem_iff.1 hg),
  fun c hc => h.holds c (hp.mem_iff.1 hc)⟩
theorem IE (hs : L'.Sublist L) : (idsOf L').Sublist (idsOf L) := by
 induction hs with
 | slnil => exact List.Sublist.refl _
 | cons a _ ih => simp only [idsOf_cons]; exact ih.trans (List.sublist_append_right _ _)
 | cons_cons a _ ih => simp only [idsOf_cons]; exact ih.append_left _
theorem Own.sub (h : Own w0 K w L) (hs : L'.Sublist L) : Own w0 K w L' := by
 have hi := IE hs
 exact ⟨h.os, h.tape, h.output, h.drawn, h.size, h.old, hi.nodup h.nodup, fun g hg => h.fresh g (hi.subset hg), fun g hg => h.lt g (hi.subset hg),
  fun c hc => h.holds c (hs.subset hc)⟩
theorem Own.drew (h : Own w0 K w L) : Own w0 K { w with drawn := w.drawn + 1 } L :=
 ⟨h.os, h.tape, h.output, Lo.trans h.drawn (.inr (Nat.le_succ _)), h.size, h.old, h.nodup, h.fresh, h.lt, fun c hc => c.loc w _ (fun _ _ => rfl) (h.holds c hc)⟩
/-- What a call or a step leaves, beside what it did not touch. -/
theorem Own.frame {Lc : List Chunk} (h : Own w0 K w (Lc ++ F)) (hc : Own w K' w' L') (hK : ∀ k, k ∈ K' → k ∈ idsOf Lc) : Own w0 K w' (L' ++ F) := by
 have hnd := h.nodup
 rw [idsOf_append, List.nodup_append] at hnd
 obtain ⟨_, hndF, hdis⟩ := hnd
 have hF : ∀ g, g ∈ idsOf F → g ∉ K' := fun g hg hk => hdis g (hK g hk) g hg rfl
 have hFlt : ∀ g, g ∈ idsOf F → g < w.heap.size := fun g hg => h.lt g (by simp [hg])
 refine ⟨hc.os.trans h.os, hc.tape.trans h.tape, hc.output.trans h.output, Lo.trans h.drawn hc.drawn, Nat.le_trans h.size hc.size, ?_, ?_, ?_, ?_, ?_⟩
 ·intro k hk hnk
  rw [hc.old k (Nat.lt_of_lt_of_le hk h.size) (fun hk' => ?_)]
  ·exact h.old k hk hnk
  rcases h.fresh k (by rw [idsOf_append]; exact List.mem_append_left _ (hK k hk')) with h1 | h1
  ·exact hnk h1
  omega
 ·rw [idsOf_append, List.nodup_append]
  refine ⟨hc.nodup, hndF, fun a ha b hb hab => ?_⟩
  subst hab
  rcases hc.fresh a ha with h1 | h1
  ·exact hF a hb h1
  have := hFlt a hb; omega
 ·intro g hg
  rw [idsOf_append, List.mem_append] at hg
  rcases hg with hg | hg
  ·rcases hc.fresh g hg with h1 | h1
   ·exact h.fresh g (by rw [idsOf_append]; exact List.mem_append_left _ (hK g h1))
   exact .inr (Nat.le_trans h.size h1)
  exact h.fresh g (by rw [idsOf_append]; exact List.mem_append_right _ hg)
 ·intro g hg
  rw [idsOf_append, List.mem_append] at hg
  rcases hg with hg | hg
  ·exact hc.lt g hg
  exact Nat.lt_of_lt_of_le (hFlt g hg) hc.size
 intro c hcm
 rw [List.mem_append] at hcm
 rcases hcm with hcm | hcm
 ·exact hc.holds c hcm
 refine c.loc w w' (fun g hg => ?_) (h.holds c (List.mem_append_right _ hcm))
 have hgF : g ∈ idsOf F := Gq.2 ⟨c, hcm, hg⟩
 exact hc.old g (hFlt g hgF) (hF g hgF)
theorem Own.add (h : Own w0 K w F) (hc : Own w [] w' L') : Own w0 K w' (L' ++ F) :=
 Own.frame (Lc := []) h hc (fun k hk => by simp at hk)
theorem MQ (w : World) (t : Nat) (cs : Array Value) : Own w [] (w.alloc (.cells cs t)) [blk w.heap.size t cs] := by
 refine ⟨rfl, rfl, rfl, Lo.refl _, by simp, fun k hk _ => ?_, by simp [blk], fun g hg => ?_, fun g hg => ?_, fun c hc => ?_⟩
 ·simp only [World.alloc, Array.getElem?_push]; rw [if_neg (by omega)]
 ·simp [blk] at hg; subst hg; exact .inr (Nat.le_refl _)
 ·simp [blk] at hg; subst hg; simp
 simp at hc; subst hc
 show (w.heap.push _)[w.heap.size]? = _
 simp
theorem Own.alloc (h : Own w0 K w L) (t : Nat) (cs : Array Value) : Own w0 K (w.alloc (.cells cs t)) (blk w.heap.size t cs :: L) :=
 h.add (MQ w t cs)
theorem Qk {g t : Nat} {cs : Array Value} (hg : w.heap[g]? = some (.cells cs t (0, 0))) (i : Nat) (v : Value) :
  Own w [g] (w.setCell ⟨g, i, none⟩ v) [blk g t (cs.setIfInBounds i v)] := by
 have hlt : g < w.heap.size := (TP.1 hg).1
 refine ⟨rfl, rfl, rfl, Lo.refl _, by simp, fun k hk hn => ?_, by simp [blk], fun x hx => ?_, fun x hx => ?_, fun c hc => ?_⟩
 ·simp at hn
  simp only [World.setCell, Array.getElem?_modify]
  rw [if_neg (by omega)]
 ·simp [blk] at hx; subst hx; exact .inl (by simp)
 ·simp [blk] at hx; subst hx; simpa using hlt
 simp at hc; subst hc
 simp [blk, World.setCell, Array.getElem?_modify, hg]
theorem Own.set {g t : Nat} {cs : Array Value} (h : Own w0 K w (blk g t cs :: L)) (i : Nat) (v : Value) :
  Own w0 K (w.setCell ⟨g, i, none⟩ v) (blk g t (cs.setIfInBounds i v) :: L) :=
 Own.frame (Lc := [blk g t cs]) h (Qk (h.holds _ (TI ..)) i v) (fun k hk => by simp [blk] at hk ⊢; exact hk)
theorem Own.oldCell (h : Own w0 K w L) {p : Addr} (hp : p.block < w0.heap.size) (hn : p.block ∉ K) : w.cell? p = w0.cell? p :=
 World.cell?_of_block (h.old p.block hp hn)
end
end Go.Fl

namespace Go.Fl
open Go
variable [Lo]
/-- What an operation's meaning comes to, as a relation of its value and the world behind it. -/
def RunsTo (P : Program) (s : Sem Next) (w : World) (R : Value → World → Prop) : Prop :=
 match s.run P w with
 | .ok (.value v) w' => R v w'
 | .ok .skip w' => R undef w'
 | .ok (.enter f args) w' => Calls P f args w' (fun e w'' => ∃ v, e = .returned v ∧ R v w'')
 | .ok (.row row args) w' => Rows P row args w' R
 | _ => False
section
variable {P : Program} {s : Sem Next} {w : World} {R R' : Value → World → Prop}
theorem RunsTo.mono (h : RunsTo P s w R) (hr : ∀ v w', R v w' → R' v w') : RunsTo P s w R' := by
 unfold RunsTo at *
 generalize s.run P w = r at *
 cases r with
 | ok x w' =>
  cases x <;> first
   | exact h.elim
   | exact hr _ _ h
   | exact Calls.mono h (fun e w'' ⟨v, he, hv⟩ => ⟨v, he, hr _ _ hv⟩)
   | exact Rows.mono h hr
 | halt x w' => exact h.elim
theorem RunsTo.some (h : RunsTo P s w R) : ∃ v w', R v w' := by
 unfold RunsTo at h
 generalize s.run P w = r at h
 cases r with
 | ok x w' =>
  cases x <;> first
   | exact h.elim
   | exact ⟨_, _, h⟩
   | (obtain ⟨e, w'', fr, ⟨v, _, hv⟩, _⟩ := h []; exact ⟨v, w'', hv⟩)
   | (obtain ⟨v, w'', hv, _⟩ := h default []; exact ⟨v, w'', hv⟩)
 | halt x w' => exact h.elim
theorem RunsTo.wp {o : Oper} {a : Act} {next : Act → World → Prop} {Q : Exit → Act → World → Prop} (h : RunsTo P (execOp a.eval o) w R)
  (hn : ∀ v w', R v w' → next (a.put o.dst v) w') : o.wp P a w next Q := by
 unfold RunsTo at h
 unfold Oper.wp
 generalize (execOp a.eval o).run P w = r at h
 cases r with
 | ok x w' =>
  cases x <;> first
   | exact h.elim
   | exact hn _ _ h
   | exact Calls.mono h (fun e w'' ⟨v, he, hv⟩ => by subst he; exact hn _ _ hv)
   | exact Rows.mono h hn
 | halt x w' => exact h.elim
theorem RunsTo.value {v : Value} {w' : World} (h : s.run P w = .ok (.value v) w') (hR : R v w') : RunsTo P s w R := by
 unfold RunsTo; rw [h]; exact hR
end
/-- c: makes new pieces; what it leaves (C) hangs on nothing that the region makes. -/
inductive Cls | v | n | r | g | q | c (C : Value → List Chunk → Prop)
inductive NewV | ptr | sl (len cap : Nat)
def NewV.val : NewV → Nat → Value
 | .ptr, g => .pointer (some ⟨g, 0, none⟩)
 | .sl len cap, g => .slice (some ⟨g, 0, none⟩) len cap
theorem F8 {x y : NewV} {g : Nat} (h : x.val g = y.val g) : x = y := by
 cases x <;> cases y <;> simp [NewV.val] at h ⊢
 exact h
def vis (A : List Nat) (i : Nat) (Ln : List (Nat × Chunk)) : List Chunk := (Ln.filter fun p => (A.getD i 0).testBit p.1).map (·.2)
theorem C2 {A : List Nat} {i x : Nat} {Ln : List (Nat × Chunk)} (c : Chunk) (h : (A.getD i 0).testBit x = false) : vis A i ((x, c) :: Ln) = vis A i Ln := by
 unfold vis; rw [List.filter_cons_of_neg (by simp only [h]; decide)]
theorem CB {A : List Nat} {i x : Nat} {Ln : List (Nat × Chunk)} (L : List Chunk) (h : (A.getD i 0).testBit x = false) : vis A i (L.map (fun c => (x, c)) ++ Ln) = vis A i Ln := by
 induction L with
 | nil => rfl
 | cons c L ih => simp only [List.map_cons, List.cons_append]; rw [C2 _ h, ih]
theorem Qr (A : List Nat) (i : Nat) (Ln : List (Nat × Chunk)) : (vis A i Ln).Sublist (Ln.map (·.2)) := by
 unfold vis; exact List.filter_sublist.map _
theorem He {A : List Nat} {i : Nat} {Ln Ln' : List (Nat × Chunk)} (h : Ln'.Perm Ln) : (vis A i Ln').Perm (vis A i Ln) := (h.filter _).map _
/-- One operation: carried out, it leaves v and does nothing else; or its guard says no. -/
def Yd (P : Program) (ops : Array Oper) (o : Oper) (v : Value) (a : Act) (w : World) : Prop :=
 (Region.wanted o (yielded ops a.tmps) = true ∧ (execOp a.eval o).run P w = .ok (.value v) w) ∨ (Region.wanted o (yielded ops a.tmps) = false ∧ v = undef)
section
variable {P : Program} {ops : Array Oper}
theorem Yd.unique {o : Oper} {v u : Value} {a : Act} {w : World} (h : Yd P ops o v a w) (k : Yd P ops o u a w) : v = u := by
 rcases h with ⟨h1, h2⟩ | ⟨h1, h2⟩ <;> rcases k with ⟨k1, k2⟩ | ⟨k1, k2⟩
 ·rw [h2] at k2; cases k2; rfl
 ·rw [h1] at k1; cases k1
 ·rw [h1] at k1; cases k1
 rw [h2, k2]
theorem Yd.put {o : Oper} {v u : Value} {d : Option Tmp} {a : Act} {w : World} (hs : ∀ cs b, o.op ≠ .select cs b) (hd : ∀ t, d = some t → t ∉ o.looksAt ops) :
  Yd P ops o v (a.put d u) w ↔ Yd P ops o v a w := by
 unfold Yd
 rw [execOp_put o hs a d u hd, wanted_put o a d u hd]
end
section
variable (P : Program) (ops : Array Oper) (w0 : World) (K : List Nat) (n : Nat) (ds : List Deferred) (Lf : List Chunk) (cl : List Cls) (A : List Nat) (Q : Act → World → Prop)
/-- A walk over the operations of a region in the order of the list. Lf: pieces that stay as they are through the whole region; Ls: what the call owned before; Ln: what the region's own operations have made, each with its operation's number. -/
inductive Flow : List Nat → Env → List Chunk → List (Nat × Chunk) → Prop
 | done {E Ls Ln} : (∀ a w, Sat n ds E a → Own w0 K w (Ln.map (·.2) ++ Ls) → Q a w) → Flow [] E Ls Ln
 | void {l E Ls Ln} : (∀ a w, Sat n ds E a → Own w0 K w (Ln.map (·.2) ++ Ls) → Own w0 K w Lf → False) → Flow l E Ls Ln
 | val {i r E Ls Ln o v} (ml : Bool) (ho : ops[i]? = some o) (hm : ml = true ∨ cl.getD i .q = .v)
   (hv : ∀ a w, Sat n ds E a → Own w0 K w Lf → (ml = true ∨ Own w0 K w (vis A i Ln ++ Ls)) → Yd P ops o v a w)
   (h : Flow r (E.put o.dst v) Ls Ln) : Flow (i :: r) E Ls Ln
 | new {i r E Ls Ln o} (ho : ops[i]? = some o) (hc : cl.getD i .q = .n) (hw : ∀ a, Sat n ds E a → Region.wanted o (yielded ops a.tmps) = true) (nv : NewV) (t : Nat) (cs : Array Value)
   (hx : ∀ a w, Sat n ds E a → (execOp a.eval o).run P w = .ok (.value (nv.val w.heap.size)) (w.alloc (.cells cs t)))
   (h : ∀ g, Flow r (E.put o.dst (nv.val g)) Ls ((i, blk g t cs) :: Ln)) : Flow (i :: r) E Ls Ln
 | rel {i r E Ls Ln o} (ho : ops[i]? = some o) (hc : cl.getD i .q = .r) (hw : ∀ a, Sat n ds E a → Region.wanted o (yielded ops a.tmps) = true) (C : Value → List Chunk → Prop)
   (hx : ∀ a w, Sat n ds E a → Own w0 K w (vis A i Ln ++ Ls) → RunsTo P (execOp a.eval o) w (fun v w' => ∃ L', C v L' ∧ Own w [] w' L'))
   (h : ∀ v L', C v L' → Flow r (E.put o.dst v) Ls (L'.map (fun c => (i, c)) ++ Ln)) : Flow (i :: r) E Ls Ln
 | relc {i r E Ls Ln o} (C : Value → List Chunk → Prop) (ho : ops[i]? = some o) (hc : cl.getD i .q = .c C) (hne : ∀ v L', C v L' → idsOf L' ≠ []) (hw : ∀ a, Sat n ds E a → Region.wanted o (yielded ops a.tmps) = true)
   (hx : ∀ a w, Sat n ds E a → Own w0 K w (vis A i Ln ++ Ls) → RunsTo P (execOp a.eval o) w (fun v w' => ∃ L', C v L' ∧ Own w [] w' L'))
   (h : ∀ v L', C v L' → Flow r (E.put o.dst v) Ls (L'.map (fun c => (i, c)) ++ Ln)) : Flow (i :: r) E Ls Ln
 | gen {i r E Ls Ln o} (ho : ops[i]? = some o) (hc : cl.getD i .q = .g) (hw : ∀ a, Sat n ds E a → Region.wanted o (yielded ops a.tmps) = true) (C : Value → List Chunk → Prop)
   (hx : ∀ a w, Sat n ds E a → Own w0 K w (Ln.map (·.2) ++ Ls) → RunsTo P (execOp a.eval o) w (fun v w' => ∃ L', C v L' ∧ Own w0 K w' L'))
   (hl : ∀ v L', C v L' → ∀ w, Own w0 K w L' → Own w0 K w Lf)
   (h : ∀ v L', C v L' → Flow r (E.put o.dst v) L' []) : Flow (i :: r) E Ls Ln
end
section
variable {P : Program} {ops : Array Oper} {w0 : World} {K : List Nat} {n : Nat} {ds : List Deferred} {Lf : List Chunk} {cl : List Cls} {A : List Nat} {Q : Act → World → Prop}
theorem FE {E E' : Env} (h : ∀ t, E'.get t = E.get t) (d : Option Tmp) (v : Value) (t : Nat) : (E'.put d v).get t = (E.put d v).get t := by
 cases d with
 | none => exact h t
 | some d => simp only [Env.put, Br, h]
theorem Flow.congr {l : List Nat} {E : Env} {Ls : List Chunk} {Ln : List (Nat × Chunk)} (h : Flow P ops w0 K n ds Lf cl A Q l E Ls Ln) :
  ∀ {E' : Env} {Ln' : List (Nat × Chunk)}, (∀ t, E'.get t = E.get t) → Ln'.Perm Ln → Flow P ops w0 K n ds Lf cl A Q l E' Ls Ln' := by
 induction h with
 | done hd =>
  intro E' Ln' he hp
  exact .done fun a w hs hw => hd a w (hs.mono fun t v h => by rw [he]; exact h) (hw.perm ((hp.symm.map _).append_right _))
 | void hd =>
  intro E' Ln' he hp
  exact .void fun a w hs hw => hd a w (hs.mono fun t v h => by rw [he]; exact h) (hw.perm ((hp.symm.map _).append_right _))
 | val ml ho hm hv _ ih =>
  intro E' Ln' he hp
  exact .val ml ho hm (fun a w hs hf hw => hv a w (hs.mono fun t v h => by rw [he]; exact h) hf (hw.imp id fun hw => hw.perm ((He hp.symm).append_right _)))
   (ih (FE he _ _) hp)
 | new ho hc hw nv t cs hx _ ih =>
  intro E' Ln' he hp
  exact .new ho hc (fun a hs => hw a (hs.mono fun t v h => by rw [he]; exact h)) nv t cs (fun a w hs => hx a w (hs.mono fun t v h => by rw [he]; exact h))
   (fun g => ih g (FE he _ _) (hp.cons _))
 | rel ho hc hw C hx _ ih =>
  intro E' Ln' he hp
  exact .rel ho hc (fun a hs => hw a (hs.mono fun t v h => by rw [he]; exact h)) C
   (fun a w hs hw => hx a w (hs.mono fun t v h => by rw [he]; exact h) (hw.perm ((He hp.symm).append_right _)))
   (fun v L' hC => ih v L' hC (FE he _ _) (hp.append_left _))
 | relc C ho hc hne hw hx _ ih =>
  intro E' Ln' he hp
  exact .relc C ho hc hne (fun a hs => hw a (hs.mono fun t v h => by rw [he]; exact h))
   (fun a w hs hw => hx a w (hs.mono fun t v h => by rw [he]; exact h) (hw.perm ((He hp.symm).append_right _)))
   (fun v L' hC => ih v L' hC (FE he _ _) (hp.append_left _))
 | gen ho hc hw C hx hl _ ih =>
  intro E' Ln' he hp
  exact .gen ho hc (fun a hs => hw a (hs.mono fun t v h => by rw [he]; exact h)) C
   (fun a w hs hw => hx a w (hs.mono fun t v h => by rw [he]; exact h) (hw.perm ((hp.symm.map _).append_right _))) hl
   (fun v L' hC => ih v L' hC (FE he _ _) (List.Perm.refl _))
def clOk : Cls → Cls → Bool
 | .g, .q => true
 | .g, _ => false
 | .q, .g => true
 | _, .g => false
 | .n, .r => false
 | .r, .r => false
 | .c _, .r => false
 | _, _ => true
theorem Yd.no {o : Oper} {v : Value} {a : Act} {w : World} {C : Value → List Chunk → Prop} (h : Yd P ops o v a w) (hw : Region.wanted o (yielded ops a.tmps) = true)
  (hr : RunsTo P (execOp a.eval o) w (fun v w' => ∃ L', C v L' ∧ Own w [] w' L')) (hne : ∀ v L', C v L' → idsOf L' ≠ []) : False := by
 rcases h with ⟨_, h2⟩ | ⟨h1, _⟩
 ·unfold RunsTo at hr
  rw [h2] at hr
  obtain ⟨L', hC, hO⟩ := hr
  have h3 := hne _ _ hC
  obtain ⟨k, hk⟩ := List.exists_mem_of_ne_nil _ h3
  have h4 := hO.lt k hk
  rcases hO.fresh k hk with h5 | h5
  ·cases h5
  omega
 rw [h1] at hw; cases hw
theorem B5 {w : World} {Ls : List Chunk} {Ln : List (Nat × Chunk)} (i : Nat) (h : Own w0 K w (Ln.map (·.2) ++ Ls)) : Own w0 K w (vis A i Ln ++ Ls) :=
 h.sub ((Qr A i Ln).append_right _)
/-- Two neighbours that are not ordered change places. -/
theorem Flow.swap {x y : Nat} {r : List Nat} {E : Env} {Ls : List Chunk} {Ln : List (Nat × Chunk)} {ox oy : Oper} (hox : ops[x]? = some ox) (hoy : ops[y]? = some oy)
  (hsx : ∀ cs b, ox.op ≠ .select cs b) (hsy : ∀ cs b, oy.op ≠ .select cs b)
  (hap : ox.apart ops oy = true) (hcl : clOk (cl.getD x .q) (cl.getD y .q) = true) (hAy : (A.getD y 0).testBit x = false) (hAx : (A.getD x 0).testBit y = false)
  (h : Flow P ops w0 K n ds Lf cl A Q (x :: y :: r) E Ls Ln) : Flow P ops w0 K n ds Lf cl A Q (y :: x :: r) E Ls Ln := by
 by_cases hex : ∃ a w, Sat n ds E a ∧ Own w0 K w (Ln.map (·.2) ++ Ls) ∧ Own w0 K w Lf
 case neg => exact .void fun a w hs hw hf => hex ⟨a, w, hs, hw, hf⟩
 obtain ⟨a, w, ha, hown, hlf⟩ := hex
 -- nothing can be at a state behind both that nothing can be at behind x
 have gone : ∀ {u v : Value} {Ls' : List Chunk} {Ln1 Ln2 : List (Nat × Chunk)}, (∀ a w, Sat n ds (E.put ox.dst u) a → Own w0 K w (Ln1.map (·.2) ++ Ls') → Own w0 K w Lf → False) →
   ((Ln1.map (·.2) ++ Ls').Sublist (Ln2.map (·.2) ++ Ls')) → Flow P ops w0 K n ds Lf cl A Q r ((E.put ox.dst u).put oy.dst v) Ls' Ln2 := fun hv hs =>
  .void fun a w hsat hw hf => by
   obtain ⟨a0, hs0, rfl⟩ := hsat.unput
   exact hv a0 w hs0 (hw.sub hs) hf
 obtain ⟨h1, h2, h3⟩ := Oper.apart_spec hap
 have hcomm : ∀ (vx vy : Value) (t : Nat), ((E.put oy.dst vy).put ox.dst vx).get t = ((E.put ox.dst vx).put oy.dst vy).get t := fun vx vy t =>
  (Kl E ox.dst oy.dst vx vy h2 t).symm
 -- y at E, out of what is known of it behind x
 have exy : ∀ (b : Act) (u : Value), execOp (b.put ox.dst u).eval oy = execOp b.eval oy := fun b u => execOp_put oy hsy b ox.dst u h1
 have exx : ∀ (b : Act) (u : Value), execOp (b.put oy.dst u).eval ox = execOp b.eval ox := fun b u => execOp_put ox hsx b oy.dst u h3
 have wxy : ∀ (b : Act) (u : Value), Region.wanted oy (yielded ops (b.put ox.dst u).tmps) = Region.wanted oy (yielded ops b.tmps) := fun b u => wanted_put oy b ox.dst u h1
 have wxx : ∀ (b : Act) (u : Value), Region.wanted ox (yielded ops (b.put oy.dst u).tmps) = Region.wanted ox (yielded ops b.tmps) := fun b u => wanted_put ox b oy.dst u h3
 have ydy : ∀ (b : Act) (u v : Value) (w : World), Yd P ops oy v (b.put ox.dst u) w → Yd P ops oy v b w := fun b u v w => (Yd.put hsy h1).1
 have ydx : ∀ (b : Act) (u v : Value) (w : World), Yd P ops ox v b w → Yd P ops ox v (b.put oy.dst u) w := fun b u v w => (Yd.put hsx h3).2
 -- x behind y
 have xval : ∀ {mlx : Bool} {vx : Value} {u : Value} {Ls' : List Chunk} {Ln0 Ln' : List (Nat × Chunk)}, (∀ a w, Sat n ds E a → Own w0 K w Lf → (mlx = true ∨ Own w0 K w (vis A x Ln0 ++ Ls)) → Yd P ops ox vx a w) →
   (mlx = true ∨ (Ls' = Ls ∧ vis A x Ln' = vis A x Ln0)) → ∀ a w, Sat n ds (E.put oy.dst u) a → Own w0 K w Lf → (mlx = true ∨ Own w0 K w (vis A x Ln' ++ Ls')) → Yd P ops ox vx a w := by
  intro mlx vx u Ls' Ln0 Ln' hv hl a w hs hf hw
  obtain ⟨a0, hs0, rfl⟩ := hs.unput
  refine ydx _ _ _ _ (hv a0 w hs0 hf ?_)
  rcases hl with hl | ⟨rfl, hl⟩
  ·exact .inl hl
  rw [hl] at hw; exact hw
 have xw : ∀ {u : Value}, (∀ a, Sat n ds E a → Region.wanted ox (yielded ops a.tmps) = true) → ∀ a, Sat n ds (E.put oy.dst u) a → Region.wanted ox (yielded ops a.tmps) = true := by
  intro u hw a hs
  obtain ⟨a0, hs0, rfl⟩ := hs.unput
  rw [wxx]; exact hw a0 hs0
 have xr : ∀ (Cx : Value → List Chunk → Prop) (hnr : cl.getD y .q = .r → False) (hng : cl.getD y .q = .g → False) (hwx : ∀ a, Sat n ds E a → Region.wanted ox (yielded ops a.tmps) = true)
   (hxx : ∀ a w, Sat n ds E a → Own w0 K w (vis A x Ln ++ Ls) → RunsTo P (execOp a.eval ox) w (fun v w' => ∃ L', Cx v L' ∧ Own w [] w' L'))
   (hy : ∀ v L', Cx v L' → Flow P ops w0 K n ds Lf cl A Q (y :: r) (E.put ox.dst v) Ls (L'.map (fun c => (x, c)) ++ Ln))
   (mk : ∀ {E' : Env} {Ls' : List Chunk} {Ln' : List (Nat × Chunk)} {r' : List Nat}, (∀ a, Sat n ds E' a → Region.wanted ox (yielded ops a.tmps) = true) →
    (∀ a w, Sat n ds E' a → Own w0 K w (vis A x Ln' ++ Ls') → RunsTo P (execOp a.eval ox) w (fun v w' => ∃ L', Cx v L' ∧ Own w [] w' L')) →
    (∀ v L', Cx v L' → Flow P ops w0 K n ds Lf cl A Q r' (E'.put ox.dst v) Ls' (L'.map (fun c => (x, c)) ++ Ln')) → Flow P ops w0 K n ds Lf cl A Q (x :: r') E' Ls' Ln'),
   Flow P ops w0 K n ds Lf cl A Q (y :: x :: r) E Ls Ln := by
  intro Cx hnr hng hwx hxx hy mk
  obtain ⟨v0, w0', L0, hC0, hO0⟩ := (hxx a w ha (B5 x hown)).some
  have xrel : ∀ {u : Value} {Ln' : List (Nat × Chunk)}, vis A x Ln' = vis A x Ln → ∀ a w, Sat n ds (E.put oy.dst u) a → Own w0 K w (vis A x Ln' ++ Ls) →
    RunsTo P (execOp a.eval ox) w (fun v w' => ∃ L', Cx v L' ∧ Own w [] w' L') := by
   intro u Ln' hl a w hs ho
   obtain ⟨a0, hs0, rfl⟩ := hs.unput
   rw [exx]; rw [hl] at ho; exact hxx a0 w hs0 ho
  have hy0 := hy v0 L0 hC0
  cases hy0 with
  | void hd => exact (hd _ _ (ha.put _ _) (by have := hown.add hO0; simpa [Function.comp_def] using this) ((hlf.add hO0).sub (List.sublist_append_right _ _))).elim
  | val mly0 hoy' hmy0 hvy0 hr0 =>
   rename_i oy' vy0
   rw [hoy] at hoy'; cases hoy'
   have hvis : ∀ L : List Chunk, vis A y (L.map (fun c => (x, c)) ++ Ln) = vis A y Ln := fun L => CB _ hAy
   have u0 : Yd P ops oy vy0 a w := ydy a v0 vy0 w (hvy0 _ w (ha.put _ _) hlf (.inr (by rw [hvis]; exact B5 y hown)))
   refine .val mly0 hoy hmy0 (fun a w hs hf hw => ydy a v0 vy0 w (hvy0 _ w (hs.put _ _) hf (by rw [hvis]; exact hw))) ?_
   refine mk (xw hwx) (xrel rfl) fun v L' hC => ?_
   have hyg := hy v L' hC
   cases hyg with
   | void hd => exact (gone hd (.refl _)).congr (hcomm _ _) (.refl _)
   | val mly hoy' hmy hvy hr =>
    rename_i oy' vy
    rw [hoy] at hoy'; cases hoy'
    have ug : Yd P ops oy vy a w := ydy a v vy w (hvy _ w (ha.put _ _) hlf (.inr (by rw [hvis]; exact B5 y hown)))
    obtain rfl := ug.unique u0
    exact hr.congr (hcomm _ _) (.refl _)
   | new hoy' hc hw nv t cs hx hr =>
    rw [hoy] at hoy'; cases hoy'
    exfalso
    have k1 := hw _ (ha.put ox.dst v)
    have k2 := hx _ w (ha.put ox.dst v)
    rw [wxy] at k1
    rw [exy] at k2
    rcases u0 with ⟨_, u2⟩ | ⟨u1, _⟩
    ·rw [k2] at u2
     have := congrArg (fun r : Result Next => match r with | .ok _ w => w.heap.size | .halt _ _ => 0) u2
     simp at this
    rw [u1] at k1; cases k1
   | rel hoy' hc hw C hx hr => exact (hnr hc).elim
   | relc C hoy' hc hne hw hx hr =>
    rw [hoy] at hoy'; cases hoy'
    exfalso
    have k1 := hw _ (ha.put ox.dst v)
    have k2 := hx _ w (ha.put ox.dst v) (by rw [hvis]; exact B5 y hown)
    rw [wxy] at k1
    rw [exy] at k2
    exact u0.no k1 k2 hne
   | gen hoy' hc hw C hx hl hr => exact (hng hc).elim
  | new hoy' hc hw0 nv0 t0 cs0 hx0 hr0 =>
   rw [hoy] at hoy'; cases hoy'
   have k0 := hx0 _ w (ha.put ox.dst v0)
   rw [exy] at k0
   refine .new hoy hc (fun a hs => by rw [← wxy a v0]; exact hw0 _ (hs.put _ _)) nv0 t0 cs0 (fun a w hs => by rw [← exy a v0]; exact hx0 _ w (hs.put _ _)) fun gy => ?_
   refine mk (xw hwx) (xrel (C2 _ hAx)) fun v L' hC => ?_
   have hyg := hy v L' hC
   cases hyg with
   | void hd => exact (gone hd (Ln2 := (y, blk gy t0 cs0) :: (L'.map (fun c => (x, c)) ++ Ln)) (by simp)).congr (hcomm _ _) (List.perm_middle)
   | val mly hoy' hmy hvy hr =>
    rename_i oy' vy
    rw [hoy] at hoy'; cases hoy'
    exfalso
    have ug : Yd P ops oy vy a w := ydy a v vy w (hvy _ w (ha.put _ _) hlf (.inr (by rw [CB _ hAy]; exact B5 y hown)))
    have k1 := hw0 _ (ha.put ox.dst v0)
    rw [wxy] at k1
    rcases ug with ⟨_, u2⟩ | ⟨u1, _⟩
    ·rw [k0] at u2
     have := congrArg (fun r : Result Next => match r with | .ok _ w => w.heap.size | .halt _ _ => 0) u2
     simp at this
    rw [u1] at k1; cases k1
   | new hoy' hc' hw nv t cs hx hr =>
    rw [hoy] at hoy'; cases hoy'
    have k2 := hx _ w (ha.put ox.dst v)
    rw [exy, k0] at k2
    injection k2 with k3 k4
    injection k3 with k5
    have e1 := F8 k5
    have e2 : Obj.cells cs0 t0 = Obj.cells cs t := by
     have h5 : w.heap.push (Obj.cells cs0 t0) = w.heap.push (Obj.cells cs t) := congrArg World.heap k4
     exact (Array.push_eq_push.1 h5).1
    injection e2 with e3 e4
    subst e1 e3 e4
    exact (hr gy).congr (hcomm _ _) (List.perm_middle)
   | rel hoy' hc' hw C hx hr => rw [hc] at hc'; cases hc'
   | relc C hoy' hc' hne hw hx hr => rw [hc] at hc'; cases hc'
   | gen hoy' hc' hw C hx hl hr => rw [hc] at hc'; cases hc'
  | rel hoy' hc hw C hx hr => exact (hnr hc).elim
  | relc C0 hoy' hc hne hw0 hx0 hr0 =>
   rw [hoy] at hoy'; cases hoy'
   have k1 := hw0 _ (ha.put ox.dst v0)
   have k2 := hx0 _ w (ha.put ox.dst v0) (by rw [CB _ hAy]; exact B5 y hown)
   rw [wxy] at k1
   rw [exy] at k2
   refine .relc C0 hoy hc hne (fun a hs => by rw [← wxy a v0]; exact hw0 _ (hs.put _ _)) (fun a w hs ho => by rw [← exy a v0]; exact hx0 _ w (hs.put _ _) (by rw [CB _ hAy]; exact ho)) fun v L' hC => ?_
   refine mk (xw hwx) (xrel (CB _ hAx)) fun vx Lx hCx => ?_
   have hyg := hy vx Lx hCx
   have hpm : (Lx.map (fun c => (x, c)) ++ (L'.map (fun c => (y, c)) ++ Ln)).Perm (L'.map (fun c => (y, c)) ++ (Lx.map (fun c => (x, c)) ++ Ln)) := by
    rw [← List.append_assoc, ← List.append_assoc]; exact TR.append_right _
   cases hyg with
   | void hd => exact (gone hd (Ln2 := L'.map (fun c => (y, c)) ++ (Lx.map (fun c => (x, c)) ++ Ln)) (by rw [List.map_append (l₁ := L'.map _)]; exact (List.sublist_append_right _ _).append_right _)).congr (hcomm _ _) hpm
   | val mly hoy' hmy hvy hr =>
    rename_i oy' vy
    rw [hoy] at hoy'; cases hoy'
    exfalso
    have ug : Yd P ops oy vy a w := ydy a vx vy w (hvy _ w (ha.put _ _) hlf (.inr (by rw [CB _ hAy]; exact B5 y hown)))
    exact ug.no k1 k2 hne
   | new hoy' hc' hw nv t cs hx hr => rw [hc] at hc'; cases hc'
   | rel hoy' hc' hw C hx hr => rw [hc] at hc'; cases hc'
   | relc C hoy' hc' hne' hw hx hr =>
    rw [hoy] at hoy'; cases hoy'
    rw [hc] at hc'; cases hc'
    exact (hr v L' hC).congr (hcomm _ _) hpm
   | gen hoy' hc' hw C hx hl hr => rw [hc] at hc'; cases hc'
  | gen hoy' hc hw C hx hl hr => exact (hng hc).elim
 cases h with
 | void hd => exact (hd a w ha hown hlf).elim
 | val mlx hox' hmx hvx hy =>
  rename_i ox' vx
  rw [hox] at hox'; cases hox'
  cases hy with
  | void hd => exact (hd _ w (ha.put _ _) hown hlf).elim
  | val mly hoy' hmy hvy hr =>
   rename_i oy' vy
   rw [hoy] at hoy'; cases hoy'
   exact .val mly hoy hmy (fun a w hs hf hw => ydy a vx vy w (hvy _ w (hs.put _ _) hf hw)) (.val mlx hox hmx (xval hvx (.inr ⟨rfl, rfl⟩)) (hr.congr (hcomm _ _) (.refl _)))
  | new hoy' hc hw nv t cs hx hr =>
   rw [hoy] at hoy'; cases hoy'
   refine .new hoy hc (fun a hs => by rw [← wxy a vx]; exact hw _ (hs.put _ _)) nv t cs (fun a w hs => by rw [← exy a vx]; exact hx _ w (hs.put _ _)) fun g => ?_
   exact .val mlx hox hmx (xval hvx (.inr ⟨rfl, C2 _ hAx⟩)) ((hr g).congr (hcomm _ _) (.refl _))
  | rel hoy' hc hw C hx hr =>
   rw [hoy] at hoy'; cases hoy'
   refine .rel hoy hc (fun a hs => by rw [← wxy a vx]; exact hw _ (hs.put _ _)) C (fun a w hs ho => by rw [← exy a vx]; exact hx _ w (hs.put _ _) ho) fun v L' hC => ?_
   exact .val mlx hox hmx (xval hvx (.inr ⟨rfl, CB _ hAx⟩)) ((hr v L' hC).congr (hcomm _ _) (.refl _))
  | relc C hoy' hc hne hw hx hr =>
   rw [hoy] at hoy'; cases hoy'
   refine .relc C hoy hc hne (fun a hs => by rw [← wxy a vx]; exact hw _ (hs.put _ _)) (fun a w hs ho => by rw [← exy a vx]; exact hx _ w (hs.put _ _) ho) fun v L' hC => ?_
   exact .val mlx hox hmx (xval hvx (.inr ⟨rfl, CB _ hAx⟩)) ((hr v L' hC).congr (hcomm _ _) (.refl _))
  | gen hoy' hc hw C hx hl hr =>
   rw [hoy] at hoy'; cases hoy'
   have hml : mlx = true := hmx.resolve_right fun he => by rw [he, hc] at hcl; cases hcl
   refine .gen hoy hc (fun a hs => by rw [← wxy a vx]; exact hw _ (hs.put _ _)) C (fun a w hs ho => by rw [← exy a vx]; exact hx _ w (hs.put _ _) ho) hl fun v L' hC => ?_
   exact .val mlx hox hmx (xval hvx (.inl hml)) ((hr v L' hC).congr (hcomm _ _) (.refl _))
 | new hox' hcx hwx nvx tx csx hxx hy =>
  rw [hox] at hox'; cases hox'
  have xnew : ∀ {u : Value}, ∀ a w, Sat n ds (E.put oy.dst u) a → (execOp a.eval ox).run P w = .ok (.value (nvx.val w.heap.size)) (w.alloc (.cells csx tx)) := by
   intro u a w hs
   obtain ⟨a0, hs0, rfl⟩ := hs.unput
   rw [exx]; exact hxx a0 w hs0
  obtain ⟨g0, hg0⟩ : ∃ g0, g0 = w.heap.size := ⟨_, rfl⟩
  have hy0 := hy g0
  cases hy0 with
  | void hd => exact (hd _ _ (ha.put _ _) (by have := hown.alloc tx csx; rw [← hg0] at this; simpa using this) ((hlf.alloc tx csx).sub (TG ..))).elim
  | val mly0 hoy' hmy0 hvy0 hr0 =>
   rename_i oy' vy0
   rw [hoy] at hoy'; cases hoy'
   have hvis : ∀ g, vis A y ((x, blk g tx csx) :: Ln) = vis A y Ln := fun g => C2 _ hAy
   have u0 : Yd P ops oy vy0 a w := ydy a (nvx.val g0) vy0 w (hvy0 _ w (ha.put _ _) hlf (.inr (by rw [hvis]; exact B5 y hown)))
   refine .val mly0 hoy hmy0 (fun a w hs hf hw => ydy a (nvx.val g0) vy0 w (hvy0 _ w (hs.put _ _) hf (by rw [hvis]; exact hw))) ?_
   refine .new hox hcx (xw hwx) nvx tx csx xnew fun g => ?_
   have hyg := hy g
   cases hyg with
   | void hd => exact (gone hd (.refl _)).congr (hcomm _ _) (.refl _)
   | val mly hoy' hmy hvy hr =>
    rename_i oy' vy
    rw [hoy] at hoy'; cases hoy'
    have ug : Yd P ops oy vy a w := ydy a (nvx.val g) vy w (hvy _ w (ha.put _ _) hlf (.inr (by rw [hvis]; exact B5 y hown)))
    obtain rfl := ug.unique u0
    exact hr.congr (hcomm _ _) (.refl _)
   | new hoy' hc hw nv t cs hx hr =>
    rw [hoy] at hoy'; cases hoy'
    exfalso
    have k1 := hw _ (ha.put ox.dst (nvx.val g))
    have k2 := hx _ w (ha.put ox.dst (nvx.val g))
    rw [wxy] at k1
    rw [exy] at k2
    rcases u0 with ⟨_, u2⟩ | ⟨u1, _⟩
    ·rw [k2] at u2
     have := congrArg (fun r : Result Next => match r with | .ok _ w => w.heap.size | .halt _ _ => 0) u2
     simp at this
    rw [u1] at k1; cases k1
   | rel hoy' hc hw C hx hr => rw [hcx, hc] at hcl; cases hcl
   | relc C hoy' hc hne hw hx hr =>
    rw [hoy] at hoy'; cases hoy'
    exfalso
    have k1 := hw _ (ha.put ox.dst (nvx.val g))
    have k2 := hx _ w (ha.put ox.dst (nvx.val g)) (by rw [hvis]; exact B5 y hown)
    rw [wxy] at k1
    rw [exy] at k2
    exact u0.no k1 k2 hne
   | gen hoy' hc hw C hx hl hr => rw [hcx, hc] at hcl; cases hcl
  | new hoy' hc hw0 nv0 t0 cs0 hx0 hr0 =>
   rw [hoy] at hoy'; cases hoy'
   have k0 := hx0 _ w (ha.put ox.dst (nvx.val g0))
   rw [exy] at k0
   refine .new hoy hc (fun a hs => by rw [← wxy a (nvx.val g0)]; exact hw0 _ (hs.put _ _)) nv0 t0 cs0 (fun a w hs => by rw [← exy a (nvx.val g0)]; exact hx0 _ w (hs.put _ _)) fun gy => ?_
   refine .new hox hcx (xw hwx) nvx tx csx xnew fun g => ?_
   have hyg := hy g
   cases hyg with
   | void hd => exact (gone hd (Ln2 := (y, blk gy t0 cs0) :: (x, blk g tx csx) :: Ln) (by simp)).congr (hcomm _ _) (.swap _ _ _)
   | val mly hoy' hmy hvy hr =>
    rename_i oy' vy
    rw [hoy] at hoy'; cases hoy'
    exfalso
    have ug : Yd P ops oy vy a w := ydy a (nvx.val g) vy w (hvy _ w (ha.put _ _) hlf (.inr (by rw [C2 _ hAy]; exact B5 y hown)))
    have k1 := hw0 _ (ha.put ox.dst (nvx.val g0))
    rw [wxy] at k1
    rcases ug with ⟨_, u2⟩ | ⟨u1, _⟩
    ·rw [k0] at u2
     have := congrArg (fun r : Result Next => match r with | .ok _ w => w.heap.size | .halt _ _ => 0) u2
     simp at this
    rw [u1] at k1; cases k1
   | new hoy' hc' hw nv t cs hx hr =>
    rw [hoy] at hoy'; cases hoy'
    have k2 := hx _ w (ha.put ox.dst (nvx.val g))
    rw [exy, k0] at k2
    injection k2 with k3 k4
    injection k3 with k5
    have e1 := F8 k5
    have e2 : Obj.cells cs0 t0 = Obj.cells cs t := by
     have h5 : w.heap.push (Obj.cells cs0 t0) = w.heap.push (Obj.cells cs t) := congrArg World.heap k4
     exact (Array.push_eq_push.1 h5).1
    injection e2 with e3 e4
    subst e1 e3 e4
    exact (hr gy).congr (hcomm _ _) (.swap _ _ _)
   | rel hoy' hc' hw C hx hr => rw [hc] at hc'; cases hc'
   | relc C hoy' hc' hne hw hx hr => rw [hc] at hc'; cases hc'
   | gen hoy' hc' hw C hx hl hr => rw [hc] at hc'; cases hc'
  | rel hoy' hc hw C hx hr => rw [hcx, hc] at hcl; cases hcl
  | relc C0 hoy' hc hne hw0 hx0 hr0 =>
   rw [hoy] at hoy'; cases hoy'
   have k1 := hw0 _ (ha.put ox.dst (nvx.val g0))
   have k2 := hx0 _ w (ha.put ox.dst (nvx.val g0)) (by rw [C2 _ hAy]; exact B5 y hown)
   rw [wxy] at k1
   rw [exy] at k2
   refine .relc C0 hoy hc hne (fun a hs => by rw [← wxy a (nvx.val g0)]; exact hw0 _ (hs.put _ _)) (fun a w hs ho => by rw [← exy a (nvx.val g0)]; exact hx0 _ w (hs.put _ _) (by rw [C2 _ hAy]; exact ho)) fun v L' hC => ?_
   refine .new hox hcx (xw hwx) nvx tx csx xnew fun g => ?_
   have hyg := hy g
   cases hyg with
   | void hd => exact (gone hd (Ln2 := L'.map (fun c => (y, c)) ++ (x, blk g tx csx) :: Ln) (by rw [List.map_append]; exact (List.sublist_append_right _ _).append_right _)).congr (hcomm _ _) List.perm_middle.symm
   | val mly hoy' hmy hvy hr =>
    rename_i oy' vy
    rw [hoy] at hoy'; cases hoy'
    exfalso
    have ug : Yd P ops oy vy a w := ydy a (nvx.val g) vy w (hvy _ w (ha.put _ _) hlf (.inr (by rw [C2 _ hAy]; exact B5 y hown)))
    exact ug.no k1 k2 hne
   | new hoy' hc' hw nv t cs hx hr => rw [hc] at hc'; cases hc'
   | rel hoy' hc' hw C hx hr => rw [hc] at hc'; cases hc'
   | relc C hoy' hc' hne' hw hx hr =>
    rw [hoy] at hoy'; cases hoy'
    rw [hc] at hc'; cases hc'
    exact (hr v L' hC).congr (hcomm _ _) List.perm_middle.symm
   | gen hoy' hc' hw C hx hl hr => rw [hc] at hc'; cases hc'
  | gen hoy' hc hw C hx hl hr => rw [hcx, hc] at hcl; cases hcl
 | rel hox' hcx hwx Cx hxx hy =>
  rw [hox] at hox'; cases hox'
  exact xr Cx (fun h => by rw [hcx, h] at hcl; cases hcl) (fun h => by rw [hcx, h] at hcl; cases hcl) hwx hxx hy fun hw hx h => .rel hox hcx hw Cx hx h
 | relc Cx hox' hcx hnex hwx hxx hy =>
  rw [hox] at hox'; cases hox'
  exact xr Cx (fun h => by rw [hcx, h] at hcl; cases hcl) (fun h => by rw [hcx, h] at hcl; cases hcl) hwx hxx hy fun hw hx h => .relc Cx hox hcx hnex hw hx h
 | gen hox' hcx hwx Cx hxx hlx hy =>
  rw [hox] at hox'; cases hox'
  obtain ⟨v0, w0', L0, hC0, hO0⟩ := (hxx a w ha hown).some
  have xgen : ∀ {u : Value}, ∀ a w, Sat n ds (E.put oy.dst u) a → Own w0 K w (Ln.map (·.2) ++ Ls) →
    RunsTo P (execOp a.eval ox) w (fun v w' => ∃ L', Cx v L' ∧ Own w0 K w' L') := by
   intro u a w hs ho
   obtain ⟨a0, hs0, rfl⟩ := hs.unput
   rw [exx]; exact hxx a0 w hs0 ho
  have hy0 := hy v0 L0 hC0
  cases hy0 with
  | void hd => exact (hd _ _ (ha.put _ _) (by simpa using hO0) (hlx _ _ hC0 _ hO0)).elim
  | val mly0 hoy' hmy0 hvy0 hr0 =>
   rename_i oy' vy0
   rw [hoy] at hoy'; cases hoy'
   have hml0 : mly0 = true := hmy0.resolve_right fun he => by rw [he, hcx] at hcl; cases hcl
   have u0 : Yd P ops oy vy0 a w := ydy a v0 vy0 w (hvy0 _ w (ha.put _ _) hlf (.inl hml0))
   refine .val mly0 hoy hmy0 (fun a w hs hf hw => ydy a v0 vy0 w (hvy0 _ w (hs.put _ _) hf (.inl hml0))) ?_
   refine .gen hox hcx (xw hwx) Cx xgen hlx fun v L' hC => ?_
   have hyg := hy v L' hC
   cases hyg with
   | void hd => exact (gone hd (.refl _)).congr (hcomm _ _) (.refl _)
   | val mly hoy' hmy hvy hr =>
    rename_i oy' vy
    rw [hoy] at hoy'; cases hoy'
    have hml : mly = true := hmy.resolve_right fun he => by rw [he, hcx] at hcl; cases hcl
    have ug : Yd P ops oy vy a w := ydy a v vy w (hvy _ w (ha.put _ _) hlf (.inl hml))
    obtain rfl := ug.unique u0
    exact hr.congr (hcomm _ _) (.refl _)
   | new hoy' hc hw nv t cs hx hr => rw [hcx, hc] at hcl; cases hcl
   | rel hoy' hc hw C hx hr => rw [hcx, hc] at hcl; cases hcl
   | relc C hoy' hc hne hw hx hr => rw [hcx, hc] at hcl; cases hcl
   | gen hoy' hc hw C hx hl hr => rw [hcx, hc] at hcl; cases hcl
  | new hoy' hc hw nv t cs hx hr => rw [hcx, hc] at hcl; cases hcl
  | rel hoy' hc hw C hx hr => rw [hcx, hc] at hcl; cases hcl
  | relc C hoy' hc hne hw hx hr => rw [hcx, hc] at hcl; cases hcl
  | gen hoy' hc hw C hx hl hr => rw [hcx, hc] at hcl; cases hcl
end
end Go.Fl

namespace Go.Fl
open Go
variable [Lo]
def needs (o : Oper) : List Nat := (o.after.toList.filter (Region.binds .any)).map (·.on)
def pairOk (ops : Array Oper) (cl : List Cls) (A : List Nat) (x y : Nat) : Bool :=
 match ops[x]?, ops[y]? with
 | some ox, some oy => x != y && !(needs ox).contains y && ((A.getD y 0).testBit x || (ox.apart ops oy && clOk (cl.getD x .q) (cl.getD y .q) && !(A.getD x 0).testBit y))
 | _, _ => false
def pairsOk (ops : Array Oper) (cl : List Cls) (A : List Nat) : List Nat → Bool
 | [] => true
 | x :: r => r.all (pairOk ops cl A x) && pairsOk ops cl A r
def needsOk (ops : Array Oper) (x : Nat) : Bool :=
 match ops[x]? with
 | some o => (needs o).all fun m => Nat.blt m ops.size && m != x
 | none => false
def soundOk (ops : Array Oper) (A : List Nat) (d : Nat) : Bool :=
 match ops[d]? with
 | some o => (List.range ops.size).all fun i => !(A.getD d 0).testBit i || (needs o).any fun m => m == i || (A.getD m 0).testBit i
 | none => false
def flowChk (ops : Array Oper) (cl : List Cls) (A order : List Nat) : Bool :=
 Region.noSelect ops && (List.range ops.size).all (order.contains ·) && order.all (needsOk ops) && pairsOk ops cl A order && (List.range ops.size).all (soundOk ops A)
section
variable {P : Program} {ops : Array Oper} {w0 : World} {K : List Nat} {n : Nat} {ds : List Deferred} {Lf : List Chunk} {cl : List Cls} {A : List Nat} {Q : Act → World → Prop}
theorem MT {l l' : List Nat} {y : Nat} (hl : ∀ E Ls Ln, Flow P ops w0 K n ds Lf cl A Q l E Ls Ln → Flow P ops w0 K n ds Lf cl A Q l' E Ls Ln)
  {E : Env} {Ls : List Chunk} {Ln : List (Nat × Chunk)} (h : Flow P ops w0 K n ds Lf cl A Q (y :: l) E Ls Ln) : Flow P ops w0 K n ds Lf cl A Q (y :: l') E Ls Ln := by
 cases h with
 | void hd => exact .void hd
 | val ml ho hm hv hr => exact .val ml ho hm hv (hl _ _ _ hr)
 | new ho hc hw nv t cs hx hr => exact .new ho hc hw nv t cs hx fun g => hl _ _ _ (hr g)
 | rel ho hc hw C hx hr => exact .rel ho hc hw C hx fun v L' hC => hl _ _ _ (hr v L' hC)
 | relc C ho hc hne hw hx hr => exact .relc C ho hc hne hw hx fun v L' hC => hl _ _ _ (hr v L' hC)
 | gen ho hc hw C hx hl' hr => exact .gen ho hc hw C hx hl' fun v L' hC => hl _ _ _ (hr v L' hC)
theorem Flow.front {i : Nat} {c2 : List Nat} (hns : Region.noSelect ops = true) : ∀ {c1 : List Nat}, (∀ y, y ∈ c1 → pairOk ops cl A y i = true ∧ (A.getD i 0).testBit y = false) →
  ∀ {E Ls Ln}, Flow P ops w0 K n ds Lf cl A Q (c1 ++ i :: c2) E Ls Ln → Flow P ops w0 K n ds Lf cl A Q (i :: (c1 ++ c2)) E Ls Ln
 | [], _, _, _, _, h => h
 | y :: c1, hp, E, Ls, Ln, h => by
  have h1 : Flow P ops w0 K n ds Lf cl A Q (y :: (i :: (c1 ++ c2))) E Ls Ln := MT (fun E Ls Ln hh => Flow.front hns (fun z hz => hp z (TM _ hz)) hh) h
  obtain ⟨h2, h3⟩ := hp y (TI ..)
  unfold pairOk at h2
  split at h2
  ·rename_i ox oy hox hoy
   simp only [Bool.and_eq_true, Bool.or_eq_true, Bool.not_eq_true', bne_iff_ne, ne_eq] at h2
   obtain ⟨_, h4⟩ := h2
   rcases h4 with h4 | ⟨⟨h4, h5⟩, h6⟩
   ·rw [h4] at h3; cases h3
   exact Flow.swap hox hoy (fun cs b => Region.noSelect_spec hns y ox cs b hox) (fun cs b => Region.noSelect_spec hns i oy cs b hoy) h4 h5 h3 h6 h1
  cases h2
theorem Iz {c1 c2 : List Nat} {i : Nat} (h : pairsOk ops cl A (c1 ++ i :: c2) = true) : (∀ y, y ∈ c1 → pairOk ops cl A y i = true) ∧ pairsOk ops cl A (c1 ++ c2) = true := by
 induction c1 with
 | nil => simp [pairsOk] at h ⊢; exact h.2
 | cons y c1 ih =>
  simp only [List.cons_append, pairsOk, Bool.and_eq_true] at h ⊢
  obtain ⟨h1, h2⟩ := h
  have := ih h2
  rw [List.all_append, Bool.and_eq_true] at h1
  simp only [List.all_cons, Bool.and_eq_true] at h1
  refine ⟨fun z hz => ?_, ?_, this.2⟩
  ·rcases List.mem_cons.1 hz with rfl | hz
   ·exact h1.2.1
   exact this.1 z hz
  rw [List.all_append, Bool.and_eq_true]; exact ⟨h1.1, h1.2.2⟩
theorem JI {c : List Nat} {x : Nat} {ox : Oper} (hox : ops[x]? = some ox) (h : pairsOk ops cl A (x :: c) = true) : ∀ y, y ∈ c → y ∉ needs ox := by
 intro y hy
 simp only [pairsOk, Bool.and_eq_true, List.all_eq_true] at h
 have := h.1 y hy
 unfold pairOk at this
 rw [hox] at this
 split at this
 ·rename_i a b ha hb
  cases ha
  simp only [Bool.and_eq_true, Bool.not_eq_true'] at this
  have h3 := this.1.2
  intro hm
  rw [List.contains_iff_mem.2 hm] at h3; cases h3
 cases this
theorem I4 {o : Oper} {m : Nat} : m ∈ needs o ↔ ∃ e ∈ o.after, Region.binds .any e = true ∧ e.on = m := by
 simp [needs, and_assoc]
theorem JV {listed : Array Bool} {j : Nat} (h : j < listed.size) (hn : ¬ listed.getD j true = false) : listed.getD j false = true := by
 simp [h] at hn ⊢; exact hn
theorem PI {Qx : Exit → Act → World → Prop} (hns : Region.noSelect ops = true) (hA : ∀ d, d < ops.size → soundOk ops A d = true) :
  ∀ (m : Nat) (c : List Nat) (listed : Array Bool) (E : Env) (Ls : List Chunk) (Ln : List (Nat × Chunk)), c.length = m → Flow P ops w0 K n ds Lf cl A (Qx .normal) c E Ls Ln →
   listed.size = ops.size → (∀ j, j ∈ c ↔ (j < ops.size ∧ listed.getD j true = false)) → pairsOk ops cl A c = true → (∀ x, x ∈ c → needsOk ops x = true) →
   (∀ z i, z < ops.size → i < ops.size → listed.getD z true = true → (A.getD z 0).testBit i = true → listed.getD i true = true) →
   ∀ a w, Sat n ds E a → Own w0 K w (Ln.map (·.2) ++ Ls) → Own w0 K w Lf → wpAny P .any ops Qx m listed a w := by
 intro m
 induction m with
 | zero =>
  intro c listed E Ls Ln hl h hsz hc hp hn hcl a w ha hw hlf
  have : c = [] := TO hl
  subst this
  refine ⟨?_, ?_⟩
  ·rw [List.eq_nil_iff_forall_not_mem]
   intro j hj
   obtain ⟨h1, o, ho, _⟩ := mem_ready.1 hj
   have := (hc j).2 ⟨(TP.1 ho).1, h1⟩
   simp at this
  cases h with
  | void hd => exact (hd a w ha hw hlf).elim
  | done hd => exact hd a w ha hw
 | succ m ih =>
  intro c listed E Ls Ln hl h hsz hc hp hn hcl a w ha hw hlf
  refine ⟨fun hr => ?_, fun i hi => ?_⟩
  ·exfalso
   match c, hl with
   | x :: r, hl =>
    have hx := (hc x).1 (TI ..)
    obtain ⟨o, ho⟩ : ∃ o, ops[x]? = some o := ⟨ops[x]'hx.1, by simp [hx.1]⟩
    have : x ∈ Region.ready .any ops listed := by
     rw [mem_ready]
     refine ⟨hx.2, o, ho, fun e he hb => ?_⟩
     have hm : e.on ∈ needs o := I4.2 ⟨e, he, hb, rfl⟩
     have hno := hn x (TI ..)
     unfold needsOk at hno
     rw [ho] at hno
     simp only [List.all_eq_true, Bool.and_eq_true, bne_iff_ne, ne_eq, Nat.blt_eq] at hno
     obtain ⟨hlt, hne⟩ := hno _ hm
     refine JV (by rw [hsz]; exact hlt) fun hf => ?_
     have hmem := (hc e.on).2 ⟨hlt, hf⟩
     rcases List.mem_cons.1 hmem with h1 | h1
     ·exact hne h1
     exact JI ho hp _ h1 hm
    rw [hr] at this
    cases this
  obtain ⟨hli, o, ho, hall⟩ := mem_ready.1 hi
  have hlt : i < ops.size := (TP.1 ho).1
  have hic := (hc i).2 ⟨hlt, hli⟩
  obtain ⟨c1, c2, rfl⟩ := List.append_of_mem hic
  obtain ⟨hp1, hp2⟩ := Iz hp
  -- what stands ahead of i in the list is none of its elders
  have hbits : ∀ y, y < ops.size → (A.getD i 0).testBit y = true → listed.getD y true = true := by
   intro y hy hb
   have hs := hA i hlt
   unfold soundOk at hs
   rw [ho] at hs
   simp only [List.all_eq_true, TN, Bool.or_eq_true, Bool.not_eq_true', List.any_eq_true, beq_iff_eq] at hs
   rcases hs y hy with h1 | ⟨k, hk, h1⟩
   ·rw [h1] at hb; cases hb
   obtain ⟨e, he, hbe, rfl⟩ := I4.1 hk
   have hle := hall e he hbe
   have hle' : e.on < ops.size := by
    rcases Nat.lt_or_ge e.on listed.size with h2 | h2
    ·rw [hsz] at h2; exact h2
    simp [Array.getElem?_eq_none h2] at hle
   have hlt2 : listed.getD e.on true = true := by
    have : e.on < listed.size := by rw [hsz]; exact hle'
    simp [this] at hle ⊢; exact hle
   rcases h1 with h1 | h1
   ·rw [← h1]; exact hlt2
   exact hcl e.on y hle' hy hlt2 h1
  have hfront := Flow.front hns (c1 := c1) (c2 := c2) (i := i) (fun y hy => ⟨hp1 y hy, by
   have hyc := (hc y).1 (List.mem_append_left _ hy)
   rw [Bool.eq_false_iff]
   intro hb
   have := hbits y hyc.1 hb
   rw [hyc.2] at this; cases this⟩) h
  have hlen : (c1 ++ c2).length = m := by simp at hl ⊢; omega
  have hnd : i ∉ c1 ++ c2 := by
   intro hm
   have hself : ∀ y, y ∈ c1 ++ c2 → y ≠ i := by
    intro y hy
    rcases List.mem_append.1 hy with h1 | h1
    ·have := hp1 y h1
     unfold pairOk at this
     split at this
     ·simp only [Bool.and_eq_true, bne_iff_ne] at this; exact this.1.1
     cases this
    have : ∀ l1, pairsOk ops cl A (l1 ++ i :: c2) = true → i ≠ y := by
     intro l1
     induction l1 with
     | nil =>
      intro hh
      simp only [List.nil_append, pairsOk, Bool.and_eq_true, List.all_eq_true] at hh
      have := hh.1 y h1
      unfold pairOk at this
      split at this
      ·simp only [Bool.and_eq_true, bne_iff_ne] at this; exact this.1.1
      cases this
     | cons z l1 ih => intro hh; simp only [List.cons_append, pairsOk, Bool.and_eq_true] at hh; exact ih hh.2
    exact (this c1 hp).symm
   exact hself i hm rfl
  have hsz' : (listed.setIfInBounds i true).size = ops.size := by simpa using hsz
  have hset : ∀ j, (listed.setIfInBounds i true).getD j true = (if i = j then true else listed.getD j true) := by
   intro j
   by_cases hij : i = j
   ·subst hij; have : i < listed.size := by rw [hsz]; exact hlt
    simp [this]
   rw [getD_set_ne true hij, if_neg hij]
  have hc' : ∀ j, j ∈ c1 ++ c2 ↔ (j < ops.size ∧ (listed.setIfInBounds i true).getD j true = false) := by
   intro j
   rw [hset]
   by_cases hij : i = j
   ·subst hij; simp only [if_true]; exact ⟨fun hm => (hnd hm).elim, fun hm => by simp at hm⟩
   rw [if_neg hij, ← hc j]; simp [Ne.symm hij]
  have hn' : ∀ x, x ∈ c1 ++ c2 → needsOk ops x = true := fun x hx => hn x (by
   rcases List.mem_append.1 hx with h1 | h1
   ·exact List.mem_append_left _ h1
   exact List.mem_append_right _ (TM _ h1))
  have hcl' : ∀ z k, z < ops.size → k < ops.size → (listed.setIfInBounds i true).getD z true = true → (A.getD z 0).testBit k = true → (listed.setIfInBounds i true).getD k true = true := by
   intro z k hz hk hlz hb
   rw [hset] at hlz ⊢
   by_cases hik : i = k
   ·rw [if_pos hik]
   rw [if_neg hik]
   by_cases hiz : i = z
   ·subst hiz; exact hbits k hk hb
   rw [if_neg hiz] at hlz; exact hcl z k hz hk hlz hb
  have next : ∀ {E' Ls' Ln'}, Flow P ops w0 K n ds Lf cl A (Qx .normal) (c1 ++ c2) E' Ls' Ln' → ∀ a w, Sat n ds E' a → Own w0 K w (Ln'.map (·.2) ++ Ls') → Own w0 K w Lf → wpAny P .any ops Qx m (listed.setIfInBounds i true) a w :=
   fun hf => ih (c1 ++ c2) _ _ _ _ hlen hf hsz' hc' hp2 hn' hcl'
  unfold wpOp
  rw [ho]
  simp only
  cases hfront with
  | void hd => exact (hd a w ha hw hlf).elim
  | val ml ho' hm hv hr =>
   rw [ho] at ho'; cases ho'
   rcases hv a w ha hlf (.inr (B5 i hw)) with ⟨h1, h2⟩ | ⟨h1, rfl⟩
   ·rw [if_pos h1]
    refine .inl ?_
    unfold Oper.wp
    rw [h2]
    exact next hr _ _ (ha.put _ _) hw hlf
   rw [if_neg (by rw [h1]; simp)]
   exact next hr _ _ (ha.put _ _) hw hlf
  | new ho' hc hwt nv t cs hx hr =>
   rw [ho] at ho'; cases ho'
   rw [if_pos (hwt a ha)]
   refine .inl ?_
   unfold Oper.wp
   rw [hx a w ha]
   exact next (hr _) _ _ (ha.put _ _) (by have := hw.alloc t cs; simpa using this) ((hlf.alloc t cs).sub (TG ..))
  | rel ho' hc hwt C hx hr =>
   rw [ho] at ho'; cases ho'
   rw [if_pos (hwt a ha)]
   refine .inl ((hx a w ha (B5 i hw)).wp ?_)
   rintro v w' ⟨L', hC, hO⟩
   exact next (hr v L' hC) _ _ (ha.put _ _) (by have := hw.add hO; simpa [Function.comp_def] using this) ((hlf.add hO).sub (List.sublist_append_right _ _))
  | relc C ho' hc hne hwt hx hr =>
   rw [ho] at ho'; cases ho'
   rw [if_pos (hwt a ha)]
   refine .inl ((hx a w ha (B5 i hw)).wp ?_)
   rintro v w' ⟨L', hC, hO⟩
   exact next (hr v L' hC) _ _ (ha.put _ _) (by have := hw.add hO; simpa [Function.comp_def] using this) ((hlf.add hO).sub (List.sublist_append_right _ _))
  | gen ho' hc hwt C hx hl' hr =>
   rw [ho] at ho'; cases ho'
   rw [if_pos (hwt a ha)]
   refine .inl ((hx a w ha hw).wp ?_)
   rintro v w' ⟨L', hC, hO⟩
   exact next (hr v L' hC) _ _ (ha.put _ _) (by simpa using hO) (hl' v L' hC _ hO)
theorem JX {order : List Nat} (h : flowChk ops cl A order = true) : Region.noSelect ops = true ∧ (∀ j, j < ops.size → j ∈ order) ∧ (∀ x, x ∈ order → needsOk ops x = true) ∧
  pairsOk ops cl A order = true ∧ (∀ d, d < ops.size → soundOk ops A d = true) := by
 simp only [flowChk, Bool.and_eq_true, List.all_eq_true, TN] at h
 obtain ⟨⟨⟨⟨h1, h2⟩, h3⟩, h4⟩, h5⟩ := h
 exact ⟨h1, fun j hj => List.contains_iff_mem.1 (h2 j hj), h3, h4, h5⟩
theorem IA {c : List Nat} (h : pairsOk ops cl A c = true) : c.Nodup := by
 induction c with
 | nil => simp
 | cons x r ih =>
  simp only [pairsOk, Bool.and_eq_true, List.all_eq_true] at h
  refine List.nodup_cons.2 ⟨fun hm => ?_, ih h.2⟩
  have := h.1 x hm
  unfold pairOk at this
  split at this
  ·simp at this
  cases this
theorem ID {c : List Nat} {m : Nat} (hn : c.Nodup) (h : ∀ j, j ∈ c ↔ j < m) : c.length = m := by
 have h1 : c.Perm (List.range m) := by
  rw [List.perm_ext_iff_of_nodup hn List.nodup_range]
  intro a; rw [h a, TN]
 rw [h1.length_eq, List.length_range]
/-- A region that draws its order, by a walk in one order. -/
theorem Hd {Qx : Exit → Act → World → Prop} {id : Nat} {order : List Nat} (hm : P.follows .mixedOrders = true) (hchk : flowChk ops cl A order = true)
  {E : Env} {L : List Chunk} (hLf : ∀ w, Own w0 K w L → Own w0 K w Lf) (h : Flow P ops w0 K n ds Lf cl A (Qx .normal) order E L []) : ∀ a w, Sat n ds E a → Own w0 K w L → (Code.region id ops true).wp P Qx a w := by
 intro a w ha hw
 obtain ⟨h1, h2, h3, h4, h5⟩ := JX hchk
 have hlt : ∀ x, x ∈ order → x < ops.size := fun x hx => by
  have := h3 x hx
  unfold needsOk at this
  split at this
  ·rename_i o ho; exact (TP.1 ho).1
  cases this
 refine wp_region_any hm ?_
 have hlen := ID (IA h4) (fun j => ⟨hlt j, h2 j⟩)
 rw [← hlen]
 rw [hlen]
 refine PI h1 h5 ops.size order (Array.replicate ops.size false) E L [] hlen h (by simp) (fun j => ⟨fun hj => ⟨hlt j hj, by simp [hlt j hj]⟩, fun hj => h2 j hj.1⟩) h4 h3 ?_ a _ ha (by simpa using hw.drew) ((hLf w hw).drew)
 intro z i hz hi hl
 simp [hz] at hl
end
end Go.Fl

namespace Go.Fl
open Go
variable [Lo]
/-! ### what an operation's guard says -/
def want (n : Nat) (E : Env) (ops : Array Oper) (o : Oper) : Option Bool :=
 match o.guard with
 | none => some true
 | some (j, b) =>
  match (ops[j]?).bind (·.dst) with
  | none => some false
  | some d =>
   match ev n E (.tmp d) with
   | some (.bool c) => some (c == b)
   | some (.tuple _) => some false
   | _ => none
section
variable {P : Program} {ops : Array Oper} {w0 : World} {K : List Nat} {n : Nat} {ds : List Deferred} {E : Env} {L : List Chunk}
theorem BM {o : Oper} {b : Bool} {a : Act} (h : want n E ops o = some b) (ha : Sat n ds E a) : Region.wanted o (yielded ops a.tmps) = b := by
 unfold want at h
 unfold Region.wanted
 split at h
 ·rename_i hg; cases h; rw [hg]
 rename_i j c hg
 rw [hg]
 simp only
 unfold yielded
 split at h
 ·rename_i hd; rw [hd]; cases h; rfl
 rename_i d hd
 rw [hd]
 simp only [Option.bind_some]
 have key : ∀ v, ev n E (.tmp d) = some v → a.tmps[d]? = some v := by
  intro v hv
  replace hv : (bif Nat.blt d n then E.get d else none) = some v := hv
  cases hb : Nat.blt d n with
  | false => rw [hb] at hv; cases hv
  | true => rw [hb] at hv; exact ha.has d v hv (by rw [Nat.blt_eq] at hb; exact hb)
 split at h
 ·rename_i c' hv
  rw [key _ hv]
  cases h
  cases c' <;> cases c <;> rfl
 ·rename_i t hv
  rw [key _ hv]
  cases h; rfl
 cases h
/-! ### what single operations do -/
def Pur (P : Program) (n : Nat) (ds : List Deferred) (E : Env) (o : Oper) (v : Value) : Prop :=
 ∀ a w, Sat n ds E a → (execOp a.eval o).run P w = .ok (.value v) w
def Val (P : Program) (w0 : World) (K : List Nat) (n : Nat) (ds : List Deferred) (E : Env) (L : List Chunk) (o : Oper) (v : Value) : Prop :=
 ∀ a w, Sat n ds E a → Own w0 K w L → (execOp a.eval o).run P w = .ok (.value v) w
def New (P : Program) (n : Nat) (ds : List Deferred) (E : Env) (o : Oper) (nv : NewV) (t : Nat) (cs : Array Value) : Prop :=
 ∀ a w, Sat n ds E a → (execOp a.eval o).run P w = .ok (.value (nv.val w.heap.size)) (w.alloc (.cells cs t))
def Rel (P : Program) (w0 : World) (K : List Nat) (n : Nat) (ds : List Deferred) (E : Env) (L : List Chunk) (o : Oper) (C : Value → List Chunk → Prop) : Prop :=
 ∀ a w, Sat n ds E a → Own w0 K w L → RunsTo P (execOp a.eval o) w (fun v w' => ∃ L', C v L' ∧ Own w [] w' L')
def Gen (P : Program) (w0 : World) (K : List Nat) (n : Nat) (ds : List Deferred) (E : Env) (L : List Chunk) (o : Oper) (C : Value → List Chunk → Prop) : Prop :=
 ∀ a w, Sat n ds E a → Own w0 K w L → RunsTo P (execOp a.eval o) w (fun v w' => ∃ L', C v L' ∧ Own w0 K w' L')
theorem Pur.val {o : Oper} {v : Value} (h : Pur P n ds E o v) : Val P w0 K n ds E L o v := fun a w ha _ => h a w ha
/-! ### operations in the text's order -/
def Seq (P : Program) (ops : Array Oper) (w0 : World) (K : List Nat) (n : Nat) (ds : List Deferred) (Q : Exit → Act → World → Prop) (l : List Oper) (E : Env) (L : List Chunk) : Prop :=
 ∀ a w, Sat n ds E a → Own w0 K w L → wpList P ops Q l a w
def Fin (w0 : World) (K : List Nat) (n : Nat) (ds : List Deferred) (Q : Act → World → Prop) (E : Env) (L : List Chunk) : Prop :=
 ∀ a w, Sat n ds E a → Own w0 K w L → Q a w
def DC (P : Program) (w0 : World) (K : List Nat) (n : Nat) (ds : List Deferred) (Q : Exit → Act → World → Prop) (c : Code) (E : Env) (L : List Chunk) : Prop :=
 ∀ a w, Sat n ds E a → Own w0 K w L → c.wp P Q a w
variable {Q : Exit → Act → World → Prop} {o : Oper} {r : List Oper} {v : Value} {d : Nat}
theorem Seq.nil (h : Fin w0 K n ds (Q .normal) E L) : Seq P ops w0 K n ds Q [] E L := h
theorem Seq.run {d : Option Tmp} (hd : o.dst = d) {R : Value → World → Prop} (hw : want n E ops o = some true) (hx : ∀ a w, Sat n ds E a → Own w0 K w L → RunsTo P (execOp a.eval o) w R)
  (h : ∀ a w v w', Sat n ds E a → Own w0 K w L → R v w' → wpList P ops Q r (a.put d v) w') : Seq P ops w0 K n ds Q (o :: r) E L := by
 intro a w ha hL
 unfold wpList
 rw [if_pos (BM hw ha)]
 subst hd
 exact .inl ((hx a w ha hL).wp fun v w' hR => h a w v w' ha hL hR)
theorem Seq.val (hd : o.dst = some d) (hw : want n E ops o = some true) (hv : Val P w0 K n ds E L o v) (h : Seq P ops w0 K n ds Q r ((d, v) :: E) L) : Seq P ops w0 K n ds Q (o :: r) E L :=
 Seq.run hd hw (R := fun v' w' => v' = v ∧ ∃ a0 : Unit, Own w0 K w' L) (fun a w ha hL => RunsTo.value (hv a w ha hL) ⟨rfl, (), hL⟩)
  (fun a w v' w' ha _ hR => by obtain ⟨rfl, _, hL'⟩ := hR; exact h _ _ (ha.put (some d) _) hL')
theorem Seq.pur (hd : o.dst = some d) (hw : want n E ops o = some true) (hv : Pur P n ds E o v) (h : Seq P ops w0 K n ds Q r ((d, v) :: E) L) : Seq P ops w0 K n ds Q (o :: r) E L :=
 Seq.val hd hw hv.val h
theorem Seq.skip (hd : o.dst = some d) (hw : want n E ops o = some false) (h : Seq P ops w0 K n ds Q r ((d, undef) :: E) L) : Seq P ops w0 K n ds Q (o :: r) E L := by
 intro a w ha hL
 unfold wpList
 rw [if_neg (by rw [BM hw ha]; simp), hd]
 exact h _ _ (ha.put (some d) _) hL
theorem Seq.new (hd : o.dst = some d) (hw : want n E ops o = some true) {nv : NewV} {t : Nat} {cs : Array Value} (hx : New P n ds E o nv t cs)
  (h : ∀ g, Seq P ops w0 K n ds Q r ((d, nv.val g) :: E) (blk g t cs :: L)) : Seq P ops w0 K n ds Q (o :: r) E L := by
 intro a w ha hL
 unfold wpList
 rw [if_pos (BM hw ha)]
 refine .inl ?_
 unfold Oper.wp
 rw [hx a w ha, Oper.upon_value, hd]
 exact h w.heap.size _ _ (ha.put (some d) _) (hL.alloc t cs)
theorem Seq.rel (hd : o.dst = some d) (hw : want n E ops o = some true) {C : Value → List Chunk → Prop} (hx : Rel P w0 K n ds E L o C)
  (h : ∀ v L', C v L' → Seq P ops w0 K n ds Q r ((d, v) :: E) (L' ++ L)) : Seq P ops w0 K n ds Q (o :: r) E L :=
 Seq.run hd hw (R := fun v w' => ∃ L', C v L' ∧ Own w0 K w' (L' ++ L)) (fun a w ha hL => (hx a w ha hL).mono fun v w' ⟨L', hC, hO⟩ => ⟨L', hC, hL.add hO⟩)
  (fun a w v w' ha _ ⟨L', hC, hO⟩ => h v L' hC _ _ (ha.put (some d) _) hO)
theorem Seq.gen (hd : o.dst = some d) (hw : want n E ops o = some true) {C : Value → List Chunk → Prop} (hx : Gen P w0 K n ds E L o C)
  (h : ∀ v L', C v L' → Seq P ops w0 K n ds Q r ((d, v) :: E) L') : Seq P ops w0 K n ds Q (o :: r) E L :=
 Seq.run hd hw (R := fun v w' => ∃ L', C v L' ∧ Own w0 K w' L') (fun a w ha hL => hx a w ha hL)
  (fun a w v w' ha _ ⟨L', hC, hO⟩ => h v L' hC _ _ (ha.put (some d) _) hO)
theorem Seq.gen0 (hd : o.dst = none) (hw : want n E ops o = some true) {C : Value → List Chunk → Prop} (hx : Gen P w0 K n ds E L o C)
  (h : ∀ v L', C v L' → Seq P ops w0 K n ds Q r E L') : Seq P ops w0 K n ds Q (o :: r) E L :=
 Seq.run hd hw (R := fun v w' => ∃ L', C v L' ∧ Own w0 K w' L') (fun a w ha hL => hx a w ha hL)
  (fun a w v w' ha _ ⟨L', hC, hO⟩ => h v L' hC _ _ ha hO)
/-- A store: the memory behind it is told, no value. -/
def Sto (P : Program) (w0 : World) (K : List Nat) (n : Nat) (ds : List Deferred) (E : Env) (L : List Chunk) (o : Oper) (L' : List Chunk) : Prop :=
 ∀ a w, Sat n ds E a → Own w0 K w L → ∃ w', (execOp a.eval o).run P w = .ok .skip w' ∧ Own w0 K w' L'
theorem Sto.gen {L' : List Chunk} (h : Sto P w0 K n ds E L o L') : Gen P w0 K n ds E L o (fun v M => v = undef ∧ M = L') := by
 intro a w ha hL
 obtain ⟨w', h1, h2⟩ := h a w ha hL
 unfold RunsTo
 rw [h1]
 exact ⟨L', ⟨rfl, rfl⟩, h2⟩
theorem Seq.sto (hd : o.dst = none) (hw : want n E ops o = some true) {L' : List Chunk} (hx : Sto P w0 K n ds E L o L') (h : Seq P ops w0 K n ds Q r E L') : Seq P ops w0 K n ds Q (o :: r) E L :=
 Seq.gen0 hd hw hx.gen fun v M hC => by obtain ⟨rfl, rfl⟩ := hC; exact h
/-! ### the same inside a region that draws its order -/
variable {Lf : List Chunk} {cl : List Cls} {A : List Nat} {Qa : Act → World → Prop} {i : Nat} {ri : List Nat} {Ls : List Chunk} {Ln : List (Nat × Chunk)}
theorem Flow.pur (ho : ops[i]? = some o) (hd : o.dst = some d) (hw : want n E ops o = some true) (hv : Pur P n ds E o v) (h : Flow P ops w0 K n ds Lf cl A Qa ri ((d, v) :: E) Ls Ln) :
  Flow P ops w0 K n ds Lf cl A Qa (i :: ri) E Ls Ln :=
 .val true ho (.inl rfl) (fun a w ha _ _ => .inl ⟨BM hw ha, hv a w ha⟩) (by rw [hd]; exact h)
theorem Flow.skip (ho : ops[i]? = some o) (hd : o.dst = some d) (hw : want n E ops o = some false) (h : Flow P ops w0 K n ds Lf cl A Qa ri ((d, undef) :: E) Ls Ln) :
  Flow P ops w0 K n ds Lf cl A Qa (i :: ri) E Ls Ln :=
 .val true ho (.inl rfl) (fun a w ha _ _ => .inr ⟨BM hw ha, rfl⟩) (by rw [hd]; exact h)
/-- A value out of old memory, or out of the pieces that stay. -/
theorem Flow.old (ho : ops[i]? = some o) (hd : o.dst = some d) (hw : want n E ops o = some true) (hv : Val P w0 K n ds E Lf o v) (h : Flow P ops w0 K n ds Lf cl A Qa ri ((d, v) :: E) Ls Ln) :
  Flow P ops w0 K n ds Lf cl A Qa (i :: ri) E Ls Ln :=
 .val true ho (.inl rfl) (fun a w ha hf _ => .inl ⟨BM hw ha, hv a w ha hf⟩) (by rw [hd]; exact h)
theorem OE (ho : ops[i]? = some o) (hc : cl.getD i .q = .v) (hd : o.dst = some d) (hw : want n E ops o = some true) {V : List Chunk} (hV : vis A i Ln ++ Ls = V) (hv : Val P w0 K n ds E V o v)
  (h : Flow P ops w0 K n ds Lf cl A Qa ri ((d, v) :: E) Ls Ln) : Flow P ops w0 K n ds Lf cl A Qa (i :: ri) E Ls Ln :=
 .val false ho (.inr hc) (fun a w ha _ hw' => .inl ⟨BM hw ha, hv a w ha (by subst hV; exact hw'.resolve_left (by simp))⟩) (by rw [hd]; exact h)
theorem BD (ho : ops[i]? = some o) (hc : cl.getD i .q = .n) (hd : o.dst = some d) (hw : want n E ops o = some true) {nv : NewV} {t : Nat} {cs : Array Value} (hx : New P n ds E o nv t cs)
  (h : ∀ g, Flow P ops w0 K n ds Lf cl A Qa ri ((d, nv.val g) :: E) Ls ((i, blk g t cs) :: Ln)) : Flow P ops w0 K n ds Lf cl A Qa (i :: ri) E Ls Ln :=
 .new ho hc (fun a ha => BM hw ha) nv t cs hx (by rw [hd]; exact h)
theorem DR (ho : ops[i]? = some o) (hc : cl.getD i .q = .r) (hd : o.dst = some d) (hw : want n E ops o = some true) {V : List Chunk} (hV : vis A i Ln ++ Ls = V) {C : Value → List Chunk → Prop}
  (hx : Rel P w0 K n ds E V o C) (h : ∀ v L', C v L' → Flow P ops w0 K n ds Lf cl A Qa ri ((d, v) :: E) Ls (L'.map (fun c => (i, c)) ++ Ln)) : Flow P ops w0 K n ds Lf cl A Qa (i :: ri) E Ls Ln :=
 .rel ho hc (fun a ha => BM hw ha) C (fun a w ha hw' => hx a w ha (by subst hV; exact hw')) (by rw [hd]; exact h)
theorem DS (ho : ops[i]? = some o) (hc : cl.getD i .q = .g) (hd : o.dst = some d) (hw : want n E ops o = some true) {V : List Chunk} (hV : Ln.map (·.2) ++ Ls = V) {C : Value → List Chunk → Prop}
  (hx : Gen P w0 K n ds E V o C) (hl : ∀ v L', C v L' → ∀ w, Own w0 K w L' → Own w0 K w Lf) (h : ∀ v L', C v L' → Flow P ops w0 K n ds Lf cl A Qa ri ((d, v) :: E) L' []) : Flow P ops w0 K n ds Lf cl A Qa (i :: ri) E Ls Ln :=
 .gen ho hc (fun a ha => BM hw ha) C (fun a w ha hw' => hx a w ha (by subst hV; exact hw')) hl (by rw [hd]; exact h)
theorem Flow.sto (ho : ops[i]? = some o) (hc : cl.getD i .q = .g) (hd : o.dst = none) (hw : want n E ops o = some true) {V : List Chunk} (hV : Ln.map (·.2) ++ Ls = V) {L' : List Chunk}
  (hx : Sto P w0 K n ds E V o L') (hl : ∀ w, Own w0 K w L' → Own w0 K w Lf) (h : Flow P ops w0 K n ds Lf cl A Qa ri E L' []) : Flow P ops w0 K n ds Lf cl A Qa (i :: ri) E Ls Ln :=
 .gen ho hc (fun a ha => BM hw ha) _ (fun a w ha hw' => hx.gen a w ha (by subst hV; exact hw')) (fun v M hC w ho => by obtain ⟨rfl, rfl⟩ := hC; exact hl w ho) (fun v M hC => by obtain ⟨rfl, rfl⟩ := hC; rw [hd]; exact h)
theorem Flow.end {V : List Chunk} (hV : Ln.map (·.2) ++ Ls = V) (h : Fin w0 K n ds Qa E V) : Flow P ops w0 K n ds Lf cl A Qa [] E Ls Ln := .done (by subst hV; exact h)
/-! ### statements -/
theorem DC.seq {x y : Code} (h : DC P w0 K n ds (Exit.then (y.wp P Q) Q) x E L) : DC P w0 K n ds Q (.seq x y) E L := fun a w ha hL => wp_seq (h a w ha hL)
theorem Fin.then {y : Code} (h : DC P w0 K n ds Q y E L) : Fin w0 K n ds (Exit.then (y.wp P Q) Q .normal) E L := h
theorem Fin.inBlock {id : Nat} (h : Fin w0 K n ds (Q .normal) E L) : Fin w0 K n ds (Exit.inBlock id Q .normal) E L := h
theorem Aa {k : Act → World → Prop} (h : Fin w0 K n ds (Q .ret) E L) : Fin w0 K n ds (Exit.then k Q .ret) E L := h
theorem Ae {id : Nat} (h : Fin w0 K n ds (Q .ret) E L) : Fin w0 K n ds (Exit.inBlock id Q .ret) E L := h
theorem Ad {k : Act → World → Prop} {id : Nat} (h : Fin w0 K n ds (Q (.exit id)) E L) : Fin w0 K n ds (Exit.then k Q (.exit id)) E L := h
theorem Ah {id : Nat} (h : Fin w0 K n ds (Q .normal) E L) : Fin w0 K n ds (Exit.inBlock id Q (.exit id)) E L := by
 intro a w ha hL; show (if id = id then Q .normal a w else Q (.exit id) a w); rw [if_pos rfl]; exact h a w ha hL
theorem E8 {id id' : Nat} (hne : id' ≠ id) (h : Fin w0 K n ds (Q (.exit id')) E L) : Fin w0 K n ds (Exit.inBlock id Q (.exit id')) E L := by
 intro a w ha hL; show (if id' = id then Q .normal a w else Q (.exit id') a w); rw [if_neg hne]; exact h a w ha hL
theorem DC.region {l : List Oper} {id : Nat} (h : Seq P l.toArray w0 K n ds Q l E L) : DC P w0 K n ds Q (.region id l.toArray false) E L := fun a w ha hL => wp_region_lit (h a w ha hL)
theorem AF {id : Nat} {order : List Nat} (Lf : List Chunk) (hm : P.follows .mixedOrders = true) (hchk : flowChk ops cl A order = true) (hLf : ∀ w, Own w0 K w L → Own w0 K w Lf) (h : Flow P ops w0 K n ds Lf cl A (Q .normal) order E L []) :
  DC P w0 K n ds Q (.region id ops true) E L := Hd hm hchk hLf h
theorem DC.ret (h : Fin w0 K n ds (Q .ret) E L) : DC P w0 K n ds Q .ret E L := fun a w ha hL => wp_ret (h a w ha hL)
theorem DC.exit {id : Nat} (h : Fin w0 K n ds (Q (.exit id)) E L) : DC P w0 K n ds Q (.exit id) E L := fun a w ha hL => wp_exit (h a w ha hL)
theorem DC.skip (h : Fin w0 K n ds (Q .normal) E L) : DC P w0 K n ds Q .skip E L := fun a w ha hL => wp_skip (h a w ha hL)
theorem DC.block {id : Nat} {c : Code} (h : DC P w0 K n ds (Exit.inBlock id Q) c E L) : DC P w0 K n ds Q (.block id c) E L := fun a w ha hL => wp_block (h a w ha hL)
theorem DC.cond {c : Operand} {x y : Code} {b : Bool} (hc : ev n E c = some (.bool b)) (h1 : b = true → DC P w0 K n ds Q x E L) (h2 : b = false → DC P w0 K n ds Q y E L) :
  DC P w0 K n ds Q (.cond c x y) E L := fun a w ha hL => wp_cond_split (ha.ev hc) (fun h => h1 h a w ha hL) (fun h => h2 h a w ha hL)
/-! ### forgetting -/
def Sub (E : Env) : Env → Prop
 | [] => True
 | (t, v) :: r => E.get t = some v ∧ Sub E r
theorem Sub.get {E E' : Env} (h : Sub E E') : ∀ t v, E'.get t = some v → E.get t = some v := by
 induction E' with
 | nil => intro t v hv; cases hv
 | cons p r ih =>
  obtain ⟨k, u⟩ := p
  intro t v hv
  rw [Br] at hv
  split at hv
  ·rename_i hk; cases hv; subst hk; exact h.1
  exact ih h.2 t v hv
inductive Pick : List Chunk → List Chunk → Prop
 | nil {M : List Chunk} : Pick M []
 | cons {M : List Chunk} {c : Chunk} {L' : List Chunk} (i : Nat) (h : M[i]? = some c) (r : Pick (M.eraseIdx i) L') : Pick M (c :: L')
theorem AO : ∀ {M : List Chunk} {i : Nat} {c : Chunk}, M[i]? = some c → M.Perm (c :: M.eraseIdx i)
 | [], i, c, h => by simp at h
 | x :: M, 0, c, h => by simp at h; subst h; simp
 | x :: M, i + 1, c, h => by
  simp only [List.getElem?_cons_succ] at h
  simp only [List.eraseIdx_cons_succ]
  exact ((AO h).cons x).trans (.swap _ _ _)
theorem Own.pick {w : World} {L' : List Chunk} (h : Own w0 K w L) (hp : Pick L L') : Own w0 K w L' := by
 have : ∃ F, L.Perm (L' ++ F) := by
  clear h
  induction hp with
  | nil => exact ⟨_, .refl _⟩
  | cons i h r ih =>
   rename_i M c L'
   obtain ⟨F, hF⟩ := ih
   refine ⟨F, ?_⟩
   have h1 : M.Perm (c :: M.eraseIdx i) := AO h
   exact h1.trans (by simpa using hF.cons c)
 obtain ⟨F, hF⟩ := this
 exact (h.perm hF.symm).sub (List.sublist_append_left _ _)
theorem Pick.all (L : List Chunk) : Pick L L := by
 induction L with
 | nil => exact .nil
 | cons c L ih => exact .cons 0 rfl ih
theorem Fin.weak {Qa : Act → World → Prop} {E' : Env} {L' : List Chunk} (hE : Sub E E') (hL : Pick L L') (h : Fin w0 K n ds Qa E' L') : Fin w0 K n ds Qa E L :=
 fun a w ha hO => h a w (ha.mono hE.get) (hO.pick hL)
theorem DC.weak {c : Code} {E' : Env} {L' : List Chunk} (hE : Sub E E') (hL : Pick L L') (h : DC P w0 K n ds Q c E' L') : DC P w0 K n ds Q c E L :=
 fun a w ha hO => h a w (ha.mono hE.get) (hO.pick hL)
theorem Seq.weak {l : List Oper} {E' : Env} {L' : List Chunk} (hE : Sub E E') (hL : Pick L L') (h : Seq P ops w0 K n ds Q l E' L') : Seq P ops w0 K n ds Q l E L :=
 fun a w ha hO => h a w (ha.mono hE.get) (hO.pick hL)
/-! ### a loop: states by ghosts -/
def Again (w0 : World) (K : List Nat) (n : Nat) (ds : List Deferred) {ι : Type} (Inv : ι → Prop) (Es : ι → Env) (Ls : ι → List Chunk) (m : ι → Nat) (k : Nat) (a : Act) (w : World) : Prop :=
 ∃ j, m j < k ∧ Inv j ∧ Sat n ds (Es j) a ∧ Own w0 K w (Ls j)
theorem DC.loop {ι : Type} (Inv : ι → Prop) (Es : ι → Env) (Ls : ι → List Chunk) (m : ι → Nat) (i0 : ι) {c : Code} (h0 : Inv i0) (hE : Sub E (Es i0)) (hL : Pick L (Ls i0))
  (h : ∀ i, Inv i → DC P w0 K n ds (Exit.then (Again w0 K n ds Inv Es Ls m (m i)) Q) c (Es i) (Ls i)) : DC P w0 K n ds Q (.loop c) E L := by
 intro a w ha hO
 refine wp_loop_ghost (fun k a w => ∃ i, m i = k ∧ Inv i ∧ Sat n ds (Es i) a ∧ Own w0 K w (Ls i)) (m i0) ⟨i0, rfl, h0, ha.mono hE.get, hO.pick hL⟩ ?_
 rintro k a w ⟨i, rfl, hi, ha, hO⟩
 refine wp_mono (h i hi a w ha hO) ?_
 intro e a' w' hq
 cases e with
 | normal => obtain ⟨j, hlt, hj, hs, ho⟩ := hq; exact ⟨m j, hlt, j, rfl, hj, hs, ho⟩
 | exit id => exact hq
 | goto l => exact hq
 | ret => exact hq
 | panic ch => exact hq
 | outgrown => exact hq
theorem Ag {ι : Type} {Inv : ι → Prop} {Es : ι → Env} {Ls : ι → List Chunk} {m : ι → Nat} {k : Nat} (j : ι) (hlt : m j < k) (hj : Inv j) (hE : Sub E (Es j)) (hL : Pick L (Ls j)) :
  Fin w0 K n ds (Exit.then (Again w0 K n ds Inv Es Ls m k) Q .normal) E L :=
 fun a w ha hO => ⟨j, hlt, hj, ha.mono hE.get, hO.pick hL⟩
/-! ### calls -/
def Ret (w0 : World) (K : List Nat) (C : Value → List Chunk → Prop) (e : Ending) (w : World) : Prop := ∃ v L, e = .returned v ∧ C v L ∧ Own w0 K w L
def argEnv : Nat → List Value → Env
 | _, [] => []
 | k, v :: r => (k, v) :: argEnv (k + 1) r
theorem Ds : ∀ (l : List Value) (k t : Nat) (v : Value), (argEnv k l).get t = some v → k ≤ t ∧ l[t - k]? = some v
 | [], _, _, _, h => by cases h
 | u :: r, k, t, v, h => by
  unfold argEnv at h
  rw [Br] at h
  split at h
  ·rename_i hk; cases h; subst hk; simp
  rename_i hk
  obtain ⟨h1, h2⟩ := Ds r (k + 1) t v h
  refine ⟨by omega, ?_⟩
  have : t - k = (t - (k + 1)) + 1 := by omega
  rw [this, List.getElem?_cons_succ]; exact h2
theorem Ao {f : FuncId} {fn : Func} {c : Code} {args : List Value} {C : Value → List Chunk → Prop} {w : World} {K : List Nat} {L : List Chunk} (hf : P.funcs[f]? = some fn) (hb : fn.body = some c)
  (hn : fn.ntmps = n) (hle : Nat.ble args.length n = true) (hO : Own w K w L) (h : DC P w K n [] (bodyPost P fn (Ret w K C)) c (argEnv 0 args) L) : Calls P f args.toArray w (Ret w K C) := by
 refine calls_of_wp hf hb (h _ _ ⟨?_, rfl, fun t v hv ht => ?_⟩ hO)
 ·have := TB hle; simp [hn]; omega
 obtain ⟨_, h2⟩ := Ds args 0 t v hv
 simp only [Nat.sub_zero] at h2
 have hlt : t < args.length := (TA.1 h2).1
 simp [Array.getElem?_append, hlt]
 simpa [Tz hlt] using h2
theorem Qn {fn : Func} {t : Tmp} {C : Value → List Chunk → Prop} {e : Exit} (he : e = .ret ∨ e = .normal) (hr : fn.results = #[.tmp t]) (hv : ev n E (.tmp t) = some v) (hC : C v L) : Fin w0 K n [] (bodyPost P fn (Ret w0 K C) e) E L := by
 intro a w ha hO
 have h1 : a.defers = [] ∧ ∃ v, (results fn a.tmps).run P w = .ok v w ∧ Ret w0 K C (.returned v) w := by
  refine ⟨ha.defers, _, results_tmp hr _ _ _, _, L, rfl, ?_, hO⟩
  have := ha.ev hv
  simp only [Act.eval] at this
  rw [this]; exact hC
 rcases he with rfl | rfl <;> exact h1
theorem Cb {fn : Func} {C : Value → List Chunk → Prop} {e : Exit} (he : e = .ret ∨ e = .normal) (hr : fn.results = #[]) (hC : C (.tuple #[]) L) : Fin w0 K n [] (bodyPost P fn (Ret w0 K C) e) E L := by
 intro a w ha hO
 have h1 : a.defers = [] ∧ ∃ v, (results fn a.tmps).run P w = .ok v w ∧ Ret w0 K C (.returned v) w := ⟨ha.defers, _, results_none hr _ _ _, _, L, rfl, hC, hO⟩
 rcases he with rfl | rfl <;> exact h1
theorem AL {fn : Func} {t u : Tmp} {v1 v2 : Value} {C : Value → List Chunk → Prop} {e : Exit} (he : e = .ret ∨ e = .normal) (hr : fn.results = #[.tmp t, .tmp u]) (hv1 : ev n E (.tmp t) = some v1)
  (hv2 : ev n E (.tmp u) = some v2) (hC : C (.tuple #[v1, v2]) L) : Fin w0 K n [] (bodyPost P fn (Ret w0 K C) e) E L := by
 intro a w ha hO
 have h1 : a.defers = [] ∧ ∃ v, (results fn a.tmps).run P w = .ok v w ∧ Ret w0 K C (.returned v) w := by
  refine ⟨ha.defers, _, results_tmp2 hr _ _ _, _, L, rfl, ?_, hO⟩
  have h1 := ha.ev hv1
  have h2 := ha.ev hv2
  simp only [Act.eval] at h1 h2
  rw [h1, h2]; exact hC
 rcases he with rfl | rfl <;> exact h1
end
end Go.Fl

namespace Go.Fl
open Go
variable [Lo]
/-! ### the program's types, asked by the kernel -/
def sizeT (P : Program) (t : TypeId) : Option Nat := (P.info? t).map (·.size)
def bytesT (P : Program) (t : TypeId) : Option Nat := (P.info? t).map (·.bytes)
def zeroT (P : Program) (t : TypeId) : Option Value := (P.info? t).bind (·.zero)
def aggT (P : Program) (t : TypeId) : Option Bool :=
 match P.underlying t with
 | some (.struct _) => some true
 | some (.array _ _) => some true
 | some _ => some false
 | none => none
def fieldT (P : Program) (s k : Nat) : Option (Nat × TypeId) :=
 match P.underlying s with
 | some (.struct fs) =>
  match fs[k]? with
  | some f => match sizeT P f.type with
   | some (m + 1) => some (f.offset, f.type)
   | _ => none
  | none => none
 | _ => none
section
variable {P : Program} {w : World} {t : TypeId}
theorem BG {m : Nat} (h : sizeT P t = some m) : (sizeOf t).run P w = .ok m w := by
 unfold sizeT at h
 cases hi : P.info? t with
 | none => rw [hi] at h; cases h
 | some i => rw [hi] at h; cases h; simp [sizeOf, typeInfo, hi]
theorem ER {z : Value} (h : zeroT P t = some z) : (zeroValue t).run P w = .ok z w := by
 unfold zeroT at h
 cases hi : P.info? t with
 | none => rw [hi] at h; cases h
 | some i => rw [hi] at h; simp at h; simp [zeroValue, typeInfo, hi, h]
theorem Fz {b : Bool} (h : aggT P t = some b) : (isAgg t).run P w = .ok b w := by
 unfold aggT at h
 cases hu : P.underlying t with
 | none => rw [hu] at h; cases h
 | some d =>
  rw [hu] at h
  cases d <;> (cases h; simp [isAgg, run_underlying hu])
theorem Mb {s k off ft : Nat} {a : Addr} (h : fieldT P s k = some (off, ft)) : (Instr.fieldAt s (.pointer (some a)) k).run P w = .ok (.pointer (some (a.add off))) w := by
 unfold fieldT at h
 split at h
 ·rename_i fs hu
  split at h
  ·rename_i f hf
   split at h
   ·rename_i m hm
    cases h
    simp [Instr.fieldAt, run_underlying hu, hf, Instr.sureAddr, fieldPlace, BG hm]
   cases h
  cases h
 cases h
end
/-! ### operations that ask no memory -/
section
variable {P : Program} {n : Nat} {ds : List Deferred} {E : Env} {o : Oper} {x y z : Operand} {v u : Value}
theorem Pa (ho : o.op = .move x) (hx : ev n E x = some v) : Pur P n ds E o v := by
 intro a w ha; simp [execOp, ho, ha.ev hx]
theorem AR (ho : o.op = .assign x) (hx : ev n E x = some v) : Pur P n ds E o v := by
 intro a w ha; simp [execOp, ho, ha.ev hx]
theorem A7 (ho : o.op = .pick x y z) (hx : ev n E x = some (.bool true)) (hy : ev n E y = some v) : Pur P n ds E o v := by
 intro a w ha; simp [execOp, ho, ha.ev hx, ha.ev hy, asBool]
theorem AZ (ho : o.op = .pick x y z) (hx : ev n E x = some (.bool false)) (hz : ev n E z = some v) : Pur P n ds E o v := by
 intro a w ha; simp [execOp, ho, ha.ev hx, ha.ev hz, asBool]
theorem AH {ad : Addr} (ho : o.op = .nilCheck x) (hx : ev n E x = some (.pointer (some ad))) : Pur P n ds E o (.pointer (some ad)) := by
 intro a w ha; simp [execOp, ho, ha.ev hx]
theorem Bd {b : Bool} {t : TypeId} (ho : o.op = .unOp .not t x) (hx : ev n E x = some (.bool b)) : Pur P n ds E o (.bool (!b)) := by
 intro a w ha; simp [execOp, ho, ha.ev hx, Op.unary]
theorem DJ {k : Nat} {vs : Array Value} (ho : o.op = .extract x k) (hx : ev n E x = some (.tuple vs)) (hk : vs[k]? = some v) : Pur P n ds E o v := by
 intro a w ha; simp [execOp, ho, ha.ev hx, Instr.extract, hk]
theorem Bq {s k off ft : Nat} {ad ad' : Addr} (ho : o.op = .fieldAddr s x k) (hx : ev n E x = some (.pointer (some ad))) (hf : fieldT P s k = some (off, ft)) (he : ad.add off = ad') :
  Pur P n ds E o (.pointer (some ad')) := by
 intro a w ha; subst he; simp [execOp, ho, ha.ev hx, Mb hf]
theorem AM {t e m len cap : Nat} {ad ad' : Addr} {k : IntKind} {i : Int} (ho : o.op = .indexAddr t x y) (hx : ev n E x = some (.slice (some ad) len cap)) (hy : ev n E y = some (.int k i))
  (ht : P.underlying t = some (.slice e)) (hm : sizeT P e = some m) (h0 : 0 ≤ i) (h1 : i < len) (he : ad.add (i.toNat * m) = ad') : Pur P n ds E o (.pointer (some ad')) := by
 intro a w ha; subst he
 simp [execOp, ho, ha.ev hx, ha.ev hy, Instr.indexAt, asIntOf, run_underlying ht, BG hm, h0, h1]
theorem AC (g j : Nat) : (⟨g, 0, none⟩ : Addr).add j = ⟨g, j, none⟩ := by unfold Addr.add; split <;> simp_all
theorem Aj {t e len cap : Nat} {ad ad' : Addr} {k : IntKind} {i : Int} (ho : o.op = .indexAddr t x y) (hx : ev n E x = some (.slice (some ad) len cap)) (hy : ev n E y = some (.int k i))
  (ht : P.underlying t = some (.slice e)) (hm : sizeT P e = some 1) (h0 : 0 ≤ i) (h1 : i < len) (he : ad.add i.toNat = ad') : Pur P n ds E o (.pointer (some ad')) :=
 AM ho hx hy ht hm h0 h1 (by rw [Nat.mul_one]; exact he)
/-- two integers -/
theorem C9 {op : BinOp} {t t' : TypeId} {k : IntKind} {i j r : Int} (ho : o.op = .binOp op t x y t') (hx : ev n E x = some (.int k i)) (hy : ev n E y = some (.int k j))
  (hr : ∀ w, (binOp op t (.int k i) (.int k j)).run P w = .ok v w) : Pur P n ds E o v := by
 intro a w ha
 have hg : (eqGuard op t x y (.int k i) (.int k j)).run P w = .ok () w := by
  unfold eqGuard
  cases op <;> simp
 simp [execOp, ho, ha.ev hx, ha.ev hy, hg, hr]
theorem DU {i : Int} (h : -9223372036854775808 ≤ i ∧ i ≤ 9223372036854775807) : IntKind.i64.wrap i = i := by
 rw [IntKind.wrap_i64]; omega
theorem CI {t t' : TypeId} {i j : Int} (ho : o.op = .binOp .add t x y t') (hx : ev n E x = some (.int .i64 i)) (hy : ev n E y = some (.int .i64 j))
  (hb : -9223372036854775808 ≤ i + j ∧ i + j ≤ 9223372036854775807) : Pur P n ds E o (.int .i64 (i + j)) := C9 (r := 0) ho hx hy fun w => by simp [binOp, Op.intArith, DU hb]
theorem Bv {t t' : TypeId} {i j : Int} (ho : o.op = .binOp .sub t x y t') (hx : ev n E x = some (.int .i64 i)) (hy : ev n E y = some (.int .i64 j))
  (hb : -9223372036854775808 ≤ i - j ∧ i - j ≤ 9223372036854775807) : Pur P n ds E o (.int .i64 (i - j)) := C9 (r := 0) ho hx hy fun w => by simp [binOp, Op.intArith, DU hb]
theorem Cl {t t' : TypeId} {i j : Int} (ho : o.op = .binOp .mul t x y t') (hx : ev n E x = some (.int .i64 i)) (hy : ev n E y = some (.int .i64 j))
  (hb : -9223372036854775808 ≤ i * j ∧ i * j ≤ 9223372036854775807) : Pur P n ds E o (.int .i64 (i * j)) := C9 (r := 0) ho hx hy fun w => by simp [binOp, Op.intArith, DU hb]
theorem RC {t t' : TypeId} {i j : Int} (ho : o.op = .binOp .add t x y t') (hx : ev n E x = some (.int .i64 i)) (hy : ev n E y = some (.int .i64 j)) :
  Pur P n ds E o (.int .i64 (IntKind.i64.wrap (i + j))) := C9 (r := 0) ho hx hy fun w => by simp [binOp, Op.intArith]
theorem RB {t t' : TypeId} {i j : Int} (ho : o.op = .binOp .sub t x y t') (hx : ev n E x = some (.int .i64 i)) (hy : ev n E y = some (.int .i64 j)) :
  Pur P n ds E o (.int .i64 (IntKind.i64.wrap (i - j))) := C9 (r := 0) ho hx hy fun w => by simp [binOp, Op.intArith]
theorem IX {t t' : TypeId} {i j : Int} (ho : o.op = .binOp .quo t x y t') (hx : ev n E x = some (.int .i64 i)) (hy : ev n E y = some (.int .i64 j))
  (hi : 0 ≤ i ∧ i ≤ 9223372036854775807) (hj : 0 < j) : Pur P n ds E o (.int .i64 (i / j)) := C9 (r := 0) ho hx hy fun w => by
 have h1 : i.tdiv j = i / j := Int.tdiv_eq_ediv_of_nonneg hi.1
 have h2 : 0 ≤ i / j := Int.ediv_nonneg hi.1 (by omega)
 have h3 : i / j ≤ i := Int.ediv_le_self _ hi.1
 simp [binOp, Op.intDiv, show j ≠ 0 by omega, h1, DU (i := i / j) ⟨by omega, by omega⟩]
theorem IW {t t' : TypeId} {i j : Int} (ho : o.op = .binOp .rem t x y t') (hx : ev n E x = some (.int .i64 i)) (hy : ev n E y = some (.int .i64 j))
  (hi : 0 ≤ i) (hj : 0 < j) : Pur P n ds E o (.int .i64 (i % j)) := C9 (r := 0) ho hx hy fun w => by
 have h1 : i.tmod j = i % j := Int.tmod_eq_emod_of_nonneg hi
 simp [binOp, Op.intDiv, show j ≠ 0 by omega, h1]
theorem E7 {t t' : TypeId} {k : IntKind} {i j : Int} (ho : o.op = .binOp .lss t x y t') (hx : ev n E x = some (.int k i)) (hy : ev n E y = some (.int k j)) :
  Pur P n ds E o (.bool (decide (i < j))) := C9 (r := 0) ho hx hy fun w => by simp [binOp, Op.intCmp]
theorem HF {t t' : TypeId} {k : IntKind} {i j : Int} (ho : o.op = .binOp .leq t x y t') (hx : ev n E x = some (.int k i)) (hy : ev n E y = some (.int k j)) :
  Pur P n ds E o (.bool (decide (i ≤ j))) := C9 (r := 0) ho hx hy fun w => by simp [binOp, Op.intCmp]
theorem Bs {t t' : TypeId} {k : IntKind} {i j : Int} (ho : o.op = .binOp .gtr t x y t') (hx : ev n E x = some (.int k i)) (hy : ev n E y = some (.int k j)) :
  Pur P n ds E o (.bool (decide (j < i))) := C9 (r := 0) ho hx hy fun w => by simp [binOp, Op.intCmp]
theorem Cc {t t' : TypeId} {k : IntKind} {i j : Int} (ho : o.op = .binOp .geq t x y t') (hx : ev n E x = some (.int k i)) (hy : ev n E y = some (.int k j)) :
  Pur P n ds E o (.bool (decide (j ≤ i))) := C9 (r := 0) ho hx hy fun w => by simp [binOp, Op.intCmp]
theorem AN {t t' : TypeId} {k : IntKind} {i j : Int} (ho : o.op = .binOp .eql t x y t') (hx : ev n E x = some (.int k i)) (hy : ev n E y = some (.int k j)) :
  Pur P n ds E o (.bool (decide (i = j))) := C9 (r := 0) ho hx hy fun w => by
 have : (i == j) = decide (i = j) := by by_cases h : i = j <;> simp [h]
 simp [binOp, Op.intCmp, this]
theorem BK {t t' : TypeId} {k : IntKind} {i j : Int} (ho : o.op = .binOp .neq t x y t') (hx : ev n E x = some (.int k i)) (hy : ev n E y = some (.int k j)) :
  Pur P n ds E o (.bool (decide (i ≠ j))) := C9 (r := 0) ho hx hy fun w => by
 have : (i != j) = decide (i ≠ j) := by by_cases h : i = j <;> simp [h]
 simp [binOp, Op.intCmp, this]
end
end Go.Fl

namespace Go.Fl
open Go
variable [Lo]
/-! ### looking a block up in the list of what is owned -/
class Find (L : List Chunk) (g : Nat) (t : outParam Nat) (cs : outParam (Array Value)) : Prop where
 mem : blk g t cs ∈ L
instance (g t : Nat) (cs : Array Value) (L : List Chunk) : Find (blk g t cs :: L) g t cs := ⟨TI ..⟩
instance (priority := low) (c : Chunk) (L : List Chunk) (g t : Nat) (cs : Array Value) [h : Find L g t cs] : Find (c :: L) g t cs := ⟨TM _ h.mem⟩
class Up (L : List Chunk) (g : Nat) (t : outParam Nat) (cs : outParam (Array Value)) (up : outParam (Array Value → List Chunk)) : Prop where
 split : ∃ R, L.Perm (blk g t cs :: R) ∧ ∀ cs', (up cs').Perm (blk g t cs' :: R)
instance (g t : Nat) (cs : Array Value) (L : List Chunk) : Up (blk g t cs :: L) g t cs (fun cs' => blk g t cs' :: L) := ⟨L, .refl _, fun _ => .refl _⟩
instance (priority := low) (c : Chunk) (L : List Chunk) (g t : Nat) (cs : Array Value) (up : Array Value → List Chunk) [h : Up L g t cs up] : Up (c :: L) g t cs (fun cs' => c :: up cs') := by
 obtain ⟨R, h1, h2⟩ := h.split
 exact ⟨c :: R, (h1.cons c).trans (.swap _ _ _), fun cs' => ((h2 cs').cons c).trans (.swap _ _ _)⟩
/-- A cell that reads so in every world of this state. -/
def Has (w0 : World) (K : List Nat) (L : List Chunk) (ad : Addr) (v : Value) : Prop := ∀ w, Own w0 K w L → w.cell? ad = some v
section
variable {P : Program} {w0 : World} {K : List Nat} {n : Nat} {ds : List Deferred} {E : Env} {L : List Chunk} {o : Oper} {x y z : Operand} {v u : Value}
theorem Bj (g i j : Nat) : (⟨g, i, none⟩ : Addr).add j = ⟨g, i + j, none⟩ := by unfold Addr.add; split <;> simp_all
def lget : List Value → Nat → Option Value
 | [], _ => none
 | x :: _, 0 => some x
 | _ :: r, n + 1 => lget r n
theorem Nk : ∀ (l : List Value) (i : Nat), lget l i = l[i]?
 | [], i => by simp [lget]
 | x :: r, 0 => by simp [lget]
 | x :: r, i + 1 => by simp [lget, Nk r i]
theorem Bi {g t i : Nat} {cs : Array Value} [h : Find L g t cs] (hv : cs[i]? = some v) : Has w0 K L ⟨g, i, none⟩ v := by
 intro w hw
 have := hw.holds _ h.mem
 rw [cell_of_row w g i cs t (0, 0) this]; exact hv
theorem BJ {g t i : Nat} {cs : Array Value} [h : Find L g t cs] (hv : lget cs.toList i = some v) : Has w0 K L ⟨g, i, none⟩ v :=
 Bi (cs := cs) (by rw [Nk] at hv; simpa using hv)
theorem Ns {ad : Addr} (h : w0.cell? ad = some v) (hk : ad.block ∉ K) : Has w0 K L ad v := by
 intro w hw
 rw [hw.oldCell (World.block_lt_of_cell? w0 ad h) hk]; exact h
theorem Aw {ad : Addr} (h : w0.cell? ad = some v) : Has w0 [] L ad v := Ns h (by simp)
theorem Ai {t : TypeId} {ad : Addr} (ho : o.op = .load t x) (hx : ev n E x = some (.pointer (some ad))) (ht : aggT P t = some false) (h : Has w0 K L ad v) : Val P w0 K n ds E L o v := by
 intro a w ha hw
 simp [execOp, ho, ha.ev hx, Instr.loadAt, Instr.sureAddr, loadVar, Fz ht, h w hw]
/-- Cells in a row. -/
def Hass (w0 : World) (K : List Nat) (L : List Chunk) (ad : Addr) (vs : List Value) : Prop := ∀ w, Own w0 K w L → ∀ j u, vs[j]? = some u → w.cell? (ad.add j) = some u
theorem Ak {g t i : Nat} {cs : Array Value} {vs : List Value} [h : Find L g t cs] (hv : (cs.toList.drop i).take vs.length = vs) : Hass w0 K L ⟨g, i, none⟩ vs := by
 intro w hw j u hu
 have := hw.holds _ h.mem
 rw [Bj, cell_of_row w g _ cs t (0, 0) this]
 rw [← hv, List.getElem?_take] at hu
 split at hu
 ·rw [List.getElem?_drop] at hu; simpa using hu
 cases hu
theorem Lj {ad : Addr} {vs : List Value} (h : ∀ j u, vs[j]? = some u → w0.cell? (ad.add j) = some u) (hk : ad.block ∉ K) : Hass w0 K L ad vs := by
 intro w hw j u hu
 have h1 := h j u hu
 rw [hw.oldCell (World.block_lt_of_cell? w0 _ h1) (by unfold Addr.add; split <;> exact hk)]; exact h1
theorem Ay {t : TypeId} {ad : Addr} {vs : List Value} {cs : Array Value} (ho : o.op = .load t x) (hx : ev n E x = some (.pointer (some ad))) (ht : aggT P t = some true) (hs : sizeT P t = some vs.length)
  (hc : vs.toArray = cs) (h : Hass w0 K L ad vs) : Val P w0 K n ds E L o (.agg cs) := by
 intro a w ha hw
 subst hc
 have := run_loadCells_list (P := P) w ad vs (h w hw)
 simp [execOp, ho, ha.ev hx, Instr.loadAt, Instr.sureAddr, loadVar, Fz ht, BG hs, this]
/-! ### stores -/
theorem RD {w : World} {g t : Nat} {cs : Array Value} {up : Array Value → List Chunk} [h : Up L g t cs up] (hw : Own w0 K w L) (i : Nat) (u : Value) :
  Own w0 K (w.setCell ⟨g, i, none⟩ u) (up (cs.setIfInBounds i u)) := by
 obtain ⟨R, h1, h2⟩ := h.split
 exact ((hw.perm h1.symm).set i u).perm (h2 _)
theorem HU {w : World} {g t : Nat} {cs : Array Value} {up : Array Value → List Chunk} [h : Up L g t cs up] (hw : Own w0 K w L) : w.heap[g]? = some (.cells cs t (0, 0)) := by
 obtain ⟨R, h1, h2⟩ := h.split
 exact hw.holds _ (h1.mem_iff.2 (TI ..))
def one (v : Value) : Bool := v.oneCell'
theorem AE {t tb g i : Nat} {cs cs' : Array Value} {up : Array Value → List Chunk} [h : Up L g tb cs up] (ho : o.op = .store t x y) (hx : ev n E x = some (.pointer (some ⟨g, i, none⟩)))
  (hy : ev n E y = some u) (hs : sizeT P t = some 1) (h1 : u.oneCell' = true) (hi : i < cs.size) (hc : cs.setIfInBounds i u = cs') : Sto P w0 K n ds E L o (up cs') := by
 intro a w ha hw
 subst hc
 have hb := HU (g := g) hw
 have hcell : w.cell? ⟨g, i, none⟩ = some cs[i] := by rw [cell_of_row w g i cs tb (0, 0) hb]; simp [hi]
 have hfr := frozen_of_row w g i cs tb hb
 have hcells : u.cells = #[u] := by cases u <;> first | rfl | cases h1
 have hst : (store (Addr.add ⟨g, i, none⟩ 0) u).run P w = .ok () (w.setCell ⟨g, i, none⟩ u) := by
  rw [Bj, run_store P w _ u _ h1]
  simp only [Nat.add_zero, hcell, hfr]; simp
 refine ⟨w.setCell ⟨g, i, none⟩ u, ?_, RD hw i u⟩
 simp [execOp, ho, ha.ev hx, ha.ev hy, Instr.storeAt, Instr.sureAddr, storeVar, hcells, BG hs, storeCells, hst]
theorem EJ (w : World) (g : Nat) (cs cs' : Array Value) (t : Nat) (hb : w.heap[g]? = some (.cells cs t (0, 0))) : Own w [g] (w.setRow g cs') [blk g t cs'] := by
 have hlt : g < w.heap.size := (TP.1 hb).1
 refine ⟨rfl, rfl, rfl, Lo.refl _, by simp, fun k hk hn => ?_, by simp [blk], fun x hx => ?_, fun x hx => ?_, fun c hc => ?_⟩
 ·simp at hn
  simp only [World.setRow, Array.getElem?_modify]
  rw [if_neg (by omega)]
 ·simp [blk] at hx; subst hx; exact .inl (by simp)
 ·simp [blk] at hx; subst hx; simpa using hlt
 simp at hc; subst hc
 simp [blk, World.setRow, Array.getElem?_modify, hb]
theorem N2 {w : World} {g t : Nat} {cs : Array Value} {up : Array Value → List Chunk} [h : Up L g t cs up] (hw : Own w0 K w L) (cs' : Array Value) :
  Own w0 K (w.setRow g cs') (up cs') := by
 have hb := HU (g := g) hw
 obtain ⟨R, h1, h2⟩ := h.split
 exact (Own.frame (Lc := [blk g t cs]) (hw.perm h1.symm) (EJ w g cs cs' t hb) (fun k hk => by simp [blk] at hk ⊢; exact hk)).perm (h2 _)
/-- A struct or an array is stored: into a part of a block. -/
theorem At {t tb g i : Nat} {cs cs' us : Array Value} {up : Array Value → List Chunk} [h : Up L g tb cs up] (ho : o.op = .store t x y) (hx : ev n E x = some (.pointer (some ⟨g, i, none⟩)))
  (hy : ev n E y = some (.agg us)) (hs : sizeT P t = some us.size) (h1 : us.toList.all Value.oneCell' = true) (hi : i + us.size ≤ cs.size)
  (hc : (cs.toList.take i ++ us.toList ++ cs.toList.drop (i + us.size)).toArray = cs') : Sto P w0 K n ds E L o (up cs') := by
 intro a w ha hw
 have hb := HU (g := g) hw
 have hst := run_storeCells_at P g i tb us.toList 0 cs w hb (by simpa using hi) (fun v hv => List.all_eq_true.1 h1 v hv)
 simp only [Nat.add_zero, Array.length_toList] at hst
 rw [hc] at hst
 refine ⟨w.setRow g cs', ?_, N2 (g := g) hw cs'⟩
 simp [execOp, ho, ha.ev hx, ha.ev hy, Instr.storeAt, Instr.sureAddr, storeVar, Value.cells, BG hs, hst]
/-! ### new memory -/
theorem AD {t : Nat} {zv : Value} {cs : Array Value} (ho : o.op = .alloc t) (hz : zeroT P t = some zv) (hc : zv.cells = cs) : New P n ds E o .ptr t cs := by
 intro a w ha
 subst hc
 simp [execOp, ho, Instr.alloc, ER hz, newVar, newRow, NewV.val]
theorem Ba {t : Nat} {cs : Array Value} (ho : o.op = .box t x) (hx : ev n E x = some v) (hc : v.cells = cs) : New P n ds E o .ptr t cs := by
 intro a w ha
 subst hc
 simp [execOp, ho, ha.ev hx, Instr.box, newVar, newRow, NewV.val]
theorem FN {t m b : Nat} {zv : Value} (hm : sizeT P t = some m) (hb : bytesT P t = some b) (hz : zeroT P t = some zv) : ∃ i, P.info? t = some i ∧ i.size = m ∧ i.bytes = b ∧ i.zero = some zv := by
 unfold sizeT at hm; unfold bytesT at hb; unfold zeroT at hz
 cases hi : P.info? t with
 | none => rw [hi] at hm; cases hm
 | some i => rw [hi] at hm hb hz; exact ⟨i, rfl, by simpa using hm, by simpa using hb, by simpa using hz⟩
theorem Ca {t e m b : Nat} {zv : Value} {len : Int} {k : Nat} {cs : Array Value} (ho : o.op = .makeSlice t x y) (hx : ev n E x = some (.int .i64 len)) (hy : ev n E y = some (.int .i64 len))
  (ht : P.underlying t = some (.slice e)) (hm : sizeT P e = some m) (hb : bytesT P e = some b) (hz : zeroT P e = some zv) (hk : len = (k : Nat)) (hbytes : b * k ≤ 281474976710656) (h63 : k ≤ 9223372036854775807)
  (hc : madeCells zv.cells (k * m) = cs) : New P n ds E o (.sl k k) e cs := by
 intro a w ha
 subst hk hc
 obtain ⟨i, hi, h1, h2, h3⟩ := FN hm hb hz
 subst h1 h2
 have := run_make (P := P) w t e i zv ht hi h3 .i64 .i64 k k (by omega) (by omega) (by rw [← Int.natCast_mul]; omega) (by omega)
 simp only [TC] at this
 simp [execOp, ho, ha.ev hx, ha.ev hy, this, NewV.val]
theorem FK (z : Value) (h : z.oneCell' = true) (k : Nat) : madeCells z.cells (k * 1) = (List.replicate k z).toArray := by
 have hz : z.cells = #[z] := by cases z <;> first | rfl | cases h
 rw [hz]
 apply Array.ext'
 simp [madeCells, Nat.mod_one, List.map_const']
/-- The operands of a list of places. -/
def evs (n : Nat) (E : Env) : List Operand → Option (List Value)
 | [] => some []
 | x :: r => match ev n E x, evs n E r with
  | some v, some vs => some (v :: vs)
  | _, _ => none
theorem Lw {a : Act} (ha : Sat n ds E a) : ∀ {xs : List Operand} {vs : List Value}, evs n E xs = some vs → xs.map a.eval = vs
 | [], vs, h => by cases h; rfl
 | x :: r, vs, h => by
  unfold evs at h
  split at h
  ·rename_i v vs' h1 h2
   cases h
   rw [List.map_cons, ha.ev h1, Lw ha h2]
  cases h
def evps (n : Nat) (E : Env) : List (Nat × Operand) → Option (List (Nat × Value))
 | [] => some []
 | (k, x) :: r => match ev n E x, evps n E r with
  | some v, some vs => some ((k, v) :: vs)
  | _, _ => none
theorem E1 {a : Act} (ha : Sat n ds E a) : ∀ {xs : List (Nat × Operand)} {vs : List (Nat × Value)}, evps n E xs = some vs → xs.map (fun p => (p.1, a.eval p.2)) = vs
 | [], vs, h => by cases h; rfl
 | (k, x) :: r, vs, h => by
  unfold evps at h
  split at h
  ·rename_i v vs' h1 h2
   cases h
   rw [List.map_cons, ha.ev h1, E1 ha h2]
  cases h
theorem GY {t : Nat} {ps : Array (Nat × Operand)} {vs : List (Nat × Value)} {cs : Array Value} (ho : o.op = .build t ps) (hp : evps n E ps.toList = some vs) (hb : P.built t vs = some cs) :
  Pur P n ds E o (.agg cs) := by
 intro a w ha
 have h1 : (ps.map fun (p : Nat × Operand) => (p.1, a.eval p.2)) = vs.toArray := by
  apply Array.ext'; rw [Array.toList_map]; exact E1 ha hp
 have h2 : (ps.map fun (i, x) => (i, a.eval x)) = vs.toArray := h1
 simp only [execOp, ho, h2]
 simp [run_build w t vs.toArray cs (by simpa using hb)]
theorem JN {t e m len : Nat} {ps : Array (Nat × Operand)} {vs : List (Nat × Value)} {zv : Value} {cs : Array Value} (ho : o.op = .buildSlice t len ps) (hp : evps n E ps.toList = some vs)
  (ht : P.underlying t = some (.slice e)) (hm : sizeT P e = some m) (hz : zeroT P e = some zv) (hl : len * m ≤ 16777216)
  (hb : Instr.fill (fun i => some (i * m, m)) ((Array.range (len * m)).map (zv.cells[· % zv.cells.size]!)) vs = some cs) : New P n ds E o (.sl len len) e cs := by
 intro a w ha
 have h1 : (ps.map fun (p : Nat × Operand) => (p.1, a.eval p.2)) = vs.toArray := by
  apply Array.ext'; rw [Array.toList_map]; exact E1 ha hp
 have h2 : (ps.map fun (i, x) => (i, a.eval x)) = vs.toArray := h1
 simp only [execOp, ho, h2]
 by_cases h0 : len * m = 0
 ·rw [h0] at hb
  have hz0 : ∀ f : Nat → Value, (Array.range 0).map f = #[] := fun f => by simp
  rw [hz0] at hb
  simp [Instr.buildSlice, run_underlying ht, BG hm, h0, newRow, NewV.val, hz0, hb]
 have h4 : ¬ (16777216 < len * m) := by omega
 simp [Instr.buildSlice, run_underlying ht, BG hm, h0, h4, ER hz, newRow, NewV.val, hb]
theorem CC {t : Nat} {ad : Option Addr} {len cap : Nat} {e : Nat} (ho : o.op = .call ⟨.builtin .len, #[x], #[t]⟩) (hx : ev n E x = some (.slice ad len cap)) (ht : P.underlying t = some (.slice e)) :
  Pur P n ds E o (.int .i64 len) := by
 intro a w ha
 simp [execOp, ho, resolve, ha.ev hx, invoke, builtin, Builtin.len_, run_underlying ht, goInt]
/-! ### calls -/
theorem J7 {a : Act} (ha : Sat n ds E a) {xs : Array Operand} {vs : List Value} (h : evs n E xs.toList = some vs) : xs.map a.eval = vs.toArray := by
 apply Array.ext'; rw [Array.toList_map]; exact Lw ha h
structure Ent (P : Program) (f : FuncId) : Prop where
 go : ∃ fn, P.funcs[f]? = some fn ∧ (fn.name == "runtime.NumGoroutine") = false ∧ fn.body.isNone = false
theorem Ey {f : FuncId} {xs : Array Operand} {ts : Array Nat} {vs : List Value} {cap : Array Value} {a : Act} {w : World} (hf : Ent P f) (ho : o.op = .call ⟨.value x, xs, ts⟩) (ha : Sat n ds E a)
  (hx : ev n E x = some (.func (.func f) #[] cap)) (hxs : evs n E xs.toList = some vs) : (execOp a.eval o).run P w = .ok (.enter f (vs.toArray ++ cap)) w := by
 obtain ⟨fn, h1, h2, h3⟩ := hf.go
 simp only [execOp, ho, resolve, J7 ha hxs, ha.ev hx]
 have h4 : ¬ fn.name = "runtime.NumGoroutine" := by simpa using h2
 have h5 : ¬ fn.body = none := fun e => by rw [e] at h3; cases h3
 simp [Deferred.ofValue, invoke, callFunc, h1, h4, h5]
theorem Ar {f : FuncId} {xs : Array Operand} {ts : Array Nat} {vs : List Value} {cap : Array Value} {C : Value → List Chunk → Prop} (hf : Ent P f) (ho : o.op = .call ⟨.value x, xs, ts⟩)
  (hx : ev n E x = some (.func (.func f) #[] cap)) (hxs : evs n E xs.toList = some vs) (hcon : ∀ w, Own w0 K w L → Calls P f (vs.toArray ++ cap) w (Ret w [] C)) : Rel P w0 K n ds E L o C := by
 intro a w ha hw
 unfold RunsTo
 rw [Ey hf ho ha hx hxs]
 refine Calls.mono (hcon w hw) ?_
 rintro e w' ⟨v, L', he, hC, hO⟩
 exact ⟨v, he, L', hC, hO⟩
/-- A call that works on memory of ours: the pieces Lc (in front) are handed over, the rest stays. -/
theorem Bh {f : FuncId} {xs : Array Operand} {ts : Array Nat} {vs : List Value} {cap : Array Value} {C : Value → List Chunk → Prop} {K' : List Nat} {Lc F : List Chunk} (hf : Ent P f) (ho : o.op = .call ⟨.value x, xs, ts⟩)
  (hx : ev n E x = some (.func (.func f) #[] cap)) (hxs : evs n E xs.toList = some vs) (hL : L.Perm (Lc ++ F)) (hK : ∀ k, k ∈ K' → k ∈ idsOf Lc)
  (hcon : ∀ w, Own w0 K w L → Calls P f (vs.toArray ++ cap) w (Ret w K' C)) : Gen P w0 K n ds E L o (fun v M => ∃ L', C v L' ∧ M = L' ++ F) := by
 intro a w ha hw
 unfold RunsTo
 rw [Ey hf ho ha hx hxs]
 refine Calls.mono (hcon w hw) ?_
 rintro e w' ⟨v, L', he, hC, hO⟩
 exact ⟨v, he, L' ++ F, ⟨L', hC, rfl⟩, Own.frame (hw.perm hL.symm) hO hK⟩
end
end Go.Fl

namespace Go.Fl
open Go
variable [Lo]
theorem HH {w w' : World} {b t m n : Nat} {v : Value} {vs : List Value} (h : w.ownsRow b t m v n vs) (he : ∀ g, v.ownBlock = some g → w'.heap[g]? = w.heap[g]?) : w'.ownsRow b t m v n vs := by
 refine ⟨h.1, ?_⟩
 rcases h.2 with h2 | ⟨g, cap, cur, rfl, hb, hg, r⟩
 ·exact .inl h2
 exact .inr ⟨g, cap, cur, rfl, hb, by rw [he g rfl]; exact hg, r⟩
/-- A slice of the call's own: elements of type t, m cells each; vs: the cells of all that it holds. -/
def slc (v : Value) (t m : Nat) (vs : List Value) : Chunk :=
 ⟨v.ownBlock.toList, fun w => w.ownsRow 0 t m v (vs.length / m) vs, fun w w' h hh => HH hh fun g hg => h g (by rw [hg]; simp)⟩
section
variable {P : Program} {w0 : World} {K : List Nat} {n : Nat} {ds : List Deferred} {E : Env} {L F : List Chunk} {o : Oper} {x y z : Operand} {v u : Value} {w : World}
theorem GZ {c c' : Chunk} (hi : c'.ids = c.ids) (h : ∀ w, c.holds w → c'.holds w) (hw : Own w0 K w (c :: F)) : Own w0 K w (c' :: F) := by
 have e : idsOf (c' :: F) = idsOf (c :: F) := by simp [hi]
 refine ⟨hw.os, hw.tape, hw.output, hw.drawn, hw.size, hw.old, by rw [e]; exact hw.nodup, by rw [e]; exact hw.fresh, by rw [e]; exact hw.lt, fun d hd => ?_⟩
 rcases List.mem_cons.1 hd with rfl | hd
 ·exact h w (hw.holds c (TI ..))
 exact hw.holds d (TM _ hd)
/-- A block of ours, seen as a slice of ours. -/
theorem BZ {g t m len cap : Nat} {cs : Array Value} {vs : List Value} (hl : vs.length = len * m) (hm : 0 < m) (hlc : len ≤ cap) (hcm : cap ≤ 9223372036854775807) (hcs : cs.size = cap * m) (ht : cs.toList.take (len * m) = vs)
  (hw : Own w0 K w (blk g t cs :: F)) : Own w0 K w (slc (.slice (some ⟨g, 0, none⟩) len cap) t m vs :: F) := by
 refine GZ (by rfl) (fun w hh => ?_) hw
 have hd : vs.length / m = len := by rw [hl]; exact Nat.mul_div_cancel _ hm
 show w.ownsRow 0 t m _ (vs.length / m) vs
 rw [hd]
 exact ⟨hl, .inr ⟨g, cap, cs, rfl, Nat.zero_le _, hh, hlc, by simp only [maxLen]; omega, hcs, ht⟩⟩
theorem AX {t m : Nat} (hw : Own w0 K w F) : Own w0 K w (slc (.slice none 0 0) t m [] :: F) := by
 have e : idsOf (slc (.slice none 0 0) t m [] :: F) = idsOf F := by simp [slc, Value.ownBlock]
 refine ⟨hw.os, hw.tape, hw.output, hw.drawn, hw.size, hw.old, by rw [e]; exact hw.nodup, by rw [e]; exact hw.fresh, by rw [e]; exact hw.lt, fun d hd => ?_⟩
 rcases List.mem_cons.1 hd with rfl | hd
 ·show w.ownsRow 0 t m _ (0 / m) []
  rw [Nat.zero_div]
  exact ⟨by simp, .inl ⟨rfl, rfl⟩⟩
 exact hw.holds d hd
/-- What a slice of ours is. -/
theorem B9 {t m : Nat} {vs : List Value} (hw : Own w0 K w (slc v t m vs :: F)) :
  (v = .slice none 0 0 ∧ vs = [] ∧ Own w0 K w F) ∨
  ∃ g len cap sp, v = .slice (some ⟨g, 0, none⟩) len cap ∧ vs.length = len * m ∧ len ≤ cap ∧ cap ≤ 9223372036854775807 ∧ vs.length + sp.length = cap * m ∧ Own w0 K w (blk g t (vs ++ sp).toArray :: F) := by
 have h : w.ownsRow 0 t m v (vs.length / m) vs := hw.holds _ (TI ..)
 obtain ⟨h1, h2⟩ := h
 rcases h2 with ⟨rfl, h3⟩ | ⟨g, cap, cur, rfl, _, hg, hnc, hcm, hcs, ht⟩
 ·rw [h3, Nat.zero_mul] at h1
  exact .inl ⟨rfl, TO h1, hw.sub (TG ..)⟩
 refine .inr ⟨g, vs.length / m, cap, cur.toList.drop (vs.length / m * m), rfl, h1, hnc, by simp only [maxLen] at hcm; omega, ?_, ?_⟩
 ·have hcl : cur.toList.length = cap * m := by simp [hcs]
  rw [List.length_drop, hcl]
  have : vs.length / m * m ≤ cap * m := Nat.mul_le_mul_right _ hnc
  omega
 have e : (vs ++ cur.toList.drop (vs.length / m * m)).toArray = cur := by
  apply Array.ext'
  have := List.take_append_drop (vs.length / m * m) cur.toList
  rw [ht] at this
  exact this
 rw [e]
 have e : idsOf (blk g t cur :: F) = idsOf (slc (.slice (some ⟨g, 0, none⟩) (vs.length / m) cap) t m vs :: F) := by simp [slc, blk, Value.ownBlock]
 refine ⟨hw.os, hw.tape, hw.output, hw.drawn, hw.size, hw.old, by rw [e]; exact hw.nodup, by rw [e]; exact hw.fresh, by rw [e]; exact hw.lt, fun d hd => ?_⟩
 rcases List.mem_cons.1 hd with rfl | hd
 ·exact hg
 exact hw.holds d (TM _ hd)
/-- What is appended: it reads so. -/
def Src (w0 : World) (K : List Nat) (L : List Chunk) (y : Value) (k : Nat) (news : List Value) : Prop :=
 (∃ ad c, y = .slice (some ad) k c ∧ Hass w0 K L ad news) ∨ (∃ c, y = .slice none 0 c ∧ k = 0 ∧ news = [])
theorem Ez {t e ty : Nat} {A : Option Addr} {len cap c m : Nat} (ht : P.underlying t = some (.slice e)) (hm : sizeT P e = some m) (hlc : len ≤ cap) :
  (Builtin.append_ #[t, t] ty #[.slice A len cap, .slice none 0 c]).run P w = .ok (.slice A len cap) w := by
 have hf : (Builtin.firstCells m 0 (.slice none 0 c)).run P w = .ok #[] w := run_firstCells_none ..
 cases A with
 | none => simp [Builtin.append_, run_underlying ht, BG hm, Builtin.lenOf, hlc, hf]
 | some a => simp [Builtin.append_, run_underlying ht, BG hm, Builtin.lenOf, hlc, hf, storeCells]
/-- append to a slice of ours. -/
theorem AK {t e m b k : Nat} {zv yv : Value} {vs news : List Value} (ho : o.op = .call ⟨.builtin .append, #[x, y], #[t, t]⟩) (hx : ev n E x = some v) (hy : ev n E y = some yv)
  (ht : P.underlying t = some (.slice e)) (hm : sizeT P e = some m) (hb : bytesT P e = some b) (hz : zeroT P e = some zv) (hzs : zv.cells.size = m) (hm0 : 0 < m) (hb0 : 0 < b)
  (hown : ∀ w, Own w0 K w L → Own w0 K w (slc v e m vs :: F)) (hn : Src w0 K L yv k news) (hk : news.length = k * m) (h1 : ∀ u, u ∈ news → u.oneCell' = true)
  (hfit : (vs.length / m + k) * b ≤ 140737488355328) : Gen P w0 K n ds E L o (fun v' M => M = slc v' e m (vs ++ news) :: F) := by
 intro a w ha hw
 obtain ⟨i, hi, e1, e2, e3⟩ := FN hm hb hz
 subst e1 e2
 have hw' := hown w hw
 have hrow : w.ownsRow 0 e i.size v (vs.length / i.size) vs := hw'.holds _ (TI ..)
 obtain ⟨hr1, hr2⟩ := hrow
 have hle : vs.length / i.size + k ≤ 140737488355328 := by
  have : vs.length / i.size + k ≤ (vs.length / i.size + k) * i.bytes := Nat.le_mul_of_pos_right _ hb0
  omega
 have hlen : (vs ++ news).length = (vs.length / i.size + k) * i.size := by rw [List.length_append, Nat.add_mul, ← hr1, hk]
 have hdiv : (vs ++ news).length / i.size = vs.length / i.size + k := by rw [hlen]; exact Nat.mul_div_cancel _ hm0
 have hrun : ∀ v' w1, (Builtin.append_ #[t, t] o.type #[v, yv]).run P w = .ok v' w1 → Own w0 K w1 (slc v' e i.size (vs ++ news) :: F) →
   RunsTo P (execOp a.eval o) w (fun v w' => ∃ L', L' = slc v e i.size (vs ++ news) :: F ∧ Own w0 K w' L') := by
  intro v' w1 hr hO
  unfold RunsTo
  have : (execOp a.eval o).run P w = .ok (.value v') w1 := by
   simp [execOp, ho, resolve, ha.ev hx, ha.ev hy, invoke, builtin, hr]
  rw [this]
  exact ⟨_, rfl, hO⟩
 have hF : Own w0 K w F := hw'.sub (TG ..)
 have hfresh : ∀ (cap : Nat) (z : List Value), vs.length / i.size + k ≤ cap → cap ≤ 9223372036854775807 → (vs ++ news ++ z).length = cap * i.size →
   Own w0 K (w.drew.alloc (.cells (vs ++ news ++ z).toArray e)) (slc (.slice (some ⟨w.heap.size, 0, none⟩) (vs.length / i.size + k) cap) e i.size (vs ++ news) :: F) := by
  intro cap z h2 h3 h4
  have := (hF.drew).alloc e (vs ++ news ++ z).toArray
  refine BZ hlen hm0 h2 h3 (by simpa using h4) ?_ this
  simp only [List.toList_toArray, ← hlen]
  exact List.take_left
 rcases hn with ⟨ad, c, rfl, hnews⟩ | ⟨c, rfl, rfl, rfl⟩
 ·have hnews' := hnews w hw
  rcases hr2 with ⟨rfl, h0⟩ | ⟨g, cap, cur, rfl, _, hg, hnc, hcm, hcs, htake⟩
  ·have hvs : vs = [] := TO (by rw [hr1, h0, Nat.zero_mul])
   subst hvs
   by_cases hk0 : k = 0
   ·subst hk0
    have hn0 : news = [] := TO (by simpa using hk)
    subst hn0
    refine hrun (.slice none 0 0) w ?_ hw'
    simp [Builtin.append_, run_underlying ht, sizeOf, typeInfo, hi, Builtin.lenOf, Builtin.firstCells, loadCells, loadCellsFrom]
   have hle' : k * i.bytes ≤ 281474976710656 := by simp only [List.length_nil, Nat.zero_div, Nat.zero_add] at hfit; omega
   have hr := run_append_nil (P := P) w t o.type e i zv ht hi e3 ad k c news hk hnews' (by omega) (by simp at hle; omega) hle'
   refine hrun _ _ hr ?_
   have := hfresh (grownCap w k 0 e) (Builtin.zeroCells zv.cells (grownCap w k 0 e - k)).toList (by simpa using grownCap_ge w k 0 e)
    (by have := grownCap_le_maxLen w k 0 e (by simp only [maxLen]; simp at hle; omega); simp only [maxLen] at this; omega)
    (by
     have h5 := grownCap_ge w k 0 e
     simp only [List.nil_append, List.length_append, Array.length_toList, size_zeroCells, hzs, hk, ← Nat.add_mul]
     congr 1; omega)
   simp only [List.nil_append, List.length_nil, Nat.zero_div, Nat.zero_add] at this ⊢
   have e5 : (news ++ (Builtin.zeroCells zv.cells (grownCap w k 0 e - k)).toList).toArray = news.toArray ++ Builtin.zeroCells zv.cells (grownCap w k 0 e - k) := by simp
   rw [e5] at this
   exact this
  by_cases hroom : vs.length / i.size + k ≤ cap
  ·have hfit2 : vs.length / i.size * i.size + news.length ≤ cur.size := by
    rw [hcs, hk, ← Nat.add_mul]; exact Nat.mul_le_mul_right _ hroom
   have hr := run_append_room (P := P) w t o.type e i ht hi g (vs.length / i.size) cap cur hg ad k c news hk hnews' h1 hroom hfit2
   refine hrun _ _ hr ?_
   have hO := EJ w g cur (cur.toList.take (vs.length / i.size * i.size) ++ news ++ cur.toList.drop (vs.length / i.size * i.size + news.length)).toArray e hg
   have hO2 : Own w0 K _ (blk g e _ :: F) := Own.frame (Lc := [slc (.slice (some ⟨g, 0, none⟩) (vs.length / i.size) cap) e i.size vs]) hw' hO
    (fun k hk => by simp [slc, Value.ownBlock] at hk ⊢; exact hk)
   refine BZ hlen hm0 hroom (by simp only [maxLen] at hcm; omega) ?_ ?_ hO2
   ·have : vs.length / i.size * i.size ≤ cur.size := by omega
    simp only [List.size_toArray, List.length_append, List.length_take, List.length_drop, Array.length_toList]
    rw [Nat.min_eq_left this, ← hcs]; omega
   simp only [List.toList_toArray, htake]
   rw [← hlen]
   exact List.take_left
  have hr := run_append_grow (P := P) w t o.type e i zv ht hi e3 ⟨g, 0, none⟩ (vs.length / i.size) cap vs hr1
   (by
    intro j u hj
    rw [Bj, cell_of_row w g _ cur e (0, 0) hg]
    rw [← htake, List.getElem?_take] at hj
    split at hj
    ·simpa using hj
    cases hj) ad k c news hk hnews' (by omega) (by omega) (growslice_fits (by omega) hfit)
  refine hrun _ _ hr ?_
  have := hfresh (grownCap w (vs.length / i.size + k) cap e) (Builtin.zeroCells zv.cells (grownCap w (vs.length / i.size + k) cap e - (vs.length / i.size + k))).toList (grownCap_ge ..)
   (by have := grownCap_le_maxLen w (vs.length / i.size + k) cap e (by simp only [maxLen]; omega); simp only [maxLen] at this; omega)
   (by
    have h5 := grownCap_ge w (vs.length / i.size + k) cap e
    rw [List.length_append, hlen]
    simp only [Array.length_toList, size_zeroCells, hzs, ← Nat.add_mul]
    congr 1; omega)
  have e5 : (vs ++ news ++ (Builtin.zeroCells zv.cells (grownCap w (vs.length / i.size + k) cap e - (vs.length / i.size + k))).toList).toArray =
    vs.toArray ++ news.toArray ++ Builtin.zeroCells zv.cells (grownCap w (vs.length / i.size + k) cap e - (vs.length / i.size + k)) := by apply Array.ext'; simp
  rw [e5] at this
  exact this
 rw [List.append_nil] at *
 rcases hr2 with ⟨rfl, h0⟩ | ⟨g, cap, cur, rfl, _, hg, hnc, hcm, hcs, htake⟩
 ·exact hrun _ w (Ez ht hm (Nat.le_refl _)) hw'
 exact hrun _ w (Ez ht hm hnc) hw'
end
end Go.Fl

namespace Go.Fl
open Go
variable [Lo]
/-! ### literals -/
def fillL (place : Nat → Option (Nat × Nat)) (cells : List Value) : List (Nat × Value) → Option (List Value)
 | [] => some cells
 | (i, v) :: r =>
  match place i with
  | none => none
  | some (off, size) => bif Nat.beq v.cells.toList.length size && Nat.ble (off + v.cells.toList.length) cells.length then
    fillL place (cells.take off ++ (v.cells.toList ++ cells.drop (off + v.cells.toList.length))) r else none
theorem OT (off : Nat) : ∀ (l : List Value) (k : Nat) (cells : Array Value), off + k + l.length ≤ cells.size →
  ((l.zipIdx k).foldl (fun (cs : Array Value) (p : Value × Nat) => cs.setIfInBounds (off + p.2) p.1) cells).toList = cells.toList.take (off + k) ++ (l ++ cells.toList.drop (off + k + l.length))
 | [], k, cells, _ => by simp
 | x :: l, k, cells, h => by
  simp only [List.zipIdx_cons, List.foldl_cons]
  rw [OT off l (k + 1) _ (by simp at h ⊢; omega)]
  have e := list_seg_step cells.toList (off + k) x l (by simp at h ⊢; omega)
  simpa [Array.toList_setIfInBounds, Nat.add_assoc] using e
theorem G8 {place : Nat → Option (Nat × Nat)} : ∀ {parts : List (Nat × Value)} {cells : Array Value} {l : List Value}, fillL place cells.toList parts = some l → Instr.fill place cells parts = some l.toArray
 | [], cells, l, h => by cases h; rfl
 | (i, v) :: r, cells, l, h => by
  unfold fillL at h
  unfold Instr.fill
  cases hp : place i with
  | none => rw [hp] at h; cases h
  | some q =>
   obtain ⟨off, size⟩ := q
   rw [hp] at h
   simp only at h ⊢
   cases hb : (Nat.beq v.cells.toList.length size && Nat.ble (off + v.cells.toList.length) cells.toList.length) with
   | false => rw [hb] at h; cases h
   | true =>
    rw [hb] at h
    rw [Bool.and_eq_true] at hb
    have h1 : v.cells.size = size := by have := Nat.eq_of_beq_eq_true hb.1; simpa using this
    have h2 : off + v.cells.size ≤ cells.size := by have := TB hb.2; simpa using this
    rw [if_neg (by simp only [Bool.or_eq_true, decide_eq_true_eq]; omega)]
    apply G8
    have hs := OT off v.cells.toList 0 cells (by simpa using h2)
    have e : (v.cells.zipIdx.foldl (fun cs (x : Value × Nat) => cs.setIfInBounds (off + x.2) x.1) cells) = ((v.cells.toList.zipIdx 0).foldl (fun (cs : Array Value) (p : Value × Nat) => cs.setIfInBounds (off + p.2) p.1) cells) := by
     rw [← Array.foldl_toList]; simp
    rw [e, hs]
    simpa using h
def builtSt (P : Program) (t : TypeId) : Option (List (Nat × Nat) × List Value) :=
 match P.info? t, P.underlying t with
 | some it, some (.struct fields) =>
  match it.zero, fields.toList.mapM (fun f => (P.info? f.type).map fun i => (f.offset, i.size)) with
  | some z, some places => some (places, z.cells.toList)
  | _, _ => none
 | _, _ => none
theorem Qc {P : Program} {t : TypeId} {places : List (Nat × Nat)} {z l : List Value} {vs : List (Nat × Value)} (h : builtSt P t = some (places, z)) (hf : fillL (fun (i : Nat) => places[i]?) z vs = some l) : P.built t vs = some l.toArray := by
 unfold builtSt at h
 unfold Program.built
 split at h
 ·rename_i it fields hi hu
  rw [hi, hu]
  simp only
  split at h
  ·rename_i zz pl hz hp
   obtain ⟨rfl, rfl⟩ : pl = places ∧ zz.cells.toList = z := by
    have h2 := Option.some.inj h
    exact ⟨congrArg Prod.fst h2, congrArg Prod.snd h2⟩
   rw [hz, hp]
   simp only
   have : Instr.fill (fun (i : Nat) => pl.toArray[i]?) zz.cells vs = some l.toArray := by
    apply G8
    have e : (fun (i : Nat) => pl.toArray[i]?) = (fun (i : Nat) => pl[i]?) := by funext i; simp
    rw [e]; exact hf
   exact this
  cases h
 cases h
section
variable {P : Program} {ops : Array Oper} {w0 : World} {K : List Nat} {n : Nat} {ds : List Deferred} {E : Env} {L F : List Chunk} {o : Oper} {x y z : Operand} {v u : Value} {w : World} {d : Nat} {r : List Oper} {Q : Exit → Act → World → Prop}
theorem AA {t : Nat} {ps : Array (Nat × Operand)} {vs : List (Nat × Value)} {places : List (Nat × Nat)} {zs l : List Value} {cs : Array Value} (ho : o.op = .build t ps) (hp : evps n E ps.toList = some vs)
  (hb : builtSt P t = some (places, zs)) (hf : fillL (fun (i : Nat) => places[i]?) zs vs = some l) (hc : l.toArray = cs) : Pur P n ds E o (.agg cs) := by
 subst hc; exact GY ho hp (Qc hb hf)
theorem AP {t e m len : Nat} {ps : Array (Nat × Operand)} {vs : List (Nat × Value)} {zv : Value} {l : List Value} {cs : Array Value} (ho : o.op = .buildSlice t len ps) (hp : evps n E ps.toList = some vs)
  (ht : P.underlying t = some (.slice e)) (hm : sizeT P e = some m) (hz : zeroT P e = some zv) (hzs : zv.cells.size = m) (hm0 : 0 < m) (hl : len * m ≤ 16777216)
  (hb : fillL (fun i => some (i * m, m)) (List.flatten (List.replicate len zv.cells.toList)) vs = some l) (hc : l.toArray = cs) : New P n ds E o (.sl len len) e cs := by
 subst hc
 refine JN ho hp ht hm hz hl (G8 ?_)
 have : ((Array.range (len * m)).map (zv.cells[· % zv.cells.size]!)).toList = List.flatten (List.replicate len zv.cells.toList) := by
  rw [Array.toList_map]
  have hs : zv.cells.toList.length = m := by simp [hzs]
  clear hb hl hp ho
  induction len with
  | zero => simp
  | succ k ih =>
   have e1 : (Array.range ((k + 1) * m)).toList = List.range (k * m + m) := by simp [Nat.succ_mul]
   rw [e1, List.range_add, List.map_append, List.replicate_succ']
   simp only [Array.toList_range] at ih
   rw [ih, List.flatten_append]
   congr 1
   simp only [List.flatten_cons, List.flatten_nil, List.append_nil, List.map_map]
   apply List.ext_getElem
   ·simp [hs, hzs]
   intro i h1 h2
   simp at h1 h2 ⊢
   have : (k * m + i) % zv.cells.size = i := by rw [hzs, Nat.add_comm, Nat.add_mul_mod_self_right, Nat.mod_eq_of_lt h1]
   rw [this]; simp [h2]
 rw [this]; exact hb
/-! ### guards that are told apart -/
theorem M3 {a : Act} {d : Nat} (h : Sat n ds E a) (hd : E.get d = some v) : Sat n ds ((d, v) :: E) a :=
 h.mono fun t u hu => by
  rw [Br] at hu
  split at hu
  ·rename_i e; subst e; cases hu; exact hd
  exact hu
theorem Seq.split (d : Nat) {b : Bool} (hd : E.get d = some (.bool b)) (h1 : b = true → Seq P ops w0 K n ds Q r ((d, .bool true) :: E) L) (h2 : b = false → Seq P ops w0 K n ds Q r ((d, .bool false) :: E) L) :
  Seq P ops w0 K n ds Q r E L := by
 intro a w ha hw
 cases b with
 | true => exact h1 rfl a w (M3 ha hd) hw
 | false => exact h2 rfl a w (M3 ha hd) hw
variable {Lf : List Chunk} {cl : List Cls} {A : List Nat} {Qa : Act → World → Prop} {i : Nat} {ri : List Nat} {Ls : List Chunk} {Ln : List (Nat × Chunk)}
theorem Flow.dup {l : List Nat} {E : Env} (h : Flow P ops w0 K n ds Lf cl A Qa l E Ls Ln) {E' : Env} (he : ∀ t, E'.get t = E.get t) : Flow P ops w0 K n ds Lf cl A Qa l E' Ls Ln := h.congr he (.refl _)
theorem Flow.split (d : Nat) {b : Bool} (hd : E.get d = some (.bool b)) (h1 : b = true → Flow P ops w0 K n ds Lf cl A Qa ri ((d, .bool true) :: E) Ls Ln) (h2 : b = false → Flow P ops w0 K n ds Lf cl A Qa ri ((d, .bool false) :: E) Ls Ln) :
  Flow P ops w0 K n ds Lf cl A Qa ri E Ls Ln := by
 have key : ∀ t, E.get t = Env.get ((d, .bool b) :: E) t := by
  intro t
  rw [Br]
  split
  ·rename_i e; subst e; exact hd
  rfl
 cases b with
 | true => exact (h1 rfl).dup key
 | false => exact (h2 rfl).dup key
theorem Am (ho : ops[i]? = some o) (hc : cl.getD i .q = .v) (hd : o.dst = some d) (hw : want n E ops o = some true) (hv : Val P w0 K n ds E Ls o v)
  (h : Flow P ops w0 K n ds Lf cl A Qa ri ((d, v) :: E) Ls Ln) : Flow P ops w0 K n ds Lf cl A Qa (i :: ri) E Ls Ln :=
 OE ho hc hd hw rfl (fun a w ha hw => hv a w ha (hw.sub (List.sublist_append_right _ _))) h
theorem E3 (ho : ops[i]? = some o) (hc : cl.getD i .q = .r) (hd : o.dst = some d) (hw : want n E ops o = some true) {C : Value → List Chunk → Prop}
  (hx : Rel P w0 K n ds E Ls o C) (h : ∀ v L', C v L' → Flow P ops w0 K n ds Lf cl A Qa ri ((d, v) :: E) Ls (L'.map (fun c => (i, c)) ++ Ln)) : Flow P ops w0 K n ds Lf cl A Qa (i :: ri) E Ls Ln :=
 DR ho hc hd hw rfl (fun a w ha hw => hx a w ha (hw.sub (List.sublist_append_right _ _))) h
/-- A call that makes nothing. -/
theorem Seq.rel0 (hd : o.dst = some d) (hw : want n E ops o = some true) {D : Value → Prop} (hx : Rel P w0 K n ds E L o (fun v M => M = [] ∧ D v))
  (h : ∀ v, D v → Seq P ops w0 K n ds Q r ((d, v) :: E) L) : Seq P ops w0 K n ds Q (o :: r) E L :=
 Seq.rel hd hw hx fun v L' hC => by obtain ⟨rfl, hD⟩ := hC; exact h v hD
theorem Flow.rel0 (ho : ops[i]? = some o) (hc : cl.getD i .q = .r) (hd : o.dst = some d) (hw : want n E ops o = some true) {D : Value → Prop}
  (hx : Rel P w0 K n ds E Ls o (fun v M => M = [] ∧ D v)) (h : ∀ v, D v → Flow P ops w0 K n ds Lf cl A Qa ri ((d, v) :: E) Ls Ln) : Flow P ops w0 K n ds Lf cl A Qa (i :: ri) E Ls Ln :=
 E3 ho hc hd hw hx fun v L' hC => by obtain ⟨rfl, hD⟩ := hC; exact h v hD
/-- Where the region has made nothing yet. -/
theorem Flow.gen0 (ho : ops[i]? = some o) (hc : cl.getD i .q = .g) (hd : o.dst = some d) (hw : want n E ops o = some true) {C : Value → List Chunk → Prop}
  (hx : Gen P w0 K n ds E Ls o C) (hl : ∀ v L', C v L' → ∀ w, Own w0 K w L' → Own w0 K w Lf) (h : ∀ v L', C v L' → Flow P ops w0 K n ds Lf cl A Qa ri ((d, v) :: E) L' []) : Flow P ops w0 K n ds Lf cl A Qa (i :: ri) E Ls [] :=
 DS (V := Ls) ho hc hd hw rfl hx hl h
theorem AS (ho : ops[i]? = some o) (hc : cl.getD i .q = .g) (hd : o.dst = none) (hw : want n E ops o = some true) {L' : List Chunk}
  (hx : Sto P w0 K n ds E Ls o L') (hl : ∀ w, Own w0 K w L' → Own w0 K w Lf) (h : Flow P ops w0 K n ds Lf cl A Qa ri E L' []) : Flow P ops w0 K n ds Lf cl A Qa (i :: ri) E Ls [] :=
 Flow.sto (V := Ls) ho hc hd hw rfl hx hl h
theorem AI {c : Operand} {xc yc : Code} (hc : ev n E c = some (.bool true)) (h : DC P w0 K n ds Q xc E L) : DC P w0 K n ds Q (.cond c xc yc) E L := DC.cond hc (fun _ => h) (fun e => by cases e)
theorem AT {c : Operand} {xc yc : Code} (hc : ev n E c = some (.bool false)) (h : DC P w0 K n ds Q yc E L) : DC P w0 K n ds Q (.cond c xc yc) E L := DC.cond hc (fun e => by cases e) (fun _ => h)
theorem Own.self {w0 w : World} {K : List Nat} {L : List Chunk} (h : Own w0 K w L) : Own w (idsOf L) w L :=
 ⟨rfl, rfl, rfl, Lo.refl _, Nat.le_refl _, fun _ _ _ => rfl, h.nodup, fun g hg => .inl hg, h.lt, h.holds⟩
/-! ### a slice of ours is looked at -/
theorem Seq.open {t m : Nat} {vs : List Value} (h1 : v = .slice none 0 0 → vs = [] → Seq P ops w0 K n ds Q r E F)
  (h2 : ∀ g len cap sp, v = .slice (some ⟨g, 0, none⟩) len cap → vs.length = len * m → len ≤ cap → cap ≤ 9223372036854775807 → vs.length + sp.length = cap * m → Seq P ops w0 K n ds Q r E (blk g t (vs ++ sp).toArray :: F)) :
  Seq P ops w0 K n ds Q r E (slc v t m vs :: F) := by
 intro a w ha hw
 rcases B9 hw with ⟨e1, e2, hw'⟩ | ⟨g, len, cap, sp, e1, e2, e3, e4, e5, hw'⟩
 ·exact h1 e1 e2 a w ha hw'
 exact h2 g len cap sp e1 e2 e3 e4 e5 a w ha hw'
theorem DC.open {t m : Nat} {vs : List Value} {c : Code} (h1 : v = .slice none 0 0 → vs = [] → DC P w0 K n ds Q c E F)
  (h2 : ∀ g len cap sp, v = .slice (some ⟨g, 0, none⟩) len cap → vs.length = len * m → len ≤ cap → cap ≤ 9223372036854775807 → vs.length + sp.length = cap * m → DC P w0 K n ds Q c E (blk g t (vs ++ sp).toArray :: F)) :
  DC P w0 K n ds Q c E (slc v t m vs :: F) := by
 intro a w ha hw
 rcases B9 hw with ⟨e1, e2, hw'⟩ | ⟨g, len, cap, sp, e1, e2, e3, e4, e5, hw'⟩
 ·exact h1 e1 e2 a w ha hw'
 exact h2 g len cap sp e1 e2 e3 e4 e5 a w ha hw'
theorem Fin.open {t m : Nat} {vs : List Value} {Qb : Act → World → Prop} (h1 : v = .slice none 0 0 → vs = [] → Fin w0 K n ds Qb E F)
  (h2 : ∀ g len cap sp, v = .slice (some ⟨g, 0, none⟩) len cap → vs.length = len * m → len ≤ cap → cap ≤ 9223372036854775807 → vs.length + sp.length = cap * m → Fin w0 K n ds Qb E (blk g t (vs ++ sp).toArray :: F)) :
  Fin w0 K n ds Qb E (slc v t m vs :: F) := by
 intro a w ha hw
 rcases B9 hw with ⟨e1, e2, hw'⟩ | ⟨g, len, cap, sp, e1, e2, e3, e4, e5, hw'⟩
 ·exact h1 e1 e2 a w ha hw'
 exact h2 g len cap sp e1 e2 e3 e4 e5 a w ha hw'
theorem Pick.cons' {M : List Chunk} {c c0 : Chunk} {L' : List Chunk} (i : Nat) (h : M[i]? = some c0) (e : c0 = c) (r : Pick (M.eraseIdx i) L') : Pick M (c :: L') := .cons i (e ▸ h) r
/-! ### joins -/
def Met (w0 : World) (K : List Nat) (n : Nat) (ds : List Deferred) {ι : Type} (Inv : ι → Prop) (Es : ι → Env) (Ls : ι → List Chunk) (a : Act) (w : World) : Prop := ∃ j, Inv j ∧ Sat n ds (Es j) a ∧ Own w0 K w (Ls j)
theorem DC.cut {ι : Type} (Inv : ι → Prop) (Es : ι → Env) (Lc : ι → List Chunk) {xc yc : Code} (first : DC P w0 K n ds (Exit.then (Met w0 K n ds Inv Es Lc) Q) xc E L)
  (rest : ∀ i, Inv i → DC P w0 K n ds Q yc (Es i) (Lc i)) : DC P w0 K n ds Q (.seq xc yc) E L := by
 refine DC.seq fun a w ha hw => wp_mono (first a w ha hw) ?_
 intro e a w h
 cases e with
 | normal => obtain ⟨j, hj, hs, ho⟩ := h; exact rest j hj a w hs ho
 | exit id => exact h
 | goto l => exact h
 | ret => exact h
 | panic ch => exact h
 | outgrown => exact h
theorem AG {ι : Type} {Inv : ι → Prop} {Es : ι → Env} {Lc : ι → List Chunk} (j : ι) (hj : Inv j) (hE : Sub E (Es j)) (hL : Pick L (Lc j)) : Fin w0 K n ds (Exit.then (Met w0 K n ds Inv Es Lc) Q .normal) E L :=
 fun a w ha hO => ⟨j, hj, ha.mono hE.get, hO.pick hL⟩
theorem Sub.nil : Sub E [] := trivial
theorem Sub.cons {t : Nat} {r : Env} (h : E.get t = some v) (hr : Sub E r) : Sub E ((t, v) :: r) := ⟨h, hr⟩
/-! ### further operations -/
theorem Gh {f : Fn} {first cap : Array Operand} {vs ws : List Value} (ho : o.op = .makeFunc f first cap) (h1 : evs n E first.toList = some ws) (hc : evs n E cap.toList = some vs) : Pur P n ds E o (.func f ws.toArray vs.toArray) := by
 intro a w ha
 simp [execOp, ho, Instr.makeFunc, J7 ha hc, J7 ha h1]
theorem IY {t t' e : Nat} {p : Option Addr} (ho : o.op = .binOp .eql t x y t') (hx : ev n E x = some (.pointer p)) (hy : ev n E y = some (.pointer none)) (ht : P.underlying t = some (.pointer e)) :
  Pur P n ds E o (.bool p.isNone) := by
 intro a w ha
 have h : P.underlying t = some (.pointer (P.pointee t)) := by simp [Program.pointee, ht]
 simp [execOp, ho, ha.ev hx, ha.ev hy, eqGuard_at_pointer, run_eql_pointer_nil w t p h]
theorem N0 {t t' e : Nat} {p : Option Addr} (ho : o.op = .binOp .neq t x y t') (hx : ev n E x = some (.pointer p)) (hy : ev n E y = some (.pointer none)) (ht : P.underlying t = some (.pointer e)) :
  Pur P n ds E o (.bool (!p.isNone)) := by
 intro a w ha
 have h : P.underlying t = some (.pointer (P.pointee t)) := by simp [Program.pointee, ht]
 simp [execOp, ho, ha.ev hx, ha.ev hy, eqGuard_at_pointer, run_neq_pointer_nil w t p h]
theorem QF {t t' : Nat} {b c : Bool} (ho : o.op = .binOp .neq t x y t') (hx : ev n E x = some (.bool b)) (hy : ev n E y = some (.bool c)) (ht : P.underlying t = some .bool) : Pur P n ds E o (.bool (!(b == c))) := by
 intro a w ha
 simp [execOp, ho, ha.ev hx, ha.ev hy, eqGuard_at_bool, run_neq_bool w t b c ht]
theorem HE {t t' : Nat} {i : Int} (ho : o.op = .binOp .xor t x y t') (hx : ev n E x = some (.int .i64 i)) (hy : ev n E y = some (.int .i64 1)) (hi : 0 ≤ i ∧ i ≤ 9223372036854775807) :
  Pur P n ds E o (.int .i64 (if i % 2 = 0 then i + 1 else i - 1)) := by
 refine C9 (r := 0) ho hx hy fun w => ?_
 have h : (binOp .xor t (.int .i64 i) (.int .i64 1)) = Op.intBits .xor .i64 i 1 := binOp_xor ..
 rw [h]
 obtain ⟨k, rfl⟩ := TJ hi.1
 have hk : k < 2 ^ 63 := by have := hi.2; omega
 have e1 : BitVec.ofInt 64 (k : Int) = BitVec.ofNat 64 k := by simp
 have e2 : (BitVec.ofNat 64 k ^^^ BitVec.ofInt 64 1).toNat = k ^^^ 1 := by
  rw [BitVec.toNat_xor]
  have : (BitVec.ofInt 64 1).toNat = 1 := by decide
  rw [this, BitVec.toNat_ofNat, Nat.mod_eq_of_lt (by omega)]
 have e3 : ((k ^^^ 1 : Nat) : Int) = (if (k : Int) % 2 = 0 then (k : Int) + 1 else (k : Int) - 1) := by
  have h1 : (k ^^^ 1) / 2 = k / 2 := by rw [Nat.xor_div_two]; simp
  have h2 : ((k ^^^ 1) % 2 = 1) ↔ ¬ ((k % 2 = 1) ↔ (1 % 2 = 1)) := Nat.xor_mod_two_eq_one
  by_cases h3 : k % 2 = 1
  ·have h4 : ¬ ((k ^^^ 1) % 2 = 1) := fun h5 => (h2.1 h5) ⟨fun _ => rfl, fun _ => h3⟩
   rw [if_neg (by omega)]; omega
  have h4 : (k ^^^ 1) % 2 = 1 := h2.2 fun h5 => h3 (h5.2 rfl)
  rw [if_pos (by omega)]; omega
 have e4 : (Op.intBits .xor .i64 (k : Int) 1).run P w = .ok (.int .i64 (IntKind.i64.wrap ((BitVec.ofInt 64 (k : Int) ^^^ BitVec.ofInt 64 1).toNat : Int))) w := rfl
 rw [e4, e1, e2, DU (i := ((k ^^^ 1 : Nat) : Int)) (by rw [e3]; split <;> omega), e3]
theorem Nb {ts : Array Nat} {i j : Int} (ho : o.op = .call ⟨.builtin .max, #[x, y], ts⟩) (hx : ev n E x = some (.int .i64 i)) (hy : ev n E y = some (.int .i64 j)) : Pur P n ds E o (.int .i64 (max i j)) := by
 intro a w ha
 have : (if j > i then j else i) = max i j := by split <;> omega
 simp [execOp, ho, resolve, ha.ev hx, ha.ev hy, invoke, builtin, Builtin.max_, Builtin.max2]
 omega
theorem Na {ts : Array Nat} {i j : Int} (ho : o.op = .call ⟨.builtin .min, #[x, y], ts⟩) (hx : ev n E x = some (.int .i64 i)) (hy : ev n E y = some (.int .i64 j)) : Pur P n ds E o (.int .i64 (min i j)) := by
 intro a w ha
 simp [execOp, ho, resolve, ha.ev hx, ha.ev hy, invoke, builtin, Builtin.min_, Builtin.min2]
 omega
end
section
variable {P : Program} {ops : Array Oper} {w0 w : World} {K : List Nat} {n : Nat} {ds : List Deferred} {E : Env} {L F : List Chunk} {o : Oper} {x y z : Operand} {v u : Value}
theorem In {Lf : List Chunk} {cl : List Cls} {A : List Nat} {Qa : Act → World → Prop} {i : Nat} {ri : List Nat} {Ls : List Chunk} {Ln : List (Nat × Chunk)} {V : List Chunk} {d : Nat}
  (ho : ops[i]? = some o) (hc : cl.getD i .q = .r) (hd : o.dst = some d) (hw : want n E ops o = some true) (hV : vis A i Ln ++ Ls = V) {D : Value → Prop}
  (hx : Rel P w0 K n ds E V o (fun v M => M = [] ∧ D v)) (h : ∀ v, D v → Flow P ops w0 K n ds Lf cl A Qa ri ((d, v) :: E) Ls Ln) : Flow P ops w0 K n ds Lf cl A Qa (i :: ri) E Ls Ln :=
 DR ho hc hd hw hV hx fun v L' hC => by obtain ⟨rfl, hD⟩ := hC; exact h v hD
end
end Go.Fl

namespace Go.Fl
open Go
variable [Lo]
section
variable {P : Program} {ops : Array Oper} {w0 w : World} {K : List Nat} {n : Nat} {ds : List Deferred} {E : Env} {L : List Chunk} {Q : Exit → Act → World → Prop} {o : Oper} {r : List Oper} {v u : Value} {d : Nat} {x y z : Operand}
theorem Zm (h : Seq P ops w0 K n ds Q r ((d, v) :: E) L) (hd : o.dst = some d := by exact rfl) (hw : want n E ops o = some true := by exact rfl) (ho : o.op = .move x := by exact rfl) (hx : ev n E x = some v := by exact rfl) : Seq P ops w0 K n ds Q (o :: r) E L := Seq.pur hd hw (Pa ho hx) h
theorem Za (h : Seq P ops w0 K n ds Q r ((d, v) :: E) L) (hd : o.dst = some d := by exact rfl) (hw : want n E ops o = some true := by exact rfl) (ho : o.op = .assign x := by exact rfl) (hx : ev n E x = some v := by exact rfl) : Seq P ops w0 K n ds Q (o :: r) E L := Seq.pur hd hw (AR ho hx) h
theorem Zk (h : Seq P ops w0 K n ds Q r ((d, undef) :: E) L) (hd : o.dst = some d := by exact rfl) (hw : want n E ops o = some false := by exact rfl) : Seq P ops w0 K n ds Q (o :: r) E L := Seq.skip hd hw h
theorem Zl {t : TypeId} {ad : Addr} (ht : aggT P t = some false) (h : Seq P ops w0 K n ds Q r ((d, v) :: E) L) (hd : o.dst = some d := by exact rfl) (hw : want n E ops o = some true := by exact rfl) (ho : o.op = .load t x := by exact rfl) (hx : ev n E x = some (.pointer (some ad)) := by exact rfl)
  (hh : Has w0 K L ad v := by first | exact BJ rfl | exact Aw (by assumption)) : Seq P ops w0 K n ds Q (o :: r) E L := Seq.val hd hw (Ai ho hx ht hh) h
theorem Zf {s k off ft : Nat} {ad ad' : Addr} (hf : fieldT P s k = some (off, ft)) (h : Seq P ops w0 K n ds Q r ((d, .pointer (some ad')) :: E) L) (hd : o.dst = some d := by exact rfl) (hw : want n E ops o = some true := by exact rfl) (ho : o.op = .fieldAddr s x k := by exact rfl)
  (hx : ev n E x = some (.pointer (some ad)) := by exact rfl) (he : ad.add off = ad' := by first | exact AC _ _ | exact Bj _ _ _ | rfl) : Seq P ops w0 K n ds Q (o :: r) E L := Seq.pur hd hw (Bq ho hx hf he) h
theorem Zn {t : Nat} {ad : Option Addr} {len cap : Nat} {e : Nat} (ht : P.underlying t = some (.slice e)) (h : Seq P ops w0 K n ds Q r ((d, .int .i64 len) :: E) L) (hd : o.dst = some d := by exact rfl) (hw : want n E ops o = some true := by exact rfl)
  (ho : o.op = .call ⟨.builtin .len, #[x], #[t]⟩ := by exact rfl) (hx : ev n E x = some (.slice ad len cap) := by exact rfl) : Seq P ops w0 K n ds Q (o :: r) E L := Seq.pur hd hw (CC ho hx ht) h
theorem Zi {t e len cap : Nat} {ad ad' : Addr} {k : IntKind} {i : Int} (ht : P.underlying t = some (.slice e)) (hm : sizeT P e = some 1) (h : Seq P ops w0 K n ds Q r ((d, .pointer (some ad')) :: E) L) (hd : o.dst = some d := by exact rfl) (hw : want n E ops o = some true := by exact rfl)
  (ho : o.op = .indexAddr t x y := by exact rfl) (hx : ev n E x = some (.slice (some ad) len cap) := by exact rfl) (hy : ev n E y = some (.int k i) := by exact rfl) (h0 : 0 ≤ i := by omega) (h1 : i < len := by omega) (he : ad.add i.toNat = ad' := by first | exact AC _ _ | exact Bj _ _ _ | rfl) :
  Seq P ops w0 K n ds Q (o :: r) E L := Seq.pur hd hw (Aj ho hx hy ht hm h0 h1 he) h
theorem Zp {t t' : TypeId} {i j : Int} (h : Seq P ops w0 K n ds Q r ((d, .int .i64 (i + j)) :: E) L) (hd : o.dst = some d := by exact rfl) (hw : want n E ops o = some true := by exact rfl) (ho : o.op = .binOp .add t x y t' := by exact rfl)
  (hx : ev n E x = some (.int .i64 i) := by exact rfl) (hy : ev n E y = some (.int .i64 j) := by exact rfl) (hb : -9223372036854775808 ≤ i + j ∧ i + j ≤ 9223372036854775807 := by omega) : Seq P ops w0 K n ds Q (o :: r) E L := Seq.pur hd hw (CI ho hx hy hb) h
theorem Ze {k : Nat} {vs : Array Value} (h : Seq P ops w0 K n ds Q r ((d, v) :: E) L) (hd : o.dst = some d := by exact rfl) (hw : want n E ops o = some true := by exact rfl) (ho : o.op = .extract x k := by exact rfl) (hx : ev n E x = some (.tuple vs) := by exact rfl) (hk : vs[k]? = some v := by exact rfl) :
  Seq P ops w0 K n ds Q (o :: r) E L := Seq.pur hd hw (DJ ho hx hk) h
theorem Zt (h : Seq P ops w0 K n ds Q r ((d, v) :: E) L) (hd : o.dst = some d := by exact rfl) (hw : want n E ops o = some true := by exact rfl) (ho : o.op = .pick x y z := by exact rfl) (hx : ev n E x = some (.bool true) := by exact rfl) (hy : ev n E y = some v := by exact rfl) :
  Seq P ops w0 K n ds Q (o :: r) E L := Seq.pur hd hw (A7 ho hx hy) h
theorem Zg (h : Seq P ops w0 K n ds Q r ((d, v) :: E) L) (hd : o.dst = some d := by exact rfl) (hw : want n E ops o = some true := by exact rfl) (ho : o.op = .pick x y z := by exact rfl) (hx : ev n E x = some (.bool false) := by exact rfl) (hy : ev n E z = some v := by exact rfl) :
  Seq P ops w0 K n ds Q (o :: r) E L := Seq.pur hd hw (AZ ho hx hy) h
theorem Zc {t t' : TypeId} {k : IntKind} {i j : Int} (h : Seq P ops w0 K n ds Q r ((d, .bool (decide (i < j))) :: E) L) (hd : o.dst = some d := by exact rfl) (hw : want n E ops o = some true := by exact rfl) (ho : o.op = .binOp .lss t x y t' := by exact rfl)
  (hx : ev n E x = some (.int k i) := by exact rfl) (hy : ev n E y = some (.int k j) := by exact rfl) : Seq P ops w0 K n ds Q (o :: r) E L := Seq.pur hd hw (E7 ho hx hy) h
theorem Zx {c : Code} (h : DC P w0 K n ds Q c E L) : Seq P ops w0 K n ds (Exit.then (c.wp P Q) Q) [] E L := Seq.nil (Fin.then h)
theorem Zs {l : List Oper} {id : Nat} {c : Code} (h : Seq P l.toArray w0 K n ds (Exit.then (c.wp P Q) Q) l E L) : DC P w0 K n ds Q (.seq (.region id l.toArray false) c) E L := DC.seq (DC.region h)
theorem Zo (hv : Pur P n ds E o v) (h : Seq P ops w0 K n ds Q r ((d, v) :: E) L) (hd : o.dst = some d := by exact rfl) (hw : want n E ops o = some true := by exact rfl) : Seq P ops w0 K n ds Q (o :: r) E L := Seq.pur hd hw hv h
theorem Zu (hv : Val P w0 K n ds E L o v) (h : Seq P ops w0 K n ds Q r ((d, v) :: E) L) (hd : o.dst = some d := by exact rfl) (hw : want n E ops o = some true := by exact rfl) : Seq P ops w0 K n ds Q (o :: r) E L := Seq.val hd hw hv h
theorem Zw {nv : NewV} {t : Nat} {cs : Array Value} (hx : New P n ds E o nv t cs) (h : ∀ g, Seq P ops w0 K n ds Q r ((d, nv.val g) :: E) (blk g t cs :: L)) (hd : o.dst = some d := by exact rfl) (hw : want n E ops o = some true := by exact rfl) : Seq P ops w0 K n ds Q (o :: r) E L := Seq.new hd hw hx h
theorem Zy {L' : List Chunk} (hx : Sto P w0 K n ds E L o L') (h : Seq P ops w0 K n ds Q r E L') (hd : o.dst = none := by exact rfl) (hw : want n E ops o = some true := by exact rfl) : Seq P ops w0 K n ds Q (o :: r) E L := Seq.sto hd hw hx h
theorem Zd {c : Operand} {x y : Code} {b : Bool} (h1 : b = true → DC P w0 K n ds Q x E L) (h2 : b = false → DC P w0 K n ds Q y E L) (hc : ev n E c = some (.bool b) := by exact rfl) : DC P w0 K n ds Q (.cond c x y) E L := DC.cond hc h1 h2
theorem zq {α β : Type} (f : α → β) : (∀ a l, List.map f (a :: l) = f a :: List.map f l) ∧ List.map f [] = [] := ⟨fun _ _ => rfl, rfl⟩
theorem zr {α : Type} : (∀ l : List α, [] ++ l = l) ∧ (∀ (a : α) l m, (a :: l) ++ m = a :: (l ++ m)) ∧ (∀ l : List α, l ++ [] = l) := ⟨fun _ => rfl, fun _ _ _ => rfl, List.append_nil⟩
theorem zs {α : Type} : (∀ (a : α) l m, (a :: l) ++ m = a :: (l ++ m)) ∧ (∀ l : List α, [] ++ l = l) := ⟨fun _ _ _ => rfl, fun _ => rfl⟩
theorem Zh {fn : Func} {t : Tmp} {C : Value → List Chunk → Prop} {e : Exit} (hC : C v L) (he : e = .ret ∨ e = .normal := by exact .inl rfl) (hr : fn.results = #[.tmp t] := by exact rfl) (hv : ev n E (.tmp t) = some v := by exact rfl) : Fin w0 K n [] (bodyPost P fn (Ret w0 K C) e) E L := Qn he hr hv hC
end
section
variable {P : Program} {ops : Array Oper} {w0 w : World} {K : List Nat} {n : Nat} {ds : List Deferred} {E : Env} {o : Oper} {v u : Value} {d : Nat} {x y z : Operand} {Lf : List Chunk} {cl : List Cls} {A : List Nat} {Qa : Act → World → Prop} {i : Nat} {ri : List Nat} {Ls : List Chunk} {Ln : List (Nat × Chunk)}
theorem Ym (h : Flow P ops w0 K n ds Lf cl A Qa ri ((d, v) :: E) Ls Ln) (ho' : ops[i]? = some o := by exact rfl) (hd : o.dst = some d := by exact rfl) (hw : want n E ops o = some true := by exact rfl) (ho : o.op = .move x := by exact rfl) (hx : ev n E x = some v := by exact rfl) :
  Flow P ops w0 K n ds Lf cl A Qa (i :: ri) E Ls Ln := Flow.pur ho' hd hw (Pa ho hx) h
theorem Yk (h : Flow P ops w0 K n ds Lf cl A Qa ri ((d, undef) :: E) Ls Ln) (ho' : ops[i]? = some o := by exact rfl) (hd : o.dst = some d := by exact rfl) (hw : want n E ops o = some false := by exact rfl) :
  Flow P ops w0 K n ds Lf cl A Qa (i :: ri) E Ls Ln := Flow.skip ho' hd hw h
theorem Yl {t : TypeId} {ad : Addr} (ht : aggT P t = some false) (h : Flow P ops w0 K n ds Lf cl A Qa ri ((d, v) :: E) Ls Ln) (ho' : ops[i]? = some o := by exact rfl) (hc : cl.getD i .q = .v := by exact rfl) (hd : o.dst = some d := by exact rfl) (hw : want n E ops o = some true := by exact rfl) (ho : o.op = .load t x := by exact rfl)
  (hx : ev n E x = some (.pointer (some ad)) := by exact rfl) (hh : Has w0 K Ls ad v := by first | exact BJ rfl | exact Aw (by assumption)) : Flow P ops w0 K n ds Lf cl A Qa (i :: ri) E Ls Ln := Am ho' hc hd hw (Ai ho hx ht hh) h
theorem Yf {s k off ft : Nat} {ad ad' : Addr} (hf : fieldT P s k = some (off, ft)) (h : Flow P ops w0 K n ds Lf cl A Qa ri ((d, .pointer (some ad')) :: E) Ls Ln) (ho' : ops[i]? = some o := by exact rfl) (hd : o.dst = some d := by exact rfl) (hw : want n E ops o = some true := by exact rfl)
  (ho : o.op = .fieldAddr s x k := by exact rfl) (hx : ev n E x = some (.pointer (some ad)) := by exact rfl) (he : ad.add off = ad' := by first | exact AC _ _ | exact Bj _ _ _ | rfl) : Flow P ops w0 K n ds Lf cl A Qa (i :: ri) E Ls Ln := Flow.pur ho' hd hw (Bq ho hx hf he) h
theorem Yo (ho : ops[i]? = some o) (hv : Pur P n ds E o v) (h : Flow P ops w0 K n ds Lf cl A Qa ri ((d, v) :: E) Ls Ln) (hd : o.dst = some d := by exact rfl) (hw : want n E ops o = some true := by exact rfl) : Flow P ops w0 K n ds Lf cl A Qa (i :: ri) E Ls Ln := Flow.pur ho hd hw hv h
end
end Go.Fl

namespace Go.Fl
open Go Go.Proofs
theorem AQ : sizeT Tryz.prog 3 = some 1 := by kernel_rfl
theorem DE : bytesT Tryz.prog 3 = some 8 := by kernel_rfl
theorem B0 : zeroT Tryz.prog 3 = some (.int .i64 0) := by kernel_rfl
theorem AJ : aggT Tryz.prog 3 = some false := by kernel_rfl
theorem Ft : sizeT Tryz.prog 4 = some 1 := by kernel_rfl
theorem R2 : bytesT Tryz.prog 4 = some 1 := by kernel_rfl
theorem Rv : zeroT Tryz.prog 4 = some (.bool false) := by kernel_rfl
theorem II : aggT Tryz.prog 4 = some false := by kernel_rfl
theorem Dw : sizeT Tryz.prog 5 = some 1 := by kernel_rfl
theorem Kf : bytesT Tryz.prog 5 = some 1 := by kernel_rfl
theorem Et : zeroT Tryz.prog 5 = some (.int .u8 0) := by kernel_rfl
theorem Qo : aggT Tryz.prog 5 = some false := by kernel_rfl
theorem sz9 : sizeT Tryz.prog 9 = some 1 := by kernel_rfl
theorem by9 : bytesT Tryz.prog 9 = some 16 := by kernel_rfl
theorem ze9 : zeroT Tryz.prog 9 = some (.string ⟨#[]⟩) := by kernel_rfl
theorem Sf : sizeT Tryz.prog 22 = some 1 := by kernel_rfl
theorem Bu : aggT Tryz.prog 22 = some false := by kernel_rfl
theorem Bg : sizeT Tryz.prog 24 = some 2 := by kernel_rfl
theorem GM : zeroT Tryz.prog 24 = some (.agg #[.int .i64 0, .slice none 0 0]) := by kernel_rfl
theorem Bn : aggT Tryz.prog 24 = some true := by kernel_rfl
theorem Qv : sizeT Tryz.prog 25 = some 1 := by kernel_rfl
theorem Ek : aggT Tryz.prog 25 = some false := by kernel_rfl
theorem BV : sizeT Tryz.prog 27 = some 3 := by kernel_rfl
theorem NK : zeroT Tryz.prog 27 = some (.agg #[.bool false, .slice none 0 0, .slice none 0 0]) := by kernel_rfl
theorem CD : aggT Tryz.prog 27 = some true := by kernel_rfl
theorem Qu : sizeT Tryz.prog 29 = some 1 := by kernel_rfl
theorem R4 : zeroT Tryz.prog 29 = some (.int .i64 0) := by kernel_rfl
theorem F6 : aggT Tryz.prog 29 = some false := by kernel_rfl
theorem Tw : aggT Tryz.prog 34 = some false := by kernel_rfl
theorem Kw : sizeT Tryz.prog 35 = some 2 := by kernel_rfl
theorem by35 : bytesT Tryz.prog 35 = some 16 := by kernel_rfl
theorem LW : zeroT Tryz.prog 35 = some (.agg #[.int .i64 0, .int .i64 0]) := by kernel_rfl
theorem R1 : aggT Tryz.prog 35 = some true := by kernel_rfl
theorem sz37 : sizeT Tryz.prog 37 = some 1 := by kernel_rfl
theorem Q7 : aggT Tryz.prog 37 = some false := by kernel_rfl
theorem AY : sizeT Tryz.prog 43 = some 2 := by kernel_rfl
theorem P9 : bytesT Tryz.prog 43 = some 16 := by kernel_rfl
theorem CE : zeroT Tryz.prog 43 = some (.agg #[.int .i64 0, .int .i64 0]) := by kernel_rfl
theorem B3 : aggT Tryz.prog 43 = some true := by kernel_rfl
theorem BE : sizeT Tryz.prog 44 = some 1 := by kernel_rfl
theorem IH : bytesT Tryz.prog 44 = some 24 := by kernel_rfl
theorem Da : zeroT Tryz.prog 44 = some (.slice none 0 0) := by kernel_rfl
theorem BA : aggT Tryz.prog 44 = some false := by kernel_rfl
theorem E4 : aggT Tryz.prog 47 = some false := by kernel_rfl
theorem B1 : sizeT Tryz.prog 51 = some 2 := by kernel_rfl
theorem Iq : zeroT Tryz.prog 51 = some (.agg #[.int .i64 0, .int .i64 0]) := by kernel_rfl
theorem DP : aggT Tryz.prog 51 = some true := by kernel_rfl
theorem sz59 : sizeT Tryz.prog 59 = some 1 := by kernel_rfl
theorem ze59 : zeroT Tryz.prog 59 = some (.slice none 0 0) := by kernel_rfl
theorem Q6 : aggT Tryz.prog 59 = some false := by kernel_rfl
theorem Qt : sizeT Tryz.prog 69 = some 3 := by kernel_rfl
theorem R3 : zeroT Tryz.prog 69 = some (.agg #[.int .i64 0, .nilFunc, .int .i64 0]) := by kernel_rfl
theorem ag69 : aggT Tryz.prog 69 = some true := by kernel_rfl
theorem Tv : aggT Tryz.prog 75 = some false := by kernel_rfl
theorem Cm : sizeT Tryz.prog 77 = some 3 := by kernel_rfl
theorem Jn : zeroT Tryz.prog 77 = some (.agg #[.int .i64 0, .slice none 0 0, .slice none 0 0]) := by kernel_rfl
theorem EP : aggT Tryz.prog 77 = some true := by kernel_rfl
theorem Fb : sizeT Tryz.prog 84 = some 2 := by kernel_rfl
theorem Ru : zeroT Tryz.prog 84 = some (.agg #[.int .i64 0, .slice none 0 0]) := by kernel_rfl
theorem MM : aggT Tryz.prog 84 = some true := by kernel_rfl
theorem ze95 : zeroT Tryz.prog 95 = some (.agg #[.pointer none, .slice none 0 0]) := by kernel_rfl
theorem ON : sizeT Tryz.prog 131 = some 1 := by kernel_rfl
theorem Sa : zeroT Tryz.prog 131 = some (.slice none 0 0) := by kernel_rfl
theorem NI : aggT Tryz.prog 131 = some false := by kernel_rfl
theorem R9 : zeroT Tryz.prog 135 = some (.agg #[.int .i64 0, .slice none 0 0, .bool false, .int .i64 0]) := by kernel_rfl
theorem Qi : aggT Tryz.prog 136 = some false := by kernel_rfl
theorem Cn : sizeT Tryz.prog 138 = some 4 := by kernel_rfl
theorem Rt : bytesT Tryz.prog 138 = some 32 := by kernel_rfl
theorem IK : zeroT Tryz.prog 138 = some (.agg #[.int .i64 0, .int .i64 0, .int .i64 0, .int .i64 0]) := by kernel_rfl
theorem Qh : aggT Tryz.prog 138 = some true := by kernel_rfl
theorem Si : sizeT Tryz.prog 172 = some 2 := by kernel_rfl
theorem R8 : zeroT Tryz.prog 172 = some (.agg #[.int .i64 0, .int .i64 0]) := by kernel_rfl
theorem Sh : sizeT Tryz.prog 188 = some 1 := by kernel_rfl
theorem R7 : zeroT Tryz.prog 188 = some (.slice none 0 0) := by kernel_rfl
theorem Qg : aggT Tryz.prog 188 = some false := by kernel_rfl
theorem Sg : sizeT Tryz.prog 200 = some 1 := by kernel_rfl
theorem R6 : zeroT Tryz.prog 200 = some (.pointer none) := by kernel_rfl
theorem Er : aggT Tryz.prog 200 = some false := by kernel_rfl
theorem Se : sizeT Tryz.prog 223 = some 2 := by kernel_rfl
theorem R5 : zeroT Tryz.prog 223 = some (.agg #[.int .i64 0, .int .i64 0]) := by kernel_rfl
theorem Hj : sizeT Tryz.prog 230 = some 3 := by kernel_rfl
theorem Hc : zeroT Tryz.prog 230 = some (.agg #[.int .i64 0, .int .i64 0, .int .i64 0]) := by kernel_rfl
theorem Qf : aggT Tryz.prog 230 = some true := by kernel_rfl
theorem Il : aggT Tryz.prog 261 = some false := by kernel_rfl
theorem BI : fieldT Tryz.prog 24 0 = some (0, 3) := by kernel_rfl
theorem Be : fieldT Tryz.prog 24 1 = some (1, 22) := by kernel_rfl
theorem CU : fieldT Tryz.prog 27 0 = some (0, 4) := by kernel_rfl
theorem CT : fieldT Tryz.prog 27 1 = some (1, 25) := by kernel_rfl
theorem Cr : fieldT Tryz.prog 27 2 = some (2, 22) := by kernel_rfl
theorem Bb : fieldT Tryz.prog 43 0 = some (0, 3) := by kernel_rfl
theorem Bk : fieldT Tryz.prog 43 1 = some (1, 3) := by kernel_rfl
theorem Gw : fieldT Tryz.prog 51 0 = some (0, 29) := by kernel_rfl
theorem PM : fieldT Tryz.prog 69 0 = some (0, 3) := by kernel_rfl
theorem PL : fieldT Tryz.prog 69 1 = some (1, 34) := by kernel_rfl
theorem PK : fieldT Tryz.prog 69 2 = some (2, 29) := by kernel_rfl
theorem JY : fieldT Tryz.prog 77 0 = some (0, 75) := by kernel_rfl
theorem Gv : fieldT Tryz.prog 77 1 = some (1, 44) := by kernel_rfl
theorem EM : fieldT Tryz.prog 77 2 = some (2, 25) := by kernel_rfl
theorem Mz : fieldT Tryz.prog 84 0 = some (0, 3) := by kernel_rfl
theorem H3 : fieldT Tryz.prog 84 1 = some (1, 37) := by kernel_rfl
theorem EL : fieldT Tryz.prog 91 0 = some (0, 47) := by kernel_rfl
theorem BS : fieldT Tryz.prog 91 1 = some (1, 3) := by kernel_rfl
theorem My : fieldT Tryz.prog 91 2 = some (2, 3) := by kernel_rfl
theorem Ec : fieldT Tryz.prog 135 0 = some (0, 84) := by kernel_rfl
theorem J5 : fieldT Tryz.prog 135 1 = some (2, 4) := by kernel_rfl
theorem J4 : fieldT Tryz.prog 135 2 = some (3, 3) := by kernel_rfl
theorem J3 : fieldT Tryz.prog 138 0 = some (0, 136) := by kernel_rfl
theorem E0 : fieldT Tryz.prog 138 1 = some (1, 3) := by kernel_rfl
theorem Eb : fieldT Tryz.prog 138 3 = some (3, 3) := by kernel_rfl
theorem QW : fieldT Tryz.prog 172 0 = some (0, 3) := by kernel_rfl
theorem QV : fieldT Tryz.prog 172 1 = some (1, 29) := by kernel_rfl
theorem DB : fieldT Tryz.prog 176 0 = some (0, 47) := by kernel_rfl
theorem Bx : fieldT Tryz.prog 176 1 = some (1, 3) := by kernel_rfl
theorem J2 : fieldT Tryz.prog 176 2 = some (2, 131) := by kernel_rfl
theorem QU : fieldT Tryz.prog 223 0 = some (0, 3) := by kernel_rfl
theorem QT : fieldT Tryz.prog 223 1 = some (1, 29) := by kernel_rfl
theorem J1 : fieldT Tryz.prog 230 0 = some (0, 3) := by kernel_rfl
theorem Ha : fieldT Tryz.prog 230 1 = some (1, 3) := by kernel_rfl
theorem J0 : fieldT Tryz.prog 230 2 = some (2, 3) := by kernel_rfl
theorem DA : fieldT Tryz.prog 234 0 = some (0, 44) := by kernel_rfl
theorem CY : fieldT Tryz.prog 234 1 = some (1, 44) := by kernel_rfl
theorem G9 : fieldT Tryz.prog 234 2 = some (2, 44) := by kernel_rfl
theorem Ny : fieldT Tryz.prog 234 3 = some (3, 44) := by kernel_rfl
theorem Ea : fieldT Tryz.prog 263 0 = some (0, 261) := by kernel_rfl
theorem JZ : fieldT Tryz.prog 263 1 = some (1, 44) := by kernel_rfl
theorem Nx : fieldT Tryz.prog 263 2 = some (2, 3) := by kernel_rfl
theorem AW {f : FuncId} {fn : Func} (h : Tryz.prog.funcs[f]? = some fn) (h1 : (fn.name == "runtime.NumGoroutine") = false := by kernel_rfl) (h2 : fn.body.isNone = false := by kernel_rfl) : Ent Tryz.prog f := ⟨⟨_, h, h1, h2⟩⟩
theorem en9 : Ent Tryz.prog 9 := AW Tryz.func9
theorem QZ : Ent Tryz.prog 10 := AW Tryz.func10
theorem en13 : Ent Tryz.prog 13 := AW Tryz.func13
theorem MC : Ent Tryz.prog 14 := AW Tryz.func14
theorem RW : Ent Tryz.prog 19 := AW Tryz.func19
theorem en20 : Ent Tryz.prog 20 := AW Tryz.func20
theorem RV : Ent Tryz.prog 21 := AW Tryz.func21
theorem SI : Ent Tryz.prog 22 := AW Tryz.func22
theorem en24 : Ent Tryz.prog 24 := AW Tryz.func24
theorem en26 : Ent Tryz.prog 26 := AW Tryz.func26
theorem RU : Ent Tryz.prog 29 := AW Tryz.func29
theorem en30 : Ent Tryz.prog 30 := AW Tryz.func30
theorem en31 : Ent Tryz.prog 31 := AW Tryz.func31
theorem en32 : Ent Tryz.prog 32 := AW Tryz.func32
theorem en33 : Ent Tryz.prog 33 := AW Tryz.func33
theorem en34 : Ent Tryz.prog 34 := AW Tryz.func34
theorem en35 : Ent Tryz.prog 35 := AW Tryz.func35
theorem SF : Ent Tryz.prog 38 := AW Tryz.func38
theorem en39 : Ent Tryz.prog 39 := AW Tryz.func39
theorem en40 : Ent Tryz.prog 40 := AW Tryz.func40
theorem MB : Ent Tryz.prog 41 := AW Tryz.func41
theorem en42 : Ent Tryz.prog 42 := AW Tryz.func42
theorem RT : Ent Tryz.prog 43 := AW Tryz.func43
theorem SE : Ent Tryz.prog 44 := AW Tryz.func44
theorem en45 : Ent Tryz.prog 45 := AW Tryz.func45
theorem en46 : Ent Tryz.prog 46 := AW Tryz.func46
theorem en47 : Ent Tryz.prog 47 := AW Tryz.func47
theorem en48 : Ent Tryz.prog 48 := AW Tryz.func48
theorem en51 : Ent Tryz.prog 51 := AW Tryz.func51
theorem RS : Ent Tryz.prog 52 := AW Tryz.func52
theorem SD : Ent Tryz.prog 53 := AW Tryz.func53
theorem en54 : Ent Tryz.prog 54 := AW Tryz.func54
theorem en55 : Ent Tryz.prog 55 := AW Tryz.func55
theorem en56 : Ent Tryz.prog 56 := AW Tryz.func56
theorem en57 : Ent Tryz.prog 57 := AW Tryz.func57
theorem en58 : Ent Tryz.prog 58 := AW Tryz.func58
theorem en59 : Ent Tryz.prog 59 := AW Tryz.func59
theorem en60 : Ent Tryz.prog 60 := AW Tryz.func60
theorem en61 : Ent Tryz.prog 61 := AW Tryz.func61
theorem PQ : Ent Tryz.prog 62 := AW Tryz.func62
theorem en63 : Ent Tryz.prog 63 := AW Tryz.func63
theorem SC : Ent Tryz.prog 64 := AW Tryz.func64
theorem SB : Ent Tryz.prog 65 := AW Tryz.func65
theorem SA : Ent Tryz.prog 66 := AW Tryz.func66
theorem en67 : Ent Tryz.prog 67 := AW Tryz.func67
theorem QY : Ent Tryz.prog 68 := AW Tryz.func68
theorem en69 : Ent Tryz.prog 69 := AW Tryz.func69
theorem en70 : Ent Tryz.prog 70 := AW Tryz.func70
theorem en72 : Ent Tryz.prog 72 := AW Tryz.func72
theorem en73 : Ent Tryz.prog 73 := AW Tryz.func73
theorem Sz : Ent Tryz.prog 74 := AW Tryz.func74
theorem en75 : Ent Tryz.prog 75 := AW Tryz.func75
theorem PP : Ent Tryz.prog 76 := AW Tryz.func76
theorem IF : Ent Tryz.prog 77 := AW Tryz.func77
theorem PO : Ent Tryz.prog 78 := AW Tryz.func78
theorem QX : Ent Tryz.prog 79 := AW Tryz.func79
theorem en80 : Ent Tryz.prog 80 := AW Tryz.func80
theorem en81 : Ent Tryz.prog 81 := AW Tryz.func81
theorem en83 : Ent Tryz.prog 83 := AW Tryz.func83
theorem en84 : Ent Tryz.prog 84 := AW Tryz.func84
theorem RR : Ent Tryz.prog 85 := AW Tryz.func85
theorem Sy : Ent Tryz.prog 86 := AW Tryz.func86
theorem en87 : Ent Tryz.prog 87 := AW Tryz.func87
theorem en88 : Ent Tryz.prog 88 := AW Tryz.func88
theorem en91 : Ent Tryz.prog 91 := AW Tryz.func91
theorem en92 : Ent Tryz.prog 92 := AW Tryz.func92
theorem en93 : Ent Tryz.prog 93 := AW Tryz.func93
theorem Sx : Ent Tryz.prog 94 := AW Tryz.func94
theorem en95 : Ent Tryz.prog 95 := AW Tryz.func95
theorem Sw : Ent Tryz.prog 96 := AW Tryz.func96
theorem en97 : Ent Tryz.prog 97 := AW Tryz.func97
theorem en98 : Ent Tryz.prog 98 := AW Tryz.func98
theorem RQ : Ent Tryz.prog 99 := AW Tryz.func99
theorem NB : Ent Tryz.prog 100 := AW Tryz.func100
theorem Tn : Ent Tryz.prog 101 := AW Tryz.func101
theorem Tm : Ent Tryz.prog 102 := AW Tryz.func102
theorem Tl : Ent Tryz.prog 103 := AW Tryz.func103
theorem Lz : Ent Tryz.prog 104 := AW Tryz.func104
theorem Rs : Ent Tryz.prog 105 := AW Tryz.func105
theorem Tj : Ent Tryz.prog 106 := AW Tryz.func106
theorem Ti : Ent Tryz.prog 110 := AW Tryz.func110
theorem Rr : Ent Tryz.prog 112 := AW Tryz.func112
theorem Th : Ent Tryz.prog 113 := AW Tryz.func113
theorem Tg : Ent Tryz.prog 114 := AW Tryz.func114
theorem Tf : Ent Tryz.prog 116 := AW Tryz.func116
theorem Te : Ent Tryz.prog 117 := AW Tryz.func117
theorem Td : Ent Tryz.prog 118 := AW Tryz.func118
theorem Eq : Ent Tryz.prog 119 := AW Tryz.func119
theorem Rq : Ent Tryz.prog 120 := AW Tryz.func120
theorem Tc : Ent Tryz.prog 121 := AW Tryz.func121
theorem Tb : Ent Tryz.prog 122 := AW Tryz.func122
theorem Ta : Ent Tryz.prog 123 := AW Tryz.func123
theorem S9 : Ent Tryz.prog 124 := AW Tryz.func124
theorem Rp : Ent Tryz.prog 125 := AW Tryz.func125
theorem S8 : Ent Tryz.prog 126 := AW Tryz.func126
theorem S7 : Ent Tryz.prog 127 := AW Tryz.func127
theorem Ro : Ent Tryz.prog 128 := AW Tryz.func128
theorem S6 : Ent Tryz.prog 129 := AW Tryz.func129
theorem Rn : Ent Tryz.prog 130 := AW Tryz.func130
theorem S5 : Ent Tryz.prog 131 := AW Tryz.func131
theorem Rm : Ent Tryz.prog 132 := AW Tryz.func132
theorem Rl : Ent Tryz.prog 133 := AW Tryz.func133
theorem S4 : Ent Tryz.prog 134 := AW Tryz.func134
theorem NA : Ent Tryz.prog 135 := AW Tryz.func135
theorem Rk : Ent Tryz.prog 148 := AW Tryz.func148
theorem S3 : Ent Tryz.prog 150 := AW Tryz.func150
theorem S2 : Ent Tryz.prog 151 := AW Tryz.func151
theorem S1 : Ent Tryz.prog 152 := AW Tryz.func152
theorem S0 : Ent Tryz.prog 153 := AW Tryz.func153
theorem SZ : Ent Tryz.prog 155 := AW Tryz.func155
theorem Rj : Ent Tryz.prog 156 := AW Tryz.func156
theorem Ri : Ent Tryz.prog 157 := AW Tryz.func157
theorem Rh : Ent Tryz.prog 158 := AW Tryz.func158
theorem Ly : Ent Tryz.prog 159 := AW Tryz.func159
theorem SY : Ent Tryz.prog 160 := AW Tryz.func160
theorem SX : Ent Tryz.prog 161 := AW Tryz.func161
theorem PV : Ent Tryz.prog 162 := AW Tryz.func162
theorem Rg : Ent Tryz.prog 163 := AW Tryz.func163
theorem SW : Ent Tryz.prog 164 := AW Tryz.func164
theorem SV : Ent Tryz.prog 165 := AW Tryz.func165
theorem SU : Ent Tryz.prog 173 := AW Tryz.func173
theorem ST : Ent Tryz.prog 174 := AW Tryz.func174
theorem SS : Ent Tryz.prog 175 := AW Tryz.func175
theorem SR : Ent Tryz.prog 176 := AW Tryz.func176
theorem SQ : Ent Tryz.prog 177 := AW Tryz.func177
theorem SP : Ent Tryz.prog 179 := AW Tryz.func179
theorem PU : Ent Tryz.prog 180 := AW Tryz.func180
theorem H5 : Ent Tryz.prog 181 := AW Tryz.func181
theorem FT : Ent Tryz.prog 182 := AW Tryz.func182
theorem Nz : Ent Tryz.prog 183 := AW Tryz.func183
theorem SO : Ent Tryz.prog 189 := AW Tryz.func189
theorem Rf : Ent Tryz.prog 190 := AW Tryz.func190
theorem PT : Ent Tryz.prog 191 := AW Tryz.func191
theorem SN : Ent Tryz.prog 192 := AW Tryz.func192
theorem SM : Ent Tryz.prog 193 := AW Tryz.func193
theorem SL : Ent Tryz.prog 194 := AW Tryz.func194
theorem PR : Ent Tryz.prog 195 := AW Tryz.func195
theorem SK : Ent Tryz.prog 200 := AW Tryz.func200
theorem SJ : Ent Tryz.prog 201 := AW Tryz.func201
theorem SH : Ent Tryz.prog 220 := AW Tryz.func220
theorem SG : Ent Tryz.prog 221 := AW Tryz.func221
theorem mixed : Tryz.prog.follows .mixedOrders = true := by kernel_rfl
theorem F4 : builtSt Tryz.prog 24 = some ([(0, 1), (1, 1)], [.int .i64 0, .slice none 0 0]) := by kernel_rfl
theorem Qe : builtSt Tryz.prog 27 = some ([(0, 1), (1, 1), (2, 1)], [.bool false, .slice none 0 0, .slice none 0 0]) := by kernel_rfl
theorem F3 : builtSt Tryz.prog 43 = some ([(0, 1), (1, 1)], [.int .i64 0, .int .i64 0]) := by kernel_rfl
theorem F2 : builtSt Tryz.prog 51 = some ([(0, 1), (1, 1)], [.int .i64 0, .int .i64 0]) := by kernel_rfl
theorem OB : builtSt Tryz.prog 69 = some ([(0, 1), (1, 1), (2, 1)], [.int .i64 0, .nilFunc, .int .i64 0]) := by kernel_rfl
theorem Ii : builtSt Tryz.prog 77 = some ([(0, 1), (1, 1), (2, 1)], [.int .i64 0, .slice none 0 0, .slice none 0 0]) := by kernel_rfl
theorem Qd : builtSt Tryz.prog 84 = some ([(0, 1), (1, 1)], [.int .i64 0, .slice none 0 0]) := by kernel_rfl
theorem bs91 : builtSt Tryz.prog 91 = some ([(0, 1), (1, 1), (2, 1)], [.slice none 0 0, .int .i64 0, .int .i64 0]) := by kernel_rfl
theorem Tu : builtSt Tryz.prog 138 = some ([(0, 1), (1, 1), (2, 1), (3, 1)], [.int .i64 0, .int .i64 0, .int .i64 0, .int .i64 0]) := by kernel_rfl
theorem NF : builtSt Tryz.prog 172 = some ([(0, 1), (1, 1)], [.int .i64 0, .int .i64 0]) := by kernel_rfl
theorem Tt : builtSt Tryz.prog 176 = some ([(0, 1), (1, 1), (2, 1)], [.slice none 0 0, .int .i64 0, .slice none 0 0]) := by kernel_rfl
theorem Ts : builtSt Tryz.prog 223 = some ([(0, 1), (1, 1)], [.int .i64 0, .int .i64 0]) := by kernel_rfl
theorem Tr : builtSt Tryz.prog 234 = some ([(0, 1), (1, 1), (2, 1), (3, 1)], [.slice none 0 0, .slice none 0 0, .slice none 0 0, .slice none 0 0]) := by kernel_rfl
theorem Tq : builtSt Tryz.prog 263 = some ([(0, 1), (1, 1), (2, 1)], [.slice none 0 0, .slice none 0 0, .int .i64 0]) := by kernel_rfl
end Go.Fl

namespace Go.Proofs
open Go.Shelf Go.RowKit Go.Lib Go.Sort
def Tryz.sortEdge_ren : Go.Shelf.Ren := ⟨fun | 6 => 74 | 15 => 108 | 14 => 107 | 28 => 144 | 29 => 145 | 20 => 136 | 21 => 137 | 22 => 138 | 23 => 139 | 24 => 140 | 25 => 141 | 26 => 142 | 27 => 143 | 46 => 166 | 47 => 167 | 48 => 168 | 49 => 169 | 50 => 170 | 57 => 184 | n => n, fun | 22 => 22 | 24 => 43 | 25 => 142 | 3 => 3 | 39 => 180 | 0 => 0 | 53 => 219 | 55 => 221 | 4 => 4 | 46 => 213 | 45 => 212 | 50 => 195 | 5 => 5 | 9 => 9 | 66 => 239 | 70 => 243 | 76 => 254 | 77 => 112 | n => n, fun n => n⟩
theorem C1 : Go.Proofs.SlLaysF0.n6 Tryz.prog Tryz.sortEdge_ren := {
 mixed := by kernel_rfl
 f6 := ⟨"slices.SortFunc[[]tangram/api.Edge,tangram/api.Edge]", by decide, Tryz.func74.trans (congrArg some (by kernel_rfl))⟩
 f14 := ⟨"slices.pdqsortCmpFunc[tangram/api.Edge]", by decide, Tryz.func107.trans (congrArg some (by kernel_rfl))⟩
 f15 := Tryz.func108.trans (congrArg some (by kernel_rfl))
 f20 := ⟨"slices.insertionSortCmpFunc[tangram/api.Edge]", by decide, Tryz.func136.trans (congrArg some (by kernel_rfl))⟩
 f21 := ⟨"slices.heapSortCmpFunc[tangram/api.Edge]", by decide, Tryz.func137.trans (congrArg some (by kernel_rfl))⟩
 f22 := ⟨"slices.breakPatternsCmpFunc[tangram/api.Edge]", by decide, Tryz.func138.trans (congrArg some (by kernel_rfl))⟩
 f23 := ⟨"slices.choosePivotCmpFunc[tangram/api.Edge]", by decide, Tryz.func139.trans (congrArg some (by kernel_rfl))⟩
 f24 := ⟨"slices.reverseRangeCmpFunc[tangram/api.Edge]", by decide, Tryz.func140.trans (congrArg some (by kernel_rfl))⟩
 f25 := ⟨"slices.partialInsertionSortCmpFunc[tangram/api.Edge]", by decide, Tryz.func141.trans (congrArg some (by kernel_rfl))⟩
 f26 := ⟨"slices.partitionEqualCmpFunc[tangram/api.Edge]", by decide, Tryz.func142.trans (congrArg some (by kernel_rfl))⟩
 f27 := ⟨"slices.partitionCmpFunc[tangram/api.Edge]", by decide, Tryz.func143.trans (congrArg some (by kernel_rfl))⟩
 f28 := Tryz.func144.trans (congrArg some (by kernel_rfl))
 f29 := Tryz.func145.trans (congrArg some (by kernel_rfl))
 f46 := ⟨"slices.siftDownCmpFunc[tangram/api.Edge]", by decide, Tryz.func166.trans (congrArg some (by kernel_rfl))⟩
 f47 := Tryz.func167.trans (congrArg some (by kernel_rfl))
 f48 := Tryz.func168.trans (congrArg some (by kernel_rfl))
 f49 := ⟨"slices.medianAdjacentCmpFunc[tangram/api.Edge]", by decide, Tryz.func169.trans (congrArg some (by kernel_rfl))⟩
 f50 := ⟨"slices.medianCmpFunc[tangram/api.Edge]", by decide, Tryz.func170.trans (congrArg some (by kernel_rfl))⟩
 f57 := ⟨"slices.order2CmpFunc[tangram/api.Edge]", by decide, Tryz.func184.trans (congrArg some (by kernel_rfl))⟩
 t0 := Tryz.underlying0
 a0 := Tryz.isAgg0
 z0 := Tryz.sizeOf0
 v0 := Tryz.zeroValue0
 t3 := Tryz.underlying3
 a3 := Tryz.isAgg3
 z3 := Tryz.sizeOf3
 v3 := Tryz.zeroValue3
 t4 := Tryz.underlying4
 a4 := Tryz.isAgg4
 z4 := Tryz.sizeOf4
 v4 := Tryz.zeroValue4
 t5 := Tryz.underlying5
 a5 := Tryz.isAgg5
 z5 := Tryz.sizeOf5
 v5 := Tryz.zeroValue5
 t9 := Tryz.underlying9
 a9 := Tryz.isAgg9
 z9 := Tryz.sizeOf9
 v9 := Tryz.zeroValue9
 t22 := TU
 a22 := Tryz.isAgg22
 z22 := Tryz.sizeOf22
 v22 := Tryz.zeroValue22
 t25 := Tryz.underlying142
 a25 := Tryz.isAgg142
 z25 := Tryz.sizeOf142
 v25 := Tryz.zeroValue142
 t39 := Tryz.underlying180
 a39 := Tryz.isAgg180
 z39 := Tryz.sizeOf180
 v39 := Tryz.zeroValue180
 t45 := Tryz.underlying212
 a45 := Tryz.isAgg212
 z45 := Tryz.sizeOf212
 v45 := Tryz.zeroValue212
 t46 := Tryz.underlying213
 a46 := Tryz.isAgg213
 z46 := Tryz.sizeOf213
 v46 := Tryz.zeroValue213
 t50 := Tryz.underlying195
 a50 := Tryz.isAgg195
 z50 := Tryz.sizeOf195
 v50 := Tryz.zeroValue195
 t53 := Tryz.underlying219
 a53 := Tryz.isAgg219
 z53 := Tryz.sizeOf219
 v53 := Tryz.zeroValue219
 t55 := Tryz.underlying221
 a55 := Tryz.isAgg221
 z55 := Tryz.sizeOf221
 v55 := Tryz.zeroValue221
 t66 := Tryz.underlying239
 a66 := Tryz.isAgg239
 z66 := Tryz.sizeOf239
 v66 := Tryz.zeroValue239
 t70 := Tryz.underlying243
 a70 := Tryz.isAgg243
 z70 := Tryz.sizeOf243
 v70 := Tryz.zeroValue243
 t76 := Tryz.underlying254
 a76 := Tryz.isAgg254
 z76 := Tryz.sizeOf254
 v76 := Tryz.zeroValue254
 t77 := Tryz.underlying112
 a77 := Tryz.isAgg112
 z77 := Tryz.sizeOf112
 v77 := Tryz.zeroValue112 }
def Tryz.cmpInt_ren : Go.Shelf.Ren := ⟨fun | 5 => 156 | 7 => 178 | n => n, fun | 22 => 3 | 3 => 3 | 4 => 4 | n => n, fun n => n⟩
theorem LN : Go.Proofs.SlLaysC2.n5 Tryz.prog Tryz.cmpInt_ren := {
 mixed := by kernel_rfl
 f5 := ⟨"cmp.Compare[int]", by decide, Tryz.func156.trans (congrArg some (by kernel_rfl))⟩
 f7 := ⟨"cmp.isNaN[int]", by decide, Tryz.func178.trans (congrArg some (by kernel_rfl))⟩
 t3 := Tryz.underlying3
 a3 := Tryz.isAgg3
 z3 := Tryz.sizeOf3
 v3 := Tryz.zeroValue3
 t4 := Tryz.underlying4
 a4 := Tryz.isAgg4
 z4 := Tryz.sizeOf4
 v4 := Tryz.zeroValue4
 t22 := Tryz.underlying3
 a22 := Tryz.isAgg3
 z22 := Tryz.sizeOf3
 v22 := Tryz.zeroValue3 }
/-- An edge's two cells. -/
def Tryz.encE (x : Int × Int) : List Value := [.int .i64 x.1, .int .i64 x.2]
/-- What cmp.Or says of two. -/
def Tryz.orI (a b : Int) : Int := if a = 0 then b else a
def Tryz.cmpE (x y : Int × Int) : Int := Tryz.orI (Lib.compareInt x.1 y.1) (Lib.compareInt x.2 y.2)
end Go.Proofs

namespace Go.Fl
open Go Go.Proofs
variable [Lo]
theorem Ig (a b : Int) (w : World) : Calls Tryz.prog 156 #[.int .i64 a, .int .i64 b] w (Ret w [] fun r L => L = [] ∧ r = .int .i64 (Lib.compareInt a b)) := by
 refine (AnyG.cmp_Compare_int LN a b w).mono ?_
 rintro e w' ⟨rfl, rfl⟩
 exact ⟨_, _, rfl, ⟨rfl, rfl⟩, Own.start _ _⟩
theorem Pg {g t : Nat} {a b : Int} {w : World} (hg : w.heap[g]? = some (.cells #[.int .i64 a, .int .i64 b] t (0, 0))) :
  Calls Tryz.prog 155 #[.slice (some ⟨g, 0, none⟩) 2 2] w (Ret w [] fun r L => L = [] ∧ r = .int .i64 (Tryz.orI a b)) := by
 have h0 : w.cell? ⟨g, 0, none⟩ = some (.int .i64 a) := by rw [cell_of_row w g 0 _ t (0, 0) hg]; rfl
 have h1 : w.cell? ⟨g, 1, none⟩ = some (.int .i64 b) := by rw [cell_of_row w g 1 _ t (0, 0) hg]; rfl
 refine Ao (args := [_]) (L := []) Tryz.func155 rfl Tryz.ntmps155 rfl (Own.start _ _) ?_
 refine Zs ?_
 refine Za ?_
 refine Zx <| Zs ?_
 refine Za ?_
 refine Zx <| DC.seq <| Zs ?_
 refine Zm ?_
 refine Zn TT ?_
 refine Zm ?_
 refine Zx <| DC.block ?_
 refine DC.loop (ι := Nat) (fun i => i ≤ 2 ∧ (0 < i → a = 0) ∧ (1 < i → b = 0)) (fun i => [(3, .int .i64 0), (6, .slice (some ⟨g, 0, none⟩) 2 2), (7, .int .i64 2), (8, .int .i64 i)]) (fun _ => []) (fun i => 2 - i) 0
  ⟨by omega, by omega, by omega⟩ ⟨rfl, rfl, rfl, rfl, trivial⟩ .nil ?_
 rintro i ⟨hi, ha, hb⟩
 refine Zs ?_
 refine Zc ?_
 refine Zx <| DC.seq ?_
 refine Zd (fun c3 => ?_) fun c3 => ?_
 ·have hlt : i < 2 := by simp at c3; omega
  obtain ⟨x, hx, hx0, hx1⟩ : ∃ x : Int, w.cell? ⟨g, i, none⟩ = some (.int .i64 x) ∧ (i = 0 → x = a) ∧ (i = 1 → x = b) := by
   rcases (show i = 0 ∨ i = 1 by omega) with rfl | rfl
   ·exact ⟨a, h0, fun _ => rfl, fun h => by omega⟩
   exact ⟨b, h1, fun h => by omega, fun _ => rfl⟩
  refine DC.skip <| Fin.then <| DC.seq <| DC.block <| Zs ?_
  refine Zo (Aj (ad' := ⟨g, i, none⟩) rfl rfl rfl TT AQ (by omega) (by omega) (AC _ _)) ?_
  refine Zu (Ai rfl rfl AJ (Aw hx)) ?_
  refine Za ?_
  refine Zx <| Zs ?_
  iterate 2 refine Zm ?_
  refine Zo (BK rfl rfl rfl) ?_
  refine Zx ?_
  refine Zd (fun c5 => ?_) fun c5 => ?_
  ·refine Zs ?_
   refine Zm ?_
   refine Za ?_
   refine Zx <| DC.ret <| Ae <| Aa <| Aa <| Ae <| Aa ?_
   refine Zh ?_
   refine ⟨rfl, ?_⟩
   have hne : x ≠ 0 := by simpa using c5
   unfold Tryz.orI
   rcases (show i = 0 ∨ i = 1 by omega) with h | h
   ·rw [hx0 h] at hne ⊢
    rw [if_neg hne]
   rw [hx1 h, if_pos (ha (by omega))]
  refine DC.skip <| Fin.inBlock <| Fin.then <| DC.region ?_
  refine Zp ?_
  refine Zm ?_
  refine Seq.nil ?_
  refine Ag (i + 1) (by omega) ⟨by omega, fun _ => ?_, fun h => ?_⟩ ⟨rfl, rfl, rfl, rfl, trivial⟩ .nil
  ·have hz : x = 0 := by simpa using c5
   by_cases h : i = 0
   ·rw [← hx0 h]; exact hz
   exact ha (by omega)
  have hz : x = 0 := by simpa using c5
  rw [← hx1 (by omega)]; exact hz
 refine DC.exit <| Ad <| Ad <| Ah <| Fin.then <| Zs ?_
 refine Zm ?_
 refine Za ?_
 refine Zx <| DC.ret ?_
 refine Zh ?_
 have hi2 : i = 2 := by simp at c3; omega
 unfold Tryz.orI
 rw [if_pos (ha (by omega)), hb (by omega)]
 exact ⟨rfl, rfl⟩
theorem KY (x y : Int × Int) (w : World) :
  Calls Tryz.prog 154 #[.agg #[.int .i64 x.1, .int .i64 x.2], .agg #[.int .i64 y.1, .int .i64 y.2]] w (Ret w [] fun r L => r = .int .i64 (Tryz.cmpE x y)) := by
 refine Ao (args := [_, _]) (L := []) Tryz.func154 rfl Tryz.ntmps154 rfl (Own.start _ _) ?_
 refine Zs ?_
 refine Zw (Ba rfl rfl rfl) fun g2 => ?_
 refine Zw (Ba rfl rfl rfl) fun g3 => ?_
 refine Za ?_
 refine Zx <| DC.seq ?_
 refine AF (cl := [.q, .v, .q, .v, .r, .q, .v, .q, .v, .r, .n, .r, .q]) (A := [0, 1, 0, 4, 15, 0, 32, 0, 128, 511, 1023, 2047, 4095]) (order := [0, 1, 2, 3, 4, 5, 6, 7, 8, 9, 10, 11, 12]) [] mixed (by kernel_rfl) (fun w hw => hw.pick .nil) ?_
 refine Yf Bb ?_
 refine Yl AJ ?_
 refine Yf Bb ?_
 refine Yl AJ ?_
 refine Flow.rel0 rfl rfl rfl rfl (Ar Rj rfl rfl rfl (fun w' hw => Ig _ _ w')) ?_
 rintro _ rfl
 refine Yf Bk ?_
 refine Yl AJ ?_
 refine Yf Bk ?_
 refine Yl AJ ?_
 refine Flow.rel0 rfl rfl rfl rfl (Ar Rj rfl rfl rfl (fun w' hw => Ig _ _ w')) ?_
 rintro _ rfl
 refine BD rfl rfl rfl rfl (AP (cs := #[_, _]) rfl rfl TT AQ B0 rfl (by decide) (by decide) rfl rfl) fun g15 => ?_
 refine In (V := [blk g15 3 #[.int .i64 (Lib.compareInt x.1 y.1), .int .i64 (Lib.compareInt x.2 y.2)], blk g3 43 #[.int .i64 y.1, .int .i64 y.2], blk g2 43 #[.int .i64 x.1, .int .i64 x.2]]) rfl rfl rfl rfl (by kernel_rfl) (Ar SZ rfl rfl rfl (fun w' hw => Pg (a := Lib.compareInt x.1 y.1) (b := Lib.compareInt x.2 y.2) (hw.holds _ (TI ..)))) ?_
 rintro _ rfl
 refine Yo rfl (AR rfl rfl) ?_
 refine Flow.end rfl ?_
 simp only [zq, zr]
 refine Fin.then <| DC.ret ?_
 refine Zh ?_
 rfl
/-- A world that only grew. -/
theorem Ll {w w' : World} {L : List Chunk} (h : Own w [] w' L) (hd : w.drawn ≤ w'.drawn) : ∃ q os, w' = Sort.grow (w.drewN q) os := by
 refine ⟨w'.drawn - w.drawn, w'.heap.extract w.heap.size w'.heap.size, ?_⟩
 have hh : w'.heap = w.heap ++ w'.heap.extract w.heap.size w'.heap.size := by
  apply Array.ext_getElem?
  intro i
  by_cases hi : i < w.heap.size
  ·rw [Array.getElem?_append_left hi]; exact h.old i hi (by simp)
  rw [Array.getElem?_append_right (by omega), Array.getElem?_extract]
  have hs := h.size
  by_cases h2 : i < w'.heap.size
  ·rw [if_pos (by omega)]
   congr 1; omega
  rw [if_neg (by omega), Array.getElem?_eq_none (by omega)]
 have e : w.drawn + (w'.drawn - w.drawn) = w'.drawn := by omega
 have e1 := h.os
 have e2 := h.tape
 have e3 := h.output
 clear h hd
 cases w' with
 | mk h' t' d' o' u' =>
  cases w with
  | mk h0 t0 d0 o0 u0 =>
   simp only [Sort.grow, World.drewN] at *
   rw [World.mk.injEq]
   exact ⟨hh, e2, e.symm, e1, e3⟩
theorem KX (hL : ¬ Lo.p) (x y : Int × Int) (w : World) :
  Calls Tryz.prog 154 #[.agg #[.int .i64 x.1, .int .i64 x.2], .agg #[.int .i64 y.1, .int .i64 y.2]] w fun e w' => e = .returned (.int .i64 (Tryz.cmpE x y)) ∧ ∃ q os, w' = Sort.grow (w.drewN q) os := by
 refine (KY x y w).mono ?_
 rintro e w' ⟨v, L, rfl, rfl, hO⟩
 exact ⟨rfl, Ll hO (hO.drawn.resolve_left hL)⟩
end Go.Fl

namespace Go.Fl
open Go Go.Proofs
variable [Lo]
/-- Edges whose differences are numbers. -/
abbrev BPr := { p : Int × Int // (0 ≤ p.1 ∧ p.1 ≤ 1048576) ∧ 0 ≤ p.2 ∧ p.2 ≤ 1048576 }
instance : Inhabited BPr := ⟨⟨(0, 0), by decide⟩⟩
def encB (x : BPr) : List Value := [.int .i64 x.1.1, .int .i64 x.1.2]
def cmpB (x y : BPr) : Int := if x.1.1 = y.1.1 then x.1.2 - y.1.2 else x.1.1 - y.1.1
theorem Ia (x y : BPr) (w : World) :
  Calls Tryz.prog 75 #[.agg #[.int .i64 x.1.1, .int .i64 x.1.2], .agg #[.int .i64 y.1.1, .int .i64 y.1.2]] w (Ret w [] fun r L => r = .int .i64 (cmpB x y)) := by
 obtain ⟨⟨x1, x2⟩, ⟨hx1, hx2⟩, hx3, hx4⟩ := x
 obtain ⟨⟨y1, y2⟩, ⟨hy1, hy2⟩, hy3, hy4⟩ := y
 dsimp only at hx1 hx2 hx3 hx4 hy1 hy2 hy3 hy4 ⊢
 refine Ao (args := [_, _]) (L := []) Tryz.func75 rfl Tryz.ntmps75 rfl (Own.start _ _) ?_
 refine Zs ?_
 refine Zw (Ba rfl rfl rfl) fun g2 => ?_
 refine Zw (Ba rfl rfl rfl) fun g3 => ?_
 refine Za ?_
 refine Zx <| DC.seq <| Zs ?_
 refine Zf Bb ?_
 refine Zl AJ ?_
 refine Zf Bb ?_
 refine Zl AJ ?_
 refine Zo (BK rfl rfl rfl) ?_
 refine Zx ?_
 refine Zd (fun c1 => ?_) fun c1 => ?_
 ·refine Zs ?_
  refine Zf Bb ?_
  refine Zl AJ ?_
  refine Zf Bb ?_
  refine Zl AJ ?_
  refine Zo (Bv rfl rfl rfl (by omega)) ?_
  refine Za ?_
  refine Zx <| DC.ret <| Aa ?_
  refine Zh ?_
  have h : ¬ x1 = y1 := by simpa using c1
  simp [cmpB, h]
 refine DC.skip <| Fin.then <| Zs ?_
 refine Zf Bk ?_
 refine Zl AJ ?_
 refine Zf Bk ?_
 refine Zl AJ ?_
 refine Zo (Bv rfl rfl rfl (by omega)) ?_
 refine Za ?_
 refine Zx <| DC.ret ?_
 refine Zh ?_
 have h : x1 = y1 := by simpa using c1
 simp [cmpB, h]
theorem H9 (hL : ¬ Lo.p) (x y : BPr) (w : World) :
  Calls Tryz.prog 75 #[.agg #[.int .i64 x.1.1, .int .i64 x.1.2], .agg #[.int .i64 y.1.1, .int .i64 y.1.2]] w fun e w' => e = .returned (.int .i64 (cmpB x y)) ∧ ∃ q os, w' = Sort.grow (w.drewN q) os := by
 refine (Ia x y w).mono ?_
 rintro e w' ⟨v, L, rfl, rfl, hO⟩
 exact ⟨rfl, Ll hO (hO.drawn.resolve_left hL)⟩
end Go.Fl

namespace Go.Fl
open Go
instance : Lo := ⟨True⟩
end Go.Fl

namespace Go.Fl
open Go
/-- The cells from A on are these values. -/
def Rd (w : World) (A : Option Addr) (vs : List Value) : Prop := ∀ j u, vs[j]? = some u → ∃ ad, A = some ad ∧ w.cell? (ad.add j) = some u
def ints (xs : List Int) : List Value := xs.map (Value.int .i64)
abbrev Pr := Int × Int
def prs : List Pr → List Value
 | [] => []
 | e :: r => .int .i64 e.1 :: .int .i64 e.2 :: prs r
@[simp] theorem ints_length (xs : List Int) : (ints xs).length = xs.length := by simp [ints]
@[simp] theorem prs_length (es : List Pr) : (prs es).length = es.length * 2 := by
 induction es with
 | nil => rfl
 | cons e r ih => simp [prs, ih, Nat.succ_mul]
theorem BL {xs : List Int} {i : Nat} {x : Int} (h : xs[i]? = some x) : (ints xs)[i]? = some (.int .i64 x) := by simp [ints, h]
theorem GX : ∀ {es : List Pr} {i : Nat} {e : Pr}, es[i]? = some e → (prs es)[i * 2]? = some (.int .i64 e.1) ∧ (prs es)[i * 2 + 1]? = some (.int .i64 e.2)
 | [], i, e, h => by simp at h
 | x :: r, 0, e, h => by simp at h; subst h; simp [prs]
 | x :: r, i + 1, e, h => by
  simp at h
  have := GX h
  rw [Nat.succ_mul]
  exact ⟨by simpa [prs] using this.1, by simpa [prs] using this.2⟩
theorem Dm (a b : List Pr) : prs (a ++ b) = prs a ++ prs b := by
 induction a with
 | nil => rfl
 | cons e r ih => simp [prs, ih]
theorem AU (a b : List Int) : ints (a ++ b) = ints a ++ ints b := by simp [ints]
theorem Bm (a b : List Int) : ∀ u, u ∈ ints a → u.oneCell' = true := by
 intro u hu; simp [ints] at hu; obtain ⟨x, _, rfl⟩ := hu; rfl
theorem JG : ∀ (es : List Pr) u, u ∈ prs es → u.oneCell' = true
 | [], u, h => by cases h
 | e :: r, u, h => by
  simp [prs] at h
  rcases h with rfl | rfl | h
  ·rfl
  ·rfl
  exact JG r u h
section
variable {w0 w : World} {K : List Nat} {L : List Chunk} {A : Option Addr} {vs : List Value}
theorem Rd.keep (h : Rd w0 A vs) (hk : ∀ ad, A = some ad → ad.block ∉ K) (hw : Own w0 K w L) : Rd w A vs := by
 intro j u hj
 obtain ⟨ad, rfl, hc⟩ := h j u hj
 refine ⟨ad, rfl, ?_⟩
 have hb : (ad.add j).block = ad.block := by unfold Addr.add; split <;> rfl
 rw [hw.oldCell (World.block_lt_of_cell? w0 _ hc) (by rw [hb]; exact hk ad rfl)]; exact hc
theorem Rd.keep0 (h : Rd w0 A vs) (hw : Own w0 [] w L) : Rd w A vs := h.keep (fun _ _ => by simp) hw
theorem Rd.pair {es : List Pr} {i : Nat} {e : Pr} (h : Rd w0 A (prs es)) (hi : es[i]? = some e) : ∃ ad, A = some ad ∧ w0.cell? (ad.add (i * 2)) = some (.int .i64 e.1) ∧ w0.cell? (ad.add (i * 2 + 1)) = some (.int .i64 e.2) := by
 obtain ⟨h1, h2⟩ := GX hi
 obtain ⟨ad, rfl, hc1⟩ := h _ _ h1
 obtain ⟨ad', he, hc2⟩ := h _ _ h2
 cases he
 exact ⟨ad, rfl, hc1, hc2⟩
theorem Rd.int {xs : List Int} {i : Nat} {x : Int} (h : Rd w0 A (ints xs)) (hi : xs[i]? = some x) : ∃ ad, A = some ad ∧ w0.cell? (ad.add i) = some (.int .i64 x) := h _ _ (BL hi)
theorem B6 (ad : Addr) (i j : Nat) (h : 0 < j) : (ad.add i).add j = ad.add (i + j) := by
 have h1 : ¬ j = 0 := by omega
 have h2 : ¬ i + j = 0 := by omega
 unfold Addr.add
 rw [if_neg h1, if_neg h2]
 split
 ·rename_i hi; subst hi; simp
 simp [Nat.add_assoc]
theorem Cv {ad : Addr} {i : Nat} {x y : Value} (h1 : w0.cell? (ad.add i) = some x) (h2 : w0.cell? (ad.add (i + 1)) = some y) (hk : ad.block ∉ K) : Hass w0 K L (ad.add i) [x, y] := by
 have hb : (ad.add i).block = ad.block := by unfold Addr.add; split <;> rfl
 refine Lj (fun j u hj => ?_) (by rw [hb]; exact hk)
 match j, hj with
 | 0, hj =>
  simp at hj; subst hj
  have : (ad.add i).add 0 = ad.add i := by simp [Addr.add]
  rw [this]; exact h1
 | 1, hj => simp at hj; subst hj; rw [B6 _ _ _ (by omega)]; exact h2
theorem QR {A : Option Addr} {vs : List Value} {ad : Addr} (h : Rd w0 A vs) (hA : A = some ad) (hk : ad.block ∉ K) : Hass w0 K L ad vs := by
 subst hA
 refine Lj (fun j u hj => ?_) hk
 obtain ⟨ad', he, hc⟩ := h j u hj
 cases he; exact hc
theorem Jx {vs : List Value} {k c m : Nat} (h : Rd w0 A vs) (hl : vs.length = k * m) (hk : ∀ ad, A = some ad → ad.block ∉ K) (hA : A = none → k = 0) : Src w0 K L (.slice A k c) k vs := by
 cases A with
 | none =>
  have h0 := hA rfl
  subst h0
  exact .inr ⟨c, rfl, rfl, TO (by simpa using hl)⟩
 | some ad => exact .inl ⟨ad, c, rfl, QR h rfl (hk ad rfl)⟩
end
/-! ### graphs -/
structure OkE (N : Int) (e : Pr) : Prop where
 lo : 0 ≤ e.1
 lt : e.1 < e.2
 hi : e.2 < N
def Lex (a b : Pr) : Prop := a.1 < b.1 ∨ (a.1 = b.1 ∧ a.2 < b.2)
structure Vld (N : Int) (es : List Pr) : Prop where
 lo : 0 ≤ N
 hi : N ≤ 1048576
 few : es.length ≤ 4194304
 ok : ∀ (i : Nat) e, es[i]? = some e → OkE N e
 up : ∀ (i : Nat) a b, es[i]? = some a → es[i + 1]? = some b → Lex a b
end Go.Fl

namespace Go.Fl
open Go
section
variable {P : Program} {w0 w : World} {K : List Nat} {n : Nat} {ds : List Deferred} {E : Env} {L F : List Chunk} {o : Oper} {x y z : Operand} {v u : Value}
theorem LJ {g t i : Nat} {cs : Array Value} {fz : Nat × Nat} (h : w.heap[g]? = some (.cells cs t fz)) (hv : cs[i]? = some v) : w.cell? ⟨g, i, none⟩ = some v := by
 rw [cell_of_row w g i cs t fz h]; exact hv
theorem Bc {g t i : Nat} {cs : Array Value} {fz : Nat × Nat} (h : w0.heap[g]? = some (.cells cs t fz)) (hv : cs[i]? = some v) : Has w0 [] L ⟨g, i, none⟩ v := Aw (LJ h hv)
theorem BQ {xs : List Int} {i : Nat} {x : Int} (h : xs[i]? = some x) : (ints xs).toArray[i]? = some (.int .i64 x) := by simp [ints, h]
theorem Dn {g : Nat} {ob : Obj} (hw : Own w0 K w L) (h : w0.heap[g]? = some ob) (hk : g ∉ K) : w.heap[g]? = some ob := by
 rw [hw.old g (TP.1 h).1 hk]; exact h
theorem QE {t e m len cap lo hi : Nat} {A : Option Addr} (ho : o.op = .slice t x (some y) (some z) none) (hx : ev n E x = some (.slice A len cap)) (hy : ev n E y = some (.int .i64 lo)) (hz : ev n E z = some (.int .i64 hi))
  (ht : P.underlying t = some (.slice e)) (hm : sizeT P e = some m) (h1 : lo ≤ hi) (h2 : hi ≤ cap) : Pur P n ds E o (.slice (if cap = lo then A else A.map (·.add (lo * m))) (hi - lo) (cap - lo)) := by
 intro a w ha
 have ht' : P.underlying t = some (.slice (P.elem t)) := by simp [Program.elem, ht]
 have he : P.elem t = e := by simp [Program.elem, ht]
 have := run_slice_lh (P := P) w t A len cap ht' .i64 .i64 lo hi (by omega) (by omega) (by omega)
 rw [he, BG hm] at this
 simp [execOp, ho, ha.ev hx, ha.ev hy, ha.ev hz, run_sliceAt_slice w t _ _ _ _ ht', this, sliced]
theorem Fi {t e m len cap hi : Nat} {A : Option Addr} (ho : o.op = .slice t x none (some z) none) (hx : ev n E x = some (.slice A len cap)) (hz : ev n E z = some (.int .i64 hi))
  (ht : P.underlying t = some (.slice e)) (hm : sizeT P e = some m) (h2 : hi ≤ cap) : Pur P n ds E o (.slice A hi cap) := by
 intro a w ha
 have ht' : P.underlying t = some (.slice (P.elem t)) := by simp [Program.elem, ht]
 have he : P.elem t = e := by simp [Program.elem, ht]
 have := run_slice_h (P := P) w t A len cap ht' .i64 hi (by omega) (by omega)
 rw [he, BG hm] at this
 have e1 : ((if cap = 0 then A else A.map (·.add (0 * m)))) = A := by
  split
  ·rfl
  cases A <;> simp [Addr.add]
 simp [execOp, ho, ha.ev hx, ha.ev hz, run_sliceAt_slice w t _ _ _ _ ht', this, sliced]
 simpa using e1
theorem D1 {t e m len cap lo : Nat} {A : Option Addr} (ho : o.op = .slice t x (some y) none none) (hx : ev n E x = some (.slice A len cap)) (hy : ev n E y = some (.int .i64 lo))
  (ht : P.underlying t = some (.slice e)) (hm : sizeT P e = some m) (h2 : lo ≤ len) : Pur P n ds E o (.slice (if cap = lo then A else A.map (·.add (lo * m))) (len - lo) (cap - lo)) := by
 intro a w ha
 have ht' : P.underlying t = some (.slice (P.elem t)) := by simp [Program.elem, ht]
 have he : P.elem t = e := by simp [Program.elem, ht]
 have := run_slice_l (P := P) w t A len cap ht' .i64 lo (by omega) (by omega)
 rw [he, BG hm] at this
 simp [execOp, ho, ha.ev hx, ha.ev hy, run_sliceAt_slice w t _ _ _ _ ht', this, sliced]
end
/-! ### half-edges -/
def frs : List Pr → List Int
 | [] => []
 | e :: r => e.1 :: e.2 :: frs r
def outsF : Nat → List Pr → Int → List Int
 | _, [], _ => []
 | k, e :: r, v => (if e.1 = v then [2 * (k : Int)] else if e.2 = v then [2 * (k : Int) + 1] else []) ++ outsF (k + 1) r v
def outs (es : List Pr) (v : Int) : List Int := outsF 0 es v
def tw (h : Int) : Int := if h % 2 = 0 then h + 1 else h - 1
def fromV (es : List Pr) (h : Int) : Int := if 0 ≤ h then ((frs es)[h.toNat]?).getD (-1) else -1
def toV (es : List Pr) (h : Int) : Int := if 0 ≤ h then fromV es (tw h) else -1
theorem BH (es : List Pr) : (frs es).length = es.length * 2 := by
 induction es with
 | nil => rfl
 | cons e r ih => simp [frs, ih, Nat.succ_mul]
theorem D9 : ∀ {es : List Pr} {i : Nat} {e : Pr}, es[i]? = some e → (frs es)[2 * i]? = some e.1 ∧ (frs es)[2 * i + 1]? = some e.2
 | [], i, e, h => by simp at h
 | x :: r, 0, e, h => by simp at h; subst h; simp [frs]
 | x :: r, i + 1, e, h => by
  simp at h
  have := D9 h
  rw [Nat.mul_succ]
  exact ⟨by simpa [frs] using this.1, by simpa [frs] using this.2⟩
theorem PF {es : List Pr} {h : Nat} (hh : h < es.length * 2) : ∃ e, es[h / 2]? = some e ∧ (frs es)[h]? = some (if h % 2 = 0 then e.1 else e.2) := by
 have hlt : h / 2 < es.length := by omega
 obtain ⟨e, he⟩ : ∃ e, es[h / 2]? = some e := ⟨_, Tz hlt⟩
 refine ⟨e, he, ?_⟩
 have := D9 he
 by_cases hp : h % 2 = 0
 ·rw [if_pos hp]; have e1 : 2 * (h / 2) = h := by omega
  rw [e1] at this; exact this.1
 rw [if_neg hp]; have e1 : 2 * (h / 2) + 1 = h := by omega
 rw [e1] at this; exact this.2
theorem Gp : ∀ {es : List Pr} {k : Nat} {v h : Int}, h ∈ outsF k es v ↔ ∃ (i : Nat) (e : Pr), es[i]? = some e ∧ ((e.1 = v ∧ h = 2 * ((k + i : Nat) : Int)) ∨ (e.1 ≠ v ∧ e.2 = v ∧ h = 2 * ((k + i : Nat) : Int) + 1))
 | [], k, v, h => by simp [outsF]
 | x :: r, k, v, h => by
  unfold outsF
  rw [List.mem_append, Gp]
  constructor
  ·rintro (h1 | ⟨i, e, he, h1⟩)
   ·refine ⟨0, x, by simp, ?_⟩
    split at h1
    ·rename_i h2; simp at h1; exact .inl ⟨h2, by simpa using h1⟩
    rename_i h2
    split at h1
    ·rename_i h3; simp at h1; exact .inr ⟨h2, h3, by simpa using h1⟩
    simp at h1
   refine ⟨i + 1, e, by simpa using he, ?_⟩
   rw [show k + (i + 1) = k + 1 + i by omega]; exact h1
  rintro ⟨i, e, he, h1⟩
  match i, he with
  | 0, he =>
   simp at he; subst he
   left
   rcases h1 with ⟨h2, h3⟩ | ⟨h2, h3, h4⟩
   ·rw [if_pos h2]; simpa using h3
   rw [if_neg h2, if_pos h3]; simpa using h4
  | i + 1, he =>
   right
   refine ⟨i, e, by simpa using he, ?_⟩
   rw [show k + 1 + i = k + (i + 1) by omega]; exact h1
structure AdjM where
 gp : Nat
 g0 : Nat
 g1 : Nat
 g2 : Nat
 g3 : Nat
 fr : List Int
 st : List Int
 ou : List Int
 pl : List Int
def sl (g : Nat) (xs : List Int) : Value := .slice (some ⟨g, 0, none⟩) xs.length xs.length
structure AdjP (N : Int) (es : List Pr) (M : AdjM) : Prop where
 vld : Vld N es
 fr : M.fr = frs es
 stl : M.st.length = N.toNat + 1
 st0 : M.st[0]? = some 0
 stn : ∀ (v : Nat) x, (v : Int) < N → M.st[v]? = some x → M.st[v + 1]? = some (x + (outs es v).length)
 oul : M.ou.length = es.length * 2
 pll : M.pl.length = es.length * 2
 ou : ∀ (v : Nat) x, (v : Int) < N → M.st[v]? = some x → ∀ (k : Nat) h, (outs es v)[k]? = some h → M.ou[x.toNat + k]? = some h ∧ M.pl[h.toNat]? = some (x + k)
 bd : ∀ (v : Nat) x, M.st[v]? = some x → 0 ≤ x ∧ x ≤ es.length * 2
structure AdjAt (w : World) (ta ti : Nat) (M : AdjM) : Prop where
 hp : w.heap[M.gp]? = some (.cells #[sl M.g0 M.fr, sl M.g1 M.st, sl M.g2 M.ou, sl M.g3 M.pl] ta (0, 0))
 h0 : w.heap[M.g0]? = some (.cells (ints M.fr).toArray ti (0, 0))
 h1 : w.heap[M.g1]? = some (.cells (ints M.st).toArray ti (0, 0))
 h2 : w.heap[M.g2]? = some (.cells (ints M.ou).toArray ti (0, 0))
 h3 : w.heap[M.g3]? = some (.cells (ints M.pl).toArray ti (0, 0))
/-- What a pointer to an Adj shows: the graph N, es; a nil one: the graph without vertices. -/
inductive AdjV (w : World) (ta ti : Nat) (N : Int) (es : List Pr) (M : AdjM) : Option Addr → Prop
 | nil (hN : N = 0) (he : es = []) : AdjV w ta ti N es M none
 | at (hA : AdjAt w ta ti M) (hP : AdjP N es M) : AdjV w ta ti N es M (some ⟨M.gp, 0, none⟩)
theorem Qq : Vld 0 [] := ⟨by omega, by omega, by simp, fun i e h => by simp at h, fun i a b h => by simp at h⟩
section
variable {w w0 : World} {K : List Nat} {L : List Chunk} {ta ti : Nat} {N : Int} {es : List Pr} {M : AdjM} {p : Option Addr}
theorem AdjV.vld (h : AdjV w ta ti N es M p) : Vld N es := by
 cases h with
 | nil hN he => subst hN he; exact Qq
 | «at» hA hP => exact hP.vld
theorem AdjAt.keep (h : AdjAt w0 ta ti M) (hw : Own w0 [] w L) : AdjAt w ta ti M :=
 ⟨Dn hw h.hp (by simp), Dn hw h.h0 (by simp), Dn hw h.h1 (by simp), Dn hw h.h2 (by simp), Dn hw h.h3 (by simp)⟩
theorem AdjV.keep (h : AdjV w0 ta ti N es M p) (hw : Own w0 [] w L) : AdjV w ta ti N es M p := by
 cases h with
 | nil hN he => exact .nil hN he
 | «at» hA hP => exact .at (hA.keep hw) hP
theorem Vld.len (h : Vld N es) : es.length ≤ 4194304 := h.few
theorem HJ (h : Vld N es) {v : Int} (hv : ¬ (0 ≤ v ∧ v < N)) : outs es v = [] := by
 rw [List.eq_nil_iff_forall_not_mem]
 intro x hx
 obtain ⟨i, e, he, h1⟩ := Gp.1 hx
 have ho := h.ok i e he
 have := ho.lo; have := ho.lt; have := ho.hi
 rcases h1 with ⟨h1, _⟩ | ⟨_, h1, _⟩ <;> omega
theorem FR (es : List Pr) {h : Int} (h0 : 0 ≤ h) (h1 : h < es.length * 2) : ∃ x, (frs es)[h.toNat]? = some x ∧ fromV es h = x := by
 have hlt : h.toNat < (frs es).length := by rw [BH]; omega
 refine ⟨(frs es)[h.toNat], Tz hlt, ?_⟩
 unfold fromV; rw [if_pos h0, Tz hlt]; rfl
theorem I9 (es : List Pr) {h : Int} (hh : ¬ (0 ≤ h ∧ h < es.length * 2)) : fromV es h = -1 := by
 unfold fromV
 split
 ·rw [TQ (by rw [BH]; omega)]; rfl
 rfl
theorem Qs (es : List Pr) {h : Int} (hh : ¬ (0 ≤ h ∧ h < es.length * 2)) : toV es h = -1 := by
 unfold toV
 split
 ·apply I9; unfold tw; split <;> omega
 rfl
theorem Hg {h : Int} {m : Nat} (h0 : 0 ≤ h) (h1 : h < m * 2) : 0 ≤ tw h ∧ tw h < m * 2 := by unfold tw; split <;> omega
theorem Kt (h : Int) : tw (tw h) = h := by unfold tw; split <;> split <;> omega
/-- A half-edge leaves the vertex where it begins. -/
theorem Bl (hv : Vld N es) {v h : Int} : h ∈ outs es v ↔ (0 ≤ h ∧ h < es.length * 2 ∧ fromV es h = v) := by
 unfold outs
 rw [Gp]
 constructor
 ·rintro ⟨i, e, he, h1⟩
  have hlt := (TA.1 he).1
  obtain ⟨f1, f2⟩ := D9 he
  rcases h1 with ⟨h1, h2⟩ | ⟨h1, h2, h3⟩
  ·have e0 : h.toNat = 2 * i := by omega
   refine ⟨by omega, by omega, ?_⟩
   unfold fromV; rw [if_pos (by omega), e0, f1]; exact h1
  have e0 : h.toNat = 2 * i + 1 := by omega
  refine ⟨by omega, by omega, ?_⟩
  unfold fromV; rw [if_pos (by omega), e0, f2]; exact h2
 rintro ⟨h0, h1, h2⟩
 obtain ⟨e, he, hf⟩ := PF (es := es) (h := h.toNat) (by omega)
 have hx : fromV es h = if h.toNat % 2 = 0 then e.1 else e.2 := by
  unfold fromV; rw [if_pos h0, hf]; rfl
 rw [hx] at h2
 have hok := (hv.ok _ e he).lt
 refine ⟨h.toNat / 2, e, he, ?_⟩
 split at h2
 ·left; exact ⟨h2, by omega⟩
 right; exact ⟨by omega, h2, by omega⟩
end
end Go.Fl

namespace Go.Fl
open Go
def tab (n : Nat) (f : Nat → Int) : List Int := (List.range n).map f
def upd (f : Nat → Int) (k : Nat) (x : Int) : Nat → Int := fun i => if i = k then x else f i
@[simp] theorem tab_length (n : Nat) (f : Nat → Int) : (tab n f).length = n := by simp [tab]
theorem Bw {n i : Nat} (f : Nat → Int) (h : i < n) : (tab n f)[i]? = some (f i) := by simp [tab, h]
theorem Hi {n i : Nat} {f : Nat → Int} {x : Int} (h : (tab n f)[i]? = some x) : i < n ∧ x = f i := by
 have hi := (TA.1 h).1
 simp at hi
 rw [Bw f hi] at h
 exact ⟨hi, (Option.some.inj h).symm⟩
theorem Db {n k : Nat} (f : Nat → Int) (x : Int) : (tab n f).set k x = tab n (upd f k x) := by
 apply List.ext_getElem?
 intro i
 by_cases hi : i < n
 ·rw [Bw _ hi]
  by_cases hk : k = i
  ·subst hk; rw [List.getElem?_set_self (by simpa using hi)]; simp [upd]
  rw [List.getElem?_set_ne hk, Bw _ hi]; simp [upd, Ne.symm hk]
 rw [TQ (by simp; omega), TQ (by simp; omega)]
theorem CP {n : Nat} {f g : Nat → Int} (h : ∀ i, i < n → f i = g i) : tab n f = tab n g := by
 apply List.map_congr_left
 intro i hi
 exact h i (TN.1 hi)
theorem OM (n : Nat) : List.replicate n (0 : Int) = tab n (fun _ => 0) := by
 apply List.ext_getElem?
 intro i
 by_cases hi : i < n
 ·rw [Bw _ hi]; simp [hi]
 rw [TQ (by simp; omega), TQ (by simp; omega)]
theorem I5 (k : Nat) : madeCells (Value.int .i64 0).cells (k * 1) = (ints (List.replicate k 0)).toArray := by
 rw [FK _ rfl]; simp [ints]
theorem Ch (k : Nat) : madeCells (Value.int .i64 0).cells (k * 1) = (ints (tab k fun _ => 0)).toArray := by rw [I5, OM]
/-- A store into a row of integers, spare room behind it. -/
theorem M6 {xs : List Int} {sp : List Value} {i : Nat} {x : Int} (h : i < xs.length) : ((ints xs ++ sp).toArray).setIfInBounds i (.int .i64 x) = (ints (xs.set i x) ++ sp).toArray := by
 apply Array.ext'
 simp only [Array.toList_setIfInBounds]
 rw [List.set_append_left _ _ (by simpa using h)]
 simp [ints, List.map_set]
theorem EA {xs : List Int} {i : Nat} {x : Int} : ((ints xs).toArray).setIfInBounds i (.int .i64 x) = (ints (xs.set i x)).toArray := by
 apply Array.ext'
 simp [ints, List.map_set]
theorem BR {n i : Nat} {f : Nat → Int} {x : Int} : ((ints (tab n f)).toArray).setIfInBounds i (.int .i64 x) = (ints (tab n (upd f i x))).toArray := by rw [EA, Db]
theorem M7 {xs : List Int} {sp : List Value} {i : Nat} {x : Int} (h : xs[i]? = some x) : ((ints xs ++ sp).toArray)[i]? = some (.int .i64 x) := by
 have hi := (TA.1 h).1
 simp only [List.getElem?_toArray]
 rw [TK (by simpa using hi)]
 exact BL h
theorem Bt {n i : Nat} {f : Nat → Int} (h : i < n) : ((ints (tab n f)).toArray)[i]? = some (.int .i64 (f i)) := BQ (Bw f h)
/-! ### counting -/
theorem JL (k : Nat) (a b : List Pr) (v : Int) : outsF k (a ++ b) v = outsF k a v ++ outsF (k + a.length) b v := by
 induction a generalizing k with
 | nil => simp [outsF]
 | cons e r ih => simp only [List.cons_append, outsF, ih, List.append_assoc, List.length_cons]; rw [show k + 1 + r.length = k + (r.length + 1) by omega]
def one1 (k : Nat) (e : Pr) (v : Int) : List Int := if e.1 = v then [2 * (k : Int)] else if e.2 = v then [2 * (k : Int) + 1] else []
theorem Fk {es : List Pr} {j : Nat} {e : Pr} (h : es[j]? = some e) (v : Int) : outs es v = outs (es.take j) v ++ (one1 j e v ++ outsF (j + 1) (es.drop (j + 1)) v) := by
 have hj := (TA.1 h).1
 have hlen : (es.take j).length = j := by simp; omega
 have hsplit : es = es.take j ++ e :: es.drop (j + 1) := by
  have := (List.take_append_drop j es).symm
  rw [List.drop_eq_getElem_cons hj] at this
  rw [(TA.1 h).2] at this
  exact this
 have e1 : outs es v = outs (es.take j ++ e :: es.drop (j + 1)) v := congrArg (fun l => outs l v) hsplit
 rw [e1]
 unfold outs
 rw [JL, hlen, Nat.zero_add]
 rfl
theorem I0 {es : List Pr} {j : Nat} {e : Pr} (h : es[j]? = some e) (v : Int) : outs (es.take (j + 1)) v = outs (es.take j) v ++ one1 j e v := by
 have hj := (TA.1 h).1
 have h2 : (es.take (j + 1))[j]? = some e := by rw [List.getElem?_take]; simp [h]
 rw [Fk h2 v]
 have e1 : (es.take (j + 1)).take j = es.take j := by rw [List.take_take]; congr 1; omega
 have e2 : (es.take (j + 1)).drop (j + 1) = [] := by simp
 rw [e1, e2]; simp [outsF]
def cnt (es : List Pr) (v : Nat) : Int := (outs es v).length
def pre (es : List Pr) : Nat → Int
 | 0 => 0
 | v + 1 => pre es v + cnt es v
theorem Ee (es : List Pr) (v : Nat) : 0 ≤ cnt es v := by unfold cnt; omega
theorem FF (es : List Pr) {u v : Nat} (h : u ≤ v) : pre es u ≤ pre es v := by
 induction h with
 | refl => exact Int.le_refl _
 | @step m _ ih =>
  have := Ee es m
  show pre es u ≤ pre es m + cnt es m
  omega
theorem CA (es : List Pr) (v : Nat) : 0 ≤ pre es v := by have := FF es (Nat.zero_le v); simpa [pre] using this
theorem KU (k : Nat) (e : Pr) (v : Int) (hne : e.1 ≠ e.2) : ((one1 k e v).length : Int) = (if e.1 = v then 1 else 0) + (if e.2 = v then 1 else 0) := by
 unfold one1
 by_cases h1 : e.1 = v
 ·have : ¬ e.2 = v := by omega
  simp [h1, this]
 by_cases h2 : e.2 = v <;> simp [h1, h2]
theorem Ib {es : List Pr} {j : Nat} {e : Pr} (h : es[j]? = some e) (hne : e.1 ≠ e.2) (v : Nat) : cnt (es.take (j + 1)) v = cnt (es.take j) v + (if e.1 = v then 1 else 0) + (if e.2 = v then 1 else 0) := by
 unfold cnt
 rw [I0 h, List.length_append]
 have := KU j e v hne
 push_cast
 omega
theorem O6 {es : List Pr} {j : Nat} {e : Pr} (h : es[j]? = some e) (hne : e.1 ≠ e.2) (h1 : 0 ≤ e.1) (h2 : 0 ≤ e.2) (u : Nat) : pre (es.take (j + 1)) u = pre (es.take j) u + (if e.1 < u then 1 else 0) + (if e.2 < u then 1 else 0) := by
 induction u with
 | zero => simp only [pre]; rw [if_neg (by omega), if_neg (by omega)]; rfl
 | succ u ih =>
  simp only [pre, ih, Ib h hne u]
  by_cases a1 : e.1 = u <;> by_cases a2 : e.2 = u <;> by_cases b1 : e.1 < u <;> by_cases b2 : e.2 < u <;> simp [a1, a2, b1, b2] <;> (repeat' split) <;> omega
theorem QD {N : Int} {es : List Pr} (hv : Vld N es) : pre es N.toNat = es.length * 2 := by
 have key : ∀ j, j ≤ es.length → pre (es.take j) N.toNat = j * 2 := by
  intro j
  induction j with
  | zero =>
   intro _
   have : ∀ u, pre [] u = 0 := by intro u; induction u with
    | zero => rfl
    | succ u ih => simp [pre, ih, cnt, outs, outsF]
   simp [this]
  | succ j ih =>
   intro hj
   have he : es[j]? = some es[j] := Tz (by omega)
   have ho := hv.ok j _ he
   have := ho.lo; have := ho.lt; have := ho.hi
   rw [O6 he (by omega) (by omega) (by omega), ih (by omega), if_pos (by omega), if_pos (by omega)]
   omega
 have := key es.length (Nat.le_refl _)
 rwa [List.take_length] at this
theorem Mf {N : Int} {es : List Pr} (hv : Vld N es) {v : Nat} (h : (v : Int) ≤ N) : pre es v ≤ es.length * 2 := by
 rw [← QD hv]; exact FF es (by omega)
/-- How many of the first j edges end in v, begin in v. -/
def loV (es : List Pr) (j : Nat) (v : Int) : Int := ((es.take j).countP fun e => decide (e.2 = v))
def loU (es : List Pr) (j : Nat) (v : Int) : Int := ((es.take j).countP fun e => decide (e.1 = v))
theorem HN {es : List Pr} {j : Nat} {e : Pr} (h : es[j]? = some e) (v : Int) : loV es (j + 1) v = loV es j v + (if e.2 = v then 1 else 0) := by
 have hj := (TA.1 h)
 unfold loV
 rw [List.take_succ_eq_append_getElem hj.1, hj.2, List.countP_append]
 simp
 split <;> simp
theorem K0 {es : List Pr} {j : Nat} {e : Pr} (h : es[j]? = some e) (v : Int) : loU es (j + 1) v = loU es j v + (if e.1 = v then 1 else 0) := by
 have hj := (TA.1 h)
 unfold loU
 rw [List.take_succ_eq_append_getElem hj.1, hj.2, List.countP_append]
 simp
 split <;> simp
theorem G0 {N : Int} {es : List Pr} (hv : Vld N es) (v : Int) : ∀ j, j ≤ es.length → ((outs (es.take j) v).length : Int) = loV es j v + loU es j v := by
 intro j
 induction j with
 | zero => intro _; simp [outs, outsF, loV, loU]
 | succ j ih =>
  intro hj
  have he : es[j]? = some es[j] := Tz (by omega)
  have ho := (hv.ok j _ he).lt
  rw [I0 he, List.length_append, HN he, K0 he]
  have h1 := KU j es[j] v (by omega)
  have h2 := ih (by omega)
  push_cast
  omega
theorem JQ {N : Int} {es : List Pr} (hv : Vld N es) : ∀ {i j : Nat} {a b : Pr}, i < j → es[i]? = some a → es[j]? = some b → Lex a b := by
 intro i j
 induction j with
 | zero => intro a b h; omega
 | succ j ih =>
  intro a b h ha hb
  have hj : j < es.length := by have := (TA.1 hb).1; omega
  have hc : es[j]? = some es[j] := Tz hj
  have hcb := hv.up j _ _ hc hb
  by_cases he : i = j
  ·subst he; rw [ha] at hc; cases hc; exact hcb
  have hac := ih (by omega) ha hc
  unfold Lex at *; omega
/-- Ahead of an edge that ends in v none begins in v. -/
theorem Pm {N : Int} {es : List Pr} (hv : Vld N es) {j : Nat} {e : Pr} (h : es[j]? = some e) : loU es j e.2 = 0 := by
 unfold loU
 have : (es.take j).countP (fun x => decide (x.1 = e.2)) = 0 := by
  rw [List.countP_eq_zero]
  intro x hx
  obtain ⟨i, hi⟩ := List.getElem?_of_mem hx
  rw [List.getElem?_take] at hi
  split at hi
  ·have := JQ hv ‹_› hi h
   have := (hv.ok j e h).lt
   unfold Lex at *
   simp; omega
  cases hi
 rw [this]; rfl
/-- From an edge that begins in v on none ends in v. -/
theorem QM {N : Int} {es : List Pr} (hv : Vld N es) {j : Nat} {e : Pr} (h : es[j]? = some e) : loV es j e.1 = loV es es.length e.1 := by
 have key : ∀ d, j + d ≤ es.length → loV es (j + d) e.1 = loV es j e.1 := by
  intro d
  induction d with
  | zero => intro _; rfl
  | succ d ih =>
   intro hd
   have hx : es[j + d]? = some es[j + d] := Tz (by omega)
   rw [← Nat.add_assoc, HN hx, ih (by omega)]
   have ho := (hv.ok _ _ hx).lt
   have : ¬ es[j + d].2 = e.1 := by
    by_cases h0 : d = 0
    ·subst h0; simp only [Nat.add_zero] at hx ho ⊢; rw [h] at hx; have := Option.some.inj hx; rw [← this] at ho ⊢; omega
    have := JQ hv (show j < j + d by omega) h hx
    unfold Lex at this; omega
   rw [if_neg this]; omega
 have hj := (TA.1 h).1
 have := key (es.length - j) (by omega)
 rw [show j + (es.length - j) = es.length by omega] at this
 exact this.symm
/-- Where the half-edges of an edge stand. -/
theorem N6 {es : List Pr} {j : Nat} {e : Pr} (h : es[j]? = some e) (hne : e.1 ≠ e.2) : (outs es e.2)[(outs (es.take j) e.2).length]? = some (2 * (j : Int) + 1) := by
 rw [Fk h e.2, TL (Nat.le_refl _), Nat.sub_self]
 simp [one1, hne]
theorem N7 {es : List Pr} {j : Nat} {e : Pr} (h : es[j]? = some e) : (outs es e.1)[(outs (es.take j) e.1).length]? = some (2 * (j : Int)) := by
 rw [Fk h e.1, TL (Nat.le_refl _), Nat.sub_self]
 simp [one1]
theorem Dc : ∀ (es : List Pr) (k : Nat) (v : Int), (outsF k es v).Pairwise (· < ·) ∧ ∀ h, h ∈ outsF k es v → 2 * (k : Int) ≤ h
 | [], k, v => by simp [outsF]
 | e :: r, k, v => by
  obtain ⟨h1, h2⟩ := Dc r (k + 1) v
  unfold outsF
  refine ⟨?_, ?_⟩
  ·rw [List.pairwise_append]
   refine ⟨by split <;> (try split) <;> simp, h1, fun a ha b hb => ?_⟩
   have := h2 b hb
   split at ha
   ·simp at ha; subst ha; push_cast at this; omega
   split at ha
   ·simp at ha; subst ha; push_cast at this; omega
   simp at ha
  intro h hh
  rw [List.mem_append] at hh
  rcases hh with hh | hh
  ·split at hh
   ·simp at hh; omega
   split at hh
   ·simp at hh; omega
   simp at hh
  have := h2 h hh; push_cast at this; omega
theorem N5 {es : List Pr} {v h : Int} {i j : Nat} (hi : (outs es v)[i]? = some h) (hj : (outs es v)[j]? = some h) : i = j := by
 have hp := (Dc es 0 v).1
 have a := TA.1 hi
 have b := TA.1 hj
 obtain ⟨ha, ea⟩ := a
 obtain ⟨hb, eb⟩ := b
 rcases Nat.lt_trichotomy i j with hlt | heq | hgt
 ·have := (List.pairwise_iff_getElem.1 hp) i j ha hb hlt
  unfold outs at ea eb; omega
 ·exact heq
 have := (List.pairwise_iff_getElem.1 hp) j i hb ha hgt
 unfold outs at ea eb; omega
theorem Ok {w0 : World} {K : List Nat} {L : List Chunk} {g t : Nat} {xs : List Int} [h : Find L g t (ints xs).toArray] : Hass w0 K L ⟨g, 0, none⟩ (ints xs) :=
 Ak (cs := (ints xs).toArray) (by simp only [List.drop_zero]; exact List.take_length)
theorem Cz {b t n : Nat} {f g : Nat → Int} (h : ∀ i, i < n → f i = g i) : blk b t (ints (tab n f)).toArray = blk b t (ints (tab n g)).toArray := by rw [CP h]
theorem Ej {b t n : Nat} {f g : Nat → Int} {sp : List Value} (h : ∀ i, i < n → f i = g i) : blk b t (ints (tab n f) ++ sp).toArray = blk b t (ints (tab n g) ++ sp).toArray := by rw [CP h]
theorem Fc (g n : Nat) (f : Nat → Int) : sl g (tab n f) = .slice (some ⟨g, 0, none⟩) n n := by simp [sl]
/-- The place of a half-edge: of the k-th that leaves v. -/
theorem HD {N : Int} {es : List Pr} (hv : Vld N es) {v k : Nat} (hvN : (v : Int) < N) (hk : k < (outs es v).length) : pre es v + k < es.length * 2 := by
 have h1 : pre es (v + 1) ≤ es.length * 2 := Mf hv (by omega)
 have h2 : pre es (v + 1) = pre es v + (outs es v).length := rfl
 omega
theorem NY {es : List Pr} {v v' k k' : Nat} (hk : k < (outs es v).length) (hk' : k' < (outs es v').length) (h : pre es v + k = pre es v' + k') : v = v' ∧ k = k' := by
 have e1 : pre es (v + 1) = pre es v + (outs es v).length := rfl
 have e2 : pre es (v' + 1) = pre es v' + (outs es v').length := rfl
 rcases Nat.lt_trichotomy v v' with hlt | heq | hgt
 ·have := FF es (show v + 1 ≤ v' by omega); omega
 ·subst heq; exact ⟨rfl, by omega⟩
 have := FF es (show v' + 1 ≤ v by omega); omega
/-- What has been put: the half-edges h of which D holds stand in their places. -/
def Done (es : List Pr) (D : Int → Prop) (fo fp : Nat → Int) : Prop :=
 ∀ (v k : Nat) (h : Int), (outs es v)[k]? = some h → D h → fo (pre es v + k).toNat = h ∧ fp h.toNat = pre es v + k
theorem Done.put {N : Int} {es : List Pr} (hv : Vld N es) {D : Int → Prop} {fo fp : Nat → Int} (hd : Done es D fo fp) {v k : Nat} {h : Int} (hk : (outs es v)[k]? = some h) :
  Done es (fun x => D x ∨ x = h) (upd fo (pre es v + k).toNat h) (upd fp h.toNat (pre es v + k)) := by
 intro v' k' h' hk' hD
 have hl := (TA.1 hk).1
 have hl' := (TA.1 hk').1
 have hm := (Bl hv).1 (TD hk)
 have hm' := (Bl hv).1 (TD hk')
 have p0 := CA es v
 have p0' := CA es v'
 by_cases he : h' = h
 ·subst he
  have hvv : v = v' := by have := hm.2.2; have := hm'.2.2; omega
  subst hvv
  obtain rfl := N5 hk hk'
  simp [upd]
 have hDh : D h' := hD.resolve_right he
 obtain ⟨a1, a2⟩ := hd v' k' h' hk' hDh
 have n1 : (pre es v' + k').toNat ≠ (pre es v + k).toNat := by
  intro e
  have e2 : pre es v' + k' = pre es v + k := by omega
  obtain ⟨rfl, rfl⟩ := NY hl' hl e2
  rw [hk] at hk'; exact he (Option.some.inj hk').symm
 have n2 : h'.toNat ≠ h.toNat := by omega
 exact ⟨by simp only [upd, if_neg n1]; exact a1, by simp only [upd, if_neg n2]; exact a2⟩
theorem Done.imp {es : List Pr} {D D' : Int → Prop} {fo fp : Nat → Int} (hd : Done es D fo fp) (h : ∀ (v : Nat) x, x ∈ outs es v → D' x → D x) : Done es D' fo fp :=
 fun v k x hk hx => hd v k x hk (h v x (TD hk) hx)
end Go.Fl

namespace Go.Fl
open Go
section
variable {N : Int} {es : List Pr}
theorem Cp {h : Int} (h0 : 0 ≤ h) (h1 : h < es.length * 2) : ∃ (e : Nat) (a : Pr), es[e]? = some a ∧ ((h = 2 * (e : Int) ∧ fromV es h = a.1 ∧ toV es h = a.2) ∨ (h = 2 * (e : Int) + 1 ∧ fromV es h = a.2 ∧ toV es h = a.1)) := by
 obtain ⟨e, he⟩ : ∃ e : Nat, h / 2 = e := ⟨(h / 2).toNat, by omega⟩
 have hlt : e < es.length := by omega
 refine ⟨e, es[e], Tz hlt, ?_⟩
 obtain ⟨f1, f2⟩ := D9 (Tz hlt)
 have g1 : fromV es (2 * (e : Int)) = es[e].1 := by unfold fromV; rw [if_pos (by omega), show (2 * (e : Int)).toNat = 2 * e by omega, f1]; rfl
 have g2 : fromV es (2 * (e : Int) + 1) = es[e].2 := by unfold fromV; rw [if_pos (by omega), show (2 * (e : Int) + 1).toNat = 2 * e + 1 by omega, f2]; rfl
 by_cases hp : h % 2 = 0
 ·left
  have hh : h = 2 * (e : Int) := by omega
  subst hh
  refine ⟨rfl, g1, ?_⟩
  unfold toV tw
  rw [if_pos (by omega), if_pos (by omega)]; exact g2
 right
 have hh : h = 2 * (e : Int) + 1 := by omega
 subst hh
 refine ⟨rfl, g2, ?_⟩
 unfold toV tw
 rw [if_pos (by omega), if_neg (by omega), show 2 * (e : Int) + 1 - 1 = 2 * (e : Int) by omega]; exact g1
theorem Ra (hV : Vld N es) {u h k : Int} (hh : h ∈ outs es u) (hk : k ∈ outs es u) (hlt : h < k) : toV es h < toV es k := by
 obtain ⟨a0, a1, a2⟩ := (Bl hV).1 hh
 obtain ⟨b0, b1, b2⟩ := (Bl hV).1 hk
 obtain ⟨e, a, he, ha⟩ := Cp a0 a1
 obtain ⟨f, b, hf, hb⟩ := Cp b0 b1
 have oa := hV.ok e a he
 have ob := hV.ok f b hf
 have la := oa.lt
 have lb := ob.lt
 by_cases hef : e = f
 ·subst hef
  rw [he] at hf
  cases hf
  rcases ha with ⟨q1, q2, q3⟩ | ⟨q1, q2, q3⟩ <;> rcases hb with ⟨r1, r2, r3⟩ | ⟨r1, r2, r3⟩ <;> omega
 have hl := JQ hV (i := e) (j := f) (by rcases ha with ⟨q1, _⟩ | ⟨q1, _⟩ <;> rcases hb with ⟨r1, _⟩ | ⟨r1, _⟩ <;> omega) he hf
 unfold Lex at hl
 rcases ha with ⟨q1, q2, q3⟩ | ⟨q1, q2, q3⟩ <;> rcases hb with ⟨r1, r2, r3⟩ | ⟨r1, r2, r3⟩ <;> omega
/-- A half-edge from u to v. -/
structure IsHalf (es : List Pr) (u v h : Int) : Prop where
 lo : 0 ≤ h
 hi : h < es.length * 2
 fr : fromV es h = u
 to : toV es h = v
theorem IsHalf.uniq (hV : Vld N es) {u v h k : Int} (a : IsHalf es u v h) (b : IsHalf es u v k) : h = k := by
 have ha := (Bl hV).2 ⟨a.lo, a.hi, a.fr⟩
 have hb := (Bl hV).2 ⟨b.lo, b.hi, b.fr⟩
 have h1 := a.to
 have h2 := b.to
 rcases Int.lt_trichotomy h k with c | c | c
 ·have := Ra hV ha hb c; omega
 ·exact c
 have := Ra hV hb ha c; omega
/-- What the reference answers. -/
def rhalfF (u v : Int) : Nat → List Pr → Int
 | _, [] => -1
 | k, e :: r => if e.1 = u ∧ e.2 = v then 2 * (k : Int) else if e.1 = v ∧ e.2 = u then 2 * (k : Int) + 1 else rhalfF u v (k + 1) r
theorem GC {u v : Int} : ∀ {l : List Pr} {k : Nat}, (∃ (i : Nat) (e : Pr), l[i]? = some e ∧ ((e.1 = u ∧ e.2 = v ∧ rhalfF u v k l = 2 * ((k + i : Nat) : Int)) ∨ (e.1 = v ∧ e.2 = u ∧ rhalfF u v k l = 2 * ((k + i : Nat) : Int) + 1))) ∨
  (rhalfF u v k l = -1 ∧ ∀ e ∈ l, ¬ (e.1 = u ∧ e.2 = v) ∧ ¬ (e.1 = v ∧ e.2 = u))
 | [], k => .inr ⟨rfl, by simp⟩
 | e :: r, k => by
  unfold rhalfF
  by_cases h1 : e.1 = u ∧ e.2 = v
  ·rw [if_pos h1]; exact .inl ⟨0, e, rfl, .inl ⟨h1.1, h1.2, rfl⟩⟩
  rw [if_neg h1]
  by_cases h2 : e.1 = v ∧ e.2 = u
  ·rw [if_pos h2]; exact .inl ⟨0, e, rfl, .inr ⟨h2.1, h2.2, rfl⟩⟩
  rw [if_neg h2]
  rcases GC (u := u) (v := v) (l := r) (k := k + 1) with ⟨i, e', hi, hc⟩ | ⟨h3, h4⟩
  ·refine .inl ⟨i + 1, e', by simpa using hi, ?_⟩
   rw [show k + (i + 1) = k + 1 + i by omega]; exact hc
  refine .inr ⟨h3, fun x hx => ?_⟩
  rcases List.mem_cons.1 hx with rfl | hx
  ·exact ⟨h1, h2⟩
  exact h4 x hx
theorem Co {u v : Int} {i : Nat} {e : Pr} (hi : es[i]? = some e) (h1 : e.1 = u) (h2 : e.2 = v) : IsHalf es u v (2 * (i : Int)) := by
 have hl := (TA.1 hi).1
 obtain ⟨e', a, he, ha⟩ := Cp (es := es) (h := 2 * (i : Int)) (by omega) (by omega)
 rcases ha with ⟨q1, q2, q3⟩ | ⟨q1, q2, q3⟩
 ·obtain rfl : e' = i := by omega
  rw [hi] at he; cases he
  exact ⟨by omega, by omega, by omega, by omega⟩
 omega
theorem C6 {u v : Int} {i : Nat} {e : Pr} (hi : es[i]? = some e) (h1 : e.1 = v) (h2 : e.2 = u) : IsHalf es u v (2 * (i : Int) + 1) := by
 have hl := (TA.1 hi).1
 obtain ⟨e', a, he, ha⟩ := Cp (es := es) (h := 2 * (i : Int) + 1) (by omega) (by omega)
 rcases ha with ⟨q1, q2, q3⟩ | ⟨q1, q2, q3⟩
 ·omega
 obtain rfl : e' = i := by omega
 rw [hi] at he; cases he
 exact ⟨by omega, by omega, by omega, by omega⟩
theorem Md (u v : Int) : IsHalf es u v (rhalfF u v 0 es) ∨ (rhalfF u v 0 es = -1 ∧ ∀ h, ¬ IsHalf es u v h) := by
 rcases GC (u := u) (v := v) (l := es) (k := 0) with ⟨i, e, hi, hc⟩ | ⟨h1, h2⟩
 ·left
  rw [Nat.zero_add] at hc
  rcases hc with ⟨a, b, c⟩ | ⟨a, b, c⟩
  ·rw [c]; exact Co hi a b
  rw [c]; exact C6 hi a b
 refine .inr ⟨h1, fun h hh => ?_⟩
 obtain ⟨e, a, he, ha⟩ := Cp hh.lo hh.hi
 have := h2 a (TD he)
 have f1 := hh.fr
 have f2 := hh.to
 rcases ha with ⟨q1, q2, q3⟩ | ⟨q1, q2, q3⟩
 ·exact this.1 ⟨by omega, by omega⟩
 exact this.2 ⟨by omega, by omega⟩
end
end Go.Fl

namespace Go.Fl
open Go
/-- A slice of integers that reads so. -/
def SlV (w : World) (v : Value) (xs : List Int) : Prop :=
 ∃ A cap, v = .slice A xs.length cap ∧ Rd w A (ints xs) ∧ xs.length ≤ cap ∧ cap ≤ 9223372036854775807 ∧ xs.length ≤ 17592186044416
/-- A slice of pairs that reads so. -/
def PrV (w : World) (v : Value) (es : List Pr) : Prop :=
 ∃ A cap, v = .slice A es.length cap ∧ Rd w A (prs es) ∧ es.length ≤ cap ∧ cap ≤ 9223372036854775807 ∧ es.length ≤ 8796093021952
section
variable {P : Program} {ops : Array Oper} {w0 w : World} {K : List Nat} {n : Nat} {ds : List Deferred} {E : Env} {L F : List Chunk} {o : Oper} {x y z : Operand} {v u : Value}
theorem SlV.keep0 {xs : List Int} (h : SlV w0 v xs) (hw : Own w0 [] w L) : SlV w v xs := by
 obtain ⟨A, cap, rfl, hr, h1, h2, h3⟩ := h
 exact ⟨A, cap, rfl, hr.keep0 hw, h1, h2, h3⟩
theorem PrV.keep0 {es : List Pr} (h : PrV w0 v es) (hw : Own w0 [] w L) : PrV w v es := by
 obtain ⟨A, cap, rfl, hr, h1, h2, h3⟩ := h
 exact ⟨A, cap, rfl, hr.keep0 hw, h1, h2, h3⟩
theorem BW {t m : Nat} {vs : List Value} (hw : Own w0 K w (slc v t m vs :: F)) : ∃ A len cap, v = .slice A len cap ∧ vs.length = len * m ∧ Rd w A vs ∧ len ≤ cap ∧ cap ≤ 9223372036854775807 := by
 rcases B9 hw with ⟨rfl, rfl, _⟩ | ⟨g, len, cap, sp, rfl, h1, h2, h3, h4, hO⟩
 ·exact ⟨none, 0, 0, rfl, by simp, fun j u h => by simp at h, Nat.le_refl _, by omega⟩
 refine ⟨_, _, _, rfl, h1, fun j u h => ⟨_, rfl, ?_⟩, h2, h3⟩
 have := hO.holds _ (TI ..)
 rw [AC, cell_of_row w g _ _ t (0, 0) this]
 have hj := (TA.1 h).1
 simpa [TK hj] using h
theorem Ck {t : Nat} {xs : List Int} (hw : Own w0 K w L) (i : Nat) (h : L[i]? = some (slc v t 1 (ints xs))) (hf : xs.length ≤ 17592186044416) : SlV w v xs := by
 have hp := AO h
 obtain ⟨A, len, cap, rfl, h1, hr, h2, h3⟩ := BW (hw.perm hp.symm)
 simp at h1; subst h1
 exact ⟨A, cap, rfl, hr, h2, h3, hf⟩
theorem CX {t : Nat} {es : List Pr} (hw : Own w0 K w L) (i : Nat) (h : L[i]? = some (slc v t 2 (prs es))) (hf : es.length ≤ 8796093021952) : PrV w v es := by
 have hp := AO h
 obtain ⟨A, len, cap, rfl, h1, hr, h2, h3⟩ := BW (hw.perm hp.symm)
 simp at h1
 obtain rfl : es.length = len := by omega
 exact ⟨A, cap, rfl, hr, h2, h3, hf⟩
/-! ### results that lie in a cell -/
theorem ES {t : Nat} {ty : TypeId} {g : Nat} {cs : Array Value} {w : World} (hg : w.heap[g]? = some (.cells cs t (0, 0))) (ht : aggT P ty = some true) (hs : sizeT P ty = some cs.size) :
  (loadVar ty ⟨g, 0, none⟩).run P w = .ok (.agg cs) w := by
 unfold aggT at ht
 cases hu : P.underlying ty with
 | none => rw [hu] at ht; cases ht
 | some d =>
  rw [hu] at ht
  refine run_loadVar_row w g t ty cs (0, 0) d hg hu ?_ hs
  cases d <;> simp_all
theorem Cw {fn : Func} {p : Tmp} {ty : TypeId} {g t : Nat} {cs : Array Value} {C : Value → List Chunk → Prop} {e : Exit} (he : e = .ret ∨ e = .normal) (hr : fn.results = #[.cell p ty])
  (hv : ev n E (.tmp p) = some (.pointer (some ⟨g, 0, none⟩))) [h : Find L g t cs] (ht : aggT P ty = some true) (hs : sizeT P ty = some cs.size) (hR : ∃ L', (∀ w, Own w0 K w L → Own w0 K w L') ∧ C (.agg cs) L') :
  Fin w0 K n [] (bodyPost P fn (Ret w0 K C) e) E L := by
 intro a w ha hO
 obtain ⟨L', hL, hC⟩ := hR
 have hg := hO.holds _ h.mem
 have hp : a.tmps.getD p undef = .pointer (some ⟨g, 0, none⟩) := by have := ha.ev hv; simpa only [Act.eval] using this
 have h1 : a.defers = [] ∧ ∃ v, (results fn a.tmps).run P w = .ok v w ∧ Ret w0 K C (.returned v) w := by
  refine ⟨ha.defers, _, ?_, .agg cs, L', rfl, hC, hL w hO⟩
  have hp' : a.tmps[p]?.getD undef = .pointer (some ⟨g, 0, none⟩) := by simpa using hp
  simp [results, hr, hp', asAddr, ES hg ht hs]
 rcases he with rfl | rfl <;> exact h1
theorem Bf {fn : Func} {p q : Tmp} {ty : TypeId} {g t : Nat} {cs : Array Value} {C : Value → List Chunk → Prop} {e : Exit} (he : e = .ret ∨ e = .normal) (hr : fn.results = #[.cell p ty, .tmp q])
  (hv : ev n E (.tmp p) = some (.pointer (some ⟨g, 0, none⟩))) (hq : ev n E (.tmp q) = some u) [h : Find L g t cs] (ht : aggT P ty = some true) (hs : sizeT P ty = some cs.size) (hR : ∃ L', (∀ w, Own w0 K w L → Own w0 K w L') ∧ C (.tuple #[.agg cs, u]) L') :
  Fin w0 K n [] (bodyPost P fn (Ret w0 K C) e) E L := by
 intro a w ha hO
 obtain ⟨L', hL, hC⟩ := hR
 have hg := hO.holds _ h.mem
 have hp : a.tmps.getD p undef = .pointer (some ⟨g, 0, none⟩) := by have := ha.ev hv; simpa only [Act.eval] using this
 have hq' : a.tmps.getD q undef = u := by have := ha.ev hq; simpa only [Act.eval] using this
 have h1 : a.defers = [] ∧ ∃ v, (results fn a.tmps).run P w = .ok v w ∧ Ret w0 K C (.returned v) w := by
  refine ⟨ha.defers, _, ?_, .tuple #[.agg cs, u], L', rfl, hC, hL w hO⟩
  rw [results_cell_tmp hr, hp, hq']
  simp [asAddr, ES hg ht hs, Result.andThen]
 rcases he with rfl | rfl <;> exact h1
/-! ### append to a new empty slice -/
def ap0 (v : Value) (g e m : Nat) (news : List Value) : Chunk :=
 ⟨if news = [] then [] else v.ownBlock.toList, fun w => if news = [] then v = .slice (some ⟨g, 0, none⟩) 0 0 else (slc v e m news).holds w,
   fun w w' h hh => by
  by_cases hn : news = []
  ·simp only [if_pos hn] at hh ⊢; exact hh
  simp only [if_neg hn] at h hh ⊢
  exact (slc v e m news).loc w w' h hh⟩
theorem EX {g e m : Nat} {news : List Value} (hm : 0 < m) (hw : Own w0 K w (ap0 v g e m news :: blk g e #[] :: F)) : Own w0 K w (slc v e m news :: F) := by
 by_cases hn : news = []
 ·subst hn
  have hv : v = .slice (some ⟨g, 0, none⟩) 0 0 := by have := hw.holds _ (TI ..); simpa [ap0] using this
  subst hv
  exact BZ (cs := #[]) (len := 0) (by simp) hm (Nat.le_refl _) (by omega) (by simp) (by simp) (hw.sub (TG ..))
 have h1 : Own w0 K w (ap0 v g e m news :: F) := hw.sub ((TG _ _).cons_cons _)
 exact GZ (by simp [ap0, slc, if_neg hn]) (fun w hh => by simpa [ap0, if_neg hn] using hh) h1
theorem R0 {g e m : Nat} {news : List Value} (hn : news ≠ []) (hw : Own w0 K w (slc v e m news :: F)) : Own w0 K w (ap0 v g e m news :: F) :=
 GZ (by simp [ap0, slc, if_neg hn]) (fun w hh => by simpa [ap0, if_neg hn] using hh) hw
theorem Df {t e m b k g : Nat} {zv yv : Value} {news : List Value} (ho : o.op = .call ⟨.builtin .append, #[x, y], #[t, t]⟩) (hx : ev n E x = some (.slice (some ⟨g, 0, none⟩) 0 0)) (hy : ev n E y = some yv)
  (ht : P.underlying t = some (.slice e)) (hm : sizeT P e = some m) (hb : bytesT P e = some b) (hz : zeroT P e = some zv) (hzs : zv.cells.size = m) (hm0 : 0 < m) (hb0 : 0 < b)
  (hn : Src w0 K L yv k news) (hk : news.length = k * m) (hfit : k * b ≤ 140737488355328) : Rel P w0 K n ds E L o (fun v' M => (∃ A l c, v' = .slice A l c) ∧ M = [ap0 v' g e m news]) := by
 intro a w ha hw
 obtain ⟨i, hi, e1, e2, e3⟩ := FN hm hb hz
 subst e1 e2
 have hrun : ∀ v' w1, (Builtin.append_ #[t, t] o.type #[.slice (some ⟨g, 0, none⟩) 0 0, yv]).run P w = .ok v' w1 → Own w [] w1 [ap0 v' g e i.size news] → (∃ A l c, v' = .slice A l c) →
   RunsTo P (execOp a.eval o) w (fun v w' => ∃ L', ((∃ A l c, v = .slice A l c) ∧ L' = [ap0 v g e i.size news]) ∧ Own w [] w' L') := by
  intro v' w1 hr hO hsh
  unfold RunsTo
  have : (execOp a.eval o).run P w = .ok (.value v') w1 := by
   simp [execOp, ho, resolve, ha.ev hx, ha.ev hy, invoke, builtin, hr]
  rw [this]
  exact ⟨_, ⟨hsh, rfl⟩, hO⟩
 by_cases hk0 : k = 0
 ·subst hk0
  have hn0 : news = [] := TO (by simpa using hk)
  subst hn0
  have h0 : Own w [] w [ap0 (.slice (some ⟨g, 0, none⟩) 0 0) g e i.size []] := by
   refine ⟨rfl, rfl, rfl, Lo.refl _, Nat.le_refl _, fun _ _ _ => rfl, by simp [ap0], by simp [ap0], by simp [ap0], fun c hc => ?_⟩
   simp at hc; subst hc; simp [ap0]
  rcases hn with ⟨ad, c, rfl, _⟩ | ⟨c, rfl, _, _⟩
  ·refine hrun (.slice (some ⟨g, 0, none⟩) 0 0) w ?_ h0 ⟨_, _, _, rfl⟩
   simp [Builtin.append_, run_underlying ht, sizeOf, typeInfo, hi, Builtin.lenOf, Builtin.firstCells, loadCells, loadCellsFrom, storeCells]
  exact hrun _ w (Ez ht hm (Nat.le_refl _)) h0 ⟨_, _, _, rfl⟩
 have hkb : k ≤ k * i.bytes := Nat.le_mul_of_pos_right _ hb0
 rcases hn with ⟨ad, c, rfl, hnews⟩ | ⟨c, rfl, rfl, rfl⟩
 ·have hnews' := hnews w hw
  have hne : news ≠ [] := by
   intro en
   have h1 := congrArg List.length en
   rw [hk, List.length_nil] at h1
   rcases Nat.mul_eq_zero.1 h1 with h1 | h1 <;> omega
  have hr := run_append_grow (P := P) w t o.type e i zv ht hi e3 ⟨g, 0, none⟩ 0 0 [] (by simp) (by intro j u hj; simp at hj) ad k c news hk hnews' (by omega) (by omega) (growslice_fits (by omega) (by rw [Nat.zero_add]; exact hfit))
  refine hrun _ _ hr ?_ ⟨_, _, _, rfl⟩
  have h5 := grownCap_ge w (0 + k) 0 e
  have hO := (Own.start w []).drew.alloc e ([] ++ news ++ (Builtin.zeroCells zv.cells (grownCap w (0 + k) 0 e - (0 + k))).toList).toArray
  have := BZ (len := k) (cap := grownCap w (0 + k) 0 e) (vs := news) (by rw [hk]) hm0 (by omega)
   (by have := grownCap_le_maxLen w (0 + k) 0 e (by simp only [maxLen]; omega); simp only [maxLen] at this; omega)
   (by simp only [List.size_toArray, List.length_append, List.length_nil, Array.length_toList, size_zeroCells, hzs, hk, Nat.zero_add, ← Nat.add_mul]; congr 1; simp only [Nat.zero_add] at h5; omega)
   (by simp only [List.nil_append, ← hk]; exact List.take_left) hO
  have e5 : ([] ++ news ++ (Builtin.zeroCells zv.cells (grownCap w (0 + k) 0 e - (0 + k))).toList).toArray = ([] : List Value).toArray ++ news.toArray ++ Builtin.zeroCells zv.cells (grownCap w (0 + k) 0 e - (0 + k)) := by apply Array.ext'; simp
  rw [e5] at this
  refine R0 hne ?_
  simp only [Nat.zero_add] at this ⊢
  exact this
 exact absurd rfl hk0
/-! ### structs of two integers are compared -/
def intT (P : Program) (t : TypeId) : Bool := match P.underlying t with | some (.int _) => true | _ => false
def pairT (P : Program) (t : TypeId) : Bool :=
 (match P.underlying t with
 | some (.struct fs) => (match fs.toList with
  | [a, b] => (a.name != "_") && (b.name != "_") && Nat.beq a.offset 0 && Nat.beq b.offset 1 && intT P a.type && intT P b.type
  | _ => false)
 | _ => false) && !P.stoodInHeld t && !P.eqGuardType P.depth t
theorem BY {t : TypeId} {cs : Array Value} {i : Nat} {u : Value} (h : intT P t = true) (hi : cs[i]? = some u) : (part t cs i).run P w = .ok u w := by
 unfold intT at h
 split at h
 ·rename_i k hk
  have : aggT P t = some false := by simp [aggT, hk]
  simp [part, Fz this, hi]
 cases h
theorem D0 {t : TypeId} {k : IntKind} {a b : Int} (d : Nat) (h : intT P t = true) : (Op.equalIn (d + 1) t (.int k a) (.int k b)).run P w = .ok (a == b) w := by
 unfold intT at h
 split at h
 ·rename_i k' hk; exact run_equalIn_int w d t k k' a b hk
 cases h
theorem NR {t : TypeId} {a b c d : Int} (h : pairT P t = true) (m : Nat) : (Op.equalIn (m + 2) t (.agg #[.int .i64 a, .int .i64 b]) (.agg #[.int .i64 c, .int .i64 d])).run P w = .ok (decide (a = c ∧ b = d)) w := by
 unfold pairT at h
 simp only [Bool.and_eq_true, Bool.not_eq_true'] at h
 obtain ⟨⟨h1, h2⟩, h3⟩ := h
 split at h1
 ·rename_i fs hfs
  split at h1
  ·rename_i f g hl
   simp only [Bool.and_eq_true, bne_iff_ne, ne_eq] at h1
   obtain ⟨⟨⟨⟨⟨n1, n2⟩, o1⟩, o2⟩, i1⟩, i2⟩ := h1
   have o1 := Nat.eq_of_beq_eq_true o1
   have o2 := Nat.eq_of_beq_eq_true o2
   have hff : P.fieldsOf t = fs := by simp [Program.fieldsOf, hfs]
   rw [run_equalIn_struct w (m + 1) t _ _ (by rw [hff]; exact hfs) h2, hff, hl]
   simp only [Op.eqFields, ne_eq, n1, n2, not_false_eq_true, if_true, Sem.run_bind, o1, o2]
   rw [BY (u := .int .i64 a) i1 (by rfl), Result.andThen_ok, BY (u := .int .i64 c) i1 (by rfl), Result.andThen_ok, D0 m i1, Result.andThen_ok]
   by_cases hac : a = c
   ·subst hac
    simp only [beq_self_eq_true, Bool.not_true, Bool.false_eq_true, if_false, Sem.run_bind]
    rw [BY (u := .int .i64 b) i2 (by rfl), Result.andThen_ok, BY (u := .int .i64 d) i2 (by rfl), Result.andThen_ok, D0 m i2, Result.andThen_ok]
    by_cases hbd : b = d
    ·subst hbd; simp
    have : (b == d) = false := by simpa using hbd
    simp [this, hbd]
   have : (a == c) = false := by simpa using hac
   simp [this, hac]
  cases h1
 cases h1
/-- The value of a slice of ours is a slice. -/
theorem IZ {t m : Nat} {vs : List Value} (hw : Own w0 K w (slc v t m vs :: F)) : ∃ A l c, v = .slice A l c := by
 rcases B9 hw with ⟨rfl, _⟩ | ⟨g, len, cap, sp, rfl, _⟩
 ·exact ⟨_, _, _, rfl⟩
 exact ⟨_, _, _, rfl⟩
theorem Gen.shape {t m : Nat} {vs : List Value} (h : Gen P w0 K n ds E L o (fun v' M => M = slc v' t m vs :: F)) : Gen P w0 K n ds E L o (fun v' M => (∃ A l c, v' = .slice A l c) ∧ M = slc v' t m vs :: F) := by
 intro a w ha hw
 refine (h a w ha hw).mono ?_
 rintro v w' ⟨L', rfl, hO⟩
 exact ⟨_, ⟨IZ hO, rfl⟩, hO⟩
theorem Fin.own {Qb : Act → World → Prop} {M : List Chunk} (hL : ∀ w, Own w0 K w L → Own w0 K w M) (h : Fin w0 K n ds Qb E M) : Fin w0 K n ds Qb E L := fun a w ha hw => h a w ha (hL w hw)
theorem DC.own {Q : Exit → Act → World → Prop} {c : Code} {M : List Chunk} (hL : ∀ w, Own w0 K w L → Own w0 K w M) (h : DC P w0 K n ds Q c E M) : DC P w0 K n ds Q c E L := fun a w ha hw => h a w ha (hL w hw)
theorem Seq.own {Q : Exit → Act → World → Prop} {l : List Oper} {M : List Chunk} (hL : ∀ w, Own w0 K w L → Own w0 K w M) (h : Seq P ops w0 K n ds Q l E M) : Seq P ops w0 K n ds Q l E L := fun a w ha hw => h a w ha (hL w hw)
theorem EE {t m : Nat} {vs : List Value} (i : Nat) (h : L[i]? = some (slc v t m vs)) (hw : Own w0 K w L) : ∃ A l c, v = .slice A l c := IZ (hw.perm (AO h).symm)
theorem DC.shape {Q : Exit → Act → World → Prop} {c : Code} {t m : Nat} {vs : List Value} (i : Nat) (hi : L[i]? = some (slc v t m vs)) (h : (∃ A l c, v = .slice A l c) → DC P w0 K n ds Q c E L) : DC P w0 K n ds Q c E L :=
 fun a w ha hw => h (EE i hi hw) a w ha hw
theorem Fin.shape {Qb : Act → World → Prop} {t m : Nat} {vs : List Value} (i : Nat) (hi : L[i]? = some (slc v t m vs)) (h : (∃ A l c, v = .slice A l c) → Fin w0 K n ds Qb E L) : Fin w0 K n ds Qb E L :=
 fun a w ha hw => h (EE i hi hw) a w ha hw
theorem Ng {w : World} (g : Nat) {t : Nat} {cs : Array Value} [h : Find L g t cs] (hw : Own w0 K w L) : w.heap[g]? = some (.cells cs t (0, 0)) := hw.holds _ h.mem
theorem B4 {w : World} {g t len : Nat} {cs : Array Value} [h : Find L g t cs] {xs : List Int} (hw : Own w0 K w L) (hc : cs.toList = ints xs) (hl : xs.length = len) (hf : len ≤ 17592186044416) : SlV w (.slice (some ⟨g, 0, none⟩) len len) xs := by
 subst hl
 refine ⟨_, _, rfl, fun j u hj => ⟨_, rfl, ?_⟩, Nat.le_refl _, by omega, hf⟩
 rw [AC, cell_of_row w g _ cs t (0, 0) (Ng g hw), ← hj, ← hc]; simp
theorem GW {w : World} {g t len : Nat} {cs : Array Value} [h : Find L g t cs] {es : List Pr} (hw : Own w0 K w L) (hc : cs.toList = prs es) (hl : es.length = len) (hf : len ≤ 8796093021952) : PrV w (.slice (some ⟨g, 0, none⟩) len len) es := by
 subst hl
 refine ⟨_, _, rfl, fun j u hj => ⟨_, rfl, ?_⟩, Nat.le_refl _, by omega, hf⟩
 rw [AC, cell_of_row w g _ cs t (0, 0) (Ng g hw), ← hj, ← hc]; simp
theorem Seq.shape {Q : Exit → Act → World → Prop} {l : List Oper} {t m : Nat} {vs : List Value} (i : Nat) (hi : L[i]? = some (slc v t m vs)) (h : (∃ A l c, v = .slice A l c) → Seq P ops w0 K n ds Q l E L) : Seq P ops w0 K n ds Q l E L :=
 fun a w ha hw => h (EE i hi hw) a w ha hw
end
end Go.Fl

namespace Go.Fl
open Go
def str (l : List UInt8) : Value := .string ⟨l.toArray⟩
theorem Tx (ad : Addr) : ad.add 0 = ad := by simp [Addr.add]
section
variable {P : Program} {w0 : World} {K : List Nat} {n : Nat} {ds : List Deferred} {E : Env} {L : List Chunk} {o : Oper} {x y z : Operand} {v u : Value}
theorem Ke (a b : List UInt8) : (⟨a.toArray⟩ : ByteArray) ++ ⟨b.toArray⟩ = ⟨(a ++ b).toArray⟩ := by
 apply ByteArray.ext
 rw [ByteArray.data_append]
 simp
theorem FH {t t' : TypeId} {a b : List UInt8} (ho : o.op = .binOp .add t x y t') (hx : ev n E x = some (str a)) (hy : ev n E y = some (str b)) (hb : a.length + b.length ≤ 9223372036854775807) : Pur P n ds E o (str (a ++ b)) := by
 intro a' w ha
 have hg : (eqGuard .add t x y (str a) (str b)).run P w = .ok () w := by unfold eqGuard; simp
 have hr : (binOp .add t (str a) (str b)).run P w = .ok (str (a ++ b)) w := by
  have h1 : ¬ (((⟨a.toArray⟩ : ByteArray).size + (⟨b.toArray⟩ : ByteArray).size : Nat) : Int) > IntKind.i64.max := by
   have : IntKind.i64.max = 9223372036854775807 := by decide
   have e1 : (⟨a.toArray⟩ : ByteArray).size = a.length := by simp [ByteArray.size]
   have e2 : (⟨b.toArray⟩ : ByteArray).size = b.length := by simp [ByteArray.size]
   rw [this, e1, e2]; omega
  simp only [binOp, str, Op.stringOp, h1, if_false, Ke]; rfl
 simp [execOp, ho, ha.ev hx, ha.ev hy, hg, hr]
theorem C4 {t a : TypeId} (ho : o.op = .typeAssert x t a true) (hx : ev n E x = some u) (hr : ∀ w, (Instr.typeAssert u t a true).run P w = .ok v w) : Pur P n ds E o v := by
 intro a' w ha; simp [execOp, ho, ha.ev hx, hr]
theorem Fj {t : TypeId} (ho : o.op = .makeInterface t x) (hx : ev n E x = some u) (hr : ∀ w, (Instr.makeInterface t u).run P w = .ok v w) : Pur P n ds E o v := by
 intro a' w ha; simp [execOp, ho, ha.ev hx, hr]
/-- A value of an interface type held against nil. -/
theorem Nc {op : BinOp} {t t' tt : TypeId} {b : Bool} (ho : o.op = .binOp op t x y t') (hx : ev n E x = some (.iface tt u)) (hy : ev n E y = some .nilIface) (hr : ∀ w, (binOp op t (.iface tt u) .nilIface).run P w = .ok (.bool b) w) : Pur P n ds E o (.bool b) := by
 intro a w ha
 have hg : (eqGuard op t x y (.iface tt u) .nilIface).run P w = .ok () w := by
  unfold eqGuard
  cases op <;> simp
 simp [execOp, ho, ha.ev hx, ha.ev hy, hg, hr]
theorem KT {op : BinOp} {t t' : TypeId} {b : Bool} (ho : o.op = .binOp op t x (.const .nilIface) t') (hx : ev n E x = some .nilIface) (hr : ∀ w, (binOp op t .nilIface .nilIface).run P w = .ok (.bool b) w) : Pur P n ds E o (.bool b) := by
 intro a w ha
 have hg : (eqGuard op t x (.const .nilIface) .nilIface .nilIface).run P w = .ok () w := by
  unfold eqGuard
  cases op <;> simp
 have hy : a.eval (.const .nilIface) = .nilIface := by simp [Act.eval]
 simp [execOp, ho, ha.ev hx, hy, hg, hr]
theorem Ma {f : FuncId} {name : String} {ts : Array Nat} {t : TypeId} {u u' : Value} {a : Act} {w : World} (hf : Ent P f) (ho : o.op = .call ⟨.invoke x name, #[], ts⟩) (ha : Sat n ds E a)
  (hx : ev n E x = some (.iface t u)) (hm : ∀ w, (method (P.types.size + Made.depth) t u name).run P w = .ok (f, u') w) : (execOp a.eval o).run P w = .ok (.enter f #[u']) w := by
 obtain ⟨fn, h1, h2, h3⟩ := hf.go
 have h4 : ¬ fn.name = "runtime.NumGoroutine" := by simpa using h2
 have h5 : ¬ fn.body = none := fun e => by rw [e] at h3; cases h3
 simp only [execOp, ho, resolve, ha.ev hx]
 simp [invoke, callMethod, hm, callFunc, h1, h4, h5]
theorem KJ {f : FuncId} {name : String} {ts : Array Nat} {t : TypeId} {u u' : Value} {C : Value → List Chunk → Prop} (hf : Ent P f) (ho : o.op = .call ⟨.invoke x name, #[], ts⟩)
  (hx : ev n E x = some (.iface t u)) (hm : ∀ w, (method (P.types.size + Made.depth) t u name).run P w = .ok (f, u') w) (hcon : ∀ w, Own w0 K w L → Calls P f #[u'] w (Ret w [] C)) : Rel P w0 K n ds E L o C := by
 intro a w ha hw
 unfold RunsTo
 rw [Ma hf ho ha hx hm]
 refine Calls.mono (hcon w hw) ?_
 rintro e w' ⟨v, L', he, hC, hO⟩
 exact ⟨v, he, L', hC, hO⟩
theorem O0 {fn : Func} {t u v : Tmp} (h : fn.results = #[.tmp t, .tmp u, .tmp v]) (tmps : Array Value) (w : World) :
  (results fn tmps).run P w = .ok (.tuple #[tmps.getD t undef, tmps.getD u undef, tmps.getD v undef]) w := by simp [results, h]
theorem Bo {fn : Func} {t u s : Tmp} {v1 v2 v3 : Value} {C : Value → List Chunk → Prop} {e : Exit} (he : e = .ret ∨ e = .normal) (hr : fn.results = #[.tmp t, .tmp u, .tmp s]) (hv1 : ev n E (.tmp t) = some v1)
  (hv2 : ev n E (.tmp u) = some v2) (hv3 : ev n E (.tmp s) = some v3) (hC : C (.tuple #[v1, v2, v3]) L) : Fin w0 K n [] (bodyPost P fn (Ret w0 K C) e) E L := by
 intro a w ha hO
 have h1 : a.defers = [] ∧ ∃ v, (results fn a.tmps).run P w = .ok v w ∧ Ret w0 K C (.returned v) w := by
  refine ⟨ha.defers, _, O0 hr _ _, _, L, rfl, ?_, hO⟩
  have h1 := ha.ev hv1
  have h2 := ha.ev hv2
  have h3 := ha.ev hv3
  simp only [Act.eval] at h1 h2 h3
  rw [h1, h2, h3]; exact hC
 rcases he with rfl | rfl <;> exact h1
end
/-- What lies below the end is as it was: nothing of it is written, and what is new is nobody's. -/
theorem own_below {w w' : World} (h : RowKit.Below w.heap.size w w') : Own w [] w' [] :=
 ⟨h.os, h.tape, h.output, .inl trivial, h.size, fun k hk _ => h.block k hk, by simp, by simp, by simp, by simp⟩
theorem P8 {x y z : Value} (h1 : x.oneCell' = true) (h2 : y.oneCell' = true) (h3 : z.oneCell' = true) : (Value.agg #[x, y, z]).cells = #[x, y, z] := rfl
end Go.Fl

namespace Go.Fl
open Go
abbrev onePanic (v : Value) : List PanicEntry := [{ v := v, recovered := false }]
/-- It returns, or it panics with a value. -/
def RetP (w0 : World) (K : List Nat) (C D : Value → List Chunk → Prop) (e : Ending) (w : World) : Prop :=
 Ret w0 K C e w ∨ ∃ pv L, e = .panicked (onePanic pv) ∧ D pv L ∧ Own w0 K w L
section
variable {P : Program} {ops : Array Oper} {w0 w : World} {K : List Nat} {n : Nat} {ds : List Deferred} {E : Env} {L F : List Chunk} {o : Oper} {r : List Oper} {d : Nat} {x y z : Operand} {v u pv : Value} {Q : Exit → Act → World → Prop} {fn : Func} {C D : Value → List Chunk → Prop}
theorem Dh {f : FuncId} {c : Code} {args : List Value} {R : Ending → World → Prop} (hf : P.funcs[f]? = some fn) (hb : fn.body = some c)
  (hn : fn.ntmps = n) (hle : Nat.ble args.length n = true) (hO : Own w K w L) (h : DC P w K n [] (bodyPost P fn R) c (argEnv 0 args) L) : Calls P f args.toArray w R := by
 refine calls_of_wp hf hb (h _ _ ⟨?_, rfl, fun t v hv ht => ?_⟩ hO)
 ·have := TB hle; simp [hn]; omega
 obtain ⟨_, h2⟩ := Ds args 0 t v hv
 simp only [Nat.sub_zero] at h2
 have hlt : t < args.length := (TA.1 h2).1
 simp [Array.getElem?_append, hlt]
 simpa [Tz hlt] using h2
theorem Jk {f : FuncId} {c : Code} {args : List Value} {R : Ending → World → Prop} (hf : P.funcs[f]? = some fn) (hb : fn.body = some c)
  (hn : fn.ntmps = n) (hle : Nat.ble args.length n = true) (hO : Own w K w L) (h : DC P w K n [] (bodyPostD P fn R) c (argEnv 0 args) L) : Calls P f args.toArray w R := by
 refine calls_of_wp_defers hf hb (h _ _ ⟨?_, rfl, fun t v hv ht => ?_⟩ hO)
 ·have := TB hle; simp [hn]; omega
 obtain ⟨_, h2⟩ := Ds args 0 t v hv
 simp only [Nat.sub_zero] at h2
 have hlt : t < args.length := (TA.1 h2).1
 simp [Array.getElem?_append, hlt]
 simpa [Tz hlt] using h2
theorem Dv {e : Exit} (he : e = .ret ∨ e = .normal) (h : Fin w0 K n [] (bodyPost P fn (Ret w0 K C) e) E L) : Fin w0 K n [] (bodyPost P fn (RetP w0 K C D) e) E L := by
 intro a w ha hO
 have := h a w ha hO
 rcases he with rfl | rfl
 ·obtain ⟨h1, v, h2, h3⟩ := this; exact ⟨h1, v, h2, .inl h3⟩
 obtain ⟨h1, v, h2, h3⟩ := this; exact ⟨h1, v, h2, .inl h3⟩
theorem Bp (hD : D pv L) : Fin w0 K n [] (bodyPost P fn (RetP w0 K C D) (.panic (onePanic pv))) E L :=
 fun a w ha hO => ⟨ha.defers, .inr ⟨pv, L, rfl, hD, hO⟩⟩
theorem Az {k : Act → World → Prop} {c : List PanicEntry} (h : Fin w0 K n ds (Q (.panic c)) E L) : Fin w0 K n ds (Exit.then k Q (.panic c)) E L := h
theorem AB {id : Nat} {c : List PanicEntry} (h : Fin w0 K n ds (Q (.panic c)) E L) : Fin w0 K n ds (Exit.inBlock id Q (.panic c)) E L := h
theorem Seq.panic {t : TypeId} (ho : o.op = .panic x) (hx : ev n E x = some (.iface t v)) (hw : want n E ops o = some true) (h : Fin w0 K n ds (Q (.panic (onePanic (.iface t v)))) E L) :
  Seq P ops w0 K n ds Q (o :: r) E L := by
 intro a w ha hL
 unfold wpList
 rw [if_pos (BM hw ha)]
 refine .inl ?_
 unfold Oper.wp
 have : (execOp a.eval o).run P w = .halt (.panic (.iface t v)) w := by
  simp only [execOp, ho, ha.ev hx]; rfl
 rw [this, Oper.upon_panic]
 exact h a w ha hL
theorem DQ {f : FuncId} {xs : Array Operand} {ts : Array Nat} {vs : List Value} {cap : Array Value} {K' : List Nat} {Lc : List Chunk} (hd : o.dst = some d) (hw : want n E ops o = some true) (hf : Ent P f) (ho : o.op = .call ⟨.value x, xs, ts⟩)
  (hx : ev n E x = some (.func (.func f) #[] cap)) (hxs : evs n E xs.toList = some vs) (hL : L.Perm (Lc ++ F)) (hK : ∀ k, k ∈ K' → k ∈ idsOf Lc)
  (hcon : ∀ w, Own w0 K w L → Calls P f (vs.toArray ++ cap) w (RetP w K' C D))
  (hp : ∀ pv L', D pv L' → Fin w0 K n ds (Q (.panic (onePanic pv))) E (L' ++ F))
  (h : ∀ v L', C v L' → Seq P ops w0 K n ds Q r ((d, v) :: E) (L' ++ F)) : Seq P ops w0 K n ds Q (o :: r) E L := by
 intro a w ha hw'
 unfold wpList
 rw [if_pos (BM hw ha)]
 refine .inl ?_
 unfold Oper.wp
 rw [Ey hf ho ha hx hxs, Oper.upon_enter]
 refine Calls.mono (hcon w hw') ?_
 rintro e w' (⟨v, L', rfl, hC, hO⟩ | ⟨pv, L', rfl, hD, hO⟩)
 ·rw [hd]
  exact h v L' hC _ _ (ha.put (some d) _) (Own.frame (hw'.perm hL.symm) hO hK)
 exact hp pv L' hD _ _ ha (Own.frame (hw'.perm hL.symm) hO hK)
/-- A call that may panic, without memory of ours. -/
theorem BO {f : FuncId} {xs : Array Operand} {ts : Array Nat} {vs : List Value} {cap : Array Value} {D : Value → Prop} {C : Value → Prop} (hd : o.dst = some d) (hw : want n E ops o = some true) (hf : Ent P f) (ho : o.op = .call ⟨.value x, xs, ts⟩)
  (hx : ev n E x = some (.func (.func f) #[] cap)) (hxs : evs n E xs.toList = some vs)
  (hcon : ∀ w, Own w0 K w L → Calls P f (vs.toArray ++ cap) w (RetP w [] (fun v M => M = [] ∧ C v) (fun v M => M = [] ∧ D v)))
  (hp : ∀ pv, D pv → Fin w0 K n ds (Q (.panic (onePanic pv))) E L)
  (h : ∀ v, C v → Seq P ops w0 K n ds Q r ((d, v) :: E) L) : Seq P ops w0 K n ds Q (o :: r) E L :=
 DQ (Lc := []) (F := L) hd hw hf ho hx hxs (.refl _) (fun k hk => by simp at hk) hcon (fun pv L' ⟨e, hD⟩ => by subst e; exact hp pv hD) (fun v L' ⟨e, hC⟩ => by subst e; exact h v hC)
theorem Seq.defer {f : Fn} {cap : Array Value} {ts : Array Nat} (hd : o.dst = none) (hw : want n E ops o = some true) (ho : o.op = .defer ⟨.value x, #[], ts⟩) (hx : ev n E x = some (.func f #[] cap))
  (h : Seq P ops w0 K n ({ target := .fn f cap, args := #[] } :: ds) Q r E L) : Seq P ops w0 K n ds Q (o :: r) E L := by
 intro a w ha hL
 unfold wpList
 rw [if_pos (BM hw ha)]
 refine .inl ?_
 unfold Oper.wp
 have : (execOp a.eval o).run P w = .ok (.defer { target := .fn f cap, args := #[] }) w := by
  simp [execOp, ho, resolve, ha.ev hx, Deferred.ofValue]
 rw [this, Oper.upon_defer, hd]
 exact h _ _ ⟨ha.size, by show _ :: a.defers = _; rw [ha.defers], ha.has⟩ hL
end
end Go.Fl

namespace Go.Fl
open Go
/-- What recover hands back to a call that a frame of mode u has deferred, and that frame's mode behind it. -/
inductive Rcv : FrameMode → Value → FrameMode → Prop
 | some (v : Value) (older : List PanicEntry) : Rcv (.panicking ({ v := v, recovered := false } :: older)) v (.panicking ({ v := v, recovered := true } :: older))
 | none : Rcv .returning .nilIface .returning
section
variable {P : Program} {ops : Array Oper} {w0 w : World} {K : List Nat} {n : Nat} {ds : List Deferred} {E : Env} {L F : List Chunk} {o : Oper} {r : List Oper} {d : Nat} {x y z : Operand} {v u pv : Value} {Q : Exit → Act → World → Prop} {fn : Func} {C D : Value → List Chunk → Prop}
theorem KI {m m' : FrameMode} (h : Rcv m v m') (c : Frame) (hc : c.mode = m) (cs : List Frame) :
  (recoverD (c :: cs) = some (v, { c with mode := m' } :: cs)) ∨ (recoverD (c :: cs) = none ∧ v = .nilIface ∧ { c with mode := m' } = c) := by
 cases h with
 | some v older => left; simp [recoverD, hc]
 | none =>
  right
  refine ⟨by simp [recoverD, hc], rfl, ?_⟩
  cases c; simp_all
theorem Eg {f : FuncId} {args : List Value} {o1 o2 : Oper} {id t t' : Nat} {ts : Array Nat} {rest : Code} {m m' : FrameMode} {R : Ending → World → Prop} (hf : P.funcs[f]? = some fn) (hb : fn.body = some (.seq (.region id #[o1, o2] false) rest))
  (hn : fn.ntmps = n) (hle : Nat.ble args.length n = true) (h1 : o1.op = .call ⟨.builtin .recover, #[], ts⟩) (g1 : o1.guard = none) (d1 : o1.dst = some t) (h2 : o2.op = .assign (.tmp t)) (g2 : o2.guard = none) (d2 : o2.dst = some t') (ht : Nat.blt t n = true)
  (hr : Rcv m v m') (hO : Own w K w L) (h : DC P w K n [] (bodyPost P fn R) rest ((t', v) :: (t, v) :: argEnv 0 args) L) :
  CallsD P f args.toArray m w (fun e u' w' => u' = m' ∧ R e w') := by
 have hsat : Sat n [] (argEnv 0 args) { tmps := args.toArray ++ Array.replicate (fn.ntmps - args.toArray.size) undef, defers := [] } := by
  refine ⟨?_, rfl, fun t v hv ht => ?_⟩
  ·have := TB hle; simp [hn]; omega
  obtain ⟨_, h2⟩ := Ds args 0 t v hv
  simp only [Nat.sub_zero] at h2
  have hlt : t < args.length := (TA.1 h2).1
  simp [Array.getElem?_append, hlt]
  simpa [Tz hlt] using h2
 refine callsD_of_wpS hf hb fun c₀ cs hu => ?_
 generalize ({ tmps := args.toArray ++ Array.replicate (fn.ntmps - args.toArray.size) undef, defers := [] } : Act) = a at hsat
 refine wpS_seq (wpS_region ?_)
 have hl : List.range (#[o1, o2] : Array Oper).size = [0, 1] := rfl
 rw [hl]
 have hs1 : Sat n [] ((t, v) :: argEnv 0 args) (a.put (some t) v) := hsat.put (some t) v
 have hs2 : Sat n [] ((t', v) :: (t, v) :: argEnv 0 args) ((a.put (some t) v).put (some t') v) := hs1.put (some t') v
 have hw1 : Region.wanted o1 (yielded #[o1, o2] a.tmps) = true := by simp [Region.wanted, g1]
 have hw2 : Region.wanted o2 (yielded #[o1, o2] (a.put (some t) v).tmps) = true := by simp [Region.wanted, g2]
 have hx1 : (execOp a.eval o1).run P w = .ok .recover w := by simp [execOp, h1, resolve, invoke, builtin]
 have hev : (a.put (some t) v).eval (.tmp t) = v := hs1.ev (x := .tmp t) (by
  show (bif Nat.blt t n then Env.get ((t, v) :: argEnv 0 args) t else none) = some v
  rw [ht, Br, if_pos rfl]; rfl)
 have hx2 : (execOp (a.put (some t) v).eval o2).run P w = .ok (.value v) w := by simp [execOp, h2, hev]
 have fin : rest.wpS P (bodyPostS P fn c₀ cs fun e u' w' => u' = m' ∧ R e w') ((a.put (some t) v).put (some t') v) ({ c₀ with mode := m' } :: cs) w := by
  refine wpS_of_wp (wp_mono (h _ _ hs2 hO) ?_)
  intro e a' w' hq
  cases e with
  | normal => obtain ⟨e1, v, e2, e3⟩ := hq; exact ⟨e1, m', rfl, v, e2, rfl, e3⟩
  | ret => obtain ⟨e1, v, e2, e3⟩ := hq; exact ⟨e1, m', rfl, v, e2, rfl, e3⟩
  | panic ch => obtain ⟨e1, e2⟩ := hq; exact ⟨e1, m', rfl, rfl, e2⟩
  | outgrown => exact ⟨m', rfl, hq⟩
  | exit id => exact hq.elim
  | goto l => exact hq.elim
 have hp1 : (#[o1, o2] : Array Oper)[0]? = some o1 := rfl
 have hp2 : (#[o1, o2] : Array Oper)[1]? = some o2 := rfl
 simp only [wpOpsS, hp1, hw1, if_true, hx1]
 rcases KI hr c₀ hu cs with hre | ⟨hre, rfl, he⟩
 ·rw [hre]
  simp only [hp2, d1, hw2, if_true, hx2, Oper.upon_value, d2]
  exact fin
 rw [hre]
 simp only [hp2, d1, hw2, if_true, hx2, Oper.upon_value, d2]
 rw [he] at fin
 exact fin
/-- The end of a function that has deferred one closure. -/
theorem Fin.leaves {f : FuncId} {cap : List Value} {R : Ending → World → Prop} {m m' : FrameMode} {Lc : List Chunk} {K' : List Nat} {Cd : Value → List Chunk → Prop} (hf : Ent P f) (hm : m ≠ .run) (hs : settle m' = .returning)
  (hL : L.Perm (Lc ++ F)) (hK : ∀ k, k ∈ K' → k ∈ idsOf Lc) (hcl : ∀ w, Own w0 K w L → CallsD P f cap.toArray m w (fun e u' w' => u' = m' ∧ Ret w K' Cd e w'))
  (h : ∀ r L', Cd r L' → ∀ a w, Sat n [{ target := .fn (.func f) cap.toArray, args := #[] }] E a → Own w0 K w (L' ++ F) → ∃ v, (results fn a.tmps).run P w = .ok v w ∧ R (.returned v) w) :
  Fin w0 K n [{ target := .fn (.func f) cap.toArray, args := #[] }] (fun a w => Leaves P fn a.tmps R a.defers m w) E L := by
 intro a w ha hw
 obtain ⟨fn', h1, h2, h3⟩ := hf.go
 have h4 : ¬ fn'.name = "runtime.NumGoroutine" := by simpa using h2
 have h5 : ¬ fn'.body = none := fun e => by rw [e] at h3; cases h3
 show Leaves P fn a.tmps R a.defers m w
 rw [ha.defers]
 refine leaves_cons (f := f) (args := cap.toArray) hm (by simp [invoke, callFunc, h1, h4, h5]) ?_
 refine (hcl w hw).mono ?_
 rintro e u' w' ⟨rfl, v, L', rfl, hC, hO⟩
 show Leaves P fn a.tmps R [] (settle u') w'
 rw [hs]
 exact h v L' hC a w' ha (Own.frame (hw.perm hL.symm) hO hK)
theorem LT {R : Ending → World → Prop} (h : Fin w0 K n ds (fun a w => Leaves P fn a.tmps R a.defers .returning w) E L) : Fin w0 K n ds (bodyPostD P fn R .ret) E L := h
theorem Io {R : Ending → World → Prop} {c : List PanicEntry} (h : Fin w0 K n ds (fun a w => Leaves P fn a.tmps R a.defers (.panicking c) w) E L) : Fin w0 K n ds (bodyPostD P fn R (.panic c)) E L := h
/-- A variable of one cell is read. -/
theorem Ci {ty : TypeId} {g i t : Nat} {cs : Array Value} {w : World} (hg : w.heap[g]? = some (.cells cs t (0, 0))) (ht : aggT P ty = some false) (hv : cs[i]? = some v) : (loadVar ty ⟨g, i, none⟩).run P w = .ok v w := by
 have h1 : w.cell? ⟨g, i, none⟩ = some v := by rw [cell_of_row w g i cs t (0, 0) hg]; exact hv
 simp [loadVar, Fz ht, h1]
theorem Gd {fn : Func} {p q : Tmp} {ty ty' : TypeId} (hr : fn.results = #[.cell p ty, .cell q ty']) {tmps : Array Value} {ad ad' : Addr} {v u : Value} {w : World} (hp : tmps.getD p undef = .pointer (some ad)) (hq : tmps.getD q undef = .pointer (some ad'))
  (h1 : (loadVar ty ad).run P w = .ok v w) (h2 : (loadVar ty' ad').run P w = .ok u w) : (results fn tmps).run P w = .ok (.tuple #[v, u]) w := by
 simp only [Array.getD_eq_getD_getElem?] at hp hq
 simp [results, hr, hp, hq, asAddr, h1, h2]
theorem IT {fn : Func} {p q s : Tmp} {ty ty' ty'' : TypeId} (hr : fn.results = #[.cell p ty, .cell q ty', .cell s ty'']) {tmps : Array Value} {ad ad' ad'' : Addr} {v u x : Value} {w : World} (hp : tmps.getD p undef = .pointer (some ad)) (hq : tmps.getD q undef = .pointer (some ad'))
  (hs : tmps.getD s undef = .pointer (some ad'')) (h1 : (loadVar ty ad).run P w = .ok v w) (h2 : (loadVar ty' ad').run P w = .ok u w) (h3 : (loadVar ty'' ad'').run P w = .ok x w) : (results fn tmps).run P w = .ok (.tuple #[v, u, x]) w := by
 simp only [Array.getD_eq_getD_getElem?] at hp hq hs
 simp [results, hr, hp, hq, hs, asAddr, h1, h2, h3]
end
end Go.Fl

namespace Go.Fl
open Go
section
variable {κ : Type} [DecidableEq κ]
def findM (x : κ) : List (κ × Value) → Nat → Option (Nat × Value)
 | [], _ => none
 | (y, v) :: r, i => if x = y then some (i, v) else findM x r (i + 1)
def lkM (m : List (κ × Value)) (x : κ) : Option Value := (findM x m 0).map (·.2)
def putM (x : κ) (v : Value) : List (κ × Value) → List (κ × Value)
 | [] => [(x, v)]
 | (y, u) :: r => if x = y then (x, v) :: r else (y, u) :: putM x v r
theorem EK (x : κ) : ∀ (m : List (κ × Value)) (i : Nat), findM x m i = (findM x m 0).map fun p => (p.1 + i, p.2)
 | [], i => rfl
 | (y, v) :: r, i => by
  unfold findM
  split
  ·simp
  rw [EK x r (i + 1), EK x r (0 + 1)]
  cases findM x r 0 <;> simp; omega
@[simp] theorem lkM_nil (x : κ) : lkM ([] : List (κ × Value)) x = none := rfl
theorem Ct (y : κ) (v : Value) (r : List (κ × Value)) (x : κ) : lkM ((y, v) :: r) x = if x = y then some v else lkM r x := by
 show (if x = y then some (0, v) else findM x r 1).map (·.2) = if x = y then some v else (findM x r 0).map (·.2)
 split
 ·rfl
 rw [EK x r 1]; cases findM x r 0 <;> rfl
theorem D4 (x : κ) (v : Value) (y : κ) : ∀ m : List (κ × Value), lkM (putM x v m) y = if y = x then some v else lkM m y
 | [] => by simp [putM, Ct]
 | (z, u) :: r => by
  unfold putM
  split
  ·rename_i h; subst h; rw [Ct, Ct]; split <;> rfl
  rename_i h
  rw [Ct, Ct, D4 x v y r]
  by_cases h1 : y = z
  ·subst h1; rw [if_pos rfl, if_pos rfl, if_neg (Ne.symm h)]
  rw [if_neg h1, if_neg h1]
theorem KS (x : κ) (v : Value) : ∀ m : List (κ × Value), (putM x v m).length = if (lkM m x).isSome then m.length else m.length + 1
 | [] => by simp [putM]
 | (z, u) :: r => by
  unfold putM
  rw [Ct]
  split
  ·simp
  simp only [List.length_cons, KS x v r]; split <;> omega
theorem EV (x : κ) (v : Value) : ∀ m : List (κ × Value), (putM x v m).map (·.1) = if (lkM m x).isSome then m.map (·.1) else m.map (·.1) ++ [x]
 | [] => by simp [putM]
 | (z, u) :: r => by
  unfold putM
  rw [Ct]
  split
  ·rename_i h; simp [h]
  simp only [List.map_cons, EV x v r]; split <;> simp
theorem G4 {m : List (κ × Value)} {x : κ} {v : Value} (h : lkM m x = some v) : (x, v) ∈ m := by
 induction m with
 | nil => simp at h
 | cons p r ih =>
  obtain ⟨y, u⟩ := p
  rw [Ct] at h
  split at h
  ·rename_i e; cases h; subst e; exact TI ..
  exact TM _ (ih h)
theorem HO {m : List (κ × Value)} {x : κ} (h : lkM m x = none) : x ∉ m.map (·.1) := by
 induction m with
 | nil => simp
 | cons p r ih =>
  obtain ⟨y, u⟩ := p
  rw [Ct] at h
  split at h
  ·cases h
  rename_i e; simp only [List.map_cons, List.mem_cons, not_or]; exact ⟨e, ih h⟩
theorem Mm {m : List (κ × Value)} (hn : (m.map (·.1)).Nodup) {x : κ} {v : Value} (h : (x, v) ∈ m) : lkM m x = some v := by
 induction m with
 | nil => cases h
 | cons p r ih =>
  obtain ⟨y, u⟩ := p
  simp only [List.map_cons, List.nodup_cons] at hn
  rw [Ct]
  rcases List.mem_cons.1 h with h | h
  ·cases h; rw [if_pos rfl]
  rw [if_neg (fun e => hn.1 (List.mem_map.2 ⟨(x, v), h, e⟩))]; exact ih hn.2 h
theorem HA {x : κ} {v : Value} {m : List (κ × Value)} (hn : (m.map (·.1)).Nodup) : ((putM x v m).map (·.1)).Nodup := by
 rw [EV]
 split
 ·exact hn
 rename_i h
 rw [List.nodup_append]
 refine ⟨hn, by simp, ?_⟩
 intro a ha b hb e
 simp at hb; subst hb; subst e
 exact HO (by simpa using h) ha
/-- What the model does with keys of a type, where they can be told apart at once. -/
structure KeyK (P : Program) (kt : TypeId) (enc : κ → Value) : Prop where
 chk : ∀ e x w, (Instr.checkKey e 10000 kt (enc x)).run P w = .ok () w
 find : ∀ x (l : List MapEntry) (m : List (κ × Value)) w, l.map (fun e => (e.key, e.val)) = m.map (fun p => (enc p.1, p.2)) → (Instr.findKey kt (enc x) l).run P w = .ok (findM x m 0) w
 same : ∀ x, Instr.sameBits 10000 (enc x) (enc x) = true
/-- A map of the call's own. -/
def mpc (enc : κ → Value) (g : Nat) (m : List (κ × Value)) : Chunk :=
 ⟨[g], fun w => ∃ es clock, w.heap[g]? = some (.map es clock) ∧ es.toList.map (fun e => (e.key, e.val)) = m.map (fun p => (enc p.1, p.2)) ∧ (es.toList.map (·.born)).Nodup ∧ ∀ e, e ∈ es.toList → e.born < clock,
  fun w w' h hh => by obtain ⟨es, c, h1, h2⟩ := hh; exact ⟨es, c, (h g (TI ..)).trans h1, h2⟩⟩
theorem D3 {w0 w : World} {K : List Nat} {L : List Chunk} {c : Chunk} (i : Nat) (h : L[i]? = some c) (hw : Own w0 K w L) : c.holds w := hw.holds c (TD h)
variable {P : Program} {ops : Array Oper} {w0 w : World} {K : List Nat} {n : Nat} {ds : List Deferred} {E : Env} {L F : List Chunk} {o : Oper} {x y z : Operand} {v u : Value} {enc : κ → Value} {kt et : TypeId} {m : List (κ × Value)} {g : Nat}
theorem De {t : TypeId} (ho : o.op = .makeMap t none) : Rel P w0 K n ds E L o (fun v M => ∃ g, v = .map (some g) ∧ M = [mpc enc g []]) := by
 intro a w ha hw
 have hr : (execOp a.eval o).run P w = .ok (.value (.map (some w.heap.size))) (w.alloc (.map #[] 0)) := by
  simp only [execOp, ho]; rfl
 refine RunsTo.value hr ⟨_, ⟨w.heap.size, rfl, rfl⟩, ?_⟩
 refine ⟨rfl, rfl, rfl, Lo.refl _, by simp, fun k hk _ => ?_, by simp [mpc], fun g hg => ?_, fun g hg => ?_, fun c hc => ?_⟩
 ·simp only [World.alloc, Array.getElem?_push]; rw [if_neg (by omega)]
 ·simp [mpc] at hg; subst hg; exact .inr (Nat.le_refl _)
 ·simp [mpc] at hg; subst hg; simp
 simp at hc; subst hc
 exact ⟨#[], 0, by simp only [World.alloc, Array.getElem?_push]; rw [if_pos trivial], by simp, by simp, by simp⟩
theorem C3 {t : TypeId} {ok : Bool} {k : κ} {zv : Value} (i : Nat) (hi : L[i]? = some (mpc enc g m)) (hK : KeyK P kt enc) (ho : o.op = .lookup t x y ok) (hx : ev n E x = some (.map (some g))) (hy : ev n E y = some (enc k))
  (ht : P.underlying t = some (.map kt et)) (hz : zeroT P et = some zv) (hv : (if ok then .tuple #[(lkM m k).getD zv, .bool (lkM m k).isSome] else (lkM m k).getD zv) = v) : Val P w0 K n ds E L o v := by
 intro a w ha hw
 obtain ⟨es, clock, h1, h2, _⟩ := D3 i hi hw
 have hg : (getObj g).run P w = .ok (.map es clock) w := by simp [getObj, Sem.run, h1]
 have hf := hK.find k es.toList m w h2
 have hc := hK.chk es.isEmpty k w
 subst hv
 simp only [execOp, ho, ha.ev hx, ha.ev hy, Instr.lookup, Sem.run_bind, run_underlying ht, Result.andThen_ok, hg, hc, hf, Sem.run_pure]
 unfold lkM
 cases hfm : findM k m 0 with
 | none => simp only [Sem.run_bind, ER hz, Result.andThen_ok, Sem.run_pure]; cases ok <;> rfl
 | some p => simp only [Sem.run_bind, Result.andThen_ok, Sem.run_pure]; cases ok <;> rfl
theorem ED : ∀ {L : List Chunk} {i : Nat} {c c' : Chunk}, L[i]? = some c → (L.set i c').Perm (c' :: L.eraseIdx i)
 | [], i, c, c', h => by simp at h
 | y :: L, 0, c, c', h => by simp
 | y :: L, i + 1, c, c', h => by
  simp only [List.getElem?_cons_succ] at h
  simp only [List.set_cons_succ, List.eraseIdx_cons_succ]
  exact ((ED h).cons y).trans (.swap _ _ _)
theorem FI {i : Nat} {c c' : Chunk} {ob : Obj} (hi : c.ids = [g]) (hi' : c'.ids = [g]) (hw : Own w0 K w L) (hl : L[i]? = some c) (hc : ∀ w' : World, w'.heap[g]? = some ob → c'.holds w') :
  Own w0 K { w with heap := w.heap.setIfInBounds g ob } (L.set i c') := by
 have hlt : g < w.heap.size := hw.lt g (Gq.2 ⟨c, TD hl, by rw [hi]; exact TI ..⟩)
 have h1 : Own w [g] { w with heap := w.heap.setIfInBounds g ob } [c'] := by
  refine ⟨rfl, rfl, rfl, Lo.refl _, by simp, fun k hk hn => ?_, by simp [hi'], fun x hx => ?_, fun x hx => ?_, fun d hd => ?_⟩
  ·simp at hn
   show (w.heap.setIfInBounds g ob)[k]? = _
   rw [Array.getElem?_setIfInBounds_ne (by omega)]
  ·simp [hi'] at hx; subst hx; exact .inl (by simp)
  ·simp [hi'] at hx; subst hx; simpa using hlt
  simp at hd; subst hd
  refine hc _ ?_
  show (w.heap.setIfInBounds g ob)[g]? = _
  simp [hlt]
 exact (Own.frame (Lc := [c]) (hw.perm (AO hl).symm) h1 (fun k hk => by simp [hi] at hk ⊢; exact hk)).perm (ED hl)
theorem Jb {k : κ} : ∀ {m : List (κ × Value)} {i j : Nat} {v : Value}, findM k m i = some (j, v) → i ≤ j ∧ m[j - i]? = some (k, v) ∧ ∀ u, putM k u m = m.set (j - i) (k, u)
 | [], i, j, v, h => by cases h
 | (y, x) :: r, i, j, v, h => by
  unfold findM at h
  split at h
  ·rename_i e; cases h; subst e
   refine ⟨Nat.le_refl _, by simp, fun u => by simp [putM]⟩
  rename_i e
  obtain ⟨h1, h2, h3⟩ := Jb h
  refine ⟨by omega, ?_, fun u => ?_⟩
  ·rw [show j - i = (j - (i + 1)) + 1 by omega, List.getElem?_cons_succ]; exact h2
  unfold putM; rw [if_neg e, h3 u, show j - i = (j - (i + 1)) + 1 by omega, List.set_cons_succ]
theorem Fr {k : κ} {u : Value} : ∀ {m : List (κ × Value)} {i : Nat}, findM k m i = none → putM k u m = m ++ [(k, u)]
 | [], i, h => rfl
 | (y, x) :: r, i, h => by
  unfold findM at h
  split at h
  ·cases h
  rename_i e
  unfold putM; rw [if_neg e, Fr h]; rfl
theorem BX {t : TypeId} {k : κ} (i : Nat) (hi : L[i]? = some (mpc enc g m)) (hK : KeyK P kt enc) (ho : o.op = .mapUpdate t x y z) (hx : ev n E x = some (.map (some g))) (hy : ev n E y = some (enc k)) (hz : ev n E z = some u)
  (ht : P.underlying t = some (.map kt et)) {L' : List Chunk} (hL' : L.set i (mpc enc g (putM k u m)) = L') : Sto P w0 K n ds E L o L' := by
 intro a w ha hw
 subst hL'
 obtain ⟨es, clock, h1, h2, h3, h4⟩ := D3 i hi hw
 have hg : (getObj g).run P w = .ok (.map es clock) w := by simp [getObj, Sem.run, h1]
 have hf := hK.find k es.toList m w h2
 have hc := hK.chk false k w
 have hlen : es.toList.length = m.length := by have := congrArg List.length h2; simpa using this
 cases hfm : findM k m 0 with
 | none =>
  have hs : (setObj g (.map (es.push { key := enc k, val := u, born := clock }) (clock + 1))).run P w = .ok () { w with heap := w.heap.setIfInBounds g (.map (es.push { key := enc k, val := u, born := clock }) (clock + 1)) } := by simp [setObj, Sem.run, h1]
  refine ⟨_, ?_, FI (ob := .map (es.push { key := enc k, val := u, born := clock }) (clock + 1)) rfl rfl hw hi fun w' hw' => ⟨_, _, hw', ?_, ?_, ?_⟩⟩
  ·simp only [execOp, ho, ha.ev hx, ha.ev hy, ha.ev hz, Instr.mapUpdate, Sem.run_bind, run_underlying ht, Result.andThen_ok, hg, hc, hf, hfm, hs, Sem.run_pure]
  ·rw [Fr hfm, Array.toList_push, List.map_append, h2]; simp
  ·rw [Array.toList_push, List.map_append, List.nodup_append]
   refine ⟨h3, by simp, fun a ha b hb => ?_⟩
   simp at hb; subst hb
   obtain ⟨e, he, rfl⟩ := List.mem_map.1 ha
   have := h4 e he
   omega
  intro e he
  rw [Array.toList_push, List.mem_append] at he
  rcases he with he | he
  ·have := h4 e he; omega
  simp at he; subst he; exact Nat.lt_succ_self _
 | some p =>
  obtain ⟨j, v0⟩ := p
  obtain ⟨_, hmj, hput⟩ := Jb hfm
  simp only [Nat.sub_zero] at hmj hput
  have hj : j < es.size := by have := (TA.1 hmj).1; rw [← hlen] at this; simpa using this
  have hkey : (es[j]'hj).key = enc k := by
   have h5 : (es.toList.map fun e => (e.key, e.val))[j]? = some ((es[j]'hj).key, (es[j]'hj).val) := by simp [hj]
   rw [h2] at h5
   simp [hmj] at h5
   exact h5.1.symm
  have hkt : (Instr.keyThatStays (((es[j]?).map (·.key)).getD (enc k)) (enc k)).run P w = .ok (enc k) w := by
   simp [Instr.keyThatStays, hj, hkey, hK.same k]
  have hs : (setObj g (.map (es.modify j fun e => { e with key := enc k, val := u }) clock)).run P w = .ok () { w with heap := w.heap.setIfInBounds g (.map (es.modify j fun e => { e with key := enc k, val := u }) clock) } := by simp [setObj, Sem.run, h1]
  have hml : (es.modify j fun e => { e with key := enc k, val := u }).toList = es.toList.set j { (es[j]'hj) with key := enc k, val := u } := by
   apply List.ext_getElem?
   intro q
   simp only [Array.getElem?_toList, Array.getElem?_modify, List.getElem?_set, Array.length_toList]
   by_cases hq : j = q
   ·subst hq; simp [hj]
   simp [hq]
  refine ⟨_, ?_, FI (ob := .map (es.modify j fun e => { e with key := enc k, val := u }) clock) rfl rfl hw hi fun w' hw' => ⟨_, _, hw', ?_, ?_, ?_⟩⟩
  ·simp only [execOp, ho, ha.ev hx, ha.ev hy, ha.ev hz, Instr.mapUpdate, Sem.run_bind, run_underlying ht, Result.andThen_ok, hg, hc, hf, hfm, hkt, hs, Sem.run_pure]
  ·rw [hput, hml, List.map_set, h2, List.map_set]
  ·rw [hml, List.map_set]
   have : (es.toList.map (·.born)).set j (es[j]'hj).born = es.toList.map (·.born) := by
    apply List.ext_getElem?
    intro q
    rw [List.getElem?_set]
    split
    ·rename_i e; subst e; simp [hj]
    rfl
   rw [this]; exact h3
  intro e he
  rw [hml] at he
  rcases List.mem_or_eq_of_mem_set he with he | rfl
  ·exact h4 e he
  exact h4 (es[j]'hj) (by simp)
end
end Go.Fl

namespace Go.Fl
open Go
def encI (x : Int) : Value := .int .i64 x
def encP (p : Pr) : Value := .agg #[.int .i64 p.1, .int .i64 p.2]
section
variable {P : Program} {w : World} {kt : TypeId}
theorem keyI (h : P.underlying kt = some (.int .i64)) : KeyK P kt encI := by
 refine ⟨fun e x w => ?_, fun x l m w hl => ?_, fun x => by simp [Instr.sameBits, encI]⟩
 ·have : ∀ q, (Instr.checkKey e (q + 1) kt (.int .i64 x)).run P w = .ok () w := fun q => by simp [Instr.checkKey, run_underlying h]
  exact this 9999
 have key : ∀ (l : List MapEntry) (m : List (Int × Value)) (i : Nat), l.map (fun e => (e.key, e.val)) = m.map (fun p => (encI p.1, p.2)) → Instr.findNow (.int .i64) (encI x) l i = some (findM x m i) := by
  intro l
  induction l with
  | nil =>
   intro m i hl
   cases m with
   | nil => rfl
   | cons p m => simp at hl
  | cons e r ih =>
   intro m i hl
   cases m with
   | nil => simp at hl
   | cons p m =>
    obtain ⟨y, v⟩ := p
    simp only [List.map_cons, List.cons.injEq, Prod.mk.injEq] at hl
    obtain ⟨⟨h1, h2⟩, h3⟩ := hl
    simp only [Instr.findNow, h1, encI, Instr.sameNow, if_true]
    by_cases hxy : x = y
    ·subst hxy; simp [findM, h2]
    have : (x == y) = false := by simpa using hxy
    simp only [this, findM, if_neg hxy]
    exact ih m (i + 1) h3
 simp only [Instr.findKey, Sem.run_bind, run_underlying h, Result.andThen_ok, key l m 0 hl, Sem.run_pure]
theorem Pw {enc : Pr → Value} (hwide : (match P.underlying kt with | some (.array _ _) | some (.struct _) => true | _ => false) = true) (hc : ∀ e x w, (Instr.checkKey e 10000 kt (enc x)).run P w = .ok () w)
  (he : ∀ x y w, (Op.equal kt (enc x) (enc y)).run P w = .ok (decide (x = y)) w) (hs : ∀ x, Instr.sameBits 10000 (enc x) (enc x) = true) : KeyK P kt enc := by
 refine ⟨hc, fun x l m w hl => ?_, hs⟩
 have key : ∀ (l : List MapEntry) (m : List (Pr × Value)) (i : Nat), l.map (fun e => (e.key, e.val)) = m.map (fun p => (enc p.1, p.2)) → (Instr.findAsking kt (enc x) l i).run P w = .ok (findM x m i) w := by
  intro l
  induction l with
  | nil =>
   intro m i hl
   cases m with
   | nil => rfl
   | cons p m => simp at hl
  | cons e r ih =>
   intro m i hl
   cases m with
   | nil => simp at hl
   | cons p m =>
    obtain ⟨y, v⟩ := p
    simp only [List.map_cons, List.cons.injEq, Prod.mk.injEq] at hl
    obtain ⟨⟨h1, h2⟩, h3⟩ := hl
    simp only [Instr.findAsking, Sem.run_bind, h1, he, Result.andThen_ok]
    by_cases hxy : x = y
    ·subst hxy; simp [findM, h2]
    simp only [hxy, decide_false, Bool.false_eq_true, if_false, findM]
    exact ih m (i + 1) h3
 rw [run_findKey_eq w hwide]
 exact key l m 0 hl
theorem Rb (x : Pr) : Instr.sameBits 10000 (encP x) (encP x) = true := by simp [Instr.sameBits, encP]
theorem RO (h : pairT P kt = true) (x y : Pr) (w : World) : (Op.equal kt (encP x) (encP y)).run P w = .ok (decide (x = y)) w := by
 have := NR (P := P) (w := w) (a := x.1) (b := x.2) (c := y.1) (d := y.2) h 9998
 unfold Op.equal Op.maxDepth encP
 rw [this]
 congr 1
 exact decide_eq_decide.2 ⟨fun ⟨a, b⟩ => Prod.ext a b, fun e => by subst e; exact ⟨rfl, rfl⟩⟩
/-- An array of two integers. -/
def arr2T (P : Program) (t : TypeId) : Bool :=
 match P.underlying t with
 | some (.array 2 e) => intT P e && P.cellsOf e == 1 && (P.info? e).isSome
 | _ => false
theorem RP (h : arr2T P kt = true) (x y : Pr) (w : World) : (Op.equal kt (encP x) (encP y)).run P w = .ok (decide (x = y)) w := by
 unfold arr2T at h
 split at h
 ·rename_i e hu
  simp only [Bool.and_eq_true, beq_iff_eq] at h
  obtain ⟨⟨h1, h2⟩, h3⟩ := h
  obtain ⟨i, hi⟩ := Option.isSome_iff_exists.1 h3
  have hr := run_equalIn_array (P := P) w 9999 #[.int .i64 x.1, .int .i64 x.2] #[.int .i64 y.1, .int .i64 y.2] hu hi
  unfold Op.equal Op.maxDepth encP
  rw [hr, h2]
  have hl : List.range 2 = [0, 1] := rfl
  rw [hl]
  simp only [Op.eqItems, Sem.run_bind]
  rw [BY (u := .int .i64 x.1) h1 (by rfl), Result.andThen_ok, BY (u := .int .i64 y.1) h1 (by rfl), Result.andThen_ok, D0 9998 h1, Result.andThen_ok]
  by_cases hac : x.1 = y.1
  ·have e1 : (x.1 == y.1) = true := by simpa using hac
   simp only [e1, Bool.not_true, Bool.false_eq_true, if_false, Sem.run_bind]
   rw [BY (u := .int .i64 x.2) h1 (by rfl), Result.andThen_ok, BY (u := .int .i64 y.2) h1 (by rfl), Result.andThen_ok, D0 9998 h1, Result.andThen_ok]
   by_cases hbd : x.2 = y.2
   ·have : x = y := Prod.ext hac hbd
    simp [this]
   have e2 : (x.2 == y.2) = false := by simpa using hbd
   have : x ≠ y := fun e => hbd (by rw [e])
   simp [e2, this]
  have e1 : (x.1 == y.1) = false := by simpa using hac
  have : x ≠ y := fun e => hac (by rw [e])
  simp [e1, this]
 cases h
end
end Go.Fl

namespace Go.Fl
open Go
def LsV (w : World) (v : Value) (ls : List (List Int)) : Prop :=
 ∃ A cap, v = .slice A ls.length cap ∧ (∀ (i : Nat) l, ls[i]? = some l → ∃ ad lv, A = some ad ∧ w.cell? (ad.add i) = some lv ∧ SlV w lv l) ∧ ls.length ≤ cap ∧ cap ≤ 9223372036854775807 ∧ ls.length ≤ 17592186044416
section
variable {w0 w : World} {L : List Chunk} {v : Value}
theorem LsV.keep0 {ls : List (List Int)} (h : LsV w0 v ls) (hw : Own w0 [] w L) : LsV w v ls := by
 obtain ⟨A, cap, rfl, hr, h1, h2, h3⟩ := h
 refine ⟨A, cap, rfl, fun i l hi => ?_, h1, h2, h3⟩
 obtain ⟨ad, lv, rfl, hc, hs⟩ := hr i l hi
 refine ⟨ad, lv, rfl, ?_, hs.keep0 hw⟩
 rw [hw.oldCell (World.block_lt_of_cell? w0 _ hc) (by simp)]; exact hc
end
/-! ### what a certificate's text may hold -/
def Fits (n : Int) : Prop := 0 ≤ n ∧ n ≤ 999999999
def ListOk (l : List Int) : Prop := ∀ (i : Nat) n a, l[i]? = some n → l[0]? = some a → Fits n ∧ a ≤ n
def ListsOk (ls : List (List Int)) : Prop := ls.length ≤ 1048576 ∧ ∀ (i : Nat) l, ls[i]? = some l → ListOk l
structure EdgesOk (es : List Pr) : Prop where
 few : es.length ≤ 4194304
 ok : ∀ (i : Nat) e, es[i]? = some e → Fits e.1 ∧ Fits e.2 ∧ e.1 < e.2
 up : ∀ (i : Nat) a b, es[i]? = some a → es[i + 1]? = some b → Lex a b
end Go.Fl

namespace Go.Fl
open Go
def getI (l : List Int) (i : Int) : Int := (l[i.toNat]?).getD 0
structure St where
 pa : List Int
 he : List Int
 od : List Int
 oi : List Int
def St.enter (s : St) (v h d : Int) : St := { s with pa := s.pa.set v.toNat h, he := s.he.set v.toNat d, od := s.od ++ [v] }
def unset (l : List Int) : Nat := l.countP fun x => decide (x < 0)
structure Inv (N : Int) (m : Nat) (c : Nat) (s : St) : Prop where
 pal : s.pa.length = N.toNat
 hel : s.he.length = N.toNat
 oil : s.oi.length = m
 lo : ∀ (i : Nat) x, s.he[i]? = some x → -1 ≤ x
 hi : ∀ (i : Nat) x, s.he[i]? = some x → x + unset s.oi ≤ m
 few : s.od.length + unset s.oi ≤ c
section
variable {N : Int} {es : List Pr} {m c : Nat} {s s' s1 : St} {v h : Int} {l : List Int}
theorem Om {l : List Int} {i : Int} (h : i.toNat < l.length) : l[i.toNat]? = some (getI l i) := by
 unfold getI; rw [Tz h]; rfl
theorem Inv.enter {d p : Int} (hI : Inv N m c s) (h0 : -1 ≤ d) (hd : d + unset s.oi ≤ m) (hc : s.od.length + 1 + unset s.oi ≤ c) : Inv N m c (s.enter v p d) := by
 refine ⟨by simp [St.enter, hI.pal], by simp [St.enter, hI.hel], hI.oil, fun i x hx => ?_, fun i x hx => ?_, ?_⟩
 ·by_cases hi : v.toNat = i
  ·subst hi
   have hl : v.toNat < s.he.length := by have := (TA.1 hx).1; simpa [St.enter] using this
   simp only [St.enter, List.getElem?_set_self hl] at hx
   have := Option.some.inj hx; omega
  simp only [St.enter, List.getElem?_set_ne hi] at hx; exact hI.lo i x hx
 ·by_cases hi : v.toNat = i
  ·subst hi
   have hl : v.toNat < s.he.length := by have := (TA.1 hx).1; simpa [St.enter] using this
   simp only [St.enter, List.getElem?_set_self hl] at hx
   have := Option.some.inj hx
   show x + (unset s.oi : Int) ≤ m
   omega
  simp only [St.enter, List.getElem?_set_ne hi] at hx; exact hI.hi i x hx
 simp [St.enter]; omega
theorem Inv.at (hI : Inv N m c s) (h0 : 0 ≤ v) (h1 : v < N) : s.he[v.toNat]? = some (getI s.he v) ∧ -1 ≤ getI s.he v ∧ getI s.he v + unset s.oi ≤ m := by
 have hx := Om (l := s.he) (i := v) (by rw [hI.hel]; omega)
 exact ⟨hx, hI.lo _ _ hx, hI.hi _ _ hx⟩
/-- With one root more. -/
theorem Inv.more (hI : Inv N m c s) (k : Nat) : Inv N m (c + k) s := ⟨hI.pal, hI.hel, hI.oil, hI.lo, hI.hi, by have := hI.few; omega⟩
def start (N : Int) (m : Nat) : St := ⟨List.replicate N.toNat (-1), List.replicate N.toNat (-1), [], List.replicate m (-1)⟩
end
/-! ### the walk, computed -/
end Go.Fl

namespace Go.Fl
open Go
abbrev RL := List (Value × List Int)
def rowsC (t : Nat) (rs : RL) : List Chunk := rs.map fun p => slc p.1 t 1 (ints p.2)
def rowsV (rs : RL) : List Value := rs.map (·.1)
section
variable {P : Program} {w0 w : World} {K : List Nat} {n : Nat} {ds : List Deferred} {E : Env} {L F : List Chunk} {o : Oper} {x y z : Operand} {v u : Value} {t : Nat}
@[simp] theorem rowsV_length (rs : RL) : (rowsV rs).length = rs.length := by simp [rowsV]
theorem NS (rs : RL) (i : Nat) (p : Value × List Int) : (rowsV rs).toArray.setIfInBounds i p.1 = (rowsV (rs.set i p)).toArray := by
 apply Array.ext'; simp [rowsV, List.map_set]
theorem IQ {rs : RL} {i : Nat} {p : Value × List Int} (h : rs[i]? = some p) : (rowsV rs).toArray[i]? = some p.1 := by simp [rowsV, h]
theorem Jd {α β : Type} (f : α → β) : ∀ (l : List α) (i : Nat), (l.map f).eraseIdx i = (l.eraseIdx i).map f
 | [], i => by simp
 | x :: r, 0 => by simp
 | x :: r, i + 1 => by simp [Jd f r i]
theorem GU {rs : RL} {i : Nat} {p : Value × List Int} (h : rs[i]? = some p) (F : List Chunk) : (F ++ rowsC t rs).Perm (slc p.1 t 1 (ints p.2) :: (F ++ rowsC t (rs.eraseIdx i))) := by
 have h1 : (rowsC t rs)[i]? = some (slc p.1 t 1 (ints p.2)) := by simp [rowsC, h]
 have h2 := AO h1
 have h3 : (rowsC t rs).eraseIdx i = rowsC t (rs.eraseIdx i) := Jd _ _ _
 rw [h3] at h2
 exact ((List.Perm.refl F).append h2).trans List.perm_middle
theorem OV {rs : RL} {i : Nat} (p : Value × List Int) (h : i < rs.length) (F : List Chunk) : (slc p.1 t 1 (ints p.2) :: (F ++ rowsC t (rs.eraseIdx i))).Perm (F ++ rowsC t (rs.set i p)) := by
 have h1 : (rs.set i p)[i]? = some p := by rw [List.getElem?_set_self h]
 have h2 := GU (t := t) h1 F
 have h3 : (rs.set i p).eraseIdx i = rs.eraseIdx i := by rw [List.eraseIdx_set_eq]
 rw [h3] at h2
 exact h2.symm
theorem Pc (k : Nat) (hw : Own w0 K w F) : Own w0 K w (F ++ rowsC t (List.replicate k (.slice none 0 0, []))) := by
 induction k generalizing F with
 | zero => simpa [rowsC] using hw
 | succ k ih =>
  have h1 := AX (t := t) (m := 1) (ih hw)
  refine h1.perm ?_
  simp only [List.replicate_succ, rowsC, List.map_cons, ints, List.map_nil]
  exact List.perm_middle
/-- A row reads so. -/
theorem Hm {rs : RL} {i : Nat} {p : Value × List Int} (hw : Own w0 K w (F ++ rowsC t rs)) (h : rs[i]? = some p) (hf : p.2.length ≤ 17592186044416) : SlV w p.1 p.2 :=
 Ck (hw.perm (GU h F).symm) 0 rfl hf
/-! ### old memory that stays, though some is written -/
def Off (va : Value) (es : List Pr) (K : List Nat) : Prop := es ≠ [] → ∀ ad l c, va = .slice (some ad) l c → ad.block ∉ K
theorem PrV.keepK {va : Value} {es : List Pr} (h : PrV w0 va es) (ho : Off va es K) (hw : Own w0 K w L) : PrV w va es := by
 obtain ⟨A, cap, rfl, hr, h1, h2, h3⟩ := h
 refine ⟨A, cap, rfl, ?_, h1, h2, h3⟩
 by_cases he : es = []
 ·subst he; intro j u hj; simp [prs] at hj
 exact hr.keep (fun ad hA => ho he ad _ _ (by rw [hA])) hw
theorem Off.step {va : Value} {es : List Pr} (h : PrV w0 va es) (ho : Off va es K) (hw : Own w0 K w L) : Off va es (idsOf L) := by
 intro he ad l c hva hin
 obtain ⟨A, cap, rfl, hr, h1, h2, h3⟩ := h
 cases hva
 obtain ⟨e, he0⟩ : ∃ e, es[0]? = some e := ⟨_, Tz (List.length_pos_iff.2 he)⟩
 obtain ⟨ad', ha, hc, _⟩ := hr.pair he0
 cases ha
 have hlt := World.block_lt_of_cell? w0 _ hc
 have hb : (ad.add (0 * 2)).block = ad.block := by unfold Addr.add; split <;> rfl
 rw [hb] at hlt
 rcases hw.fresh _ hin with h5 | h5
 ·exact ho he ad _ _ rfl h5
 omega
end
/-! ### the document's forms of the walk's state -/
def refH (he : List Int) : List Int := he.map fun x => if x < 0 then 0 else x
def seenB (he : List Int) : List Value := he.map fun x => .bool (decide (0 ≤ x))
@[simp] theorem refH_length (he : List Int) : (refH he).length = he.length := by simp [refH]
@[simp] theorem seenB_length (he : List Int) : (seenB he).length = he.length := by simp [seenB]
/-! ### what the walk keeps -/
end Go.Fl

namespace Go.Fl
open Go
def RotOk (N : Int) (es : List Pr) (ls : List (List Int)) : Prop :=
 Vld N es ∧ (ls.length : Int) = N ∧ ∀ (v : Nat) l, ls[v]? = some l → (∀ u, u ∈ l → ∃ h, IsHalf es v u h) ∧ l.Nodup ∧ (l.length : Int) = cnt es v
def RotR (es : List Pr) (ls rs : List (List Int)) : Prop :=
 rs.length = ls.length ∧ ∀ (v : Nat) l r, ls[v]? = some l → rs[v]? = some r → r.length = l.length ∧ ∀ (j : Nat) u h, l[j]? = some u → r[j]? = some h → IsHalf es v u h
section
variable {w0 w : World} {L0 L : List Chunk}
theorem F5 {ad : Addr} {v : Value} (hO : Own w0 [] w L0) (hc : w0.cell? ad = some v) : w.cell? ad = some v ∧ ad.block ∉ idsOf L0 := by
 have hlt := World.block_lt_of_cell? w0 _ hc
 refine ⟨by rw [hO.oldCell hlt (by simp)]; exact hc, fun hm => ?_⟩
 rcases hO.fresh _ hm with h | h
 ·simp at h
 omega
theorem FO {ad : Addr} {v : Value} (hO : Own w0 [] w L0) (hc : w0.cell? ad = some v) : Has w (idsOf L0) L ad v := Ns (F5 hO hc).1 (F5 hO hc).2
theorem Ol {ad : Addr} {i : Nat} {x y : Value} (hO : Own w0 [] w L0) (h1 : w0.cell? (ad.add i) = some x) (h2 : w0.cell? (ad.add (i + 1)) = some y) : Hass w (idsOf L0) L (ad.add i) [x, y] := by
 have hb : (ad.add i).block = ad.block := by unfold Addr.add; split <;> rfl
 exact Cv (F5 hO h1).1 (F5 hO h2).1 (by rw [← hb]; exact (F5 hO h1).2)
theorem HB {va : Value} {es : List Pr} {w' : World} (h : PrV w0 va es) (hO : Own w0 [] w L0) (hw : Own w (idsOf L0) w' L) : PrV w' va es :=
 (h.keep0 hO).keepK (Off.step h (by intro _ _ _ _ _ hm; simp at hm) hO) hw
end
/-- The map from pairs of ends to half-edges, of the first i edges. -/
def HalfM (es : List Pr) (i : Nat) (f : Pr → Option Value) : Prop := ∀ p v, f p = some v ↔ ∃ h, v = .int .i64 h ∧ IsHalf es p.1 p.2 h ∧ h < 2 * (i : Int)
theorem Mu (es : List Pr) : HalfM es 0 (fun _ => none) := by
 intro p v
 constructor
 ·intro h; cases h
 rintro ⟨h, _, h1, h2⟩; have := h1.1; omega
theorem Mv {N : Int} {es : List Pr} (hV : Vld N es) {i : Nat} {e : Pr} (he : es[i]? = some e) {f : Pr → Option Value} (hf : HalfM es i f) :
  HalfM es (i + 1) (fun p => if p = (e.2, e.1) then some (.int .i64 (2 * (i : Int) + 1)) else if p = (e.1, e.2) then some (.int .i64 (2 * (i : Int))) else f p) := by
 have ho := hV.ok i e he
 have hne : e.1 ≠ e.2 := by have := ho.lt; omega
 have h1 := Co he (u := e.1) (v := e.2) rfl rfl
 have h2 := C6 he (u := e.2) (v := e.1) rfl rfl
 intro p v
 dsimp only
 split
 ·rename_i hp; subst hp
  constructor
  ·intro h; cases h; exact ⟨_, rfl, h2, by omega⟩
  rintro ⟨h, rfl, h3, h4⟩; rw [h3.uniq hV h2]
 rename_i hp1
 split
 ·rename_i hp; subst hp
  constructor
  ·intro h; cases h; exact ⟨_, rfl, h1, by omega⟩
  rintro ⟨h, rfl, h3, h4⟩; rw [h3.uniq hV h1]
 rename_i hp2
 rw [hf p v]
 constructor
 ·rintro ⟨h, rfl, h3, h4⟩; exact ⟨h, rfl, h3, by omega⟩
 rintro ⟨h, rfl, h3, h4⟩
 refine ⟨h, rfl, h3, ?_⟩
 obtain ⟨h5, h6, h7, h8⟩ := h3
 rcases (show h < 2 * (i : Int) ∨ h = 2 * (i : Int) ∨ h = 2 * (i : Int) + 1 by omega) with h9 | h9 | h9
 ·exact h9
 ·subst h9
  obtain ⟨_, _, e1, e2⟩ := h1
  exact absurd (Prod.ext (h7.symm.trans e1) (h8.symm.trans e2)) hp2
 subst h9
 obtain ⟨_, _, e1, e2⟩ := h2
 exact absurd (Prod.ext (h7.symm.trans e1) (h8.symm.trans e2)) hp1
end Go.Fl

namespace Go.Fl
open Go Go.Proofs
/-- What a check of rotations gives up with. -/
def flt (v e : Int) : Value := .iface 223 (.agg #[.int .i64 v, .int .i64 e])
theorem BN (is : Bool) (v e : Int) (w : World) :
  Calls Tryz.prog 119 #[.bool is, .int .i64 v, .int .i64 e] w (RetP w [] (fun r M => M = [] ∧ is = true) (fun pv M => M = [] ∧ pv = flt v e ∧ is = false)) := by
 refine Dh (K := []) (args := [_, _, _]) (L := []) Tryz.func119 rfl Tryz.ntmps119 rfl (Own.start _ _) ?_
 refine Zs ?_
 refine Zm ?_
 refine Zo (Bd rfl rfl) ?_
 refine Zx ?_
 refine Zd (fun c0 => ?_) fun c0 => ?_
 ·refine DC.region ?_
  iterate 2 refine Zm ?_
  refine Zo (AA (cs := #[_, _]) rfl rfl Ts rfl rfl) ?_
  refine Zo (Fj (v := flt v e) rfl rfl (fun w => by kernel_rfl)) ?_
  refine Seq.panic rfl rfl rfl ?_
  exact Bp ⟨rfl, rfl, by simpa using c0⟩
 refine DC.skip ?_
 refine Dv (.inr rfl) (Cb (.inr rfl) rfl ⟨rfl, by simpa using c0⟩)
theorem Kc {v e : Int} {x y : Value} {ga gb : Nat} {w : World} (hO : Own w [ga, gb] w [blk ga 3 #[x], blk gb 29 #[y]]) :
  CallsD Tryz.prog 148 #[.pointer (some ⟨ga, 0, none⟩), .pointer (some ⟨gb, 0, none⟩)] (.panicking (onePanic (flt v e))) w
   fun e' u' w' => u' = .panicking [{ v := flt v e, recovered := true }] ∧ Ret w [ga, gb] (fun r M => M = [blk ga 3 #[.int .i64 v], blk gb 29 #[.int .i64 e]]) e' w' := by
 refine Eg (args := [_, _]) Tryz.func148 rfl Tryz.ntmps148 rfl rfl rfl rfl rfl rfl rfl rfl (.some _ []) hO ?_
 refine Zs ?_
 refine Zm ?_
 refine Zo (Nc (b := true) rfl rfl rfl (fun w => by kernel_rfl)) ?_
 refine Zx ?_
 refine AI rfl ?_
 refine Zs ?_
 refine Zm ?_
 refine Zo (C4 (v := .tuple #[.agg #[.int .i64 v, .int .i64 e], .bool true]) rfl rfl (fun w => by kernel_rfl)) ?_
 refine Zm ?_
 iterate 2 refine Ze ?_
 refine Zw (AD rfl R5 rfl) fun g3 => ?_
 refine Zy (At (cs' := #[_, _]) rfl rfl rfl Se rfl (TB rfl) rfl) ?_
 refine Za ?_
 refine Zx <| DC.seq <| Zs ?_
 refine Zm ?_
 refine Zo (Bd rfl rfl) ?_
 refine Zx ?_
 refine AT rfl ?_
 refine DC.skip <| Fin.then ?_
 refine AF (cl := [.q, .q, .q, .q, .g, .g]) (A := [0, 1, 0, 4, 3, 31]) (order := [0, 1, 2, 3, 4, 5]) ([blk g3 223 #[.int .i64 v, .int .i64 e]]) mixed (by kernel_rfl) (fun w hw => hw.pick (.cons 0 rfl .nil)) ?_
 refine Yf QU ?_
 refine Flow.old rfl rfl rfl (Ai rfl rfl AJ (BJ rfl)) ?_
 refine Yf QT ?_
 refine Flow.old rfl rfl rfl (Ai rfl rfl F6 (BJ rfl)) ?_
 refine AS rfl rfl rfl rfl (AE (cs' := #[_]) rfl rfl rfl AQ rfl (TB rfl) rfl) (fun w hw => hw.pick (.cons 0 rfl .nil)) ?_
 refine AS rfl rfl rfl rfl (AE (cs' := #[_]) rfl rfl rfl Qu rfl (TB rfl) rfl) (fun w hw => hw.pick (.cons 0 rfl .nil)) ?_
 refine Flow.end rfl ?_
 simp only [zq, zr]
 refine Fin.weak (E' := []) trivial (.cons 1 rfl (.cons 1 rfl .nil)) ?_
 refine Cb (.inr rfl) rfl ?_
 rfl
theorem Kd {x y : Value} {ga gb : Nat} {w : World} (hO : Own w [ga, gb] w [blk ga 3 #[x], blk gb 29 #[y]]) :
  CallsD Tryz.prog 148 #[.pointer (some ⟨ga, 0, none⟩), .pointer (some ⟨gb, 0, none⟩)] .returning w
   fun e' u' w' => u' = .returning ∧ Ret w [ga, gb] (fun r M => M = [blk ga 3 #[x], blk gb 29 #[y]]) e' w' := by
 refine Eg (args := [_, _]) Tryz.func148 rfl Tryz.ntmps148 rfl rfl rfl rfl rfl rfl rfl rfl .none hO ?_
 refine Zs ?_
 refine Zm ?_
 refine Zo (KT (b := false) rfl rfl (fun w => by kernel_rfl)) ?_
 refine Zx ?_
 refine AT rfl ?_
 refine DC.skip ?_
 refine Cb (.inr rfl) rfl ?_
 rfl
theorem Sm {w0 w : World} {K : List Nat} {ga gb t t' : Nat} {x y : Array Value} {F : List Chunk} (h : Own w0 K w (blk ga t x :: blk gb t' y :: F)) : Own w [ga, gb] w [blk ga t x, blk gb t' y] :=
 (h.sub (L' := [blk ga t x, blk gb t' y]) (by simp)).self
/-- rot.caught: a check that returns, or gives up with a fault. -/
theorem FZ {f : Nat} {cap : Array Value} {w : World} {Lc : List Chunk} {C : List Chunk → Prop} {D : Int → Int → List Chunk → Prop} (hf : Ent Tryz.prog f) (hO : Own w (idsOf Lc) w Lc)
  (hcon : ∀ w', Own w (idsOf Lc) w' Lc → Calls Tryz.prog f cap w' (RetP w' (idsOf Lc) (fun _ M => C M) (fun pv M => ∃ v e, pv = flt v e ∧ D v e M))) :
  Calls Tryz.prog 112 #[.func (.func f) #[] cap] w (Ret w (idsOf Lc) fun r M => (r = .tuple #[.int .i64 0, .int .i64 0] ∧ C M) ∨ ∃ v e, r = .tuple #[.int .i64 v, .int .i64 e] ∧ D v e M) := by
 refine Jk (args := [_]) Tryz.func112 rfl Tryz.ntmps112 rfl hO ?_
 refine Zs ?_
 refine Zw (AD rfl B0 rfl) fun g2 => ?_
 refine Zw (AD rfl R4 rfl) fun g3 => ?_
 refine Zx <| Zs ?_
 refine Zo (Gh rfl rfl rfl) ?_
 refine Seq.defer rfl rfl rfl rfl ?_
 refine Zx <| Zs ?_
 refine Zm ?_
 refine DQ (Lc := Lc) (F := [blk g3 29 #[.int .i64 0], blk g2 3 #[.int .i64 0]]) (K' := idsOf Lc) (C := fun _ M => C M) (D := fun pv M => ∃ v e, pv = flt v e ∧ D v e M) rfl rfl hf rfl rfl rfl (TR (l₁ := [_, _])) (fun _ h => h) (fun w' hw => by simpa using hcon w' (hw.sub ((TG _ _).trans (TG _ _)))) ?_ ?_
 ·rintro pv M ⟨v, e, rfl, hD⟩
  refine Az <| Io ?_
  refine Fin.leaves (f := 148) (cap := [.pointer (some ⟨g2, 0, none⟩), .pointer (some ⟨g3, 0, none⟩)]) (Lc := [blk g2 3 #[.int .i64 0], blk g3 29 #[.int .i64 0]]) (F := M) Rk (by simp) rfl
   ((TR (l₁ := M)).trans (.swap _ _ _)) (fun k hk => by simpa [blk] using hk) (fun w' hw => Kc (Sm (hw.perm ((TR (l₁ := M)).trans (.swap _ _ _)).symm))) ?_
  rintro r L' rfl a w' ha hw
  have e2 : a.tmps.getD 2 undef = .pointer (some ⟨g2, 0, none⟩) := by have := ha.ev (x := .tmp 2) (v := .pointer (some ⟨g2, 0, none⟩)) rfl; simpa only [Act.eval] using this
  have e3 : a.tmps.getD 3 undef = .pointer (some ⟨g3, 0, none⟩) := by have := ha.ev (x := .tmp 3) (v := .pointer (some ⟨g3, 0, none⟩)) rfl; simpa only [Act.eval] using this
  exact ⟨_, Gd rfl e2 e3 (Ci (hw.holds (blk g2 3 #[.int .i64 v]) (by simp)) AJ rfl) (Ci (hw.holds (blk g3 29 #[.int .i64 e]) (by simp)) F6 rfl),
   _, M, rfl, .inr ⟨v, e, rfl, hD⟩, hw.sub ((TG _ _).trans (TG _ _))⟩
 intro v6 M hC
 refine Seq.own (fun w hw => hw.perm (TR (l₁ := [_, _]))) ?_
 simp only [zs]
 refine Zx <| Zs ?_
 refine Zy (AE (cs' := #[_]) rfl rfl rfl AQ rfl (TB rfl) rfl) ?_
 refine Zy (AE (cs' := #[_]) rfl rfl rfl Qu rfl (TB rfl) rfl) ?_
 refine Zx <| DC.ret ?_
 refine LT ?_
 refine Fin.leaves (f := 148) (cap := [.pointer (some ⟨g2, 0, none⟩), .pointer (some ⟨g3, 0, none⟩)]) (Lc := [blk g2 3 #[.int .i64 0], blk g3 29 #[.int .i64 0]]) (F := M) Rk (by simp) rfl
  (.swap _ _ _) (fun k hk => by simpa [blk] using hk) (fun w' hw => Kd (Sm (hw.perm (.swap _ _ _)))) ?_
 rintro r L' rfl a w' ha hw
 have e2 : a.tmps.getD 2 undef = .pointer (some ⟨g2, 0, none⟩) := by have := ha.ev (x := .tmp 2) (v := .pointer (some ⟨g2, 0, none⟩)) rfl; simpa only [Act.eval] using this
 have e3 : a.tmps.getD 3 undef = .pointer (some ⟨g3, 0, none⟩) := by have := ha.ev (x := .tmp 3) (v := .pointer (some ⟨g3, 0, none⟩)) rfl; simpa only [Act.eval] using this
 exact ⟨_, Gd rfl e2 e3 (Ci (hw.holds (blk g2 3 #[.int .i64 0]) (by simp)) AJ rfl) (Ci (hw.holds (blk g3 29 #[.int .i64 0]) (by simp)) F6 rfl),
  _, M, rfl, .inl ⟨rfl, hC⟩, hw.sub ((TG _ _).trans (TG _ _))⟩
end Go.Fl
