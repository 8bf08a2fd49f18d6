/- What the arguments of a law are: lists of integers, of pairs; graphs and forests. -/
import Derived.Test.YtbkhejfnhbjhpaaFlFo
import Derived.Lib.SmallJoins
import Derived.Deep.SlicePairs
import Derived.Deep.Fields
import Derived.Carry
import Derived.ChangeSlices
import Derived.SizedLaws
set_option linter.unusedVariables false
set_option linter.unusedSimpArgs false
namespace Go.Fl
open Go Go.ChangeShapes Go.WideShapes Go.Deep

section
variable {H : Type} {enc : TypeId × Value → H} {P : Program} {W : World} {held : Bool}

def Light (P : Program) (t : TypeId) (d : DataW H) : Prop := ∀ n ∈ d.weights P t, n ≤ reachBytes

theorem open_sl {t e : TypeId} {n : Nat} {v : Value} {y : DataW H × List MemPlace} (ht : P.underlying t = some (.slice e)) (he : P.underlying e = some (.int .i64)) (hc : P.cellsOf e = 1) (hb : P.bytesOf e = 8)
    (h : DataW.trod enc P W 0 (fun _ => true) held n t [v] = some y) (hw : Light P t y.1) : ∃ xs, SlV W v xs ∧ ∀ x ∈ xs, (Lit.int .i64 x).wf = true := by
  rcases open_ints ht he hc h with ⟨h1, h2⟩ | ⟨a, len, cap, zs, h1, h2, h3, h4, h5, h6, h7, h8⟩
  · cases h1
    exact ⟨[], ⟨none, 0, rfl, fun j u hj => by simp [ints] at hj, Nat.le_refl _, by omega, by simp⟩, by simp⟩
  · cases h1
    simp only [if_true] at h5
    subst h6
    have hwt : ((zs.take len).length + (zs.drop len).length) * 8 ≤ reachBytes := hw _ (by simp [DataW.weights, ht, hb, lits])
    have hlen : (zs.take len).length = len := by simp; omega
    have hr : reachBytes = 140737488351232 := by decide
    simp only [maxLen] at h4
    refine ⟨zs.take len, ⟨some a, cap, by rw [hlen], fun j u hj => ⟨a, rfl, ?_⟩, by omega, by omega, by simp at hwt ⊢; omega⟩, fun x hx => h8 x (List.mem_of_mem_take hx)⟩
    have hj2 := (List.getElem?_eq_some_iff.1 hj).1
    simp only [ints_length, hlen] at hj2
    have h9 := h7 j (by omega)
    rw [h9, ← hj]
    simp [ints, List.getElem?_take, hj2, List.getElem?_eq_getElem (show j < zs.length by omega)]

theorem open_pr {t e : TypeId} {f0 f1 : Field} {n : Nat} {v : Value} {y : DataW H × List MemPlace} (ht : P.underlying t = some (.slice e)) (he : P.underlying e = some (.struct #[f0, f1])) (ce : P.cellsOf e = 2) (o0 : f0.offset = 0) (o1 : f1.offset = 1)
    (c0 : P.cellsOf f0.type = 1) (c1 : P.cellsOf f1.type = 1) (i0 : P.underlying f0.type = some (.int .i64)) (i1 : P.underlying f1.type = some (.int .i64)) (hb : P.bytesOf e = 16)
    (h : DataW.trod enc P W 0 (fun _ => true) held n t [v] = some y) (hw : Light P t y.1) : ∃ es, PrV W v es ∧ ∀ x ∈ es, (Lit.int .i64 x.1).wf = true ∧ (Lit.int .i64 x.2).wf = true := by
  rcases open_slice_pairs ht he ce o0 o1 c0 c1 h with ⟨h1, h2⟩ | ⟨a, len, cap, m, n', V0, V1, D0, D1, P0, P1, h1, h2, h3, h4, h5, h6, h7⟩
  · cases h1
    exact ⟨[], ⟨none, 0, rfl, fun j u hj => by simp [prs] at hj, Nat.le_refl _, by omega, by simp⟩, by simp⟩
  · cases h1
    simp only [if_true] at h5
    subst h5 h6
    have hwt : (len + (m - len)) * 16 ≤ reachBytes := hw _ (by simp [DataW.weights, ht, hb])
    have hr : reachBytes = 140737488351232 := by decide
    simp only [maxLen] at h4
    have hV : ∀ i, i < len → ∃ q : Pr, W.cell? (a.add (i * 2)) = some (.int .i64 q.1) ∧ W.cell? (a.add (i * 2 + 1)) = some (.int .i64 q.2) ∧ (Lit.int .i64 q.1).wf = true ∧ (Lit.int .i64 q.2).wf = true := by
      intro i hi
      obtain ⟨k0, k1, k2, k3⟩ := h7 i (by omega)
      obtain ⟨x, hx, _, hxw⟩ := DataW.trod_int i0 k2
      obtain ⟨z, hz, _, hzw⟩ := DataW.trod_int i1 k3
      rw [(List.cons.inj hx).1] at k0
      rw [(List.cons.inj hz).1] at k1
      exact ⟨(x, z), k0, k1, hxw, hzw⟩
    obtain ⟨q, hq⟩ := choose_lt hV
    have hl : ((List.range len).map q).length = len := by simp
    have hg : ∀ (es : List Pr) (i : Nat) (u : Value), (prs es)[i]? = some u → ∃ p : Pr, es[i / 2]? = some p ∧ u = .int .i64 (if i % 2 = 0 then p.1 else p.2) := by
      intro es
      induction es with
      | nil => intro i u h; simp [prs] at h
      | cons e r ih =>
        intro i u h
        match i, h with
        | 0, h => simp [prs] at h; exact ⟨e, by simp, by simp [h]⟩
        | 1, h => simp [prs] at h; exact ⟨e, by simp, by simp [h]⟩
        | i + 2, h =>
          simp only [prs, List.getElem?_cons_succ] at h
          obtain ⟨p, hp, hu⟩ := ih i u h
          refine ⟨p, by rw [show (i + 2) / 2 = i / 2 + 1 by omega, List.getElem?_cons_succ]; exact hp, by rw [hu]; congr 1; rw [show (i + 2) % 2 = i % 2 by omega]⟩
    refine ⟨(List.range len).map q, ⟨some a, m, by rw [hl], fun j u hj => ⟨a, rfl, ?_⟩, by rw [hl]; omega, by omega, by rw [hl]; omega⟩, fun x hx => ?_⟩
    · obtain ⟨p, hp, hu⟩ := hg _ _ _ hj
      have hj2 := (List.getElem?_eq_some_iff.1 hp).1
      simp only [hl] at hj2
      obtain ⟨g0, g1, _, _⟩ := hq (j / 2) hj2
      rw [List.getElem?_map, List.getElem?_range hj2] at hp
      simp only [Option.map_some, Option.some.injEq] at hp
      subst hp hu
      by_cases hm : j % 2 = 0
      · rw [if_pos hm, ← g0]; congr 2; omega
      · rw [if_neg hm, ← g1]; congr 2; omega
    · simp only [List.mem_map, List.mem_range] at hx
      obtain ⟨i, hi, rfl⟩ := hx
      exact (hq i hi).2.2

theorem light_agg {t : TypeId} {fs : Array Field} {parts : List (DataW H)} (ht : P.underlying t = some (.struct fs)) (h : Light P t (.agg parts)) : ∀ n ∈ DataW.weightsEach P (fs.toList.map (·.type)) parts, n ≤ reachBytes := by
  intro n hn
  exact h n (by simp only [DataW.weights, ht]; exact hn)
theorem light_cons {t : TypeId} {ts : List TypeId} {d : DataW H} {r : List (DataW H)} (h : ∀ n ∈ DataW.weightsEach P (t :: ts) (d :: r), n ≤ reachBytes) : Light P t d ∧ ∀ n ∈ DataW.weightsEach P ts r, n ≤ reachBytes :=
  ⟨fun n hn => h n (by simp only [DataW.weightsEach, List.mem_append]; exact .inl hn), fun n hn => h n (by simp only [DataW.weightsEach, List.mem_append]; exact .inr hn)⟩
theorem light_all {ts : List TypeId} {ds : List (DataW H)} (h : (DataW.weightsEach P ts ds).all (· ≤ reachBytes) = true) : ∀ n ∈ DataW.weightsEach P ts ds, n ≤ reachBytes :=
  fun n hn => by simpa using List.all_eq_true.1 h n hn
theorem own_below {w w' : World} {L : List Chunk} (h : Own w [] w' L) : RowKit.Below w.heap.size w w' := ⟨h.os, h.tape, h.output, h.size, fun k hk => h.old k hk (by simp)⟩
end
end Go.Fl
