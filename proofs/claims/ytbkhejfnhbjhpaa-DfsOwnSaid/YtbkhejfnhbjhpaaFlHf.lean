/- Half-edges by their ends: the lists of a valid graph rise by the vertex that is led to; a half-edge is told by its two ends. -/
import Derived.Test.YtbkhejfnhbjhpaaFlTab
set_option linter.unusedVariables false
set_option linter.unusedSimpArgs false
namespace Go.Fl
open Go

section
variable {N : Int} {es : List Pr}
theorem half_ends {h : Int} (h0 : 0 ≤ h) (h1 : h < es.length * 2) : ∃ (e : Nat) (a : Pr), es[e]? = some a ∧ ((h = 2 * (e : Int) ∧ fromV es h = a.1 ∧ toV es h = a.2) ∨ (h = 2 * (e : Int) + 1 ∧ fromV es h = a.2 ∧ toV es h = a.1)) := by
  obtain ⟨e, he⟩ : ∃ e : Nat, h / 2 = e := ⟨(h / 2).toNat, by omega⟩
  have hlt : e < es.length := by omega
  refine ⟨e, es[e], List.getElem?_eq_getElem hlt, ?_⟩
  obtain ⟨f1, f2⟩ := frs_get (List.getElem?_eq_getElem hlt)
  have g1 : fromV es (2 * (e : Int)) = es[e].1 := by unfold fromV; rw [if_pos (by omega), show (2 * (e : Int)).toNat = 2 * e by omega, f1]; rfl
  have g2 : fromV es (2 * (e : Int) + 1) = es[e].2 := by unfold fromV; rw [if_pos (by omega), show (2 * (e : Int) + 1).toNat = 2 * e + 1 by omega, f2]; rfl
  by_cases hp : h % 2 = 0
  · left
    have hh : h = 2 * (e : Int) := by omega
    subst hh
    refine ⟨rfl, g1, ?_⟩
    unfold toV tw
    rw [if_pos (by omega), if_pos (by omega)]; exact g2
  · right
    have hh : h = 2 * (e : Int) + 1 := by omega
    subst hh
    refine ⟨rfl, g2, ?_⟩
    unfold toV tw
    rw [if_pos (by omega), if_neg (by omega), show 2 * (e : Int) + 1 - 1 = 2 * (e : Int) by omega]; exact g1
theorem to_lt (hV : Vld N es) {u h k : Int} (hh : h ∈ outs es u) (hk : k ∈ outs es u) (hlt : h < k) : toV es h < toV es k := by
  obtain ⟨a0, a1, a2⟩ := (mem_outs hV).1 hh
  obtain ⟨b0, b1, b2⟩ := (mem_outs hV).1 hk
  obtain ⟨e, a, he, ha⟩ := half_ends a0 a1
  obtain ⟨f, b, hf, hb⟩ := half_ends b0 b1
  have oa := hV.ok e a he
  have ob := hV.ok f b hf
  have la := oa.lt
  have lb := ob.lt
  by_cases hef : e = f
  · subst hef
    rw [he] at hf
    cases hf
    rcases ha with ⟨q1, q2, q3⟩ | ⟨q1, q2, q3⟩ <;> rcases hb with ⟨r1, r2, r3⟩ | ⟨r1, r2, r3⟩ <;> omega
  · have hl := lex_lt hV (i := e) (j := f) (by rcases ha with ⟨q1, _⟩ | ⟨q1, _⟩ <;> rcases hb with ⟨r1, _⟩ | ⟨r1, _⟩ <;> omega) he hf
    unfold Lex at hl
    rcases ha with ⟨q1, q2, q3⟩ | ⟨q1, q2, q3⟩ <;> rcases hb with ⟨r1, r2, r3⟩ | ⟨r1, r2, r3⟩ <;> omega
theorem outs_lt {u h k : Int} {i j : Nat} (hi : (outs es u)[i]? = some h) (hj : (outs es u)[j]? = some k) (hij : i < j) : h < k := by
  obtain ⟨li, rfl⟩ := List.getElem?_eq_some_iff.1 hi
  obtain ⟨lj, rfl⟩ := List.getElem?_eq_some_iff.1 hj
  exact List.pairwise_iff_getElem.1 (outsF_sorted es 0 u).1 i j li lj hij
theorem to_rises (hV : Vld N es) {u h k : Int} {i j : Nat} (hi : (outs es u)[i]? = some h) (hj : (outs es u)[j]? = some k) (hij : i < j) : toV es h < toV es k :=
  to_lt hV (List.mem_of_getElem? hi) (List.mem_of_getElem? hj) (outs_lt hi hj hij)
/-- A half-edge from u to v. -/
structure IsHalf (es : List Pr) (u v h : Int) : Prop where
  lo : 0 ≤ h
  hi : h < es.length * 2
  fr : fromV es h = u
  to : toV es h = v
theorem IsHalf.uniq (hV : Vld N es) {u v h k : Int} (a : IsHalf es u v h) (b : IsHalf es u v k) : h = k := by
  have ha := (mem_outs hV).2 ⟨a.lo, a.hi, a.fr⟩
  have hb := (mem_outs hV).2 ⟨b.lo, b.hi, b.fr⟩
  have h1 := a.to
  have h2 := b.to
  rcases Int.lt_trichotomy h k with c | c | c
  · have := to_lt hV ha hb c; omega
  · exact c
  · have := to_lt hV hb ha c; omega
/-- What the reference answers. -/
def rhalfF (u v : Int) : Nat → List Pr → Int
  | _, [] => -1
  | k, e :: r => if e.1 = u ∧ e.2 = v then 2 * (k : Int) else if e.1 = v ∧ e.2 = u then 2 * (k : Int) + 1 else rhalfF u v (k + 1) r
theorem rhalf_found {u v : Int} : ∀ {l : List Pr} {k : Nat}, (∃ (i : Nat) (e : Pr), l[i]? = some e ∧ ((e.1 = u ∧ e.2 = v ∧ rhalfF u v k l = 2 * ((k + i : Nat) : Int)) ∨ (e.1 = v ∧ e.2 = u ∧ rhalfF u v k l = 2 * ((k + i : Nat) : Int) + 1))) ∨
    (rhalfF u v k l = -1 ∧ ∀ e ∈ l, ¬ (e.1 = u ∧ e.2 = v) ∧ ¬ (e.1 = v ∧ e.2 = u))
  | [], k => .inr ⟨rfl, by simp⟩
  | e :: r, k => by
    unfold rhalfF
    by_cases h1 : e.1 = u ∧ e.2 = v
    · rw [if_pos h1]; exact .inl ⟨0, e, rfl, .inl ⟨h1.1, h1.2, rfl⟩⟩
    · rw [if_neg h1]
      by_cases h2 : e.1 = v ∧ e.2 = u
      · rw [if_pos h2]; exact .inl ⟨0, e, rfl, .inr ⟨h2.1, h2.2, rfl⟩⟩
      · rw [if_neg h2]
        rcases rhalf_found (u := u) (v := v) (l := r) (k := k + 1) with ⟨i, e', hi, hc⟩ | ⟨h3, h4⟩
        · refine .inl ⟨i + 1, e', by simpa using hi, ?_⟩
          rw [show k + (i + 1) = k + 1 + i by omega]; exact hc
        · refine .inr ⟨h3, fun x hx => ?_⟩
          rcases List.mem_cons.1 hx with rfl | hx
          · exact ⟨h1, h2⟩
          · exact h4 x hx
theorem is_half_even {u v : Int} {i : Nat} {e : Pr} (hi : es[i]? = some e) (h1 : e.1 = u) (h2 : e.2 = v) : IsHalf es u v (2 * (i : Int)) := by
  have hl := (List.getElem?_eq_some_iff.1 hi).1
  obtain ⟨e', a, he, ha⟩ := half_ends (es := es) (h := 2 * (i : Int)) (by omega) (by omega)
  rcases ha with ⟨q1, q2, q3⟩ | ⟨q1, q2, q3⟩
  · obtain rfl : e' = i := by omega
    rw [hi] at he; cases he
    exact ⟨by omega, by omega, by omega, by omega⟩
  · omega
theorem is_half_odd {u v : Int} {i : Nat} {e : Pr} (hi : es[i]? = some e) (h1 : e.1 = v) (h2 : e.2 = u) : IsHalf es u v (2 * (i : Int) + 1) := by
  have hl := (List.getElem?_eq_some_iff.1 hi).1
  obtain ⟨e', a, he, ha⟩ := half_ends (es := es) (h := 2 * (i : Int) + 1) (by omega) (by omega)
  rcases ha with ⟨q1, q2, q3⟩ | ⟨q1, q2, q3⟩
  · omega
  · obtain rfl : e' = i := by omega
    rw [hi] at he; cases he
    exact ⟨by omega, by omega, by omega, by omega⟩
theorem rhalf_spec (u v : Int) : IsHalf es u v (rhalfF u v 0 es) ∨ (rhalfF u v 0 es = -1 ∧ ∀ h, ¬ IsHalf es u v h) := by
  rcases rhalf_found (u := u) (v := v) (l := es) (k := 0) with ⟨i, e, hi, hc⟩ | ⟨h1, h2⟩
  · left
    rw [Nat.zero_add] at hc
    rcases hc with ⟨a, b, c⟩ | ⟨a, b, c⟩
    · rw [c]; exact is_half_even hi a b
    · rw [c]; exact is_half_odd hi a b
  · refine .inr ⟨h1, fun h hh => ?_⟩
    obtain ⟨e, a, he, ha⟩ := half_ends hh.lo hh.hi
    have := h2 a (List.mem_of_getElem? he)
    have f1 := hh.fr
    have f2 := hh.to
    rcases ha with ⟨q1, q2, q3⟩ | ⟨q1, q2, q3⟩
    · exact this.1 ⟨by omega, by omega⟩
    · exact this.2 ⟨by omega, by omega⟩
theorem rhalf_is (hV : Vld N es) {u v h : Int} (hh : IsHalf es u v h) : rhalfF u v 0 es = h := by
  rcases rhalf_spec (es := es) u v with h1 | ⟨_, h2⟩
  · exact h1.uniq hV hh
  · exact absurd hh (h2 h)
end
end Go.Fl
