/- Part 4 of the proof: the library of the walk and the walks, in build order; no condition. -/
import Derived.Test.YthjmapekjggdjaaGreatDoorZO3
set_option linter.unusedVariables false
set_option linter.unusedSimpArgs false
set_option linter.unusedSectionVars false
set_option maxRecDepth 100000
namespace Go.Fl
open Go Go.Proofs
open Classical
def tl (a b c : Nat) : Value := .agg #[.int .i64 a, .int .i64 b, .int .i64 c]
/-- How many vertices below i bear the label x. -/
def cnV (f : Nat → Int) (i : Nat) (x : Int) : Nat := (List.range i).countP fun j => decide (f j = x)
/-- How many of the first i edges, of the first i faces. -/
def cnE (f : Nat → Int) (es : List Pr) (i : Nat) (x : Int) : Nat := (es.take i).countP fun e => decide (f e.1.toNat = x)
def headU (es : List Pr) (h : Int) : Nat := ((es[(h / 2).toNat]?).getD (0, 0)).1.toNat
def cnF (f : Nat → Int) (es : List Pr) (hs : List Int) (i : Nat) (x : Int) : Nat := (hs.take i).countP fun h => decide (f (headU es h) = x)
def Tal (m : List (Int × Value)) (a b c : Int → Nat) : Prop := (m.map (·.1)).Nodup ∧ ∀ x, lkM m x = if a x = 0 then none else some (tl (a x) (b x) (c x))
theorem HK (f : Nat → Int) (i : Nat) (x : Int) : cnV f (i + 1) x = cnV f i x + if f i = x then 1 else 0 := by
 unfold cnV
 rw [List.range_succ, List.countP_append]
 by_cases h : f i = x <;> simp [h]
theorem I4 {m : List (Int × Value)} {a b c : Int → Nat} (h : Tal m a b c) (x : Int) (h0 : a x = 0 → b x = 0 ∧ c x = 0) : (lkM m x).getD (tl 0 0 0) = tl (a x) (b x) (c x) := by
 rw [h.2 x]
 split
 ·rename_i e; rw [e, (h0 e).1, (h0 e).2]; rfl
 ·rfl
theorem I3 {m : List (Int × Value)} {a b c a' b' c' : Int → Nat} (h : Tal m a b c) (x : Int) (hx : a' x ≠ 0) (ho : ∀ y, y ≠ x → a' y = a y ∧ b' y = b y ∧ c' y = c y) : Tal (putM x (tl (a' x) (b' x) (c' x)) m) a' b' c' := by
 refine ⟨LG h.1, fun y => ?_⟩
 rw [DQ]
 by_cases hy : y = x
 ·subst hy; rw [if_pos rfl, if_neg hx]
 ·obtain ⟨h1, h2, h3⟩ := ho y hy
  rw [if_neg hy, h.2 y, h1, h2, h3]
theorem K0 {f : Nat → Int} {es : List Pr} {i : Nat} {e : Pr} (he : es[i]? = some e) (x : Int) : cnE f es (i + 1) x = cnE f es i x + if f e.1.toNat = x then 1 else 0 := by
 unfold cnE
 rw [List.take_add_one, he, List.countP_append]
 by_cases h : f e.1.toNat = x <;> simp [h]
theorem FI {f : Nat → Int} {n j : Nat} (hj : j < n) : cnV f n (f j) ≠ 0 := by
 unfold cnV
 have : 0 < (List.range n).countP fun q => decide (f q = f j) := List.countP_pos_iff.2 ⟨j, List.mem_range.2 hj, by simp⟩
 omega
theorem cnV_le (f : Nat → Int) (i : Nat) (x : Int) : cnV f i x ≤ i := by
 unfold cnV; have := List.countP_le_length (p := fun j => decide (f j = x)) (l := List.range i); simpa using this
theorem cnE_le (f : Nat → Int) (es : List Pr) (i : Nat) (x : Int) : cnE f es i x ≤ es.length := by
 unfold cnE; have := List.countP_le_length (p := fun e : Pr => decide (f e.1.toNat = x)) (l := es.take i); simp at this; omega
theorem cnF_succ {f : Nat → Int} {es : List Pr} {hs : List Int} {i : Nat} {h : Int} (hh : hs[i]? = some h) (x : Int) : cnF f es hs (i + 1) x = cnF f es hs i x + if f (headU es h) = x then 1 else 0 := by
 unfold cnF
 rw [List.take_add_one, hh, List.countP_append]
 by_cases h : f (headU es h) = x <;> simp [h]
theorem cnF_le (f : Nat → Int) (es : List Pr) (hs : List Int) (i : Nat) (x : Int) : cnF f es hs i x ≤ hs.length := by
 unfold cnF; have := List.countP_le_length (p := fun h : Int => decide (f (headU es h) = x)) (l := hs.take i); simp at this; omega
/-! ### counting by labels -/
theorem DD {α : Type} {p : α → Bool} : ∀ {l : List α} {a : α}, l.Nodup → a ∈ l → p a = true → (∀ b, b ∈ l → p b = true → b = a) → l.countP p = 1
 | [], a, _, h, _, _ => by cases h
 | x :: r, a, hn, ha, hp, hu => by
  rw [List.nodup_cons] at hn
  rw [List.countP_cons]
  by_cases hx : p x = true
  ·have e := hu x (by simp) hx
   subst e
   have : r.countP p = 0 := by
    rw [List.countP_eq_zero]
    intro b hb hpb
    have := hu b (by simp [hb]) hpb
    subst this; exact hn.1 hb
   simp [hx, this]
  ·have har : a ∈ r := by
    rcases List.mem_cons.1 ha with rfl | h
    ·exact absurd hp hx
    ·exact h
   rw [DD hn.2 har hp fun b hb => hu b (by simp [hb])]
   simp [hx]
theorem HH {α : Type} {p : α → Bool} {l : List α} (h : ∀ a, a ∈ l → ¬ p a = true) : l.countP p = 0 := List.countP_eq_zero.2 h
theorem J6 {ks : List Int} {g : Int → Nat} (h : ∀ x, x ∈ ks → g x = 1) : (ks.map g).sum = ks.length := by
 induction ks with
 | nil => rfl
 | cons x r ih => simp only [List.map_cons, List.sum_cons, List.length_cons]; rw [h x (by simp), ih fun y hy => h y (by simp [hy])]; omega
theorem sum_ind {y : Int} : ∀ {ks : List Int}, ks.Nodup → y ∈ ks → (ks.map fun x => if y = x then 1 else 0).sum = 1
 | [], _, h => by cases h
 | x :: r, hn, h => by
  rw [List.nodup_cons] at hn
  simp only [List.map_cons, List.sum_cons]
  by_cases e : y = x
  ·subst e
   have : (r.map fun x => if y = x then 1 else 0).sum = 0 := by
    have : ∀ l : List Int, y ∉ l → (l.map fun x => if y = x then 1 else 0).sum = 0 := by
     intro l
     induction l with
     | nil => intro _; rfl
     | cons a l ih => intro hl; simp at hl; simp [hl.1, ih hl.2]
    exact this r hn.1
   rw [if_pos rfl, this]
  ·rw [if_neg e, sum_ind hn.2 (by rcases List.mem_cons.1 h with h | h; exact absurd h e; exact h)]
theorem sum_add {ks : List Int} {g h : Int → Nat} : (ks.map fun x => g x + h x).sum = (ks.map g).sum + (ks.map h).sum := by
 induction ks with
 | nil => rfl
 | cons x r ih => simp only [List.map_cons, List.sum_cons, ih]; omega
theorem sum_zero {ks : List Int} : (ks.map fun _ => 0).sum = 0 := by
 induction ks with
 | nil => rfl
 | cons x r ih => simpa using ih
/-- Things counted by their labels. -/
theorem CN {α : Type} {ks : List Int} (hn : ks.Nodup) {g : α → Int} : ∀ {l : List α}, (∀ a, a ∈ l → g a ∈ ks) → (ks.map fun x => l.countP fun a => decide (g a = x)).sum = l.length
 | [], _ => sum_zero
 | a :: r, h => by
  have ih := CN hn (l := r) fun b hb => h b (by simp [hb])
  have e : (ks.map fun x => (a :: r).countP fun a => decide (g a = x)) = ks.map fun x => (r.countP fun a => decide (g a = x)) + if g a = x then 1 else 0 := by
   apply List.map_congr_left
   intro x _
   rw [List.countP_cons]
   by_cases h : g a = x <;> simp [h]
  rw [e, sum_add, ih, sum_ind hn (h a (by simp)), List.length_cons]
/-! ### parts -/
/-- How many parts a graph has: its vertices that are the least of theirs. -/
noncomputable def ncomp (n : Nat) (es : List Pr) : Nat := (List.range n).countP fun v => decide (∀ y, y < v → ¬ Conn es y v)
def isoN (n : Nat) (es : List Pr) : Nat := (List.range n).countP fun v => decide (cnt es v = 0)
theorem IS {es : List Pr} {a b : Nat} (h : Conn es a b) : a = b ∨ ((∃ e, e ∈ es ∧ (e.1 = a ∨ e.2 = a)) ∧ ∃ e, e ∈ es ∧ (e.1 = b ∨ e.2 = b)) := by
 induction h with
 | refl a => exact .inl rfl
 | edge u v h => exact .inr ⟨⟨_, h, .inl rfl⟩, ⟨_, h, .inr rfl⟩⟩
 | symm _ ih =>
  rcases ih with rfl | ⟨h1, h2⟩
  ·exact .inl rfl
  ·exact .inr ⟨h2, h1⟩
 | trans _ _ ih1 ih2 =>
  rcases ih1 with rfl | ⟨h1, h2⟩
  ·exact ih2
  ·rcases ih2 with rfl | ⟨h3, h4⟩
   ·exact .inr ⟨h1, h2⟩
   ·exact .inr ⟨h1, h4⟩
theorem HJ {N : Int} {es : List Pr} (hV : Vld N es) (v : Nat) : cnt es v ≠ 0 ↔ ∃ e, e ∈ es ∧ (e.1 = v ∨ e.2 = v) := by
 unfold cnt
 constructor
 ·intro h
  obtain ⟨x, hx⟩ : ∃ x, x ∈ outs es v := by
   cases hl : outs es v with
   | nil => rw [hl] at h; simp at h
   | cons x r => exact ⟨x, by simp⟩
  obtain ⟨h0, h1, h2⟩ := (Bl hV).1 hx
  obtain ⟨i, e, he, hc⟩ := Cn h0 h1
  refine ⟨e, List.mem_of_getElem? he, ?_⟩
  rcases hc with ⟨_, h3, _⟩ | ⟨_, h3, _⟩
  ·left; omega
  ·right; omega
 ·rintro ⟨e, he, hc⟩
  obtain ⟨i, hi⟩ := List.mem_iff_getElem?.1 he
  have hm : ∃ h, h ∈ outs es v := by
   rcases hc with hc | hc
   ·have := Cm hi (u := v) (v := e.2) hc rfl
    exact ⟨_, (Bl hV).2 ⟨this.lo, this.hi, this.fr⟩⟩
   ·have := CZ hi (u := v) (v := e.1) rfl hc
    exact ⟨_, (Bl hV).2 ⟨this.lo, this.hi, this.fr⟩⟩
  obtain ⟨h, hm⟩ := hm
  have := List.length_pos_of_mem hm
  omega
/-- Labels of the parts. -/
def Lab (n : Nat) (es : List Pr) (f : Nat → Int) : Prop := ∀ a b, a < n → b < n → (f a = f b ↔ Conn es a b)
theorem lab_of {n k : Nat} {es : List Pr} {q : Nat → Nat} {f : Nat → Int} (hP : Parts es (rt q)) (hL : Labels (rt q) n k f) : Lab n es f :=
 fun a b ha hb => (hL.2.1 a b ha hb).trans (hP a b)
section
variable {n : Nat} {es : List Pr} {f : Nat → Int}
theorem Di (hV : Vld n es) {e : Pr} (he : e ∈ es) : ∃ u v : Nat, e = ((u : Int), (v : Int)) ∧ u < v ∧ v < n := by
 obtain ⟨i, hi⟩ := List.mem_iff_getElem?.1 he
 have ho := hV.ok i e hi
 have h1 := ho.lo
 have h2 := ho.lt
 have h3 := ho.hi
 exact ⟨e.1.toNat, e.2.toNat, Prod.ext (by simp; omega) (by simp; omega), by omega, by omega⟩
theorem HL {x : Int} (h : cnE f es es.length x = 0) {e : Pr} (he : e ∈ es) : f e.1.toNat ≠ x := by
 unfold cnE at h
 rw [List.take_length, List.countP_eq_zero] at h
 simpa using h e he
theorem cnE_pos {x : Int} (h : cnE f es es.length x ≠ 0) : ∃ e, e ∈ es ∧ f e.1.toNat = x := by
 unfold cnE at h
 rw [List.take_length] at h
 obtain ⟨e, he, hp⟩ := List.countP_pos_iff.1 (Nat.pos_of_ne_zero h)
 exact ⟨e, he, by simpa using hp⟩
theorem JI {x : Int} (h : cnV f n x ≠ 0) : ∃ j, j < n ∧ f j = x := by
 unfold cnV at h
 obtain ⟨j, hj, hp⟩ := List.countP_pos_iff.1 (Nat.pos_of_ne_zero h)
 exact ⟨j, List.mem_range.1 hj, by simpa using hp⟩
/-- A vertex with a part's label, of a part without edges, has none; and is alone. -/
theorem alone (hV : Vld n es) (hf : Lab n es f) {x : Int} (h0 : cnE f es es.length x = 0) {j : Nat} (hj : j < n) (hx : f j = x) : cnt es j = 0 ∧ ∀ i, i < n → f i = x → i = j := by
 have hno : ∀ i, i < n → f i = x → ¬ ∃ e, e ∈ es ∧ (e.1 = i ∨ e.2 = i) := by
  rintro i hi hfi ⟨e, he, hc⟩
  obtain ⟨u, v, rfl, huv, hvn⟩ := Di hV he
  have h1 := HL h0 he
  simp only [Int.toNat_natCast] at h1
  rcases hc with hc | hc
  ·have : u = i := by simp at hc; omega
   subst this; exact h1 hfi
  ·have : v = i := by simp at hc; omega
   subst this
   exact h1 (((hf u v (by omega) hi).2 (.edge u v he)).trans hfi)
 refine ⟨?_, fun i hi hfi => ?_⟩
 ·apply Classical.byContradiction
  intro hc
  exact hno j hj hx ((HJ hV j).1 hc)
 ·rcases IS ((hf i j hi hj).1 (hfi.trans hx.symm)) with e | ⟨⟨e, he, hc⟩, _⟩
  ·exact e
  ·exact absurd ⟨e, he, hc⟩ (hno i hi hfi)
/-- With edges, all its vertices have some. -/
theorem busy (hV : Vld n es) (hf : Lab n es f) {x : Int} (h0 : cnE f es es.length x ≠ 0) {j : Nat} (hj : j < n) (hx : f j = x) : cnt es j ≠ 0 := by
 obtain ⟨e, he, hfe⟩ := cnE_pos h0
 obtain ⟨u, v, rfl, huv, hvn⟩ := Di hV he
 simp only [Int.toNat_natCast] at hfe
 rw [HJ hV]
 rcases IS ((hf j u hj (by omega)).1 (hx.trans hfe.symm)) with e | ⟨h1, _⟩
 ·subst e; exact ⟨_, he, .inl rfl⟩
 ·exact h1
theorem part_iso (hV : Vld n es) (hf : Lab n es f) {x : Int} (hx : cnV f n x ≠ 0) :
  (cnE f es es.length x = 0 → cnV f n x = 1 ∧ ((List.range n).filter fun v => decide (cnt es v = 0)).countP (fun v => decide (f v = x)) = 1) ∧
  (cnE f es es.length x ≠ 0 → ((List.range n).filter fun v => decide (cnt es v = 0)).countP (fun v => decide (f v = x)) = 0) := by
 constructor
 ·intro h0
  obtain ⟨j, hj, hfj⟩ := JI hx
  obtain ⟨h1, h2⟩ := alone hV hf h0 hj hfj
  refine ⟨?_, ?_⟩
  ·unfold cnV
   exact DD List.nodup_range (List.mem_range.2 hj) (by simpa using hfj) fun b hb hp => h2 b (List.mem_range.1 hb) (by simpa using hp)
  ·refine DD (List.Nodup.sublist List.filter_sublist List.nodup_range) (List.mem_filter.2 ⟨List.mem_range.2 hj, by simpa using h1⟩) (by simpa using hfj) fun b hb hp => ?_
   exact h2 b (List.mem_range.1 (List.mem_filter.1 hb).1) (by simpa using hp)
 ·intro h0
  refine HH fun v hv hp => ?_
  obtain ⟨h1, h2⟩ := List.mem_filter.1 hv
  exact busy hV hf h0 (List.mem_range.1 h1) (by simpa using hp) (by simpa using h2)
theorem LK (hf : Lab n es f) {x : Int} (hx : cnV f n x ≠ 0) : ((List.range n).filter fun v => decide (∀ y, y < v → ¬ Conn es y v)).countP (fun v => decide (f v = x)) = 1 := by
 -- the least vertex of the part
 have hl : ∃ j, j < n ∧ f j = x ∧ ∀ i, i < n → f i = x → j ≤ i := by
  obtain ⟨j, hj, hfj⟩ := JI hx
  induction j using Nat.strongRecOn with
  | _ j ih =>
   by_cases hc : ∃ i, i < j ∧ f i = x
   ·obtain ⟨i, hi, hfi⟩ := hc
    exact ih i hi (by omega) hfi
   ·exact ⟨j, hj, hfj, fun i hi hfi => by
     apply Classical.byContradiction
     intro hlt
     exact hc ⟨i, by omega, hfi⟩⟩
 obtain ⟨j, hj, hfj, hmin⟩ := hl
 refine DD (List.Nodup.sublist List.filter_sublist List.nodup_range) (List.mem_filter.2 ⟨List.mem_range.2 hj, ?_⟩) (by simpa using hfj) fun b hb hp => ?_
 ·simp only [decide_eq_true_eq]
  intro y hy hc
  have := hmin y (by omega) (((hf y j (by omega) hj).2 hc).trans hfj)
  omega
 ·obtain ⟨h1, h2⟩ := List.mem_filter.1 hb
  have h1 := List.mem_range.1 h1
  simp only [decide_eq_true_eq] at h2 hp
  have h3 := hmin b h1 hp
  rcases Nat.lt_or_eq_of_le h3 with h4 | h4
  ·exact absurd ((hf j b hj h1).1 (hfj.trans hp.symm)) (h2 j h4)
  ·exact h4.symm
end
/-! ### the sum -/
def gval (a b c : Nat) : Int := if b ≠ 0 then 2 - a + b - c else 0
def gsum (a b c : Int → Nat) (ks : List Int) : Int := (ks.map fun x => gval (a x) (b x) (c x)).sum
theorem Hx {n : Nat} {es : List Pr} {f : Nat → Int} {hs : List Int} {ks : List Int} (hV : Vld n es) (hf : Lab n es f) (hn : ks.Nodup) (hk : ∀ x, x ∈ ks ↔ cnV f n x ≠ 0)
  (hh : ∀ h, h ∈ hs → headU es h < n ∧ cnE f es es.length (f (headU es h)) ≠ 0) :
  gsum (cnV f n) (cnE f es es.length) (cnF f es hs hs.length) ks = 2 * (ncomp n es : Int) - isoN n es - n + es.length - hs.length := by
 have hin : ∀ j, j < n → f j ∈ ks := fun j hj => (hk _).2 (FI hj)
 have s1 : (ks.map (cnV f n)).sum = n := by
  have := CN hn (g := f) (l := List.range n) fun a ha => hin a (List.mem_range.1 ha)
  rw [List.length_range] at this
  exact this
 have s2 : (ks.map (cnE f es es.length)).sum = es.length := by
  have := CN hn (g := fun e : Pr => f e.1.toNat) (l := es) fun e he => by
   obtain ⟨u, v, rfl, huv, hvn⟩ := Di hV he
   exact hin _ (by simp; omega)
  unfold cnE
  simpa using this
 have s3 : (ks.map (cnF f es hs hs.length)).sum = hs.length := by
  have := CN hn (g := fun h : Int => f (headU es h)) (l := hs) fun h hm => hin _ (hh h hm).1
  unfold cnF
  simpa using this
 have s4 : (ks.map fun x => ((List.range n).filter fun v => decide (cnt es v = 0)).countP fun v => decide (f v = x)).sum = isoN n es := by
  rw [CN hn (g := f) fun a ha => hin a (List.mem_range.1 (List.mem_filter.1 ha).1)]
  unfold isoN
  rw [List.countP_eq_length_filter]
 have s5 : ks.length = ncomp n es := by
  have h1 := CN hn (g := f) (l := (List.range n).filter fun v => decide (∀ y, y < v → ¬ Conn es y v)) fun a ha => hin a (List.mem_range.1 (List.mem_filter.1 ha).1)
  rw [J6 fun x hx => LK hf ((hk x).1 hx)] at h1
  rw [h1]
  unfold ncomp
  rw [List.countP_eq_length_filter]
 have key : ∀ l : List Int, (∀ x, x ∈ l → cnV f n x ≠ 0) → gsum (cnV f n) (cnE f es es.length) (cnF f es hs hs.length) l =
   2 * (l.length : Int) - ((l.map fun x => ((List.range n).filter fun v => decide (cnt es v = 0)).countP fun v => decide (f v = x)).sum : Nat) - ((l.map (cnV f n)).sum : Nat) + ((l.map (cnE f es es.length)).sum : Nat) - ((l.map (cnF f es hs hs.length)).sum : Nat) := by
  intro l
  induction l with
  | nil => intro _; rfl
  | cons x r ih =>
   intro hx
   have h1 := ih fun y hy => hx y (by simp [hy])
   obtain ⟨p1, p2⟩ := part_iso hV hf (hx x (by simp))
   unfold gsum at h1 ⊢
   simp only [List.map_cons, List.sum_cons, List.length_cons]
   rw [h1]
   unfold gval
   by_cases h0 : cnE f es es.length x = 0
   ·obtain ⟨q1, q2⟩ := p1 h0
    have q3 : cnF f es hs hs.length x = 0 := by
     unfold cnF
     rw [List.take_length]
     refine HH fun h hm hp => ?_
     have := (hh h hm).2
     rw [show f (headU es h) = x by simpa using hp] at this
     exact this h0
    rw [q1, q2, q3, h0, if_neg (by simp)]
    omega
   ·rw [p2 h0, if_pos h0]
    omega
 rw [key ks fun x hx => (hk x).1 hx, s1, s2, s3, s4, s5]
end Go.Fl

namespace Go.Fl
open Go Go.Proofs
open Classical
/-- The heads of the faces. -/
noncomputable def headsOf (n : Nat) (fn : Nat → Int) : List Int := ((List.range n).filter fun x => decide (Lead (phi fn) x)).map fun (x : Nat) => (x : Int)
def nxS (fn : Nat → Int) (h : Nat) : Nat := (fn h).toNat
section
variable {n : Nat} {es : List Pr} {rs : List (List Int)} {fn : Nat → Int}
theorem Fo (hok : RotL n es rs) (hnx : NxOk rs rs.length fn) {v : Nat} {l : List Int} {i h : Nat} (hl : rs[v]? = some l) (hi : l[i]? = some (h : Int)) :
  l[(i + 1) % l.length]? = some (fn h) ∧ 0 ≤ fn h ∧ fn h < es.length * 2 ∧ fromV es (fn h) = v := by
 have h1 := hnx v l i h (List.getElem?_eq_some_iff.1 hl).1 hl hi
 rw [Int.toNat_natCast] at h1
 obtain ⟨h2, h3, h4⟩ := (hok.2.2 v l hl).1 _ (List.mem_of_getElem? h1)
 exact ⟨h1, h2, h3, h4⟩
theorem I6 (hok : RotL n es rs) (hnx : NxOk rs rs.length fn) {v : Nat} {l : List Int} {i h : Nat} (hl : rs[v]? = some l) (hi : l[i]? = some (h : Int)) :
  ∀ k, l[(i + k) % l.length]? = some ((itr (nxS fn) k h : Nat) : Int)
 | 0 => by rw [Nat.add_zero, Nat.mod_eq_of_lt (List.getElem?_eq_some_iff.1 hi).1]; exact hi
 | k + 1 => by
  have ih := I6 hok hnx hl hi k
  obtain ⟨h1, h2, _⟩ := Fo hok hnx hl ih
  rw [Nat.mod_add_mod] at h1
  rw [show i + (k + 1) = i + k + 1 by omega, h1]
  show some _ = some (((fn (itr (nxS fn) k h)).toNat : Nat) : Int)
  congr 1; omega
theorem I0 (h : Nat) : twn (twn h) = h := by unfold twn; split <;> split <;> omega
theorem nxS_perm (hok : RotL n es rs) (hnx : NxOk rs rs.length fn) : Perm (es.length * 2) (nxS fn) := by
 obtain ⟨hp, h0⟩ := GI hok hnx
 have e : ∀ h, nxS fn h = phi fn (twn h) := fun h => by unfold phi nxS; rw [I0]
 have ht : ∀ h, h < es.length * 2 → twn h < es.length * 2 := fun h hh => by unfold twn; split <;> omega
 refine ⟨fun i hi => by rw [e]; exact hp.lt _ (ht i hi), fun i j hi hj he => ?_⟩
 rw [e, e] at he
 have := hp.inj _ _ (ht i hi) (ht j hj) he
 rw [← I0 i, this, I0]
theorem row_ex (hok : RotL n es rs) {h v : Nat} {l : List Int} (hh : h < es.length * 2) (hv : fromV es h = v) (hl : rs[v]? = some l) : ∃ i : Nat, l[i]? = some (h : Int) := by
 obtain ⟨v', l', i, hl', hi, hv'⟩ := E0 hok hh
 have : v' = v := by omega
 subst this
 rw [hl] at hl'; cases hl'
 exact ⟨i, hi⟩
theorem IF (hok : RotL n es rs) (hnx : NxOk rs rs.length fn) {v : Nat} {l : List Int} (hl : rs[v]? = some l) {h k : Nat} (hh : h < es.length * 2) (hk : k < es.length * 2) (h1 : fromV es h = v) (h2 : fromV es k = v)
  (hL : Lead (nxS fn) h) : h ≤ k := by
 obtain ⟨i, hi⟩ := row_ex hok hh h1 hl
 obtain ⟨j, hj⟩ := row_ex hok hk h2 hl
 have hil := (List.getElem?_eq_some_iff.1 hi).1
 have hjl := (List.getElem?_eq_some_iff.1 hj).1
 have h3 := I6 hok hnx hl hi (j + l.length - i)
 rw [show i + (j + l.length - i) = j + l.length by omega, Nat.add_mod_right, Nat.mod_eq_of_lt hjl, hj] at h3
 have h4 := hL (j + l.length - i)
 have h5 := Option.some.inj h3
 omega
theorem lead_ex (hok : RotL n es rs) (hnx : NxOk rs rs.length fn) {v : Nat} {l : List Int} (hl : rs[v]? = some l) (hne : l ≠ []) : ∃ h : Nat, h < es.length * 2 ∧ fromV es h = v ∧ Lead (nxS fn) h := by
 have hrow := (hok.2.2 v l hl).1
 have hm : ∃ h : Nat, (h : Int) ∈ l ∧ ∀ y, y ∈ l → (h : Int) ≤ y := by
  obtain ⟨x, hx⟩ : ∃ x, x ∈ l := List.exists_mem_of_ne_nil _ hne
  obtain ⟨k, hk⟩ := Int.eq_ofNat_of_zero_le (hrow x hx).1
  subst hk
  induction k using Nat.strongRecOn with
  | _ k ih =>
   by_cases hc : ∃ y, y ∈ l ∧ y < k
   ·obtain ⟨y, hy, hlt⟩ := hc
    obtain ⟨q, rfl⟩ := Int.eq_ofNat_of_zero_le (hrow y hy).1
    exact ih q (by omega) hy
   ·exact ⟨k, hx, fun y hy => by
     apply Classical.byContradiction
     intro h
     exact hc ⟨y, hy, by omega⟩⟩
 obtain ⟨h, hh, hmin⟩ := hm
 obtain ⟨h0, h1, h2⟩ := hrow _ hh
 refine ⟨h, by omega, h2, fun k => ?_⟩
 obtain ⟨i, hi⟩ := List.mem_iff_getElem?.1 hh
 have := hmin _ (List.mem_of_getElem? (I6 hok hnx hl hi k))
 omega
theorem from_nat (hV : Vld n es) {h : Nat} (hh : h < es.length * 2) : ∃ v : Nat, fromV es h = v ∧ v < n := by
 obtain ⟨i, e, he, hc⟩ := Cn (es := es) (h := (h : Int)) (by omega) (by omega)
 have ho := hV.ok i e he
 have h1 := ho.lo
 have h2 := ho.lt
 have h3 := ho.hi
 rcases hc with ⟨_, h4, _⟩ | ⟨_, h4, _⟩
 ·exact ⟨e.1.toNat, by omega, by omega⟩
 ·exact ⟨e.2.toNat, by omega, by omega⟩
/-- The labels of both ends of an edge. -/
theorem Fx {f : Nat → Int} (hV : Vld n es) (hf : Lab n es f) {h : Nat} {i : Nat} {e : Pr} (he : es[i]? = some e) (hh : h / 2 = i) : f (fromV es h).toNat = f e.1.toNat := by
 have hl := (List.getElem?_eq_some_iff.1 he).1
 obtain ⟨i', e', he', hc⟩ := Cn (es := es) (h := (h : Int)) (by omega) (by omega)
 have : i' = i := by rcases hc with ⟨h1, _⟩ | ⟨h1, _⟩ <;> omega
 subst this
 rw [he] at he'; cases he'
 obtain ⟨u, v, rfl, huv, hvn⟩ := Di hV (List.mem_of_getElem? he)
 rcases hc with ⟨_, h4, _⟩ | ⟨_, h4, _⟩
 ·rw [h4]
 ·rw [h4]
  simp only [Int.toNat_natCast]
  exact (hf v u hvn (by omega)).2 (.symm (.edge u v (List.mem_of_getElem? he)))
theorem FH {α : Type} {p : α → Bool} {q : Nat → Bool} : ∀ {l : List α} {k : Nat}, (∀ i e, l[i]? = some e → q (k + i) = p e) → l.countP p = (List.range' k l.length).countP q
 | [], k, _ => rfl
 | a :: r, k, h => by
  rw [List.length_cons, List.range'_succ, List.countP_cons, List.countP_cons, FH (l := r) (k := k + 1) (q := q) fun i e he => by
   rw [show k + 1 + i = k + (i + 1) by omega]; exact h (i + 1) e (by simpa using he)]
  have := h 0 a rfl
  rw [Nat.add_zero] at this
  rw [← this]
theorem Hw {h : Nat} {e : Pr} (he : es[h / 2]? = some e) : headU es (h : Int) = e.1.toNat := by
 unfold headU
 rw [show ((h : Int) / 2).toNat = h / 2 by omega, he]; rfl
theorem Ir {f : Nat → Int} (hok : RotL n es rs) (hnx : NxOk rs rs.length fn) (hf : Lab n es f) {x : Int} (h0 : cnE f es es.length x ≠ 0) :
  (cnV f n x + cnE f es es.length x + cnF f es (headsOf (es.length * 2) fn) (headsOf (es.length * 2) fn).length x) % 2 = 0 := by
 have hV := hok.1
 have hs := nxS_perm hok hnx
 obtain ⟨c, hc⟩ : ∃ c : Nat → Bool, c = fun (i : Nat) => decide (f (fromV es (i : Int)).toNat = x) := ⟨_, rfl⟩
 have hm2 : es.length * 2 = 2 * es.length := by omega
 have h1 : ∀ i, i < 2 * es.length → c (nxS fn i) = c i := by
  intro i hi
  obtain ⟨v, l, j, hl, hj, hv⟩ := E0 hok (h := i) (by omega)
  obtain ⟨_, g1, g2, g3⟩ := Fo hok hnx hl hj
  have : ((nxS fn i : Nat) : Int) = fn i := by unfold nxS; omega
  rw [hc]; simp only [this, g3, hv]
 have h2 : ∀ i, i < 2 * es.length → c (twn i) = c i := by
  intro i hi
  obtain ⟨e, he⟩ : ∃ e, es[i / 2]? = some e := ⟨_, List.getElem?_eq_getElem (by omega)⟩
  rw [hc]
  simp only
  rw [Fx hV hf he rfl, Fx hV hf (h := twn i) he (by unfold twn; split <;> omega)]
 rw [hm2] at hs
 have hpar := KQ hs h1 h2
 have e1 : (List.range (2 * es.length)).countP (fun i => c i && decide (Lead (fun h => nxS fn (twn h)) i)) = cnF f es (headsOf (es.length * 2) fn) (headsOf (es.length * 2) fn).length x := by
  unfold cnF headsOf
  rw [List.take_length, List.countP_map, List.countP_filter, hm2]
  apply List.countP_congr
  intro i hi
  have hi := List.mem_range.1 hi
  obtain ⟨e, he⟩ : ∃ e, es[i / 2]? = some e := ⟨_, List.getElem?_eq_getElem (by omega)⟩
  have e2 : (fun h => nxS fn (twn h)) = phi fn := rfl
  simp only [Function.comp_def]
  rw [e2, hc]
  simp only
  rw [Fx hV hf he rfl, Hw he]
 have e2 : (List.range es.length).countP (fun e => c (2 * e)) = cnE f es es.length x := by
  unfold cnE
  rw [List.take_length, List.range_eq_range']
  refine (FH (k := 0) (q := fun e => c (2 * e)) ?_).symm
  intro i e he
  rw [hc]
  simp only [Nat.zero_add]
  rw [Fx hV hf (h := 2 * i) he (by omega)]
 have e3 : (List.range (2 * es.length)).countP (fun i => c i && decide (Lead (nxS fn) i)) = cnV f n x := by
  have hk : (((List.range n).filter fun v => decide (f v = x)).map fun (v : Nat) => (v : Int)).Nodup := by
   unfold List.Nodup
   rw [List.pairwise_map]
   exact (List.Nodup.sublist List.filter_sublist List.nodup_range).imp fun h => by omega
  have hsum := CN hk (g := fun h : Nat => fromV es h) (l := (List.range (2 * es.length)).filter fun i => c i && decide (Lead (nxS fn) i)) fun h hh => by
   obtain ⟨g1, g2⟩ := List.mem_filter.1 hh
   have g1 := List.mem_range.1 g1
   obtain ⟨v, hv, hvn⟩ := from_nat hV (h := h) (by omega)
   rw [hc] at g2
   simp only [Bool.and_eq_true, decide_eq_true_eq, hv, Int.toNat_natCast] at g2
   exact List.mem_map.2 ⟨v, List.mem_filter.2 ⟨List.mem_range.2 hvn, by simpa using g2.1⟩, hv.symm⟩
  rw [J6] at hsum
  ·rw [List.countP_eq_length_filter, ← hsum, List.length_map, ← List.countP_eq_length_filter]; rfl
  ·intro y hy
   obtain ⟨v, hv, rfl⟩ := List.mem_map.1 hy
   obtain ⟨hv1, hv2⟩ := List.mem_filter.1 hv
   have hv1 := List.mem_range.1 hv1
   have hv2 : f v = x := by simpa using hv2
   have hlen := hok.2.1
   obtain ⟨l, hl⟩ : ∃ l, rs[v]? = some l := ⟨_, List.getElem?_eq_getElem (by omega)⟩
   have hne : l ≠ [] := by
    intro e
    have h3 := (hok.2.2 v l hl).2.2
    rw [e] at h3
    exact busy hV hf h0 hv1 hv2 (by simpa using h3.symm)
   obtain ⟨h, g1, g2, g3⟩ := lead_ex hok hnx hl hne
   refine DD (List.Nodup.sublist List.filter_sublist List.nodup_range) (a := h) (List.mem_filter.2 ⟨List.mem_range.2 (by omega), ?_⟩) (by simpa using g2) fun b hb hp => ?_
   ·rw [hc]; simp [g2, hv2, g3]
   ·obtain ⟨b1, b2⟩ := List.mem_filter.1 hb
    have b1 := List.mem_range.1 b1
    simp only [Bool.and_eq_true, decide_eq_true_eq] at b2 hp
    have q1 := IF hok hnx hl g1 (by omega) g2 hp g3
    have q2 := IF hok hnx hl (h := b) (k := h) (by omega) g1 hp g2 b2.2
    omega
 rw [e1, e2, e3] at hpar
 omega
end
end Go.Fl

namespace Go.Fl
open Go Go.Proofs
open Classical
structure GeI where
 i : Nat
 m : List (Int × Value)
def ints0 (i k : Nat) : List Int := (List.range k).map fun (x : Nat) => (x : Int)
structure GeK where
 left : List (Int × Value)
 last : Option (Int × Value)
 S : Int
/-- How many faces. -/
noncomputable def facesN (es : List Pr) (fn : Nat → Int) : Nat := (headsOf (es.length * 2) fn).length
/-- Twice the sum of the genera of the parts. -/
noncomputable def genus2 (n : Nat) (es : List Pr) (fn : Nat → Int) : Int := 2 * (ncomp n es : Int) - isoN n es - n + es.length - facesN es fn
theorem Hy {a b c : Int → Nat} : ∀ {ks : List Int} {j : Nat} {x : Int}, ks[j]? = some x → gsum a b c ks = gval (a x) (b x) (c x) + gsum a b c (ks.eraseIdx j)
 | [], j, x, h => by simp at h
 | y :: r, 0, x, h => by simp at h; subst h; rfl
 | y :: r, j + 1, x, h => by
  have := Hy (a := a) (b := b) (c := c) (ks := r) (j := j) (x := x) (by simpa using h)
  unfold gsum at this ⊢
  rw [List.eraseIdx_cons_succ]
  simp only [List.map_cons, List.sum_cons]
  omega
theorem Le {n : Nat} {es : List Pr} {rs : List (List Int)} {va v : Value} {w : World} (hg : PrV w va es) (hl : LsV w v rs) (hok : RotL n es rs) :
  Calls Tryz.prog 121 #[.agg #[.int .i64 n, va], v] w (Ret w [] fun r M => M = [] ∧ ∃ fn S, NxOk rs rs.length fn ∧ r = .tuple #[.int .i64 S, .int .i64 0] ∧ 2 * S = genus2 n es fn) := by
 obtain ⟨A, cap, ev, hr, hlc, hcm, hle⟩ := id hg
 subst ev
 have hV := hok.1
 have hfew := hV.few
 have hN1 : n ≤ 1048576 := by have := hV.hi; omega
 refine At (args := [_, _]) (L := []) Tryz.func121 rfl Tryz.ntmps121 rfl (Own.start _ _) ?_
 refine Zs ?_
 refine Zw (AR (cs := #[.int .i64 n, .slice A es.length cap]) rfl rfl rfl) fun g2 => ?_
 refine Za ?_
 refine Za ?_
 refine Zx <| Zs ?_
 refine Zu (Aw (vs := [_, _]) rfl rfl Bo Bh rfl (Am rfl)) ?_
 refine Zm ?_
 refine Seq.rel rfl rfl (Ao en152 rfl rfl rfl (fun w' hw => FOf_calls (hg.keep0 hw) (hl.keep0 hw) (fun f h1 h2 => GI h1 h2))) ?_
 intro v28 L28 hC28
 obtain ⟨_, vf, fs, fn, rfl, hnx, hD, rfl⟩ := hC28.resolve_right (fun h => h.1 hok)
 refine Seq.own (M := slc vf 44 1 (rowsV fs) :: blk g2 24 #[.int .i64 n, .slice A es.length cap] :: rowsC 3 fs) (fun w hw => hw.perm (List.Perm.cons _ (List.perm_append_comm (l₁ := [_]) (l₂ := rowsC 3 fs)))) ?_
 refine Zm ?_
 refine Ze ?_
 refine Ze ?_
 refine Za ?_
 refine Za ?_
 refine Zx <| DC.seq <| Zs ?_
 refine Zm ?_
 refine Zo (BB rfl rfl rfl) ?_
 refine Zx ?_
 refine Zd (fun c2 => ?_) fun c2 => ?_
 ·refine Zs ?_
  refine Zm ?_
  refine Za ?_
  refine Za ?_
  refine Zx <| DC.ret <| Aa ?_
  refine Fin.weak (E' := [(4, _), (5, _)]) ⟨rfl, rfl, trivial⟩ .nil ?_
  refine AK (.inl rfl) rfl rfl rfl ?_
  simp at c2
 ·refine DC.skip <| Fin.then <| Zs ?_
  refine Zu (Aw (vs := [_, _]) rfl rfl Bo Bh rfl (Am rfl)) ?_
  refine Seq.rel rfl rfl (Ao en153 rfl rfl rfl (fun w' hw => Of_calls (hg.keep0 hw) hV)) ?_
  rintro _ _ ⟨gl, k, f, q, rfl, hq, hPa, hLa, rfl⟩
  simp only [List.cons_append, List.nil_append]
  refine Zm ?_
  refine Ze ?_
  refine Ze ?_
  refine Ze ?_
  refine Za ?_
  refine Za ?_
  refine Za ?_
  refine Zx <| Zs ?_
  refine Seq.rel rfl rfl (Dx (enc := encI) rfl) ?_
  rintro _ _ ⟨gm, rfl, rfl⟩
  simp only [List.cons_append, List.nil_append]
  refine Za ?_
  refine Zx <| DC.seq <| Zs ?_
  refine Zm ?_
  refine Zn Tryz.underlying44 ?_
  refine Zm ?_
  refine Zx <| DC.block ?_
  refine DC.loop (ι := GeI) (fun j => j.i ≤ n ∧ Tal j.m (cnV f j.i) (fun _ => 0) (fun _ => 0))
   (fun j => [(2, .pointer (some ⟨g2, 0, none⟩)), (6, vf), (8, .slice (some ⟨gl, 0, none⟩) n n), (11, .map (some gm)), (41, .slice (some ⟨gl, 0, none⟩) n n), (42, .int .i64 n), (43, .int .i64 j.i)])
   (fun j => mpc encI gm j.m :: blk gl 3 (ints (tab n f)).toArray :: slc vf 44 1 (rowsV fs) :: blk g2 24 #[.int .i64 n, .slice A es.length cap] :: rowsC 3 fs) (fun j => n - j.i) ⟨0, []⟩
   ⟨Nat.zero_le _, by simp, fun x => by simp [cnV]⟩ ⟨rfl, rfl, rfl, rfl, rfl, rfl, rfl, trivial⟩ (.cons 0 rfl (.cons 0 rfl (Pick.all _))) ?_
  rintro ⟨i, m⟩ ⟨hi, hm⟩
  dsimp only at hi hm ⊢
  refine Zs ?_
  refine Zc ?_
  refine Zx <| DC.seq ?_
  refine Zd (fun c7 => ?_) fun c7 => ?_
  ·have hlt : i < n := by simpa using c7
   have hb1 := cnV_le f i (f i)
   refine DC.skip <| Fin.then <| DC.seq <| DC.block <| Zs ?_
   refine Zi Tryz.underlying44 AL ?_
   refine Zu (Ai rfl rfl AI (Be (Bs hlt))) ?_
   refine Za ?_
   refine Zx <| Zs ?_
   refine Zm ?_
   refine Zm ?_
   refine Zu (CW (v := tl (cnV f i (f i)) 0 0) (k := f i) 0 rfl Ew rfl rfl rfl Tryz.underlying228 GT (I4 hm (f i) (fun _ => ⟨rfl, rfl⟩))) ?_
   refine Zw (AO rfl GT rfl) fun g14 => ?_
   refine Zy (Az (cs' := #[.int .i64 (cnV f i (f i)), .int .i64 0, .int .i64 0]) rfl rfl rfl GY rfl (Nat.le_of_ble_eq_true rfl) rfl) ?_
   refine Zx <| Zs ?_
   refine Zf Jz ?_
   refine Zl AI ?_
   refine Zp ?_
   refine Zf Jz ?_
   refine Zy (AF (cs' := #[_, _, _]) rfl rfl rfl AL rfl (Nat.le_of_ble_eq_true rfl) rfl) ?_
   refine Zx <| DC.region ?_
   refine Zm ?_
   refine Zm ?_
   refine Zu (Aw (vs := [_, _, _]) rfl rfl ag230 GY rfl (Am (vs := [.int .i64 ((cnV f i (f i) : Nat) + 1), .int .i64 0, .int .i64 0]) rfl)) ?_
   refine Zy (B3 (k := f i) 1 rfl Ew rfl rfl rfl rfl Tryz.underlying228 rfl) ?_
   simp only [List.set_cons_zero, List.set_cons_succ]
   refine Seq.nil <| Fin.inBlock <| Fin.then <| DC.region ?_
   refine Zp ?_
   refine Zm ?_
   refine Seq.nil ?_
   refine Fin.own (fun w hw => hw.sub (List.sublist_cons_self ..)) ?_
   refine Fin.again ⟨i + 1, putM (f i) (tl (cnV f (i + 1) (f i)) 0 0) m⟩ (by dsimp only; omega) ⟨by dsimp only; omega, ?_⟩ ⟨rfl, rfl, rfl, rfl, rfl, rfl, rfl, trivial⟩ (.cons' 0 rfl (by dsimp only; rw [HK, if_pos rfl]; rfl) (Pick.all _))
   refine I3 (a' := cnV f (i + 1)) (b' := fun _ => 0) (c' := fun _ => 0) hm (f i) (by rw [HK, if_pos rfl]; omega) fun y hy => ⟨?_, rfl, rfl⟩
   rw [HK, if_neg (Ne.symm hy)]; rfl
  ·refine DC.exit <| Ad <| Ad <| Ag <| Fin.then <| DC.seq <| Zs ?_
   refine Zf AS ?_
   refine Zl Bj ?_
   refine Zn Tryz.underlying22 ?_
   refine Zm ?_
   refine Zx <| DC.block ?_
   have hin : i = n := by simp at c7; omega
   subst hin
   refine DC.loop (ι := GeI) (fun j => j.i ≤ es.length ∧ Tal j.m (cnV f i) (cnE f es j.i) (fun _ => 0))
    (fun j => [(2, .pointer (some ⟨g2, 0, none⟩)), (6, vf), (8, .slice (some ⟨gl, 0, none⟩) i i), (11, .map (some gm)), (59, .slice A es.length cap), (60, .int .i64 es.length), (61, .int .i64 j.i)])
    (fun j => mpc encI gm j.m :: blk gl 3 (ints (tab i f)).toArray :: slc vf 44 1 (rowsV fs) :: blk g2 24 #[.int .i64 i, .slice A es.length cap] :: rowsC 3 fs) (fun j => es.length - j.i) ⟨0, m⟩
    ⟨Nat.zero_le _, hm.1, fun x => by rw [hm.2 x]; simp [cnE]⟩ ⟨rfl, rfl, rfl, rfl, rfl, rfl, rfl, trivial⟩ (Pick.all _) ?_
   rintro ⟨i2, m2⟩ ⟨hi2, hm2⟩
   dsimp only at hi2 hm2 ⊢
   refine Zs ?_
   refine Zc ?_
   refine Zx <| DC.seq ?_
   refine Zd (fun c14 => ?_) fun c14 => ?_
   ·have hlt : i2 < es.length := by simpa using c14
    obtain ⟨e, he⟩ : ∃ e, es[i2]? = some e := ⟨_, List.getElem?_eq_getElem hlt⟩
    obtain ⟨ad, rfl, hU, hVe⟩ := hr.pair he
    have ho := hV.ok i2 e he
    obtain ⟨u, hu⟩ := Int.eq_ofNat_of_zero_le ho.lo
    obtain ⟨u2, hu2⟩ := Int.eq_ofNat_of_zero_le (show 0 ≤ e.2 by have := ho.lo; have := ho.lt; omega)
    obtain rfl : e = ((u : Int), (u2 : Int)) := Prod.ext hu hu2
    clear hu hu2
    have hun : u < i := by have h1 := ho.lt; have h2 := ho.hi; simp at h1 h2; omega
    replace hU : w.cell? (ad.add (i2 * 2)) = some (.int .i64 (u : Int)) := hU
    replace hVe : w.cell? (ad.add (i2 * 2 + 1)) = some (.int .i64 (u2 : Int)) := hVe
    have hb2 := cnE_le f es i2 (f u)
    have hb3 := cnV_le f i (f u)
    refine DC.skip <| Fin.then <| DC.seq <| DC.block <| Zs ?_
    refine Zo (AE rfl rfl rfl Tryz.underlying22 AW (by omega) (by omega) (by first | exact AC _ _ | exact Bf _ _ _ | rfl)) ?_
    refine Zu (Aw (vs := [_, _]) rfl rfl Cr AW rfl (Ck hU hVe (by simp))) ?_
    refine Zw (AO rfl CK rfl) fun g16 => ?_
    refine Zy (Az (cs' := #[_, _]) rfl rfl rfl AW rfl (Nat.le_of_ble_eq_true rfl) rfl) ?_
    refine Zx <| Zs ?_
    refine Zm ?_
    refine Zm ?_
    refine Zf AZ ?_
    refine Zl AI ?_
    refine Zi Tryz.underlying44 AL ?_
    refine Zu (Ai rfl rfl AI (Be (Bs hun))) ?_
    refine Zu (CW (v := tl (cnV f i (f u)) (cnE f es i2 (f u)) 0) (k := f u) 1 rfl Ew rfl rfl rfl Tryz.underlying228 GT (I4 hm2 (f u) (fun e => absurd e (FI hun)))) ?_
    refine Zw (AO rfl GT rfl) fun g17 => ?_
    refine Zy (Az (cs' := #[.int .i64 (cnV f i (f u)), .int .i64 (cnE f es i2 (f u)), .int .i64 0]) rfl rfl rfl GY rfl (Nat.le_of_ble_eq_true rfl) rfl) ?_
    refine Zx <| Zs ?_
    refine Zf GP ?_
    refine Zl AI ?_
    refine Zp ?_
    refine Zf GP ?_
    refine Zy (AF (cs' := #[_, _, _]) rfl rfl rfl AL rfl (Nat.le_of_ble_eq_true rfl) rfl) ?_
    refine Zx ?_
    refine AD (cl := [.q, .q, .q, .v, .q, .v, .v, .g]) (A := [0, 0, 0, 4, 14, 30, 0, 127]) (order := [0, 1, 2, 3, 4, 5, 6, 7]) [] mixed (by kernel_rfl) (fun w hw => hw.pick .nil) ?_
    refine Ym ?_
    refine Ym ?_
    refine Yf AZ ?_
    refine Yl AI ?_
    refine Yo rfl (Ah rfl rfl rfl Tryz.underlying44 AL (by omega) (by omega) (by first | exact AC _ _ | exact Bf _ _ _ | rfl)) ?_
    refine Aj rfl rfl rfl rfl (Ai rfl rfl AI (Be (Bs hun))) ?_
    refine Aj rfl rfl rfl rfl (Aw (vs := [_, _, _]) rfl rfl ag230 GY rfl (Am (vs := [.int .i64 (cnV f i (f u)), .int .i64 ((cnE f es i2 (f u) : Nat) + 1), .int .i64 0]) rfl)) ?_
    refine AX rfl rfl rfl rfl (B3 (k := f u) 2 rfl Ew rfl rfl rfl rfl Tryz.underlying228 rfl) (fun w hw => hw.pick (.nil)) ?_
    refine Flow.end rfl ?_
    simp only [zq, zr]
    refine Fin.inBlock <| Fin.then <| DC.region ?_
    refine Zp ?_
    refine Zm ?_
    refine Seq.nil ?_
    have e1 : cnE f es (i2 + 1) (f u) = cnE f es i2 (f u) + 1 := by rw [K0 he]; simp
    refine Fin.own (fun w hw => (hw.sub (List.sublist_cons_self ..)).sub (List.sublist_cons_self ..)) ?_
    refine Fin.again ⟨i2 + 1, putM (f u) (tl (cnV f i (f u)) (cnE f es (i2 + 1) (f u)) 0) m2⟩ (by dsimp only; omega) ⟨by dsimp only; omega, ?_⟩ ⟨rfl, rfl, rfl, rfl, rfl, rfl, rfl, trivial⟩ (.cons' 0 rfl (by dsimp only; rw [e1]; rfl) (Pick.all _))
    refine I3 (a' := cnV f i) (b' := cnE f es (i2 + 1)) (c' := fun _ => 0) hm2 (f u) (FI hun) fun y hy => ⟨rfl, ?_, rfl⟩
    have : ¬ f u = y := fun e => hy e.symm
    rw [K0 he]; simp [this]
   ·refine DC.exit <| Ad <| Ad <| Ag <| Fin.then <| DC.seq <| DC.seq ?_
    have hi2e : i2 = es.length := by simp at c14; omega
    subst hi2e
    refine Ea (i := 2) rfl ?_
    rintro Af cf' rfl hAf
    rw [rowsV_length]
    obtain ⟨hs, hhs⟩ : ∃ hs : List Int, hs = fs.map fun p => p.2.headD 0 := ⟨_, rfl⟩
    have hhead : ∀ (j : Nat) (p : Value × List Int), fs[j]? = some p → ∃ x : Nat, x < es.length * 2 ∧ p.2[0]? = some (x : Int) ∧ hs[j]? = some (x : Int) := by
     intro j p hp
     have h1 : (fs.map fun p => p.2.head?)[j]? = some p.2.head? := by rw [List.getElem?_map, hp]; rfl
     rw [hD.heads, List.getElem?_map, Option.map_eq_some_iff] at h1
     obtain ⟨x, hx, hxe⟩ := h1
     have hxm := List.mem_of_getElem? hx
     have hxl : x < es.length * 2 := List.mem_range.1 (List.mem_filter.1 hxm).1
     refine ⟨x, hxl, by rw [← List.head?_eq_getElem?, ← hxe], ?_⟩
     rw [hhs, List.getElem?_map, hp]
     simp [List.headD_eq_head?_getD, ← hxe]
    have hfsl : fs.length ≤ 8388608 := by
     have h1 := congrArg List.length hD.heads
     simp only [List.length_map] at h1
     have h2 := List.length_filter_le (fun x => decide (Lead (phi fn) x)) (List.range (es.length * 2))
     simp at h2; omega
    refine DC.region ?_
    refine Zm ?_
    refine Zn Tryz.underlying25 ?_
    refine Zm ?_
    refine Zx <| DC.block ?_
    refine DC.loop (ι := GeI) (fun j => j.i ≤ fs.length ∧ Tal j.m (cnV f i) (cnE f es es.length) (cnF f es hs j.i))
     (fun j => [(2, .pointer (some ⟨g2, 0, none⟩)), (8, .slice (some ⟨gl, 0, none⟩) i i), (11, .map (some gm)), (84, .slice Af fs.length cf'), (85, .int .i64 fs.length), (86, .int .i64 j.i)])
     (fun j => mpc encI gm j.m :: blk gl 3 (ints (tab i f)).toArray :: slc (.slice Af fs.length cf') 44 1 (rowsV fs) :: blk g2 24 #[.int .i64 i, .slice A es.length cap] :: rowsC 3 fs) (fun j => fs.length - j.i) ⟨0, m2⟩
     ⟨Nat.zero_le _, hm2.1, fun x => by rw [hm2.2 x]; simp [cnF]⟩ ⟨rfl, rfl, rfl, rfl, rfl, rfl, trivial⟩ (Pick.all _) ?_
    rintro ⟨i3, m3⟩ ⟨hi3, hm3⟩
    dsimp only at hi3 hm3 ⊢
    refine Zs ?_
    refine Zc ?_
    refine Zx <| DC.seq ?_
    refine Zd (fun c21 => ?_) fun c21 => ?_
    ·have hlt3 : i3 < fs.length := by simpa using c21
     obtain ⟨p, hp⟩ : ∃ p, fs[i3]? = some p := ⟨_, List.getElem?_eq_getElem hlt3⟩
     obtain ⟨adf, rfl⟩ := hAf (fun e => by have := congrArg List.length e; simp at this; rw [this] at hlt3; simp at hlt3)
     refine DC.skip <| Fin.then <| DC.seq <| DC.block <| Zs ?_
     refine Zi Tryz.underlying25 Br ?_
     refine Zu (Ai rfl rfl Bp (CE (i := 2) (q := p.1) rfl (by simp [rowsV, hp]))) ?_
     refine Za ?_
     refine Zx <| DC.seq ?_
     obtain ⟨x, hx, hx0, hxh⟩ := hhead i3 p hp
     have hpl := hD.short p (List.mem_of_getElem? hp)
     refine DC.slcs (v := p.1) (i := i3 + 4) (xs := p.2) (t := 3) (by simp [rowsC, hp]) (by omega) ?_
     rintro A3 c3 hp1 hA3
     obtain ⟨ad3, rfl⟩ := hA3 (fun e => by rw [e] at hx0; simp at hx0)
     have hp2 : 0 < p.2.length := (List.getElem?_eq_some_iff.1 hx0).1
     rw [hp1]
     obtain ⟨e, he⟩ : ∃ e, es[x / 2]? = some e := ⟨_, List.getElem?_eq_getElem (by omega)⟩
     obtain ⟨ad, rfl, hU, hVe⟩ := hr.pair he
     have ho := hV.ok (x / 2) e he
     obtain ⟨u, hu⟩ := Int.eq_ofNat_of_zero_le ho.lo
     rw [hu] at hU
     have hun : u < i := by have h1 := ho.lt; have h2 := ho.hi; omega
     have hxd : ((x : Int) / 2).toNat = x / 2 := by omega
     refine AD (cl := [.q, .q, .v, .q, .q, .v, .q, .q, .q, .v, .q, .v, .q]) (A := [0, 0, 2, 0, 8, 24, 56, 126, 254, 510, 1023, 2047, 4095]) (order := [0, 1, 2, 3, 4, 5, 6, 7, 8, 9, 10, 11, 12]) [] mixed (by kernel_rfl) (fun w hw => hw.pick .nil) ?_
     refine Ym ?_
     refine Yf AS ?_
     refine Yl Bj ?_
     refine Ym ?_
     refine Yo rfl (Ah (ad' := ad3.add 0) rfl rfl rfl Tryz.underlying44 AL (by omega) (by omega) rfl) ?_
     refine Aj rfl rfl rfl rfl (Ai rfl rfl AI (BJ (t := 3) (i := i3 + 4) (l := p.2.length) (c := c3) (by rw [← hp1]; simp [rowsC, hp]) hx0 (by omega))) ?_
     refine Yo rfl (Iu rfl rfl rfl (by omega) (by omega)) ?_
     refine Yo rfl (AE (ad' := ad.add (x / 2 * 2)) rfl rfl rfl Tryz.underlying22 AW (by omega) (by omega) (by rw [hxd])) ?_
     refine Yo rfl (Bk (ad' := ad.add (x / 2 * 2)) rfl rfl AZ (by simp [Addr.add])) ?_
     refine Aj rfl rfl rfl rfl (Ai rfl rfl AI (Ar hU)) ?_
     refine Yo rfl (Ah rfl rfl rfl Tryz.underlying44 AL (by omega) (by omega) (by first | exact AC _ _ | exact Bf _ _ _ | rfl)) ?_
     refine Aj rfl rfl rfl rfl (Ai rfl rfl AI (Be (Bs hun))) ?_
     refine Yo rfl (AY rfl rfl) ?_
     refine Flow.end rfl ?_
     simp only [zq, zr]
     refine Fin.then <| DC.seq ?_
     have hb4 := cnF_le f es hs i3 (f u)
     have hhl : hs.length = fs.length := by rw [hhs]; simp
     have hFs : ∀ y, cnF f es hs (i3 + 1) y = cnF f es hs i3 y + if f u = y then 1 else 0 := fun y => by
      have h1 : headU es x = u := by unfold headU; rw [hxd, he]; simp [hu]
      rw [cnF_succ hxh, h1]
     refine DC.region ?_
     refine Zm ?_
     refine Zm ?_
     refine Zu (CW (v := tl (cnV f i (f u)) (cnE f es es.length (f u)) (cnF f es hs i3 (f u))) (k := f u) 0 rfl Ew rfl rfl rfl Tryz.underlying228 GT (I4 hm3 (f u) (fun e => absurd e (FI hun)))) ?_
     refine Zw (AO rfl GT rfl) fun g21 => ?_
     refine Zy (Az (cs' := #[.int .i64 (cnV f i (f u)), .int .i64 (cnE f es es.length (f u)), .int .i64 (cnF f es hs i3 (f u))]) rfl rfl rfl GY rfl (Nat.le_of_ble_eq_true rfl) rfl) ?_
     refine Zx <| Zs ?_
     refine Zf Jy ?_
     refine Zl AI ?_
     refine Zp ?_
     refine Zf Jy ?_
     refine Zy (AF (cs' := #[_, _, _]) rfl rfl rfl AL rfl (Nat.le_of_ble_eq_true rfl) rfl) ?_
     refine Zx <| DC.region ?_
     refine Zm ?_
     refine Zm ?_
     refine Zu (Aw (vs := [_, _, _]) rfl rfl ag230 GY rfl (Am (vs := [.int .i64 (cnV f i (f u)), .int .i64 (cnE f es es.length (f u)), .int .i64 ((cnF f es hs i3 (f u) : Nat) + 1)]) rfl)) ?_
     refine Zy (B3 (k := f u) 1 rfl Ew rfl rfl rfl rfl Tryz.underlying228 rfl) ?_
     simp only [List.set_cons_zero, List.set_cons_succ]
     refine Seq.nil <| Fin.inBlock <| Fin.then <| DC.region ?_
     refine Zp ?_
     refine Zm ?_
     refine Seq.nil ?_
     have e1 : cnF f es hs (i3 + 1) (f u) = cnF f es hs i3 (f u) + 1 := by rw [hFs]; simp
     refine Fin.own (fun w hw => hw.sub (List.sublist_cons_self ..)) ?_
     refine Fin.again ⟨i3 + 1, putM (f u) (tl (cnV f i (f u)) (cnE f es es.length (f u)) (cnF f es hs (i3 + 1) (f u))) m3⟩ (by dsimp only; omega) ⟨by dsimp only; omega, ?_⟩ ⟨rfl, rfl, rfl, rfl, rfl, rfl, trivial⟩ (.cons' 0 rfl (by dsimp only; rw [e1]; rfl) (Pick.all _))
     refine I3 (a' := cnV f i) (b' := cnE f es es.length) (c' := cnF f es hs (i3 + 1)) hm3 (f u) (FI hun) fun y hy => ⟨rfl, rfl, ?_⟩
     have : ¬ f u = y := fun e => hy e.symm
     rw [hFs]; simp [this]
    ·refine DC.exit <| Ad <| Ad <| Ag <| Fin.then <| DC.seq ?_
     have hi3e : i3 = fs.length := by simp at c21; omega
     subst hi3e
     have hhl : hs.length = fs.length := by rw [hhs]; simp
     have hheads : hs = headsOf (es.length * 2) fn := by
      rw [hhs]
      unfold headsOf
      have h1 := hD.heads
      have h2 : fs.map (fun p => p.2.headD 0) = (fs.map fun p => p.2.head?).map fun o => o.getD 0 := by rw [List.map_map]; apply List.map_congr_left; intro p _; simp [List.headD_eq_head?_getD]
      rw [h2, h1, List.map_map]
      rfl
     rw [← hhl] at hm3
     have hL := lab_of hPa hLa
     have hhin : ∀ h, h ∈ hs → headU es h < i ∧ cnE f es es.length (f (headU es h)) ≠ 0 := by
      intro h hh
      rw [hheads] at hh
      obtain ⟨y, hy, rfl⟩ := List.mem_map.1 hh
      have hy2 := List.mem_range.1 (List.mem_filter.1 hy).1
      obtain ⟨e, he⟩ : ∃ e, es[y / 2]? = some e := ⟨_, List.getElem?_eq_getElem (by omega)⟩
      have hem := List.mem_of_getElem? he
      obtain ⟨u, u2, rfl, h1, h2⟩ := Di hV hem
      rw [Hw he]
      refine ⟨by simp; omega, fun h0 => HL h0 hem rfl⟩
     have hkeys : ∀ x, x ∈ m3.map (·.1) ↔ cnV f i x ≠ 0 := by
      intro x
      have h1 := hm3.2 x
      constructor
      ·intro hx h0
       rw [if_pos h0] at h1
       exact Hq h1 hx
      ·intro h0
       rw [if_neg h0] at h1
       exact List.mem_map.2 ⟨_, lkM_mem h1, rfl⟩
     have htot := Hx hV hL hm3.1 hkeys hhin
     have hent : ∀ p, p ∈ m3 → p.2 = tl (cnV f i p.1) (cnE f es es.length p.1) (cnF f es hs hs.length p.1) := by
      intro p hp
      have h1 := LS hm3.1 (x := p.1) (v := p.2) hp
      rw [hm3.2] at h1
      rw [if_neg ((hkeys _).1 (List.mem_map.2 ⟨p, hp, rfl⟩))] at h1
      exact (Option.some.inj h1).symm
     have hmlen : m3.length ≤ 1048576 := by
      have h1 := F6 (b := ints0 i k) hm3.1 (fun x hx => ?_)
      ·simp [ints0] at h1; have := hLa.2.2.2; omega
      ·obtain ⟨j, hj, hfj⟩ := JI ((hkeys x).1 hx)
       obtain ⟨h2, h3⟩ := hLa.1 j hj
       rw [hfj] at h2 h3
       exact List.mem_map.2 ⟨x.toNat, List.mem_range.2 (by omega), by omega⟩
     refine DC.region ?_
     refine Za ?_
     refine Zx <| DC.seq <| Zs ?_
     refine Zm ?_
     refine Seq.gen rfl rfl (g_range (enc := encI) (m := m3) 0 rfl rfl rfl Tryz.underlying228) ?_
     rintro _ _ ⟨gi, rfl, rfl⟩
     rw [List.set_cons_zero]
     refine Zx <| DC.block ?_
     refine DC.loop (ι := GeK) (fun j => (∀ p, p ∈ j.left → p ∈ m3) ∧ 2 * j.S + gsum (cnV f i) (cnE f es es.length) (cnF f es hs hs.length) (j.left.map (·.1)) = genus2 i es fn ∧ j.left.length ≤ m3.length ∧
       -(16777216 * ((m3.length : Int) - j.left.length)) ≤ j.S ∧ j.S ≤ 16777216 * ((m3.length : Int) - j.left.length))
      (fun j => [(22, .int .i64 j.S), (114, .pointer (some ⟨gi, 0, none⟩))]) (fun j => [mit encI gm gi m3 j.left j.last]) (fun j => j.left.length) ⟨m3, none, 0⟩
      ⟨fun p hp => hp, by dsimp only; rw [htot]; unfold genus2 facesN; rw [← hheads]; omega, Nat.le_refl _, by dsimp only; omega, by dsimp only; omega⟩ ⟨rfl, rfl, trivial⟩ (.cons 0 rfl .nil) ?_
     rintro ⟨left, last, S⟩ ⟨hleft, hS, hll, hS1, hS2⟩
     dsimp only at hleft hS hll hS1 hS2 ⊢
     refine Zs ?_
     refine Seq.gen rfl rfl (g_next (enc := encI) 0 rfl rfl rfl) ?_
     intro v115 L115 hC115
     obtain ⟨b, rest, rfl, hcase⟩ : ∃ b rest, v115 = .tuple ⟨.bool b :: rest⟩ ∧ ((b = false ∧ left = []) ∨ (b = true ∧ ∃ j p, left[j]? = some p ∧ L115 = [mit encI gm gi m3 (left.eraseIdx j) (some p)])) := by
      rcases hC115 with ⟨rfl, h1, _⟩ | ⟨j, p, h1, rfl, h2⟩
      ·exact ⟨false, [], rfl, .inl ⟨rfl, h1⟩⟩
      ·exact ⟨true, _, rfl, .inr ⟨rfl, j, p, h1, by rw [h2]; rfl⟩⟩
     refine Ze ?_
     refine Zx <| DC.seq ?_
     refine Zd (fun c30 => ?_) fun c30 => ?_
     ·obtain ⟨j, p, hp, rfl⟩ : ∃ j p, left[j]? = some p ∧ L115 = [mit encI gm gi m3 (left.eraseIdx j) (some p)] := by
       rcases hcase with ⟨h1, _⟩ | ⟨_, h1⟩
       ·rw [h1] at c30; cases c30
       ·exact h1
      clear hC115 hcase
      obtain ⟨x, xv⟩ := p
      have hpm := hleft _ (List.mem_of_getElem? hp)
      obtain rfl : xv = tl (cnV f i x) (cnE f es es.length x) (cnF f es hs hs.length x) := hent _ hpm
      have hb1 := cnV_le f i x
      have hb2 := cnE_le f es es.length x
      have hb3 := cnF_le f es hs hs.length x
      have hx0 := (hkeys x).1 (List.mem_map.2 ⟨_, hpm, rfl⟩)
      have her := Hy (a := cnV f i) (b := cnE f es es.length) (c := cnF f es hs hs.length) (ks := left.map (·.1)) (j := j) (x := x) (by rw [List.getElem?_map, hp]; rfl)
      rw [← ChangeMaps.map_eraseIdx] at her
      have hjl := (List.getElem?_eq_some_iff.1 hp).1
      have hel : (left.eraseIdx j).length = left.length - 1 := List.length_eraseIdx_of_lt hjl
      refine DC.skip <| Fin.then <| DC.block <| Zs ?_
      refine Zu (v_entry (p := (x, tl (cnV f i x) (cnE f es es.length x) (cnF f es hs hs.length x))) 0 rfl rfl rfl) ?_
      refine Ze ?_
      refine Zw (AO rfl GT rfl) fun g24 => ?_
      refine Zy (Az (cs' := #[.int .i64 (cnV f i x), .int .i64 (cnE f es es.length x), .int .i64 (cnF f es hs hs.length x)]) rfl rfl rfl GY rfl (Nat.le_of_ble_eq_true rfl) rfl) ?_
      refine Zx <| Zs ?_
      refine Zf GP ?_
      refine Zl AI ?_
      refine Zo (BC rfl rfl rfl) ?_
      refine Zx ?_
      refine Zd (fun c32 => ?_) fun c32 => ?_
      ·have hne : cnE f es es.length x ≠ 0 := by simp at c32; omega
       have heven := Ir hok hnx hL hne
       rw [← hheads] at heven
       obtain ⟨q, hq⟩ : ∃ q : Int, 2 - ((cnV f i x : Nat) : Int) + (cnE f es es.length x : Nat) - (cnF f es hs hs.length x : Nat) = 2 * q := ⟨(2 - ((cnV f i x : Nat) : Int) + (cnE f es es.length x : Nat) - (cnF f es hs hs.length x : Nat)) / 2, by omega⟩
       refine DC.region ?_
       refine Zm ?_
       refine Zf Jz ?_
       refine Zl AI ?_
       refine Zo (BA rfl rfl rfl (by omega)) ?_
       refine Zf GP ?_
       refine Zl AI ?_
       refine Zp ?_
       refine Zf Jy ?_
       refine Zl AI ?_
       refine Zo (BA rfl rfl rfl (by omega)) ?_
       refine Zo (p_quo2 (q := q) rfl rfl rfl hq (by omega)) ?_
       refine Zp ?_
       refine Za ?_
       refine Seq.nil <| Fin.inBlock ?_
       refine Fin.again ⟨left.eraseIdx j, some (x, tl (cnV f i x) (cnE f es es.length x) (cnF f es hs hs.length x)), S + q⟩ (by dsimp only; omega) ⟨fun p hp => hleft p (List.mem_of_mem_eraseIdx hp), ?_, by dsimp only; omega, by dsimp only; rw [hel]; omega, by dsimp only; rw [hel]; omega⟩ ⟨rfl, rfl, trivial⟩ (.cons 1 rfl .nil)
       dsimp only
       have : gval (cnV f i x) (cnE f es es.length x) (cnF f es hs hs.length x) = 2 * q := by unfold gval; rw [if_pos hne]; exact hq
       omega
      ·refine DC.skip <| Fin.inBlock ?_
       have hne : cnE f es es.length x = 0 := by simp at c32; omega
       refine Fin.again ⟨left.eraseIdx j, some (x, tl (cnV f i x) (cnE f es es.length x) (cnF f es hs hs.length x)), S⟩ (by dsimp only; omega) ⟨fun p hp => hleft p (List.mem_of_mem_eraseIdx hp), ?_, by dsimp only; omega, by dsimp only; rw [hel]; omega, by dsimp only; rw [hel]; omega⟩ ⟨rfl, rfl, trivial⟩ (.cons 1 rfl .nil)
       dsimp only
       have : gval (cnV f i x) (cnE f es es.length x) (cnF f es hs hs.length x) = 0 := by unfold gval; rw [if_neg (by simp [hne])]
       omega
     ·refine DC.exit <| Ad <| Ad <| Ag <| Fin.then <| Zs ?_
      refine Zm ?_
      refine Za ?_
      refine Za ?_
      refine Zx <| DC.ret ?_
      refine Fin.weak (E' := [(4, _), (5, _)]) ⟨rfl, rfl, trivial⟩ .nil ?_
      refine AK (.inl rfl) rfl rfl rfl ?_
      refine ⟨rfl, fn, S, hnx, rfl, ?_⟩
      have h0 : left = [] := by
       rcases hcase with ⟨_, h1⟩ | ⟨h1, _⟩
       ·exact h1
       ·rw [h1] at c30; simp at c30
      rw [h0] at hS
      simpa [gsum] using hS
end Go.Fl

namespace Go.Fl
open Go Go.Proofs
theorem Flat_calls {n : Nat} {es : List Pr} {rs : List (List Int)} {va v : Value} {w : World} (hg : PrV w va es) (hl : LsV w v rs) (hok : RotL n es rs) :
  Calls Tryz.prog 95 #[.agg #[.int .i64 n, va], v] w (Ret w [] fun r M => M = [] ∧ ∃ fn b, NxOk rs rs.length fn ∧ r = .bool b ∧ (b = true ↔ genus2 n es fn = 0)) := by
 refine At (args := [_, _]) (L := []) Tryz.func95 rfl Tryz.ntmps95 rfl (Own.start _ _) ?_
 refine Zs ?_
 refine Zw (AR rfl rfl rfl) fun g2 => ?_
 refine Za ?_
 refine Zx <| Zs ?_
 refine Zu (Aw (vs := [_, _]) rfl rfl Bo Bh rfl (Am rfl)) ?_
 refine Zm ?_
 refine Seq.rel0 rfl rfl (Ao en121 rfl rfl rfl (fun w' hw => Le (hg.keep0 hw) (hl.keep0 hw) hok)) ?_
 rintro _ ⟨fn, S, hnx, rfl, hS⟩
 refine Zm ?_
 refine Ze ?_
 refine Ze ?_
 refine Za ?_
 refine Za ?_
 refine Zx <| Zs ?_
 refine Zm ?_
 refine Zo (AN rfl rfl rfl) ?_
 refine Zm ?_
 refine Seq.split 15 rfl (fun k2_2 => ?_) (fun k2_2 => ?_)
 ·refine Zm ?_
  refine Zo (AN rfl rfl rfl) ?_
  refine Zt ?_
  refine Za ?_
  refine Zx <| DC.ret ?_
  refine Fin.weak (E' := [(4, _)]) ⟨rfl, trivial⟩ .nil ?_
  refine Ak (.inl rfl) rfl rfl ?_
  exact ⟨rfl, fn, _, hnx, rfl, by first | (simp; omega) | (simp at k2_2)⟩
 ·refine Zk ?_
  refine Zk ?_
  refine Zg ?_
  refine Za ?_
  refine Zx <| DC.ret ?_
  refine Fin.weak (E' := [(4, _)]) ⟨rfl, trivial⟩ .nil ?_
  refine Ak (.inl rfl) rfl rfl ?_
  exact ⟨rfl, fn, _, hnx, rfl, by first | (simp; omega) | (simp at k2_2)⟩
/-- Being flat, said of the lists round the vertices. -/
def FlatR (n : Nat) (es : List Pr) (ls : List (List Int)) (b : Prop) : Prop := ∃ rs fn, RotR es ls rs ∧ NxOk rs rs.length fn ∧ (b ↔ genus2 n es fn = 0)
theorem K2 {pl : Bool} {n : Nat} {es : List Pr} {ls : List (List Int)} {va v u : Value} {w : World} (hg : PrV w va es) (hv : LsV w v ls) (hok : RotOk n es ls) :
  Calls Tryz.prog 57 #[.agg #[.int .i64 n, va], .agg #[.bool pl, v, u]] w (Ret w [] fun r M => M = [] ∧ ∃ b, r = .bool b ∧ FlatR n es ls (b = true)) := by
 have hN := hok.1.hi
 refine At (args := [_, _]) (L := []) Tryz.func57 rfl Tryz.ntmps57 rfl (Own.start _ _) ?_
 refine Zs ?_
 refine Zw (AR rfl rfl rfl) fun g2 => ?_
 refine Zw (AR rfl rfl rfl) fun g3 => ?_
 refine Za ?_
 refine Zx <| Zs ?_
 refine Zu (Aw (vs := [_, _]) rfl rfl Bo Bh rfl (Am rfl)) ?_
 refine Zf Co ?_
 refine Zl Dl ?_
 refine Seq.rel rfl rfl (Ao en94 rfl rfl rfl (fun w' hw => Gs (hg.keep0 hw) (hv.keep0 hw))) ?_
 intro v12 L12 hC12
 obtain ⟨_, g, rs, rfl, rfl, hR⟩ := hC12.resolve_right (fun h => h.1 hok)
 have hl := GB hok hR
 have hlen : rs.length = n := by have := hl.2.1; simp at this; omega
 rw [Int.toNat_natCast]
 refine Seq.own (M := blk g 44 (rowsV rs).toArray :: blk g3 27 #[.bool pl, v, u] :: blk g2 24 #[.int .i64 n, va] :: rowsC 3 rs) (fun w hw => hw.perm (List.Perm.cons _ (List.perm_append_comm (l₁ := [_, _]) (l₂ := rowsC 3 rs)))) ?_
 have hshort : ∀ p, p ∈ rs → p.2.length ≤ 17592186044416 := fun p hp => by
  obtain ⟨j, hj⟩ := List.mem_iff_getElem?.1 hp
  have h1 := (hl.2.2 j p.2 (by rw [List.getElem?_map, hj]; rfl)).2.2
  have h2 := EL es 0 (j : Int)
  have h3 := hok.1.few
  unfold cnt outs at h1
  omega
 refine Zm ?_
 refine Ze ?_
 refine Ze ?_
 refine Ze ?_
 refine Za ?_
 refine Za ?_
 refine Za ?_
 refine Zx <| Zs ?_
 refine Zu (Aw (vs := [_, _]) rfl rfl Bo Bh rfl (Am rfl)) ?_
 refine Zm ?_
 refine Seq.rel0 rfl rfl (Ao en95 rfl rfl rfl (fun w' hw => Flat_calls (hg.keep0 hw) (lsv_own (hw.sub (L' := blk g 44 (rowsV rs).toArray :: rowsC 3 rs) (((List.Sublist.refl _).cons _).cons _ |>.cons_cons _)) hlen (by omega) hshort) hl)) ?_
 rintro _ ⟨fn, b, hnx, rfl, hb⟩
 refine Za ?_
 refine Zx <| DC.ret ?_
 refine Fin.weak (E' := [(4, _)]) ⟨rfl, trivial⟩ .nil ?_
 refine Ak (.inl rfl) rfl rfl ?_
 exact ⟨rfl, b, rfl, _, fn, hR, hnx, hb⟩
theorem IX {pl : Bool} {N : Int} {es cs : List Pr} {va v u : Value} {w : World} (hg : PrV w va es) (hu : PrV w u cs) :
  Calls Tryz.prog 58 #[.agg #[.int .i64 N, va], .agg #[.bool pl, v, u]] w (Ret w [] fun r M => M = [] ∧ ∃ b, r = .bool b ∧ (b = true ↔ ∀ c, c ∈ cs → c ∈ es)) := by
 obtain ⟨B, capb, eu, _, _, _, hleb⟩ := id hu
 refine At (args := [_, _]) (L := []) Tryz.func58 rfl Tryz.ntmps58 rfl (Own.start _ _) ?_
 refine Zs ?_
 refine Zw (AR rfl rfl rfl) fun g2 => ?_
 refine Zw (AR rfl rfl rfl) fun g3 => ?_
 refine Za ?_
 refine Zx <| DC.seq <| Zs ?_
 refine Zu (Aw (vs := [_, _]) rfl rfl Bo Bh rfl (Am rfl)) ?_
 refine Zu (Aw (vs := [_, _, _]) rfl rfl FO EX rfl (Am rfl)) ?_
 refine Seq.rel rfl rfl (Ao en96 rfl rfl rfl (fun w' hw => Ev (hg.keep0 hw) (hu.keep0 hw))) ?_
 rintro _ _ ⟨g, ns, rfl, ⟨hns, hn⟩, rfl⟩
 simp only [List.cons_append, List.nil_append]
 refine Zn Tryz.underlying44 ?_
 refine Zm ?_
 refine Zx <| DC.block ?_
 refine DC.loop (ι := Nat) (fun i => i ≤ cs.length ∧ ∀ (j : Nat) c, j < i → cs[j]? = some c → c ∈ es)
  (fun i => [(9, .slice (some ⟨g, 0, none⟩) cs.length cs.length), (10, .int .i64 cs.length), (11, .int .i64 i)])
  (fun i => [blk g 3 (ints ns).toArray]) (fun i => cs.length - i) 0 ⟨Nat.zero_le _, fun _ _ h => absurd h (Nat.not_lt_zero _)⟩ ⟨rfl, rfl, rfl, trivial⟩ (.cons 0 rfl .nil) ?_
 rintro i ⟨hi, hin⟩
 refine Zs ?_
 refine Zc ?_
 refine Zx <| DC.seq ?_
 refine Zd (fun c2 => ?_) fun c2 => ?_
 ·have hlt : i < cs.length := by simpa using c2
  obtain ⟨c, hc⟩ : ∃ c, cs[i]? = some c := ⟨_, List.getElem?_eq_getElem hlt⟩
  obtain ⟨x, hx⟩ : ∃ x, ns[i]? = some x := ⟨_, List.getElem?_eq_getElem (by omega)⟩
  have hcase := hn i c x hc hx
  refine DC.skip <| Fin.then <| DC.seq <| DC.block <| Zs ?_
  refine Zi Tryz.underlying44 AL ?_
  refine Zu (Ai rfl rfl AI (Be (BP hx))) ?_
  refine Za ?_
  refine Zx <| Zs ?_
  refine Zm ?_
  refine Zc ?_
  refine Zx ?_
  refine Zd (fun c4 => ?_) fun c4 => ?_
  ·refine Zs ?_
   refine Za ?_
   refine Zx <| DC.ret <| Ae <| Aa <| Aa <| Ae <| Aa ?_
   refine Fin.weak (E' := [(4, _)]) ⟨rfl, trivial⟩ .nil ?_
   refine Ak (.inl rfl) rfl rfl ?_
   refine ⟨rfl, false, rfl, ?_⟩
   simp only [Bool.false_eq_true, false_iff]
   intro h
   rcases hcase with ⟨_, h1⟩ | ⟨k, h1, _⟩
   ·exact h1 (h c (List.mem_of_getElem? hc))
   ·simp at c4; omega
  ·refine DC.skip <| Fin.inBlock <| Fin.then <| DC.region ?_
   refine Zp ?_
   refine Zm ?_
   refine Seq.nil ?_
   refine Fin.again (i + 1) (by omega) ⟨by omega, ?_⟩ ⟨rfl, rfl, rfl, trivial⟩ (.cons 0 rfl .nil)
   intro j c' hj hc'
   rcases Nat.lt_succ_iff_lt_or_eq.1 hj with hj | rfl
   ·exact hin j c' hj hc'
   ·rw [hc] at hc'; cases hc'
    rcases hcase with ⟨h1, _⟩ | ⟨k, _, h2⟩
    ·subst h1; simp at c4
    ·exact List.mem_of_getElem? h2
 ·refine DC.exit <| Ad <| Ad <| Ag <| Fin.then <| Zs ?_
  refine Za ?_
  refine Zx <| DC.ret ?_
  refine Fin.weak (E' := [(4, _)]) ⟨rfl, trivial⟩ .nil ?_
  refine Ak (.inl rfl) rfl rfl ?_
  have hie : i = cs.length := by simp at c2; omega
  subst hie
  refine ⟨rfl, true, rfl, ?_⟩
  simp only [true_iff]
  intro c hc
  obtain ⟨j, hj⟩ := List.mem_iff_getElem?.1 hc
  exact hin j c (List.getElem?_eq_some_iff.1 hj).1 hj
open Classical
/-- Which pairs of places there must be a path between. -/
def wantP (k : Int) (i j : Nat) : Bool := decide (i < j) && (decide (k ≠ 2) || (decide (i < 3) && decide (3 ≤ j)))
def cw (k : Int) (n : Nat) : Nat → Nat
 | 0 => 0
 | i + 1 => cw k n i + (List.range n).countP (wantP k i)
theorem cw_le (k : Int) (n : Nat) : ∀ i, cw k n i ≤ i * n
 | 0 => by simp [cw]
 | i + 1 => by
  have := cw_le k n i
  have h2 := List.countP_le_length (p := wantP k i) (l := List.range n)
  simp at h2
  rw [Nat.succ_mul]; unfold cw; omega
theorem FG (k : Int) (i j : Nat) : (List.range (j + 1)).countP (wantP k i) = (List.range j).countP (wantP k i) + if wantP k i j then 1 else 0 := by
 rw [List.range_succ, List.countP_append]
 cases h : wantP k i j <;> simp [h]
def JJ (m : List (Pr × Value)) (S : List Int) (i j : Nat) : Prop := ∀ x y, S[i]? = some x → S[j]? = some y → (lkM m (srt x y)).isSome = true
structure PaI where
 i : Nat
 v : Value
 pv : List Value
theorem Gl {k : Int} {gm : Nat} {m : List (Pr × Value)} {cs : RL} {vb : Value} {S : List Int} {w : World} (hO : Own w (idsOf (mpc encP gm m :: slc vb 3 1 (ints S) :: rowsC 3 cs)) w (mpc encP gm m :: slc vb 3 1 (ints S) :: rowsC 3 cs)) (hm : MapR m cs)
  (hs : ∀ p, p ∈ cs → p.2.length ≤ 1000000000) (hS : S.length ≤ 6) :
  Calls Tryz.prog 128 #[.int .i64 k, vb, .map (some gm)] w (Ret w (idsOf (mpc encP gm m :: slc vb 3 1 (ints S) :: rowsC 3 cs)) fun r M => M = [] ∧ ∃ k0 A0 l0 c0 A1 l1 c1 b, r = .tuple #[.agg #[.int .i64 k0, .slice A0 l0 c0, .slice A1 l1 c1], .bool b] ∧
   (b = true ↔ (∀ i j, i < S.length → j < S.length → wantP k i j = true → JJ m S i j) ∧ cw k S.length S.length = m.length)) := by
 refine At (args := [_, _, _]) (L := mpc encP gm m :: slc vb 3 1 (ints S) :: rowsC 3 cs) Tryz.func128 rfl Tryz.ntmps128 rfl hO ?_
 refine DC.slcs (i := 1) (xs := S) rfl (by omega) ?_
 rintro A c rfl hA
 refine Zs ?_
 refine Zw (AO rfl IW rfl) fun g6 => ?_
 refine Za ?_
 refine Zx <| Zs ?_
 refine Zm ?_
 refine Zm ?_
 refine Zo (AB (cs := #[_, _, _]) rfl rfl HO rfl rfl) ?_
 refine Zw (AO rfl IW rfl) fun g8 => ?_
 refine Zy (Az (cs' := #[_, _, _]) rfl rfl rfl Ce rfl (Nat.le_of_ble_eq_true rfl) rfl) ?_
 refine Zx <| DC.seq <| Zs ?_
 refine Zm ?_
 refine Zn Tryz.underlying44 ?_
 refine Zm ?_
 refine Zx <| DC.block ?_
 refine DC.own (fun w hw => Bd (t := 44) (m := 1) hw) ?_
 refine DC.loop (ι := PaI) (fun j => j.i ≤ S.length ∧ j.pv.length = cw k S.length j.i ∧ ∀ a b, a < j.i → b < S.length → wantP k a b = true → JJ m S a b)
  (fun j => [(0, .int .i64 k), (1, .slice A S.length c), (2, .map (some gm)), (6, .pointer (some ⟨g6, 0, none⟩)), (8, .pointer (some ⟨g8, 0, none⟩)), (18, .slice A S.length c), (19, .int .i64 S.length), (20, .int .i64 j.i)])
  (fun j => mpc encP gm m :: slc (.slice A S.length c) 3 1 (ints S) :: slc j.v 44 1 j.pv :: blk g8 77 #[.int .i64 k, .slice A S.length c, j.v] :: blk g6 77 #[.int .i64 0, .slice none 0 0, .slice none 0 0] :: rowsC 3 cs) (fun j => S.length - j.i)
  ⟨0, .slice none 0 0, []⟩ ⟨Nat.zero_le _, rfl, fun _ _ h => absurd h (Nat.not_lt_zero _)⟩ ⟨rfl, rfl, rfl, rfl, rfl, rfl, rfl, rfl, trivial⟩ (.cons 3 rfl (.cons 3 rfl (.cons 0 rfl (.cons 0 rfl (.cons 0 rfl (Pick.all _)))))) ?_
 rintro ⟨i, v, pv⟩ ⟨hi, hpv, hJ⟩
 dsimp only at hi hpv hJ ⊢
 refine Zs ?_
 refine Zc ?_
 refine Zx <| DC.seq ?_
 refine Zd (fun c3 => ?_) fun c3 => ?_
 ·have hlt : i < S.length := by simpa using c3
  obtain ⟨ad, rfl⟩ := hA (fun e => by rw [e] at hlt; simp at hlt)
  obtain ⟨x, hx⟩ : ∃ x, S[i]? = some x := ⟨_, List.getElem?_eq_getElem hlt⟩
  refine DC.skip <| Fin.then <| DC.seq <| DC.block <| Zs ?_
  refine Zm ?_
  refine Zo (Ah (ad' := ad.add i) rfl rfl rfl Tryz.underlying44 AL (by omega) (by omega) rfl) ?_
  refine Zu (Ai rfl rfl AI (BJ (i := 1) rfl hx (by omega))) ?_
  refine Za ?_
  refine Za ?_
  refine Zx <| Zs ?_
  refine Zm ?_
  refine Zn Tryz.underlying44 ?_
  refine Zm ?_
  refine Zx <| DC.block ?_
  refine DC.loop (ι := PaI) (fun j => j.i ≤ S.length ∧ j.pv.length = cw k S.length i + (List.range j.i).countP (wantP k i) ∧ ∀ b, b < j.i → wantP k i b = true → JJ m S i b)
   (fun j => [(0, .int .i64 k), (1, .slice (some ad) S.length c), (2, .map (some gm)), (6, .pointer (some ⟨g6, 0, none⟩)), (8, .pointer (some ⟨g8, 0, none⟩)), (9, .int .i64 i), (10, .int .i64 x), (18, .slice (some ad) S.length c), (19, .int .i64 S.length), (20, .int .i64 i), (25, .slice (some ad) S.length c), (26, .int .i64 S.length), (27, .int .i64 j.i)])
   (fun j => mpc encP gm m :: slc (.slice (some ad) S.length c) 3 1 (ints S) :: slc j.v 44 1 j.pv :: blk g8 77 #[.int .i64 k, .slice (some ad) S.length c, j.v] :: blk g6 77 #[.int .i64 0, .slice none 0 0, .slice none 0 0] :: rowsC 3 cs) (fun j => S.length - j.i)
   ⟨0, v, pv⟩ ⟨Nat.zero_le _, by simp [hpv], fun _ h => absurd h (Nat.not_lt_zero _)⟩ ⟨rfl, rfl, rfl, rfl, rfl, rfl, rfl, rfl, rfl, rfl, rfl, rfl, rfl, trivial⟩ (Pick.all _) ?_
  rintro ⟨j, v2, pv2⟩ ⟨hj, hpv2, hJ2⟩
  dsimp only at hj hpv2 hJ2 ⊢
  refine Zs ?_
  refine Zc ?_
  refine Zx <| DC.seq ?_
  refine Zd (fun c6 => ?_) fun c6 => ?_
  ·have hjl : j < S.length := by simpa using c6
   obtain ⟨y, hy⟩ : ∃ y, S[j]? = some y := ⟨_, List.getElem?_eq_getElem hjl⟩
   have hb1 := cw_le k S.length i
   have hb2 : i * S.length ≤ 6 * 6 := Nat.mul_le_mul (by omega) (by omega)
   have hb3 := List.countP_le_length (p := wantP k i) (l := List.range j)
   rw [List.length_range] at hb3
   refine DC.skip <| Fin.then <| DC.seq <| DC.block <| Zs ?_
   refine Zm ?_
   refine Zo (Ah (ad' := ad.add j) rfl rfl rfl Tryz.underlying44 AL (by omega) (by omega) rfl) ?_
   refine Zu (Ai rfl rfl AI (BJ (i := 1) rfl hy (by omega))) ?_
   refine Za ?_
   refine Za ?_
   refine Zx <| DC.seq <| Zs ?_
   refine Zm ?_
   refine Zm ?_
   refine Zo (Iv rfl rfl rfl) ?_
   refine Zm ?_
   refine Seq.split 35 rfl (fun k8_3 => ?_) (fun k8_3 => ?_)
   ·refine Zk ?_
    refine Zk ?_
    refine Zk ?_
    refine Zk ?_
    refine Zk ?_
    refine Zk ?_
    refine Zk ?_
    refine Zk ?_
    refine Zk ?_
    refine Zk ?_
    refine Zt ?_
    refine Zx ?_
    refine AM rfl ?_
    refine DC.exit <| Ad <| Ag <| Fin.then <| DC.region ?_
    refine Zp ?_
    refine Zm ?_
    refine Seq.nil ?_
    have hno : wantP k i j = false := by simp at k8_3; simp [wantP]; omega
    refine Fin.again ⟨j + 1, v2, pv2⟩ (by dsimp only; omega) ⟨by dsimp only; omega, by dsimp only; rw [FG, hno]; simpa using hpv2, fun b hb hw => ?_⟩ ⟨rfl, rfl, rfl, rfl, rfl, rfl, rfl, rfl, rfl, rfl, rfl, rfl, rfl, trivial⟩ (Pick.all _)
    rcases Nat.lt_succ_iff_lt_or_eq.1 hb with hb | rfl
    ·exact hJ2 b hb hw
    ·rw [hno] at hw; cases hw
   ·refine Zm ?_
    refine Zo (AN rfl rfl rfl) ?_
    refine Zm ?_
    refine Seq.split 38 rfl (fun k8_6 => ?_) (fun k8_6 => ?_)
    ·refine Zm ?_
     refine Zo (Cj rfl rfl rfl) ?_
     refine Zm ?_
     refine Seq.split 41 rfl (fun k8_9 => ?_) (fun k8_9 => ?_)
     ·refine Zk ?_
      refine Zk ?_
      refine Zt ?_
      refine Zt ?_
      refine Zg ?_
      refine Zx ?_
      refine AM rfl ?_
      refine DC.exit <| Ad <| Ag <| Fin.then <| DC.region ?_
      refine Zp ?_
      refine Zm ?_
      refine Seq.nil ?_
      have hno : wantP k i j = false := by simp at k8_3 k8_6 k8_9; simp [wantP, k8_6]; omega
      refine Fin.again ⟨j + 1, v2, pv2⟩ (by dsimp only; omega) ⟨by dsimp only; omega, by dsimp only; rw [FG, hno]; simpa using hpv2, fun b hb hw => ?_⟩ ⟨rfl, rfl, rfl, rfl, rfl, rfl, rfl, rfl, rfl, rfl, rfl, rfl, rfl, trivial⟩ (Pick.all _)
      rcases Nat.lt_succ_iff_lt_or_eq.1 hb with hb | rfl
      ·exact hJ2 b hb hw
      ·rw [hno] at hw; cases hw
     ·refine Zm ?_
      refine Zc ?_
      refine Zg ?_
      refine Zt ?_
      refine Zg ?_
      refine Zx ?_
      refine Zd (fun c8 => ?_) fun c8 => ?_
      ·refine DC.exit <| Ad <| Ag <| Fin.then <| DC.region ?_
       refine Zp ?_
       refine Zm ?_
       refine Seq.nil ?_
       have hno : wantP k i j = false := by simp at k8_3 k8_6 k8_9 c8; simp [wantP, k8_6]; omega
       refine Fin.again ⟨j + 1, v2, pv2⟩ (by dsimp only; omega) ⟨by dsimp only; omega, by dsimp only; rw [FG, hno]; simpa using hpv2, fun b hb hw => ?_⟩ ⟨rfl, rfl, rfl, rfl, rfl, rfl, rfl, rfl, rfl, rfl, rfl, rfl, rfl, trivial⟩ (Pick.all _)
       rcases Nat.lt_succ_iff_lt_or_eq.1 hb with hb | rfl
       ·exact hJ2 b hb hw
       ·rw [hno] at hw; cases hw
      ·refine DC.skip <| Fin.then <| DC.seq ?_
       have hyes : wantP k i j = true := by
        first
        | (simp at k8_3 k8_6 k8_9 c8; simp [wantP]; omega)
        | (simp at k8_3 k8_6; simp [wantP, k8_6]; omega)
       refine DC.region ?_
       refine Zm ?_
       refine Zm ?_
       refine Zm ?_
       refine Seq.gen rfl rfl (BK en162 rfl rfl rfl (Lc := mpc encP gm m :: ([slc (.slice (some ad) S.length c) 3 1 (ints S), slc v2 44 1 pv2, blk g8 77 #[.int .i64 k, .slice (some ad) S.length c, v2], blk g6 77 #[.int .i64 0, .slice none 0 0, .slice none 0 0]] ++ rowsC 3 cs)) (F := []) (by rw [List.append_nil]; exact .refl _) (fun k hk => hk) (fun w' hw => DR hw.self hm hs)) ?_
       rintro _ _ ⟨_, ⟨rfl, A', l', c', rfl⟩, rfl⟩
       rw [List.append_nil]
       simp only [List.cons_append, List.nil_append]
       refine Zm ?_
       refine Ze ?_
       refine Ze ?_
       refine Za ?_
       refine Za ?_
       refine Zx <| DC.seq <| Zs ?_
       refine Zm ?_
       refine Zo (Bg rfl rfl) ?_
       refine Zx ?_
       refine Zd (fun c10 => ?_) fun c10 => ?_
       ·refine Zs ?_
        refine Zo (AB (cs := #[_, _, _]) rfl rfl HO rfl rfl) ?_
        refine Zy (Az (cs' := #[_, _, _]) rfl rfl rfl Ce rfl (Nat.le_of_ble_eq_true rfl) rfl) ?_
        refine Za ?_
        refine Zx <| DC.ret <| Aa <| Ae <| Aa <| Aa <| Ae <| Ae <| Aa <| Aa <| Ae <| Aa ?_
        refine Fin.weak (E' := [(6, .pointer (some ⟨g6, 0, none⟩)), (7, .bool false)]) (L' := [blk g6 77 #[.int .i64 0, .slice none 0 0, .slice none 0 0]]) ⟨rfl, rfl, trivial⟩ (.cons 4 rfl .nil) ?_
        refine Cy (cs := #[_, _, _]) (.inl rfl) rfl rfl rfl ED Ce ?_
        refine ⟨[], fun w hw => hw.sub (List.nil_sublist _), rfl, _, _, _, _, _, _, _, false, rfl, ?_⟩
        simp only [Bool.false_eq_true, false_iff]
        rintro ⟨h1, _⟩
        have h2 := h1 i j hlt hjl hyes x y hx hy
        rw [h2] at c10
        simp at c10
       ·refine DC.skip <| Fin.then <| DC.region ?_
        refine Zf EA ?_
        refine Zl Dl ?_
        refine Zm ?_
        refine Zw (AP (cs := #[_]) rfl rfl Tryz.underlying25 Br CV rfl (by decide) (by decide) rfl rfl) fun g60 => ?_
        refine Seq.gen rfl rfl (AG rfl rfl rfl Tryz.underlying25 Br HN CV rfl (by decide) (by decide) (news := [.slice A' l' c']) (k := 1) (fun w hw => hw.perm (AH (i := 3) rfl).symm) (.inl ⟨_, _, rfl, Am rfl⟩) rfl (fun u hu => by rw [List.mem_singleton.1 hu]; rfl) (by simp; omega)) ?_
        rintro v61 _ rfl
        simp only [List.eraseIdx_cons_succ, List.eraseIdx_cons_zero]
        refine Seq.shape (t := 44) (m := 1) (vs := pv2 ++ [.slice A' l' c']) 0 rfl ?_
        rintro ⟨A61, l61, c61, rfl⟩
        refine Zf EA ?_
        refine Zy (AF (cs' := #[_, _, _]) rfl rfl rfl sz25 rfl (Nat.le_of_ble_eq_true rfl) rfl) ?_
        refine Seq.nil <| Fin.inBlock <| Fin.then <| DC.region ?_
        refine Zp ?_
        refine Zm ?_
        refine Seq.nil ?_
        have hjj : JJ m S i j := fun x' y' hx' hy' => by
         rw [hx] at hx'; rw [hy] at hy'; cases hx'; cases hy'
         simpa using c10
        refine Fin.again ⟨j + 1, .slice A61 l61 c61, pv2 ++ [.slice A' l' c']⟩ (by dsimp only; omega) ⟨by dsimp only; omega, by dsimp only; rw [FG, hyes, List.length_append, hpv2]; simp; omega, fun b hb hw => ?_⟩ ⟨rfl, rfl, rfl, rfl, rfl, rfl, rfl, rfl, rfl, rfl, rfl, rfl, rfl, trivial⟩ (.cons 2 rfl (.cons 2 rfl (.cons 0 rfl (.cons 1 rfl (.cons 1 rfl (B0 _ _))))))
        rcases Nat.lt_succ_iff_lt_or_eq.1 hb with hb | rfl
        ·exact hJ2 b hb hw
        ·exact hjj
    ·refine Zk ?_
     refine Zk ?_
     refine Zk ?_
     refine Zk ?_
     refine Zk ?_
     refine Zk ?_
     refine Zg ?_
     refine Zg ?_
     refine Zx ?_
     refine AT rfl ?_
     refine DC.skip <| Fin.then <| DC.seq ?_
     have hyes : wantP k i j = true := by
      first
      | (simp at k8_3 k8_6 k8_9 c8; simp [wantP]; omega)
      | (simp at k8_3 k8_6; simp [wantP, k8_6]; omega)
     refine DC.region ?_
     refine Zm ?_
     refine Zm ?_
     refine Zm ?_
     refine Seq.gen rfl rfl (BK en162 rfl rfl rfl (Lc := mpc encP gm m :: ([slc (.slice (some ad) S.length c) 3 1 (ints S), slc v2 44 1 pv2, blk g8 77 #[.int .i64 k, .slice (some ad) S.length c, v2], blk g6 77 #[.int .i64 0, .slice none 0 0, .slice none 0 0]] ++ rowsC 3 cs)) (F := []) (by rw [List.append_nil]; exact .refl _) (fun k hk => hk) (fun w' hw => DR hw.self hm hs)) ?_
     rintro _ _ ⟨_, ⟨rfl, A', l', c', rfl⟩, rfl⟩
     rw [List.append_nil]
     simp only [List.cons_append, List.nil_append]
     refine Zm ?_
     refine Ze ?_
     refine Ze ?_
     refine Za ?_
     refine Za ?_
     refine Zx <| DC.seq <| Zs ?_
     refine Zm ?_
     refine Zo (Bg rfl rfl) ?_
     refine Zx ?_
     refine Zd (fun c10 => ?_) fun c10 => ?_
     ·refine Zs ?_
      refine Zo (AB (cs := #[_, _, _]) rfl rfl HO rfl rfl) ?_
      refine Zy (Az (cs' := #[_, _, _]) rfl rfl rfl Ce rfl (Nat.le_of_ble_eq_true rfl) rfl) ?_
      refine Za ?_
      refine Zx <| DC.ret <| Aa <| Ae <| Aa <| Aa <| Ae <| Ae <| Aa <| Aa <| Ae <| Aa ?_
      refine Fin.weak (E' := [(6, .pointer (some ⟨g6, 0, none⟩)), (7, .bool false)]) (L' := [blk g6 77 #[.int .i64 0, .slice none 0 0, .slice none 0 0]]) ⟨rfl, rfl, trivial⟩ (.cons 4 rfl .nil) ?_
      refine Cy (cs := #[_, _, _]) (.inl rfl) rfl rfl rfl ED Ce ?_
      refine ⟨[], fun w hw => hw.sub (List.nil_sublist _), rfl, _, _, _, _, _, _, _, false, rfl, ?_⟩
      simp only [Bool.false_eq_true, false_iff]
      rintro ⟨h1, _⟩
      have h2 := h1 i j hlt hjl hyes x y hx hy
      rw [h2] at c10
      simp at c10
     ·refine DC.skip <| Fin.then <| DC.region ?_
      refine Zf EA ?_
      refine Zl Dl ?_
      refine Zm ?_
      refine Zw (AP (cs := #[_]) rfl rfl Tryz.underlying25 Br CV rfl (by decide) (by decide) rfl rfl) fun g60 => ?_
      refine Seq.gen rfl rfl (AG rfl rfl rfl Tryz.underlying25 Br HN CV rfl (by decide) (by decide) (news := [.slice A' l' c']) (k := 1) (fun w hw => hw.perm (AH (i := 3) rfl).symm) (.inl ⟨_, _, rfl, Am rfl⟩) rfl (fun u hu => by rw [List.mem_singleton.1 hu]; rfl) (by simp; omega)) ?_
      rintro v61 _ rfl
      simp only [List.eraseIdx_cons_succ, List.eraseIdx_cons_zero]
      refine Seq.shape (t := 44) (m := 1) (vs := pv2 ++ [.slice A' l' c']) 0 rfl ?_
      rintro ⟨A61, l61, c61, rfl⟩
      refine Zf EA ?_
      refine Zy (AF (cs' := #[_, _, _]) rfl rfl rfl sz25 rfl (Nat.le_of_ble_eq_true rfl) rfl) ?_
      refine Seq.nil <| Fin.inBlock <| Fin.then <| DC.region ?_
      refine Zp ?_
      refine Zm ?_
      refine Seq.nil ?_
      have hjj : JJ m S i j := fun x' y' hx' hy' => by
       rw [hx] at hx'; rw [hy] at hy'; cases hx'; cases hy'
       simpa using c10
      refine Fin.again ⟨j + 1, .slice A61 l61 c61, pv2 ++ [.slice A' l' c']⟩ (by dsimp only; omega) ⟨by dsimp only; omega, by dsimp only; rw [FG, hyes, List.length_append, hpv2]; simp; omega, fun b hb hw => ?_⟩ ⟨rfl, rfl, rfl, rfl, rfl, rfl, rfl, rfl, rfl, rfl, rfl, rfl, rfl, trivial⟩ (.cons 2 rfl (.cons 2 rfl (.cons 0 rfl (.cons 1 rfl (.cons 1 rfl (B0 _ _))))))
      rcases Nat.lt_succ_iff_lt_or_eq.1 hb with hb | rfl
      ·exact hJ2 b hb hw
      ·exact hjj
  ·refine DC.exit <| Ad <| Ad <| Ag <| Fin.inBlock <| Fin.then <| DC.region ?_
   refine Zp ?_
   refine Zm ?_
   refine Seq.nil ?_
   have hje : j = S.length := by simp at c6; omega
   subst hje
   refine Fin.again ⟨i + 1, v2, pv2⟩ (by dsimp only; omega) ⟨by dsimp only; omega, hpv2, fun a b ha hb hw => ?_⟩ ⟨rfl, rfl, rfl, rfl, rfl, rfl, rfl, rfl, trivial⟩ (Pick.all _)
   rcases Nat.lt_succ_iff_lt_or_eq.1 ha with ha | rfl
   ·exact hJ a b ha hb hw
   ·exact hJ2 b hb hw
 ·refine DC.exit <| Ad <| Ad <| Ag <| Fin.then <| DC.seq <| DC.seq ?_
  have hie : i = S.length := by simp at c3; omega
  subst hie
  have hb1 := cw_le k S.length S.length
  have hb2 : S.length * S.length ≤ 6 * 6 := Nat.mul_le_mul (by omega) (by omega)
  refine Ea (i := 2) rfl ?_
  rintro Av cv rfl hAv
  refine DC.region ?_
  refine Zf EA ?_
  refine Zl Dl ?_
  refine Zn Tryz.underlying25 ?_
  refine Zm ?_
  refine Zu (v_lenMap 0 rfl rfl rfl Tryz.underlying205) ?_
  refine Zo (BB rfl rfl rfl) ?_
  refine Zx ?_
  refine Zd (fun c15 => ?_) fun c15 => ?_
  ·refine Zs ?_
   refine Zo (AB (cs := #[_, _, _]) rfl rfl HO rfl rfl) ?_
   refine Zy (Az (cs' := #[_, _, _]) rfl rfl rfl Ce rfl (Nat.le_of_ble_eq_true rfl) rfl) ?_
   refine Za ?_
   refine Zx <| DC.ret <| Aa ?_
   refine Fin.weak (E' := [(6, .pointer (some ⟨g6, 0, none⟩)), (7, .bool false)]) (L' := [blk g6 77 #[.int .i64 0, .slice none 0 0, .slice none 0 0]]) ⟨rfl, rfl, trivial⟩ (.cons 4 rfl .nil) ?_
   refine Cy (cs := #[_, _, _]) (.inl rfl) rfl rfl rfl ED Ce ?_
   refine ⟨[], fun w hw => hw.sub (List.nil_sublist _), rfl, _, _, _, _, _, _, _, false, rfl, ?_⟩
   simp only [Bool.false_eq_true, false_iff]
   rintro ⟨_, h2⟩
   simp at c15
   omega
  ·refine DC.skip <| Fin.then <| Zs ?_
   refine Zu (Aw (vs := [_, _, _]) rfl rfl ED Ce rfl (Am rfl)) ?_
   refine Zy (Az (cs' := #[_, _, _]) rfl rfl rfl Ce rfl (Nat.le_of_ble_eq_true rfl) rfl) ?_
   refine Za ?_
   refine Zx <| DC.ret ?_
   refine Fin.weak (E' := [(6, .pointer (some ⟨g6, 0, none⟩)), (7, .bool true)]) (L' := [blk g6 77 #[.int .i64 k, .slice A S.length c, .slice Av pv.length cv]]) ⟨rfl, rfl, trivial⟩ (.cons 4 rfl .nil) ?_
   refine Cy (cs := #[_, _, _]) (.inl rfl) rfl rfl rfl ED Ce ?_
   refine ⟨[], fun w hw => hw.sub (List.nil_sublist _), rfl, _, _, _, _, _, _, _, true, rfl, ?_⟩
   simp only [true_iff]
   exact ⟨fun i j hi hj hw => hJ i j hi hj hw, by simp at c15; omega⟩
end Go.Fl

namespace Go.Fl
open Go Go.Proofs
open Classical
theorem GK {κ : Type} [DecidableEq κ] (m : List (κ × Value)) (q : κ) : (lkM m q).isSome = decide (q ∈ m.map (·.1)) := by
 cases h : lkM m q with
 | none => simpa using Hq h
 | some v =>
  have : q ∈ m.map (·.1) := List.mem_map.2 ⟨_, lkM_mem h, rfl⟩
  simp only [Option.isSome_some]
  exact (decide_eq_true this).symm
structure ReI where
 i : Nat
 m : List (Pr × Value)
/-- The map from the ends of the chains, of the first i. -/
structure MapE (E : List Pr) (cs : RL) (i : Nat) (m : List (Pr × Value)) : Prop where
 keys : m.map (·.1) = E.take i
 nd : (E.take i).Nodup
 ne : ∀ p, p ∈ E.take i → p.1 ≠ p.2
 row : MapR m cs
theorem MapE.next {E : List Pr} {cs : RL} {i : Nat} {m : List (Pr × Value)} (h : MapE E cs i m) {q : Pr} (hq : E[i]? = some q) (hno : q ∉ m.map (·.1)) (hne : q.1 ≠ q.2) {p : Value × List Int} (hp : p ∈ cs) : MapE E cs (i + 1) (putM q p.1 m) := by
 have hk : (putM q p.1 m).map (·.1) = m.map (·.1) ++ [q] := by
  rw [F2, GK, if_neg (by simpa using hno)]
 have ht : E.take (i + 1) = E.take i ++ [q] := by rw [List.take_add_one, hq]; rfl
 refine ⟨by rw [hk, ht, h.keys], ?_, ?_, ?_⟩
 ·rw [ht, List.nodup_append]
  refine ⟨h.nd, by simp, fun a ha b hb e => ?_⟩
  simp at hb; subst hb; subst e
  rw [← h.keys] at ha
  exact hno ha
 ·intro x hx
  rw [ht] at hx
  rcases List.mem_append.1 hx with hx | hx
  ·exact h.ne x hx
  ·simp at hx; subst hx; exact hne
 ·intro x v hv
  rw [DQ] at hv
  split at hv
  ·cases hv; exact ⟨p, hp, rfl⟩
  ·exact h.row x v hv
theorem endsU_len (es : List Pr) (k : Nat) : (endsU es k).length = (selU es k).length := by simp [endsU]
theorem Jo {m : List (Pr × Value)} {E : List Pr} (hlk : ∀ q, (lkM m q).isSome = decide (q ∈ E)) {S : List Int} {i j : Nat} {x y : Int} (hx : S[i]? = some x) (hy : S[j]? = some y) : JJ m S i j ↔ srt x y ∈ E := by
 unfold JJ
 constructor
 ·intro h
  have := h x y hx hy
  rw [hlk] at this
  simpa using this
 ·intro h x' y' hx' hy'
  rw [hx] at hx'; rw [hy] at hy'; cases hx'; cases hy'
  rw [hlk]; simpa using h
theorem kp5 {EU : List Pr} {B : List Int} {m : List (Pr × Value)} (hg : GoodE EU) (hl : B.length = 5) (hlk : ∀ q, (lkM m q).isSome = decide (q ∈ EU)) (hml : m.length = EU.length) :
  ((∀ i j, i < B.length → j < B.length → wantP 1 i j = true → JJ m B i j) ∧ cw 1 B.length B.length = m.length) ↔ KP EU B 4 := by
 have hc : cw 1 5 5 = 10 := by decide
 have key : (∀ i j, i < B.length → j < B.length → wantP 1 i j = true → JJ m B i j) ↔ ∀ q, q ∈ pairsOf B → q ∈ EU := by
  constructor
  ·intro h q hq
   obtain ⟨i, j, x, y, hij, hx, hy, rfl⟩ := CY.1 hq
   exact (Jo hlk hx hy).1 (h i j (List.getElem?_eq_some_iff.1 hx).1 (List.getElem?_eq_some_iff.1 hy).1 (by simp [wantP, hij]))
  ·intro h i j hi hj hw
   obtain ⟨x, hx⟩ : ∃ x, B[i]? = some x := ⟨_, List.getElem?_eq_getElem hi⟩
   obtain ⟨y, hy⟩ : ∃ y, B[j]? = some y := ⟨_, List.getElem?_eq_getElem hj⟩
   refine (Jo hlk hx hy).2 (h _ (CY.2 ⟨i, j, x, y, ?_, hx, hy, rfl⟩))
   simp [wantP] at hw
   exact hw
 rw [key, hl, hc, hml]
 unfold KP
 constructor
 ·rintro ⟨h1, h2⟩
  exact ⟨hg, .inl ⟨hl, rfl, h1, h2.symm⟩⟩
 ·rintro ⟨_, ⟨_, _, h1, h2⟩ | ⟨_, h, _⟩⟩
  ·exact ⟨h1, h2.symm⟩
  ·omega
theorem kp33 {EU : List Pr} {B : List Int} {m : List (Pr × Value)} (hg : GoodE EU) (hl : B.length = 6) (hlk : ∀ q, (lkM m q).isSome = decide (q ∈ EU)) (hml : m.length = EU.length) :
  ((∀ i j, i < (sidesOf EU B).length → j < (sidesOf EU B).length → wantP 2 i j = true → JJ m (sidesOf EU B) i j) ∧ cw 2 (sidesOf EU B).length (sidesOf EU B).length = m.length) ↔ KP EU B 3 := by
 have hc : cw 2 6 6 = 9 := by decide
 have hsl : (sidesOf EU B).length = 6 := (EZ EU B).length_eq.trans hl
 have key : (∀ i j, i < (sidesOf EU B).length → j < (sidesOf EU B).length → wantP 2 i j = true → JJ m (sidesOf EU B) i j) ↔ ∀ q, q ∈ crossOf (sidesOf EU B) → q ∈ EU := by
  constructor
  ·intro h q hq
   obtain ⟨i, j, x, y, hi, hj, hx, hy, rfl⟩ := Dr.1 hq
   exact (Jo hlk hx hy).1 (h i j (List.getElem?_eq_some_iff.1 hx).1 (List.getElem?_eq_some_iff.1 hy).1 (by simp [wantP, hi, hj]; omega))
  ·intro h i j hi hj hw
   obtain ⟨x, hx⟩ : ∃ x, (sidesOf EU B)[i]? = some x := ⟨_, List.getElem?_eq_getElem hi⟩
   obtain ⟨y, hy⟩ : ∃ y, (sidesOf EU B)[j]? = some y := ⟨_, List.getElem?_eq_getElem hj⟩
   simp [wantP] at hw
   exact (Jo hlk hx hy).2 (h _ (Dr.2 ⟨i, j, x, y, hw.2.1, hw.2.2, hx, hy, rfl⟩))
 rw [key, hsl, hc, hml]
 unfold KP
 constructor
 ·rintro ⟨h1, h2⟩
  exact ⟨hg, .inr ⟨hl, rfl, h1, h2.symm⟩⟩
 ·rintro ⟨_, ⟨_, h, _⟩ | ⟨_, _, h1, h2⟩⟩
  ·omega
  ·exact ⟨h1, h2.symm⟩
theorem Gx {n : Nat} {es : List Pr} {va : Value} {w : World} (hg : PrV w va es) (hV : Vld n es) :
  Calls Tryz.prog 98 #[.agg #[.int .i64 n, va]] w (Ret w [] fun r M => M = [] ∧ ∃ k0 A0 l0 c0 A1 l1 c1 b, r = .tuple #[.agg #[.int .i64 k0, .slice A0 l0 c0, .slice A1 l1 c1], .bool b, .int .i64 0] ∧ (b = true ↔ KuraOk n es)) := by
 have hg0 := hg
 obtain ⟨A, cap, rfl, hr, hlc, hcm, hle⟩ := hg
 have hfew := hV.few
 have hno : ∀ {L : List Chunk} {w' : World}, Own w [] w' L → Own w [] w' [] := fun hw => hw.sub (List.nil_sublist _)
 refine At (args := [_]) (L := []) Tryz.func98 rfl Tryz.ntmps98 rfl (Own.start _ _) ?_
 refine Zs ?_
 refine Zw (AR rfl rfl rfl) fun g1 => ?_
 refine Zw (AO rfl IW rfl) fun g2 => ?_
 refine Za ?_
 refine Za ?_
 refine Zx <| Zs ?_
 refine Zu (Aw (vs := [_, _]) rfl rfl Bo Bh rfl (Am rfl)) ?_
 refine Seq.rel rfl rfl (Ao en125 rfl rfl rfl (fun w' hw => IV n es A cap w' (hr.keep0 hw) (by omega))) ?_
 intro v23 L23 hC23
 obtain ⟨_, M, hP, rfl, rfl⟩ := hC23.resolve_left (fun h => h.1 hV)
 simp only [adjL, List.cons_append, List.nil_append]
 refine Zm ?_
 refine Ze ?_
 refine Ze ?_
 refine Za ?_
 refine Za ?_
 refine Zx <| DC.seq <| Zs ?_
 refine Zm ?_
 refine Zo (BB rfl rfl rfl) ?_
 refine Zx ?_
 refine Zd (fun c2 => ?_) fun c2 => ?_
 ·refine Zs ?_
  refine Zo (AB (cs := #[_, _, _]) rfl rfl HO rfl rfl) ?_
  refine Zm ?_
  refine Zy (Az (cs' := #[_, _, _]) rfl rfl rfl Ce rfl (Nat.le_of_ble_eq_true rfl) rfl) ?_
  refine Za ?_
  refine Za ?_
  refine Zx <| DC.ret <| Aa ?_
  refine B6 (cs := #[_, _, _]) (.inl rfl) rfl rfl rfl rfl ED Ce ?_
  simp at c2
 ·refine DC.skip <| Fin.then <| Zs ?_
  refine Zm ?_
  refine Seq.rel rfl rfl (Ao en126 rfl rfl rfl (fun w' hw => Ht (JQ hw (.cons 0 rfl (.cons 0 rfl (.cons 0 rfl (.cons 0 rfl (.cons 0 rfl .nil))))) hP))) ?_
  intro v32 L32 hC32
  obtain ⟨A', l', c', d, rfl, hD32⟩ : ∃ A' l' c' d, v32 = .tuple #[.slice A' l' c', .int .i64 (d : Nat)] ∧
    ((l' = (brV es n).length ∧ L32 = [slc (.slice A' (brV es n).length c') 3 1 (ints (brV es n))] ∧ ∀ u, u ∈ brV es n → degV es u = d) ∨ (l' = 0 ∧ ¬ ∃ d, ∀ u, u ∈ brV es n → degV es u = d)) := by
   rcases hC32 with ⟨A', c', d, h1, h2, h3⟩ | ⟨h1, _, h3⟩
   ·exact ⟨A', _, c', d, h1, .inl ⟨rfl, h2, h3⟩⟩
   ·exact ⟨none, 0, 0, 0, h1, .inr ⟨rfl, h3⟩⟩
  clear hC32
  refine Seq.own (M := blk g2 77 #[.int .i64 0, .slice none 0 0, .slice none 0 0] :: blk g1 24 #[.int .i64 n, .slice A es.length cap] :: L32) (fun w hw => (hw.sub (L' := L32 ++ [blk g2 77 #[.int .i64 0, .slice none 0 0, .slice none 0 0], blk g1 24 #[.int .i64 n, .slice A es.length cap]]) ((List.Sublist.refl L32).append (((((List.Sublist.refl _).cons _).cons _).cons _).cons _ |>.cons _))).perm (List.perm_append_comm (l₁ := [_, _]))) ?_
  refine Zm ?_
  refine Ze ?_
  refine Ze ?_
  refine Za ?_
  refine Za ?_
  refine Zx <| DC.seq ?_
  refine DC.cut (ι := Bool) (fun b => b = true ↔ ¬ ((l' = 5 ∧ d = 4) ∨ (l' = 6 ∧ d = 3)))
   (fun b => [(1, .pointer (some ⟨g1, 0, none⟩)), (2, .pointer (some ⟨g2, 0, none⟩)), (7, .slice A' l' c'), (8, .int .i64 d), (52, .bool b)])
   (fun _ => blk g2 77 #[.int .i64 0, .slice none 0 0, .slice none 0 0] :: blk g1 24 #[.int .i64 n, .slice A es.length cap] :: L32) ?first5 ?rest5
  case first5 =>
   refine DC.region ?_
   refine Zm ?_
   refine Zn Tryz.underlying44 ?_
   refine Zo (AN rfl rfl rfl) ?_
   refine Zm ?_
   refine Seq.split 38 rfl (fun k5_3 => ?_) (fun k5_3 => ?_)
   ·refine Zm ?_
    refine Zo (AN rfl rfl rfl) ?_
    refine Zt ?_
    refine Zo (Bg rfl rfl) ?_
    refine Zm ?_
    refine Seq.split 43 rfl (fun k5_8 => ?_) (fun k5_8 => ?_)
    ·refine Zm ?_
     refine Zn Tryz.underlying44 ?_
     refine Zo (AN rfl rfl rfl) ?_
     refine Zm ?_
     refine Seq.split 47 rfl (fun k5_12 => ?_) (fun k5_12 => ?_)
     ·refine Zm ?_
      refine Zo (AN rfl rfl rfl) ?_
      refine Zt ?_
      refine Zo (Bg rfl rfl) ?_
      refine Zt ?_
      refine Seq.nil ?_
      refine AJ _ ?_ ⟨rfl, rfl, rfl, rfl, rfl, trivial⟩ (Pick.all _)
      simp at *
      omega
     ·refine Zk ?_
      refine Zk ?_
      refine Zg ?_
      refine Zo (Bg rfl rfl) ?_
      refine Zt ?_
      refine Seq.nil ?_
      refine AJ _ ?_ ⟨rfl, rfl, rfl, rfl, rfl, trivial⟩ (Pick.all _)
      simp at *
      omega
    ·refine Zk ?_
     refine Zk ?_
     refine Zk ?_
     refine Zk ?_
     refine Zk ?_
     refine Zk ?_
     refine Zk ?_
     refine Zk ?_
     refine Zg ?_
     refine Seq.nil ?_
     refine AJ _ ?_ ⟨rfl, rfl, rfl, rfl, rfl, trivial⟩ (Pick.all _)
     simp at *
     omega
   ·refine Zk ?_
    refine Zk ?_
    refine Zg ?_
    refine Zo (Bg rfl rfl) ?_
    refine Zm ?_
    refine Zm ?_
    refine Zn Tryz.underlying44 ?_
    refine Zo (AN rfl rfl rfl) ?_
    refine Zm ?_
    refine Seq.split 47 rfl (fun k5_12 => ?_) (fun k5_12 => ?_)
    ·refine Zm ?_
     refine Zo (AN rfl rfl rfl) ?_
     refine Zt ?_
     refine Zo (Bg rfl rfl) ?_
     refine Zt ?_
     refine Seq.nil ?_
     refine AJ _ ?_ ⟨rfl, rfl, rfl, rfl, rfl, trivial⟩ (Pick.all _)
     simp at *
     omega
    ·refine Zk ?_
     refine Zk ?_
     refine Zg ?_
     refine Zo (Bg rfl rfl) ?_
     refine Zt ?_
     refine Seq.nil ?_
     refine AJ _ ?_ ⟨rfl, rfl, rfl, rfl, rfl, trivial⟩ (Pick.all _)
     simp at *
     omega
  case rest5 =>
   rintro b5 hb5
   refine Zd (fun c5 => ?_) fun c5 => ?_
   ·refine Zs ?_
    refine Zo (AB (cs := #[_, _, _]) rfl rfl HO rfl rfl) ?_
    refine Zy (Az (cs' := #[_, _, _]) rfl rfl rfl Ce rfl (Nat.le_of_ble_eq_true rfl) rfl) ?_
    refine Za ?_
    refine Za ?_
    refine Zx <| DC.ret <| Aa ?_
    refine Fin.weak (E' := [(2, .pointer (some ⟨g2, 0, none⟩)), (3, .bool false), (4, .int .i64 0)]) (L' := [blk g2 77 #[.int .i64 0, .slice none 0 0, .slice none 0 0]]) ⟨rfl, rfl, rfl, trivial⟩ (.cons 0 rfl .nil) ?_
    refine B6 (cs := #[_, _, _]) (.inl rfl) rfl rfl rfl rfl ED Ce ?_
    refine ⟨[], fun w hw => hw.sub (List.nil_sublist _), rfl, _, _, _, _, _, _, _, false, rfl, ?_⟩
    simp only [Bool.false_eq_true, false_iff]
    rintro ⟨d', hd', hK⟩
    have h5 := hb5.1 c5
    rcases hD32 with ⟨hl', _, hd⟩ | ⟨_, hno2⟩
    ·have hdd : brV es n ≠ [] → d = d' := fun hne => by
      obtain ⟨u, hu⟩ := List.exists_mem_of_ne_nil _ hne
      rw [← hd u hu, hd' u hu]
     rcases hK.2 with ⟨k1, k2, _⟩ | ⟨k1, k2, _⟩
     ·have := hdd (fun e => by rw [e] at k1; simp at k1)
      exact h5 (.inl ⟨by omega, by omega⟩)
     ·have := hdd (fun e => by rw [e] at k1; simp at k1)
      exact h5 (.inr ⟨by omega, by omega⟩)
    ·exact hno2 ⟨d', hd'⟩
   ·refine DC.skip <| Fin.then <| DC.seq ?_
    have hld : (l' = 5 ∧ d = 4) ∨ (l' = 6 ∧ d = 3) := by
     apply Classical.byContradiction
     intro h
     rw [hb5.2 h] at c5; cases c5
    obtain ⟨rfl, rfl, hd⟩ := hD32.resolve_right (fun h => by have := h.1; omega)
    refine DC.region ?_
    refine Zu (Aw (vs := [_, _]) rfl rfl Bo Bh rfl (Am rfl)) ?_
    refine Seq.rel rfl rfl (Ao en127 rfl rfl rfl (fun w' hw => JV (hg0.keep0 hw) hV)) ?_
    rintro _ _ ⟨v9, cs, rfl, hch, rfl⟩
    refine Seq.own (M := slc v9 44 1 (rowsV cs) :: blk g2 77 #[.int .i64 0, .slice none 0 0, .slice none 0 0] :: blk g1 24 #[.int .i64 n, .slice A es.length cap] :: slc (.slice A' (brV es n).length c') 3 1 (ints (brV es n)) :: rowsC 3 cs) (fun w hw => hw.perm (List.Perm.cons _ (List.perm_append_comm (l₁ := [_, _, _]) (l₂ := rowsC 3 cs)))) ?_
    refine Zm ?_
    refine Ze ?_
    refine Ze ?_
    refine Za ?_
    refine Za ?_
    refine Zx <| Zs ?_
    refine Seq.rel rfl rfl (Dx (enc := encP) rfl) ?_
    rintro _ _ ⟨gm, rfl, rfl⟩
    simp only [List.cons_append, List.nil_append]
    refine Za ?_
    refine Zx <| DC.seq <| DC.seq ?_
    obtain ⟨EU, hEU⟩ : ∃ EU, EU = endsU es es.length := ⟨_, rfl⟩
    have hEl : EU.length = cs.length := by rw [hEU, endsU_len, hch.len]
    have hcsl : cs.length ≤ es.length := by rw [hch.len]; exact Ek _
    have hrows : ∀ p, p ∈ cs → p.2.length ≤ 1000000000 := fun p hp => by
     obtain ⟨j, hj⟩ := List.mem_iff_getElem?.1 hp
     obtain ⟨e, he⟩ : ∃ e, (selU es es.length)[j]? = some e := ⟨_, List.getElem?_eq_getElem (by rw [← hch.len]; exact (List.getElem?_eq_some_iff.1 hj).1)⟩
     have := (hch.at' j e p he hj).2.2
     omega
    refine Ea (i := 1) (v := v9) rfl ?_
    rintro A9 c9 rfl hA9
    rw [rowsV_length]
    refine DC.region ?_
    refine Zm ?_
    refine Zn Tryz.underlying25 ?_
    refine Zm ?_
    refine Zx <| DC.block ?_
    refine DC.loop (ι := ReI) (fun j => j.i ≤ cs.length ∧ MapE EU cs j.i j.m)
     (fun j => [(2, .pointer (some ⟨g2, 0, none⟩)), (7, .slice A' (brV es n).length c'), (8, .int .i64 d), (11, .map (some gm)), (60, .slice A9 cs.length c9), (61, .int .i64 cs.length), (62, .int .i64 j.i)])
     (fun j => mpc encP gm j.m :: slc (.slice A9 cs.length c9) 44 1 (rowsV cs) :: blk g2 77 #[.int .i64 0, .slice none 0 0, .slice none 0 0] :: slc (.slice A' (brV es n).length c') 3 1 (ints (brV es n)) :: rowsC 3 cs) (fun j => cs.length - j.i) ⟨0, []⟩
     ⟨Nat.zero_le _, rfl, by simp, by simp, fun _ _ h => by cases h⟩ ⟨rfl, rfl, rfl, rfl, rfl, rfl, rfl, trivial⟩ (.cons 0 rfl (.cons 0 rfl (.cons 0 rfl (.cons 1 rfl (B0 _ _))))) ?_
    rintro ⟨i, m⟩ ⟨hi, hmE⟩
    dsimp only at hi hmE ⊢
    refine Zs ?_
    refine Zc ?_
    refine Zx <| DC.seq ?_
    refine Zd (fun c10 => ?_) fun c10 => ?_
    ·have hlt : i < cs.length := by simpa using c10
     obtain ⟨p, hp⟩ : ∃ p, cs[i]? = some p := ⟨_, List.getElem?_eq_getElem hlt⟩
     obtain ⟨e, he⟩ : ∃ e, (selU es es.length)[i]? = some e := ⟨_, List.getElem?_eq_getElem (by rw [← hch.len]; exact hlt)⟩
     obtain ⟨⟨p0, q0, hp0, hq0, hw1, hw2⟩, hpl, hpu⟩ := hch.at' i e p he hp
     have hEUi : EU[i]? = some (srt (endA es e) (endB es e)) := by rw [hEU]; unfold endsU; rw [List.getElem?_map, he]; rfl
     obtain ⟨ad9, rfl⟩ := hA9 (fun e => by have := congrArg List.length e; simp at this; rw [this] at hlt; simp at hlt)
     refine DC.skip <| Fin.then <| DC.seq <| DC.block <| Zs ?_
     refine Zo (Ah (ad' := ad9.add i) rfl rfl rfl Tryz.underlying25 Br (by omega) (by omega) rfl) ?_
     refine Zu (Ai rfl rfl Bp (CE (i := 1) (q := p.1) rfl (by simp [rowsV, hp]))) ?_
     refine Za ?_
     refine Zx <| DC.seq ?_
     refine DC.slcs (v := p.1) (i := i + 4) (xs := p.2) (t := 3) (by simp [rowsC, hp]) (by omega) ?_
     rintro A3 c3 hp1 hA3
     obtain ⟨ad3, rfl⟩ := hA3 (fun e => by rw [e] at hp0; simp at hp0)
     have hrow : ∀ {F : List Chunk} (a b c d : Chunk), (a :: b :: c :: d :: rowsC 3 cs)[i + 4]? = some (slc (.slice (some ad3) p.2.length c3) 3 1 (ints p.2)) := fun a b c d => by rw [← hp1]; simp [rowsC, hp]
     rw [hp1]
     refine AD (cl := [.q, .q, .v, .q, .q, .q, .q, .q, .v, .q, .n, .g]) (A := [0, 1, 3, 0, 0, 16, 48, 120, 248, 511, 0, 2047]) (order := [0, 1, 2, 3, 4, 5, 6, 7, 8, 9, 10, 11]) [] mixed (by kernel_rfl) (fun w hw => hw.pick .nil) ?_
     refine Ym ?_
     refine Yo rfl (Ah (ad' := ad3.add 0) rfl rfl rfl Tryz.underlying44 AL (by omega) (by omega) rfl) ?_
     refine Aj rfl rfl rfl rfl (Ai rfl rfl AI (BJ (t := 3) (i := i + 4) (l := p.2.length) (c := c3) (hrow (F := []) _ _ _ _) hp0 (by omega))) ?_
     refine Ym ?_
     refine Ym ?_
     refine Yo rfl (CL rfl rfl Tryz.underlying44) ?_
     refine Yo rfl (BA rfl rfl rfl (by omega)) ?_
     refine Yo rfl (Ah (ad' := ad3.add (p.2.length - 1)) rfl rfl rfl Tryz.underlying44 AL (by omega) (by omega) (by rw [show ((p.2.length : Int) - 1).toNat = p.2.length - 1 by omega])) ?_
     refine Aj rfl rfl rfl rfl (Ai rfl rfl AI (BJ (t := 3) (i := i + 4) (l := p.2.length) (c := c3) (hrow (F := []) _ _ _ _) hq0 (by omega))) ?_
     refine Yo rfl (Ji (cs := #[.int .i64 p0, .int .i64 q0]) rfl rfl Tryz.underlying35 AL ze35 rfl rfl rfl) ?_
     refine Bt rfl rfl rfl rfl (AO rfl ze35 rfl) fun g14 => ?_
     refine Flow.sto (V := (blk g14 35 #[.int .i64 0, .int .i64 0] :: mpc encP gm m :: slc (.slice (some ad9) cs.length c9) 44 1 (rowsV cs) :: blk g2 77 #[.int .i64 0, .slice none 0 0, .slice none 0 0] :: slc (.slice A' (brV es n).length c') 3 1 (ints (brV es n)) :: rowsC 3 cs)) rfl rfl rfl rfl rfl (Az (cs' := #[_, _]) rfl rfl rfl sz35 rfl (Nat.le_of_ble_eq_true rfl) rfl) (fun w hw => hw.pick (.nil)) ?_
     refine Flow.end rfl ?_
     simp only [zq, zr]
     refine Fin.then <| DC.seq <| Zs ?_
     refine Zm ?_
     refine Zu (Aw (vs := [_, _]) rfl rfl ag35 sz35 rfl (Am rfl)) ?_
     refine Zu (CW (k := (p0, q0)) (ok := true) 1 rfl Gb rfl rfl rfl Tryz.underlying205 CV rfl) ?_
     refine Zm ?_
     refine Ze ?_
     refine Ze ?_
     refine Za ?_
     refine Za ?_
     refine Zx <| Zs ?_
     refine Zm ?_
     refine Zm ?_
     refine Seq.split 83 rfl (fun k14_1 => ?_) (fun k14_1 => ?_)
     ·refine Zk ?_
      refine Zk ?_
      refine Zk ?_
      refine Zk ?_
      refine Zk ?_
      refine Zt ?_
      refine Zx ?_
      refine AM rfl ?_
      refine Zs ?_
      refine Zo (AB (cs := #[_, _, _]) rfl rfl HO rfl rfl) ?_
      refine Zy (Az (cs' := #[_, _, _]) rfl rfl rfl Ce rfl (Nat.le_of_ble_eq_true rfl) rfl) ?_
      refine Za ?_
      refine Za ?_
      refine Zx <| DC.ret <| Aa <| Ae <| Aa <| Aa <| Ae <| Aa ?_
      refine Fin.weak (E' := [(2, .pointer (some ⟨g2, 0, none⟩)), (3, .bool false), (4, .int .i64 0)]) (L' := [blk g2 77 #[.int .i64 0, .slice none 0 0, .slice none 0 0]]) ⟨rfl, rfl, rfl, trivial⟩ (.cons 3 rfl .nil) ?_
      refine B6 (cs := #[_, _, _]) (.inl rfl) rfl rfl rfl rfl ED Ce ?_
      refine ⟨[], fun w hw => hw.sub (List.nil_sublist _), rfl, _, _, _, _, _, _, _, false, rfl, ?_⟩
      simp only [Bool.false_eq_true, false_iff]
      rintro ⟨d', hd', hK, _⟩
      rw [← hEU] at hK
      have hin : (p0, q0) ∈ m.map (·.1) := by rw [GK] at k14_1; simpa using k14_1
      rw [hmE.keys] at hin
      by_cases hab : endA es e = endB es e
      ·exact hK.2 _ (List.mem_of_getElem? hEUi) (by unfold srt; simp only; omega)
      ·obtain ⟨e1, e2⟩ := hw2 hab
       have hpq : (p0, q0) = srt (endA es e) (endB es e) := by unfold srt; rw [e1, e2]
       rw [hpq] at hin
       obtain ⟨j, hj⟩ := List.mem_iff_getElem?.1 hin
       rw [List.getElem?_take] at hj
       split at hj
       ·rename_i hji
        have := (List.getElem?_inj (by have := (List.getElem?_eq_some_iff.1 hj).1; exact this) hK.1).1 (hj.trans hEUi.symm)
        omega
       ·cases hj
     ·refine Zo (Km (ad' := ⟨g14, 0, none⟩) rfl rfl rfl Tryz.underlying35 AL (by omega) (by omega) (AC _ _)) ?_
      refine Zl AI ?_
      refine Zo (Km (ad' := ⟨g14, 1, none⟩) rfl rfl rfl Tryz.underlying35 AL (by omega) (by omega) (AC _ _)) ?_
      refine Zl AI ?_
      refine Zo (AN rfl rfl rfl) ?_
      refine Zg ?_
      refine Zx ?_
      refine Zd (fun c14 => ?_) fun c14 => ?_
      ·refine Zs ?_
       refine Zo (AB (cs := #[_, _, _]) rfl rfl HO rfl rfl) ?_
       refine Zy (Az (cs' := #[_, _, _]) rfl rfl rfl Ce rfl (Nat.le_of_ble_eq_true rfl) rfl) ?_
       refine Za ?_
       refine Za ?_
       refine Zx <| DC.ret <| Aa <| Ae <| Aa <| Aa <| Ae <| Aa ?_
       refine Fin.weak (E' := [(2, .pointer (some ⟨g2, 0, none⟩)), (3, .bool false), (4, .int .i64 0)]) (L' := [blk g2 77 #[.int .i64 0, .slice none 0 0, .slice none 0 0]]) ⟨rfl, rfl, rfl, trivial⟩ (.cons 3 rfl .nil) ?_
       refine B6 (cs := #[_, _, _]) (.inl rfl) rfl rfl rfl rfl ED Ce ?_
       refine ⟨[], fun w hw => hw.sub (List.nil_sublist _), rfl, _, _, _, _, _, _, _, false, rfl, ?_⟩
       simp only [Bool.false_eq_true, false_iff]
       rintro ⟨d', hd', hK, _⟩
       rw [← hEU] at hK
       have hpq : p0 = q0 := by simpa using c14
       refine hK.2 _ (List.mem_of_getElem? hEUi) ?_
       by_cases hab : endA es e = endB es e
       ·unfold srt; simp only; omega
       ·obtain ⟨e1, e2⟩ := hw2 hab
        unfold srt; simp only; omega
      ·refine DC.skip <| Fin.then ?_
       have hne : p0 ≠ q0 := by simpa using c14
       have hab : endA es e ≠ endB es e := fun h => hne (hw1 h)
       obtain ⟨e1, e2⟩ := hw2 hab
       have hpq : (p0, q0) = srt (endA es e) (endB es e) := by unfold srt; rw [e1, e2]
       have hnin : (p0, q0) ∉ m.map (·.1) := by rw [GK] at k14_1; simpa using k14_1
       refine DC.region ?_
       refine Zm ?_
       refine Zu (Aw (vs := [_, _]) rfl rfl ag35 sz35 rfl (Am rfl)) ?_
       refine Zm ?_
       refine Zy (B3 (k := (p0, q0)) 1 rfl Gb rfl rfl rfl rfl Tryz.underlying205 rfl) ?_
       refine Seq.nil <| Fin.inBlock <| Fin.then <| DC.region ?_
       refine Zp ?_
       refine Zm ?_
       refine Seq.nil ?_
       refine Fin.again ⟨i + 1, putM (p0, q0) (.slice (some ad3) p.2.length c3) m⟩ (by dsimp only; omega) ⟨by dsimp only; omega, ?_⟩ ⟨rfl, rfl, rfl, rfl, rfl, rfl, rfl, trivial⟩ (B0 _ _)
       dsimp only
       rw [← hp1]
       exact hmE.next (by rw [hpq]; exact hEUi) hnin hne (List.mem_of_getElem? hp)
    ·refine DC.exit <| Ad <| Ad <| Ag <| Fin.then <| DC.seq <| DC.seq ?_
     have hie : i = cs.length := by simp at c10; omega
     subst hie
     have hke : m.map (·.1) = EU := by rw [hmE.keys, ← hEl, List.take_length]
     have hgood : GoodE EU := by
      have h1 := hmE.nd
      have h2 := hmE.ne
      rw [← hEl, List.take_length] at h1 h2
      exact ⟨h1, h2⟩
     have hml : m.length = EU.length := by rw [← hke, List.length_map]
     have hlk : ∀ q, (lkM m q).isSome = decide (q ∈ EU) := fun q => by rw [GK, hke]; congr
     have hiff : KuraOk n es ↔ KP EU (brV es n) d := by
      rw [hEU]
      constructor
      ·rintro ⟨d', hd', hK⟩
       have hne : brV es n ≠ [] := fun e => by rw [e] at hld; simp at hld
       obtain ⟨u, hu⟩ := List.exists_mem_of_ne_nil _ hne
       have : d = d' := by rw [← hd u hu, hd' u hu]
       rw [this]; exact hK
      ·intro h; exact ⟨d, hd, h⟩
     refine DC.own (M := mpc encP gm m :: slc (.slice A' (brV es n).length c') 3 1 (ints (brV es n)) :: (rowsC 3 cs ++ [blk g2 77 #[.int .i64 0, .slice none 0 0, .slice none 0 0]])) (fun w hw => (hw.sub (L' := mpc encP gm m :: blk g2 77 #[.int .i64 0, .slice none 0 0, .slice none 0 0] :: slc (.slice A' (brV es n).length c') 3 1 (ints (brV es n)) :: rowsC 3 cs) ((List.Sublist.refl _).cons _ |>.cons_cons _)).perm (List.Perm.cons _ (List.perm_append_comm (l₁ := slc (.slice A' (brV es n).length c') 3 1 (ints (brV es n)) :: rowsC 3 cs) (l₂ := [blk g2 77 #[.int .i64 0, .slice none 0 0, .slice none 0 0]])))) ?_
     refine DC.region ?_
     refine Zm ?_
     refine Zo (AN rfl rfl rfl) ?_
     refine Zx ?_
     refine Zd (fun c18 => ?_) fun c18 => ?_
     ·refine Zs ?_
      refine Zm ?_
      refine Zm ?_
      refine Seq.gen rfl rfl (BK en128 rfl rfl rfl (Lc := mpc encP gm m :: slc (.slice A' (brV es n).length c') 3 1 (ints (brV es n)) :: rowsC 3 cs) (F := [blk g2 77 #[.int .i64 0, .slice none 0 0, .slice none 0 0]]) (.refl _) (fun k hk => hk) (fun w' hw => Gl (hw.sub (L' := mpc encP gm m :: slc (.slice A' (brV es n).length c') 3 1 (ints (brV es n)) :: rowsC 3 cs) (List.sublist_append_left _ _)).self hmE.row hrows (by omega))) ?_
      rintro _ _ ⟨_, ⟨rfl, k0, A0, l0, c0, A1, l1, c1, bb, rfl, hbb⟩, rfl⟩
      simp only [List.nil_append]
      refine Zm ?_
      refine Ze ?_
      refine Ze ?_
      refine Zw (AO rfl IW rfl) fun g17 => ?_
      refine Zy (Az (cs' := #[_, _, _]) rfl rfl rfl Ce rfl (Nat.le_of_ble_eq_true rfl) rfl) ?_
      refine Za ?_
      refine Zx <| Zs ?_
      refine Zu (Aw (vs := [_, _, _]) rfl rfl ED Ce rfl (Am rfl)) ?_
      refine Zm ?_
      refine Zy (Az (cs' := #[_, _, _]) rfl rfl rfl Ce rfl (Nat.le_of_ble_eq_true rfl) rfl) ?_
      refine Za ?_
      refine Za ?_
      refine Zx <| DC.ret <| Aa ?_
      refine B6 (cs := #[_, _, _]) (.inl rfl) rfl rfl rfl rfl ED Ce ?_
      refine ⟨[], fun w hw => hw.sub (List.nil_sublist _), rfl, _, _, _, _, _, _, _, bb, rfl, ?_⟩
      have hd4 : d = 4 := by simp at c18; omega
      rw [hbb, hiff, hd4]
      exact kp5 hgood (by omega) hlk hml
     ·refine DC.skip <| Fin.then <| Zs ?_
      refine Zm ?_
      refine Zm ?_
      refine Seq.gen rfl rfl (BK en129 rfl rfl rfl (Lc := mpc encP gm m :: slc (.slice A' (brV es n).length c') 3 1 (ints (brV es n)) :: rowsC 3 cs) (F := [blk g2 77 #[.int .i64 0, .slice none 0 0, .slice none 0 0]]) (.refl _) (fun k hk => hk) (fun w' hw => J9 (E := EU) (hw.sub (L' := mpc encP gm m :: slc (.slice A' (brV es n).length c') 3 1 (ints (brV es n)) :: rowsC 3 cs) (List.sublist_append_left _ _)).self hmE.row hrows (by omega) hlk)) ?_
      rintro vs _ ⟨_, rfl, rfl⟩
      have hsl : (sidesOf EU (brV es n)).length = (brV es n).length := (EZ _ _).length_eq
      refine Zm ?_
      refine Seq.gen rfl rfl (BK en128 rfl rfl rfl (Lc := mpc encP gm m :: slc vs 3 1 (ints (sidesOf EU (brV es n))) :: rowsC 3 cs) (F := [blk g2 77 #[.int .i64 0, .slice none 0 0, .slice none 0 0]]) (.refl _) (fun k hk => hk) (fun w' hw => Gl (hw.sub (L' := mpc encP gm m :: slc vs 3 1 (ints (sidesOf EU (brV es n))) :: rowsC 3 cs) (List.sublist_append_left _ _)).self hmE.row hrows (by omega))) ?_
      rintro _ _ ⟨_, ⟨rfl, k0, A0, l0, c0, A1, l1, c1, bb, rfl, hbb⟩, rfl⟩
      simp only [List.nil_append]
      refine Zm ?_
      refine Ze ?_
      refine Ze ?_
      refine Zw (AO rfl IW rfl) fun g19 => ?_
      refine Zy (Az (cs' := #[_, _, _]) rfl rfl rfl Ce rfl (Nat.le_of_ble_eq_true rfl) rfl) ?_
      refine Za ?_
      refine Zx <| Zs ?_
      refine Zu (Aw (vs := [_, _, _]) rfl rfl ED Ce rfl (Am rfl)) ?_
      refine Zm ?_
      refine Zy (Az (cs' := #[_, _, _]) rfl rfl rfl Ce rfl (Nat.le_of_ble_eq_true rfl) rfl) ?_
      refine Za ?_
      refine Za ?_
      refine Zx <| DC.ret ?_
      refine B6 (cs := #[_, _, _]) (.inl rfl) rfl rfl rfl rfl ED Ce ?_
      refine ⟨[], fun w hw => hw.sub (List.nil_sublist _), rfl, _, _, _, _, _, _, _, bb, rfl, ?_⟩
      have hd3 : d = 3 := by simp at c18; omega
      rw [hbb, hiff, hd3]
      exact kp33 hgood (by omega) hlk hml
end Go.Fl

namespace Go.Proofs
open Go.Shelf Go.RowKit Go.Lib Go.Sort
def Tryz.sortEdge_ren : Go.Shelf.Ren := ⟨fun | 6 => 74 | 15 => 108 | 14 => 107 | 28 => 144 | 29 => 145 | 20 => 136 | 21 => 137 | 22 => 138 | 23 => 139 | 24 => 140 | 25 => 141 | 26 => 142 | 27 => 143 | 46 => 166 | 47 => 167 | 48 => 168 | 49 => 169 | 50 => 170 | 57 => 184 | n => n, fun | 22 => 22 | 24 => 43 | 25 => 142 | 3 => 3 | 39 => 180 | 0 => 0 | 53 => 219 | 55 => 221 | 4 => 4 | 46 => 213 | 45 => 212 | 50 => 195 | 5 => 5 | 9 => 9 | 66 => 239 | 70 => 243 | 76 => 254 | 77 => 112 | n => n, fun n => n⟩
theorem ES : Go.Proofs.SlLaysF0.n6 Tryz.prog Tryz.sortEdge_ren := {
 mixed := by kernel_rfl
 f6 := ⟨"slices.SortFunc[[]tangram/api.Edge,tangram/api.Edge]", by decide, Tryz.func74.trans (congrArg some (by kernel_rfl))⟩
 f14 := ⟨"slices.pdqsortCmpFunc[tangram/api.Edge]", by decide, Tryz.func107.trans (congrArg some (by kernel_rfl))⟩
 f15 := Tryz.func108.trans (congrArg some (by kernel_rfl))
 f20 := ⟨"slices.insertionSortCmpFunc[tangram/api.Edge]", by decide, Tryz.func136.trans (congrArg some (by kernel_rfl))⟩
 f21 := ⟨"slices.heapSortCmpFunc[tangram/api.Edge]", by decide, Tryz.func137.trans (congrArg some (by kernel_rfl))⟩
 f22 := ⟨"slices.breakPatternsCmpFunc[tangram/api.Edge]", by decide, Tryz.func138.trans (congrArg some (by kernel_rfl))⟩
 f23 := ⟨"slices.choosePivotCmpFunc[tangram/api.Edge]", by decide, Tryz.func139.trans (congrArg some (by kernel_rfl))⟩
 f24 := ⟨"slices.reverseRangeCmpFunc[tangram/api.Edge]", by decide, Tryz.func140.trans (congrArg some (by kernel_rfl))⟩
 f25 := ⟨"slices.partialInsertionSortCmpFunc[tangram/api.Edge]", by decide, Tryz.func141.trans (congrArg some (by kernel_rfl))⟩
 f26 := ⟨"slices.partitionEqualCmpFunc[tangram/api.Edge]", by decide, Tryz.func142.trans (congrArg some (by kernel_rfl))⟩
 f27 := ⟨"slices.partitionCmpFunc[tangram/api.Edge]", by decide, Tryz.func143.trans (congrArg some (by kernel_rfl))⟩
 f28 := Tryz.func144.trans (congrArg some (by kernel_rfl))
 f29 := Tryz.func145.trans (congrArg some (by kernel_rfl))
 f46 := ⟨"slices.siftDownCmpFunc[tangram/api.Edge]", by decide, Tryz.func166.trans (congrArg some (by kernel_rfl))⟩
 f47 := Tryz.func167.trans (congrArg some (by kernel_rfl))
 f48 := Tryz.func168.trans (congrArg some (by kernel_rfl))
 f49 := ⟨"slices.medianAdjacentCmpFunc[tangram/api.Edge]", by decide, Tryz.func169.trans (congrArg some (by kernel_rfl))⟩
 f50 := ⟨"slices.medianCmpFunc[tangram/api.Edge]", by decide, Tryz.func170.trans (congrArg some (by kernel_rfl))⟩
 f57 := ⟨"slices.order2CmpFunc[tangram/api.Edge]", by decide, Tryz.func184.trans (congrArg some (by kernel_rfl))⟩
 t0 := Tryz.underlying0
 a0 := Tryz.isAgg0
 z0 := Tryz.sizeOf0
 v0 := Tryz.zeroValue0
 t3 := Tryz.underlying3
 a3 := Tryz.isAgg3
 z3 := Tryz.sizeOf3
 v3 := Tryz.zeroValue3
 t4 := Tryz.underlying4
 a4 := Tryz.isAgg4
 z4 := Tryz.sizeOf4
 v4 := Tryz.zeroValue4
 t5 := Tryz.underlying5
 a5 := Tryz.isAgg5
 z5 := Tryz.sizeOf5
 v5 := Tryz.zeroValue5
 t9 := Tryz.underlying9
 a9 := Tryz.isAgg9
 z9 := Tryz.sizeOf9
 v9 := Tryz.zeroValue9
 t22 := Tryz.underlying22
 a22 := Tryz.isAgg22
 z22 := Tryz.sizeOf22
 v22 := Tryz.zeroValue22
 t25 := Tryz.underlying142
 a25 := Tryz.isAgg142
 z25 := Tryz.sizeOf142
 v25 := Tryz.zeroValue142
 t39 := Tryz.underlying180
 a39 := Tryz.isAgg180
 z39 := Tryz.sizeOf180
 v39 := Tryz.zeroValue180
 t45 := Tryz.underlying212
 a45 := Tryz.isAgg212
 z45 := Tryz.sizeOf212
 v45 := Tryz.zeroValue212
 t46 := Tryz.underlying213
 a46 := Tryz.isAgg213
 z46 := Tryz.sizeOf213
 v46 := Tryz.zeroValue213
 t50 := Tryz.underlying195
 a50 := Tryz.isAgg195
 z50 := Tryz.sizeOf195
 v50 := Tryz.zeroValue195
 t53 := Tryz.underlying219
 a53 := Tryz.isAgg219
 z53 := Tryz.sizeOf219
 v53 := Tryz.zeroValue219
 t55 := Tryz.underlying221
 a55 := Tryz.isAgg221
 z55 := Tryz.sizeOf221
 v55 := Tryz.zeroValue221
 t66 := Tryz.underlying239
 a66 := Tryz.isAgg239
 z66 := Tryz.sizeOf239
 v66 := Tryz.zeroValue239
 t70 := Tryz.underlying243
 a70 := Tryz.isAgg243
 z70 := Tryz.sizeOf243
 v70 := Tryz.zeroValue243
 t76 := Tryz.underlying254
 a76 := Tryz.isAgg254
 z76 := Tryz.sizeOf254
 v76 := Tryz.zeroValue254
 t77 := Tryz.underlying112
 a77 := Tryz.isAgg112
 z77 := Tryz.sizeOf112
 v77 := Tryz.zeroValue112 }
def Tryz.cmpInt_ren : Go.Shelf.Ren := ⟨fun | 5 => 156 | 7 => 178 | n => n, fun | 22 => 3 | 3 => 3 | 4 => 4 | n => n, fun n => n⟩
theorem La : Go.Proofs.SlLaysC2.n5 Tryz.prog Tryz.cmpInt_ren := {
 mixed := by kernel_rfl
 f5 := ⟨"cmp.Compare[int]", by decide, Tryz.func156.trans (congrArg some (by kernel_rfl))⟩
 f7 := ⟨"cmp.isNaN[int]", by decide, Tryz.func178.trans (congrArg some (by kernel_rfl))⟩
 t3 := Tryz.underlying3
 a3 := Tryz.isAgg3
 z3 := Tryz.sizeOf3
 v3 := Tryz.zeroValue3
 t4 := Tryz.underlying4
 a4 := Tryz.isAgg4
 z4 := Tryz.sizeOf4
 v4 := Tryz.zeroValue4
 t22 := Tryz.underlying3
 a22 := Tryz.isAgg3
 z22 := Tryz.sizeOf3
 v22 := Tryz.zeroValue3 }
/-- An edge's two cells. -/
def Tryz.encE (x : Int × Int) : List Value := [.int .i64 x.1, .int .i64 x.2]
/-- What cmp.Or says of two. -/
def Tryz.orI (a b : Int) : Int := if a = 0 then b else a
def Tryz.cmpE (x y : Int × Int) : Int := Tryz.orI (Lib.compareInt x.1 y.1) (Lib.compareInt x.2 y.2)
end Go.Proofs

namespace Go.Fl
open Go Go.Proofs
variable [Lo]
theorem HM (a b : Int) (w : World) : Calls Tryz.prog 156 #[.int .i64 a, .int .i64 b] w (Ret w [] fun r L => L = [] ∧ r = .int .i64 (Lib.compareInt a b)) := by
 refine (AnyG.cmp_Compare_int La a b w).mono ?_
 rintro e w' ⟨rfl, rfl⟩
 exact ⟨_, _, rfl, ⟨rfl, rfl⟩, Own.start _ _⟩
theorem or_calls {g t : Nat} {a b : Int} {w : World} (hg : w.heap[g]? = some (.cells #[.int .i64 a, .int .i64 b] t (0, 0))) :
  Calls Tryz.prog 155 #[.slice (some ⟨g, 0, none⟩) 2 2] w (Ret w [] fun r L => L = [] ∧ r = .int .i64 (Tryz.orI a b)) := by
 have h0 : w.cell? ⟨g, 0, none⟩ = some (.int .i64 a) := by rw [cell_of_row w g 0 _ t (0, 0) hg]; rfl
 have h1 : w.cell? ⟨g, 1, none⟩ = some (.int .i64 b) := by rw [cell_of_row w g 1 _ t (0, 0) hg]; rfl
 refine At (args := [_]) (L := []) Tryz.func155 rfl Tryz.ntmps155 rfl (Own.start _ _) ?_
 refine Zs ?_
 refine Za ?_
 refine Zx <| Zs ?_
 refine Za ?_
 refine Zx <| DC.seq <| Zs ?_
 refine Zm ?_
 refine Zn Tryz.underlying44 ?_
 refine Zm ?_
 refine Zx <| DC.block ?_
 refine DC.loop (ι := Nat) (fun i => i ≤ 2 ∧ (0 < i → a = 0) ∧ (1 < i → b = 0)) (fun i => [(3, .int .i64 0), (6, .slice (some ⟨g, 0, none⟩) 2 2), (7, .int .i64 2), (8, .int .i64 i)]) (fun _ => []) (fun i => 2 - i) 0
  ⟨by omega, by omega, by omega⟩ ⟨rfl, rfl, rfl, rfl, trivial⟩ .nil ?_
 rintro i ⟨hi, ha, hb⟩
 refine Zs ?_
 refine Zc ?_
 refine Zx <| DC.seq ?_
 refine Zd (fun c3 => ?_) fun c3 => ?_
 ·have hlt : i < 2 := by simp at c3; omega
  obtain ⟨x, hx, hx0, hx1⟩ : ∃ x : Int, w.cell? ⟨g, i, none⟩ = some (.int .i64 x) ∧ (i = 0 → x = a) ∧ (i = 1 → x = b) := by
   rcases (show i = 0 ∨ i = 1 by omega) with rfl | rfl
   ·exact ⟨a, h0, fun _ => rfl, fun h => by omega⟩
   ·exact ⟨b, h1, fun h => by omega, fun _ => rfl⟩
  refine DC.skip <| Fin.then <| DC.seq <| DC.block <| Zs ?_
  refine Zo (Ah (ad' := ⟨g, i, none⟩) rfl rfl rfl Tryz.underlying44 AL (by omega) (by omega) (AC _ _)) ?_
  refine Zu (Ai rfl rfl AI (Ar hx)) ?_
  refine Za ?_
  refine Zx <| Zs ?_
  refine Zm ?_
  refine Zm ?_
  refine Zo (BB rfl rfl rfl) ?_
  refine Zx ?_
  refine Zd (fun c5 => ?_) fun c5 => ?_
  ·refine Zs ?_
   refine Zm ?_
   refine Za ?_
   refine Zx <| DC.ret <| Ae <| Aa <| Aa <| Ae <| Aa ?_
   refine Ak (.inl rfl) rfl rfl ?_
   refine ⟨rfl, ?_⟩
   have hne : x ≠ 0 := by simpa using c5
   unfold Tryz.orI
   rcases (show i = 0 ∨ i = 1 by omega) with h | h
   ·rw [hx0 h] at hne ⊢
    rw [if_neg hne]
   ·rw [hx1 h, if_pos (ha (by omega))]
  ·refine DC.skip <| Fin.inBlock <| Fin.then <| DC.region ?_
   refine Zp ?_
   refine Zm ?_
   refine Seq.nil ?_
   refine Fin.again (i + 1) (by omega) ⟨by omega, fun _ => ?_, fun h => ?_⟩ ⟨rfl, rfl, rfl, rfl, trivial⟩ .nil
   ·have hz : x = 0 := by simpa using c5
    by_cases h : i = 0
    ·rw [← hx0 h]; exact hz
    ·exact ha (by omega)
   ·have hz : x = 0 := by simpa using c5
    rw [← hx1 (by omega)]; exact hz
 ·refine DC.exit <| Ad <| Ad <| Ag <| Fin.then <| Zs ?_
  refine Zm ?_
  refine Za ?_
  refine Zx <| DC.ret ?_
  refine Ak (.inl rfl) rfl rfl ?_
  have hi2 : i = 2 := by simp at c3; omega
  unfold Tryz.orI
  rw [if_pos (ha (by omega)), hb (by omega)]
  exact ⟨rfl, rfl⟩
theorem Kt (x y : Int × Int) (w : World) :
  Calls Tryz.prog 154 #[.agg #[.int .i64 x.1, .int .i64 x.2], .agg #[.int .i64 y.1, .int .i64 y.2]] w (Ret w [] fun r L => r = .int .i64 (Tryz.cmpE x y)) := by
 refine At (args := [_, _]) (L := []) Tryz.func154 rfl Tryz.ntmps154 rfl (Own.start _ _) ?_
 refine Zs ?_
 refine Zw (AR rfl rfl rfl) fun g2 => ?_
 refine Zw (AR rfl rfl rfl) fun g3 => ?_
 refine Za ?_
 refine Zx <| DC.seq ?_
 refine AD (cl := [.q, .v, .q, .v, .r, .q, .v, .q, .v, .r, .n, .r, .q]) (A := [0, 1, 0, 4, 15, 0, 32, 0, 128, 511, 1023, 2047, 4095]) (order := [0, 1, 2, 3, 4, 5, 6, 7, 8, 9, 10, 11, 12]) [] mixed (by kernel_rfl) (fun w hw => hw.pick .nil) ?_
 refine Yf AZ ?_
 refine Yl AI ?_
 refine Yf AZ ?_
 refine Yl AI ?_
 refine Flow.rel0 rfl rfl rfl rfl (Ao en156 rfl rfl rfl (fun w' hw => HM _ _ w')) ?_
 rintro _ rfl
 refine Yf Bi ?_
 refine Yl AI ?_
 refine Yf Bi ?_
 refine Yl AI ?_
 refine Flow.rel0 rfl rfl rfl rfl (Ao en156 rfl rfl rfl (fun w' hw => HM _ _ w')) ?_
 rintro _ rfl
 refine Bt rfl rfl rfl rfl (AP (cs := #[_, _]) rfl rfl Tryz.underlying44 AL BT rfl (by decide) (by decide) rfl rfl) fun g15 => ?_
 refine HU (V := [blk g15 3 #[.int .i64 (Lib.compareInt x.1 y.1), .int .i64 (Lib.compareInt x.2 y.2)], blk g3 43 #[.int .i64 y.1, .int .i64 y.2], blk g2 43 #[.int .i64 x.1, .int .i64 x.2]]) rfl rfl rfl rfl (by kernel_rfl) (Ao en155 rfl rfl rfl (fun w' hw => or_calls (a := Lib.compareInt x.1 y.1) (b := Lib.compareInt x.2 y.2) (hw.holds _ (List.mem_cons_self ..)))) ?_
 rintro _ rfl
 refine Yo rfl (AY rfl rfl) ?_
 refine Flow.end rfl ?_
 simp only [zq, zr]
 refine Fin.then <| DC.ret ?_
 refine Ak (.inl rfl) rfl rfl ?_
 rfl
/-- A world that only grew. -/
theorem grown_of {w w' : World} {L : List Chunk} (h : Own w [] w' L) (hd : w.drawn ≤ w'.drawn) : ∃ q os, w' = Sort.grow (w.drewN q) os := by
 refine ⟨w'.drawn - w.drawn, w'.heap.extract w.heap.size w'.heap.size, ?_⟩
 have hh : w'.heap = w.heap ++ w'.heap.extract w.heap.size w'.heap.size := by
  apply Array.ext_getElem?
  intro i
  by_cases hi : i < w.heap.size
  ·rw [Array.getElem?_append_left hi]; exact h.old i hi (by simp)
  ·rw [Array.getElem?_append_right (by omega), Array.getElem?_extract]
   have hs := h.size
   by_cases h2 : i < w'.heap.size
   ·rw [if_pos (by omega)]
    congr 1; omega
   ·rw [if_neg (by omega), Array.getElem?_eq_none (by omega)]
 have e : w.drawn + (w'.drawn - w.drawn) = w'.drawn := by omega
 have e1 := h.os
 have e2 := h.tape
 have e3 := h.output
 clear h hd
 cases w' with
 | mk h' t' d' o' u' =>
  cases w with
  | mk h0 t0 d0 o0 u0 =>
   simp only [Sort.grow, World.drewN] at *
   rw [World.mk.injEq]
   exact ⟨hh, e2, e.symm, e1, e3⟩
theorem Ks (hL : ¬ Lo.p) (x y : Int × Int) (w : World) :
  Calls Tryz.prog 154 #[.agg #[.int .i64 x.1, .int .i64 x.2], .agg #[.int .i64 y.1, .int .i64 y.2]] w fun e w' => e = .returned (.int .i64 (Tryz.cmpE x y)) ∧ ∃ q os, w' = Sort.grow (w.drewN q) os := by
 refine (Kt x y w).mono ?_
 rintro e w' ⟨v, L, rfl, rfl, hO⟩
 exact ⟨rfl, grown_of hO (hO.drawn.resolve_left hL)⟩
end Go.Fl

namespace Go.Fl
open Go Go.Proofs Go.RowKit Go.Lib Go.Sort Go.Shelf
open Classical
theorem FJ (x y : Int × Int) : ltOf Tryz.cmpE x y = decide (Lex x y) := by
 unfold ltOf Tryz.cmpE Tryz.orI Lib.compareInt Lex
 by_cases h1 : x.1 < y.1
 ·simp [h1]
 ·by_cases h2 : y.1 < x.1
  ·have : ¬ x.1 = y.1 := by omega
   simp [h1, h2, this]
  ·have : x.1 = y.1 := by omega
   by_cases h3 : x.2 < y.2
   ·simp [h1, h2, h3, this]
   ·by_cases h4 : y.2 < x.2
    ·simp [h1, h2, h3, h4, this]
    ·simp [h1, h2, h3, h4, this]
theorem cmpE_swo : SWO (ltOf Tryz.cmpE) where
 irrefl x := by rw [FJ]; simp [Lex]
 trans x y z h1 h2 := by
  rw [FJ] at *
  have h1 := of_decide_eq_true h1
  have h2 := of_decide_eq_true h2
  refine decide_eq_true ?_
  unfold Lex at *; omega
 ntrans x y z h1 h2 := by
  rw [FJ] at *
  have h1 := of_decide_eq_false h1
  have h2 := of_decide_eq_false h2
  refine decide_eq_false ?_
  unfold Lex at *; omega
theorem cmpE_total (x y : Int × Int) (h1 : ltOf Tryz.cmpE x y = false) (h2 : ltOf Tryz.cmpE y x = false) : x = y := by
 rw [FJ] at *
 have h1 := of_decide_eq_false h1
 have h2 := of_decide_eq_false h2
 unfold Lex at *
 exact Prod.ext (by omega) (by omega)
theorem cmpE_lays (blk off size : Nat) (w : World) : CmpLays Tryz.prog 154 #[] Tryz.encE 2 Tryz.cmpE blk off size w := by
 intro m os dk hdk x y
 generalize sortWorldK Tryz.encE 2 w blk off m dk os = W
 exact @Ks ⟨False⟩ id x y W
theorem flatK_prs (es : List Pr) : flatK Tryz.encE 2 es.toArray = (prs es).toArray := by
 apply ext_get!
 ·simp
 ·intro t ht
  simp at ht
  rw [get_flatK _ _ _ _ (by simpa using ht)]
  obtain ⟨e, he⟩ : ∃ e, es[t / 2]? = some e := ⟨_, List.getElem?_eq_getElem (by omega)⟩
  have h1 := Jf he
  have hd : es.toArray[t / 2]! = e := by simp [he]
  rw [hd]
  rcases (show t % 2 = 0 ∨ t % 2 = 1 by omega) with h0 | h0
  ·have : t / 2 * 2 = t := by omega
   rw [h0]
   rw [this] at h1
   simp [Tryz.encE, h1.1]
  ·have : t / 2 * 2 + 1 = t := by omega
   rw [h0]
   rw [this] at h1
   simp [Tryz.encE, h1.2]
/-- Edges that rise stay as they are. -/
theorem Lv {v : Value} {es : List Pr} {w : World} (hO : Own w (idsOf [slc v 43 2 (prs es)]) w [slc v 43 2 (prs es)]) (hup : es.Pairwise Lex) (hl : es.length ≤ 1000000000) :
  Calls Tryz.prog 74 #[v, .func (.func 154) #[] #[]] w (Ret w (idsOf [slc v 43 2 (prs es)]) fun r M => M = [slc v 43 2 (prs es)]) := by
 rcases B8 hO with ⟨rfl, h, _⟩ | ⟨g, len, cap, sp, rfl, h1, h2, h3, h4, hb⟩
 ·refine (AnyF.slices_SortFunc_none { ES with } none 0 (.func (.func 154) #[] #[]) w).mono ?_
  rintro e w' ⟨rfl, rfl⟩
  exact ⟨_, _, rfl, rfl, hO⟩
 ·simp at h1
  obtain rfl : es.length = len := by omega
  have hg : w.heap[g]? = some (.cells (prs es ++ sp).toArray 43 (0, 0)) := hb.holds _ (List.mem_cons_self ..)
  have hlt : g < w.heap.size := (Array.getElem?_eq_some_iff.1 hg).1
  have hH : HoldsK Tryz.encE 2 w g 0 es.toArray := by
   unfold HoldsK
   rw [flatK_prs]
   intro j hj
   have hj' : j < (prs es).length := by simpa using hj
   constructor
   ·rw [cell_of_row w g _ _ _ (0, 0) hg, List.getElem?_toArray, Nat.zero_add, List.getElem?_append_left hj', List.getElem?_eq_getElem hj']
    simp [List.getElem?_eq_getElem hj']
   ·simp [World.frozen?, hg]
  have hcon := AnyQ.slices_SortFunc_total ES 2 Tryz.isAgg43 Tryz.sizeOf43 Tryz.encE (fun _ => rfl) (fun x v hv => by simp [Tryz.encE] at hv; rcases hv with rfl | rfl <;> rfl) Tryz.cmpE cmpE_swo 154 #[] g 0 cap es.toArray w
   (enters_of Tryz.func154 (by kernel_rfl) rfl) (cmpE_lays g 0 es.toArray.size w) hH hlt (by simp; omega) cmpE_total
  refine hcon.mono ?_
  rintro e w' ⟨rfl, n, os, rfl⟩
  refine ⟨_, [slc (.slice (some ⟨g, 0, none⟩) es.length cap) 43 2 (prs es)], rfl, rfl, ?_⟩
  have hsorted : (es.toArray.toList.mergeSort fun x y => !(ltOf Tryz.cmpE) y x).toArray = es.toArray := by
   congr 1
   refine List.mergeSort_of_pairwise ?_
   refine hup.imp ?_
   intro a b hab
   rw [FJ]
   have : decide (Lex b a) = false := decide_eq_false (by unfold Lex at *; omega)
   rw [this]; rfl
  rw [hsorted]
  have hself : sortWorldK Tryz.encE 2 w g 0 n es.toArray os = Sort.grow (w.drewN n) os := by
   unfold sortWorldK
   rw [putRowK_self _ _ _ _ _ _ (holdsK_ahead _ _ _ n _ _ _ hH)]
   rfl
  rw [hself]
  have := Own.frame (Lc := []) (F := [slc (.slice (some ⟨g, 0, none⟩) es.length cap) 43 2 (prs es)]) hO (Ko w n os) (fun k hk => by simp at hk)
  simpa using this
end Go.Fl

namespace Go.Fl
open Go Go.Proofs
theorem Lq {gs gb m i : Nat} {a b : Int} {f : Nat → Bool} {w : World} (hs : w.heap[gs]? = some (.cells #[.slice (some ⟨gb, 0, none⟩) m m] 188 (0, 0))) (hb : w.heap[gb]? = some (.cells (bls m f).toArray 4 (0, 0))) (hi : i < m) :
  Calls Tryz.prog 124 #[.int .i64 i, .agg #[.int .i64 a, .int .i64 b], .pointer (some ⟨gs, 0, none⟩)] w (Ret w [] fun r M => M = [] ∧ r = .bool (f i)) := by
 refine At (args := [_, _, _]) (L := []) Tryz.func124 rfl Tryz.ntmps124 rfl (Own.start _ _) ?_
 refine Zs ?_
 refine Zw (AR rfl rfl rfl) fun g4 => ?_
 refine Za ?_
 refine Zx <| Zs ?_
 refine Zu (Ai rfl rfl ag188 (Bc hs rfl)) ?_
 refine Zm ?_
 refine Zi Tryz.underlying188 FS ?_
 refine Zu (Ai rfl rfl Id (Bc hb (D5 f hi))) ?_
 refine Za ?_
 refine Zx <| DC.ret ?_
 refine Fin.weak (E' := [(5, _)]) ⟨rfl, trivial⟩ .nil ?_
 refine Ak (.inl rfl) rfl rfl ?_
 exact ⟨rfl, rfl⟩
/-- The edges at whose places f is true. -/
def kp (f : Nat → Bool) : Nat → List Pr → List Pr
 | _, [] => []
 | k, e :: r => if f k then e :: kp f (k + 1) r else kp f (k + 1) r
theorem kp_app (f : Nat → Bool) : ∀ (a b : List Pr) (k : Nat), kp f k (a ++ b) = kp f k a ++ kp f (k + a.length) b
 | [], b, k => by simp [kp]
 | e :: r, b, k => by
  simp only [List.cons_append, kp, List.length_cons]
  rw [kp_app f r b (k + 1), show k + 1 + r.length = k + (r.length + 1) by omega]
  split <;> simp
theorem LU (f : Nat → Bool) : ∀ (a : List Pr) (k : Nat), (kp f k a).length ≤ a.length
 | [], k => by simp [kp]
 | e :: r, k => by
  have := LU f r (k + 1)
  unfold kp
  split <;> simp <;> omega
theorem kp_succ (f : Nat → Bool) {es : List Pr} {i : Nat} {e : Pr} (he : es[i]? = some e) : kp f 0 (es.take (i + 1)) = kp f 0 (es.take i) ++ if f i then [e] else [] := by
 have hl := (List.getElem?_eq_some_iff.1 he).1
 rw [List.take_add_one, he, kp_app]
 congr 1
 simp only [List.length_take, Nat.min_eq_left (Nat.le_of_lt hl), Nat.zero_add, Option.toList_some, kp]
structure KeI where
 i : Nat
 v : Value
theorem LV {n : Int} {es : List Pr} {va : Value} {gs gb : Nat} {f : Nat → Bool} {w : World} (hg : PrV w va es) (hs : w.heap[gs]? = some (.cells #[.slice (some ⟨gb, 0, none⟩) es.length es.length] 188 (0, 0))) (hb : w.heap[gb]? = some (.cells (bls es.length f).toArray 4 (0, 0))) (hl : es.length ≤ 1000000000) :
  Calls Tryz.prog 123 #[.agg #[.int .i64 n, va], .func (.func 124) #[] #[.pointer (some ⟨gs, 0, none⟩)]] w (Ret w [] fun r M => M = [slc r 43 2 (prs (kp f 0 es))]) := by
 obtain ⟨A, cap, rfl, hr, hlc, hcm, hle⟩ := hg
 refine At (args := [_, _]) (L := []) Tryz.func123 rfl Tryz.ntmps123 rfl (Own.start _ _) ?_
 refine Zs ?_
 refine Zw (AR rfl rfl rfl) fun g2 => ?_
 refine Za ?_
 refine Zx <| Zs ?_
 refine Za ?_
 refine Zx <| DC.seq <| Zs ?_
 refine Zf AS ?_
 refine Zl Bj ?_
 refine Zn Tryz.underlying22 ?_
 refine Zm ?_
 refine Zx <| DC.block ?_
 refine DC.own (fun w hw => Bd (t := 43) (m := 2) hw) ?_
 refine DC.loop (ι := KeI) (fun j => j.i ≤ es.length)
  (fun j => [(1, .func (.func 124) #[] #[.pointer (some ⟨gs, 0, none⟩)]), (5, j.v), (9, .slice A es.length cap), (10, .int .i64 es.length), (11, .int .i64 j.i)])
  (fun j => [slc j.v 43 2 (prs (kp f 0 (es.take j.i)))]) (fun j => es.length - j.i) ⟨0, .slice none 0 0⟩ (Nat.zero_le _) ⟨rfl, rfl, rfl, rfl, rfl, trivial⟩ (.cons 0 rfl .nil) ?_
 rintro ⟨i, v⟩ hi
 dsimp only at hi ⊢
 refine Zs ?_
 refine Zc ?_
 refine Zx <| DC.seq ?_
 refine Zd (fun c3 => ?_) fun c3 => ?_
 ·have hlt : i < es.length := by simpa using c3
  obtain ⟨e, he⟩ : ∃ e, es[i]? = some e := ⟨_, List.getElem?_eq_getElem hlt⟩
  obtain ⟨ad, rfl, hU, hVe⟩ := hr.pair he
  have hkl := LU f (es.take i) 0
  rw [List.length_take] at hkl
  refine DC.skip <| Fin.then <| DC.seq <| DC.block <| Zs ?_
  refine Zm ?_
  refine Zo (AE rfl rfl rfl Tryz.underlying22 AW (by omega) (by omega) (by first | exact AC _ _ | exact Bf _ _ _ | rfl)) ?_
  refine Zu (Aw (vs := [_, _]) rfl rfl Cr AW rfl (Ck hU hVe (by simp))) ?_
  refine Zw (AO rfl CK rfl) fun g7 => ?_
  refine Za ?_
  refine Zy (Az (cs' := #[_, _]) rfl rfl rfl AW rfl (Nat.le_of_ble_eq_true rfl) rfl) ?_
  refine Zx <| Zs ?_
  refine Zm ?_
  refine Zm ?_
  refine Zu (Aw (vs := [_, _]) rfl rfl Cr AW rfl (Am rfl)) ?_
  refine Seq.rel0 rfl rfl (Ao en124 rfl rfl rfl (fun w' hw => Lq (De hw hs (by simp)) (De hw hb (by simp)) hlt)) ?_
  rintro _ rfl
  refine Zx ?_
  refine Zd (fun c5 => ?_) fun c5 => ?_
  ·refine DC.region ?_
   refine Zm ?_
   refine Zu (Aw (vs := [_, _]) rfl rfl Cr AW rfl (Am rfl)) ?_
   refine Zw (AP (cs := #[_, _]) rfl rfl Tryz.underlying22 AW CK rfl (by decide) (by decide) rfl rfl) fun g22 => ?_
   refine Seq.gen rfl rfl (AG rfl rfl rfl Tryz.underlying22 AW by43 CK rfl (by decide) (by decide) (fun w hw => hw.pick (.cons 2 rfl .nil)) (.inl ⟨_, _, rfl, Am rfl⟩) rfl (GE [e]) (by simp; omega)) ?_
   rintro v23 _ rfl
   refine Za ?_
   refine Seq.nil <| Fin.inBlock <| Fin.then <| DC.region ?_
   refine Zp ?_
   refine Zm ?_
   refine Seq.nil ?_
   refine Fin.again ⟨i + 1, v23⟩ (by dsimp only; omega) (by dsimp only; omega) ⟨rfl, rfl, rfl, rfl, rfl, trivial⟩ (.cons' 0 rfl (by dsimp only; rw [kp_succ f he, if_pos c5, Ch]) .nil)
  ·refine DC.skip <| Fin.inBlock <| Fin.then <| DC.region ?_
   refine Zp ?_
   refine Zm ?_
   refine Seq.nil ?_
   refine Fin.again ⟨i + 1, v⟩ (by dsimp only; omega) (by dsimp only; omega) ⟨rfl, rfl, rfl, rfl, rfl, trivial⟩ (.cons' 1 rfl (by dsimp only; rw [kp_succ f he, if_neg (by rw [c5]; simp), List.append_nil]) .nil)
 ·refine DC.exit <| Ad <| Ad <| Ag <| Fin.then <| Zs ?_
  refine Zm ?_
  refine Za ?_
  refine Zx <| DC.ret ?_
  have hie : i = es.length := by simp at c3; omega
  subst hie
  rw [List.take_length]
  refine Fin.weak (E' := [(4, _)]) (L' := [slc v 43 2 (prs (kp f 0 es))]) ⟨rfl, trivial⟩ (.cons 0 rfl .nil) ?_
  refine Ak (.inl rfl) rfl rfl ?_
  rfl
structure MdI where
 i : Nat
 v : Value
theorem LR {n : Int} {es : List Pr} {va : Value} {w : World} (hg : PrV w va es) (hup : es.Pairwise Lex) (hlt : ∀ e, e ∈ es → e.1 < e.2) (hl : es.length ≤ 1000000000) :
  Calls Tryz.prog 122 #[.int .i64 n, va] w (Ret w [] fun r M => ∃ A l c, r = .agg #[.int .i64 n, .slice A l c] ∧ M = [slc (.slice A l c) 43 2 (prs es)]) := by
 obtain ⟨A, cap, rfl, hr, hlc, hcm, hle⟩ := hg
 refine At (args := [_, _]) (L := []) Tryz.func122 rfl Tryz.ntmps122 rfl (Own.start _ _) ?_
 refine Zs ?_
 refine Zw (AO rfl JW rfl) fun g4 => ?_
 refine Zx <| Zs ?_
 refine Zm ?_
 refine Zn Tryz.underlying22 ?_
 refine Zw (n_make2 (l := 0) (k := es.length) rfl rfl rfl Tryz.underlying22 AW by43 CK rfl (by omega) (by omega) (by omega) (by omega) rfl) fun g10 => ?_
 refine Za ?_
 refine Zx <| DC.seq <| Zs ?_
 refine Zm ?_
 refine Zn Tryz.underlying22 ?_
 refine Zm ?_
 refine Zx <| DC.block ?_
 refine DC.own (M := slc (.slice (some ⟨g10, 0, none⟩) 0 es.length) 43 2 [] :: [blk g4 24 #[.int .i64 0, .slice none 0 0]]) (fun w hw => BY (vs := []) (m := 2) (len := 0) (cap := es.length) rfl (by decide) (by omega) (by omega) (by simp [madeCells]) rfl hw) ?_
 refine DC.loop (ι := MdI) (fun j => j.i ≤ es.length)
  (fun j => [(0, .int .i64 n), (4, .pointer (some ⟨g4, 0, none⟩)), (5, j.v), (11, .slice A es.length cap), (12, .int .i64 es.length), (13, .int .i64 j.i)])
  (fun j => slc j.v 43 2 (prs (es.take j.i)) :: [blk g4 24 #[.int .i64 0, .slice none 0 0]]) (fun j => es.length - j.i) ⟨0, _⟩ (Nat.zero_le _) ⟨rfl, rfl, rfl, rfl, rfl, rfl, trivial⟩ (.cons 0 rfl (.cons 0 rfl .nil)) ?_
 rintro ⟨i, v⟩ hi
 dsimp only at hi ⊢
 refine Zs ?_
 refine Zc ?_
 refine Zx <| DC.seq ?_
 refine Zd (fun c3 => ?_) fun c3 => ?_
 ·have hil : i < es.length := by simpa using c3
  obtain ⟨e, he⟩ : ∃ e, es[i]? = some e := ⟨_, List.getElem?_eq_getElem hil⟩
  obtain ⟨ad, rfl, hU, hVe⟩ := hr.pair he
  have hee := hlt e (List.mem_of_getElem? he)
  have hmin : min e.1 e.2 = e.1 := by omega
  have hmax : max e.1 e.2 = e.2 := by omega
  refine DC.skip <| Fin.then <| DC.seq <| DC.block <| Zs ?_
  refine Zo (AE rfl rfl rfl Tryz.underlying22 AW (by omega) (by omega) (by first | exact AC _ _ | exact Bf _ _ _ | rfl)) ?_
  refine Zu (Aw (vs := [_, _]) rfl rfl Cr AW rfl (Ck hU hVe (by simp))) ?_
  refine Zw (AO rfl CK rfl) fun g7 => ?_
  refine Zy (Az (cs' := #[_, _]) rfl rfl rfl AW rfl (Nat.le_of_ble_eq_true rfl) rfl) ?_
  refine Zx <| DC.region ?_
  refine Zm ?_
  refine Zf AZ ?_
  refine Zl AI ?_
  refine Zf Bi ?_
  refine Zl AI ?_
  refine Zo (p_min rfl rfl rfl) ?_
  refine Zf AZ ?_
  refine Zl AI ?_
  refine Zf Bi ?_
  refine Zl AI ?_
  refine Zo (p_max rfl rfl rfl) ?_
  refine Zo (AB (cs := #[_, _]) rfl rfl Gg rfl rfl) ?_
  refine Zw (AP (cs := #[_, _]) rfl rfl Tryz.underlying22 AW CK rfl (by decide) (by decide) rfl rfl) fun g29 => ?_
  refine Seq.gen rfl rfl (AG rfl rfl rfl Tryz.underlying22 AW by43 CK rfl (by decide) (by decide) (F := [blk g4 24 #[.int .i64 0, .slice none 0 0]]) (fun w hw => hw.pick (.cons 2 rfl (.cons 2 rfl .nil))) (.inl ⟨_, _, rfl, Am rfl⟩) rfl (GE [(min e.1 e.2, max e.1 e.2)]) (by simp; omega)) ?_
  rintro v30 _ rfl
  refine Za ?_
  refine Seq.nil <| Fin.inBlock <| Fin.then <| DC.region ?_
  refine Zp ?_
  refine Zm ?_
  refine Seq.nil ?_
  refine Fin.again ⟨i + 1, v30⟩ (by dsimp only; omega) (by dsimp only; omega) ⟨rfl, rfl, rfl, rfl, rfl, rfl, trivial⟩ (.cons' 0 rfl (by dsimp only; rw [List.take_add_one, he, Ch, hmin, hmax]; rfl) (.cons 0 rfl .nil))
 ·refine DC.exit <| Ad <| Ad <| Ag <| Fin.then <| DC.seq ?_
  have hie : i = es.length := by simp at c3; omega
  subst hie
  rw [List.take_length]
  refine DC.region ?_
  refine Zm ?_
  refine Seq.gen rfl rfl (BK en74 rfl rfl rfl (Lc := [slc v 43 2 (prs es)]) (F := [blk g4 24 #[.int .i64 0, .slice none 0 0]]) (.refl _) (fun k hk => hk) (fun w' hw => Lv (hw.sub (L' := [slc v 43 2 (prs es)]) ((List.nil_sublist _).cons_cons _)).self hup hl)) ?_
  rintro v33 _ ⟨_, rfl, rfl⟩
  simp only [List.cons_append, List.nil_append]
  refine Zx <| DC.seq ?_
  refine DC.shape (t := 43) (m := 2) (vs := prs es) 0 rfl ?_
  rintro ⟨Av, lv, cv, rfl⟩
  refine DC.region ?_
  refine Zm ?_
  refine Zm ?_
  refine Zo (AB (cs := #[_, _]) rfl rfl JN rfl rfl) ?_
  refine Zy (Az (cs' := #[_, _]) rfl rfl rfl Bh rfl (Nat.le_of_ble_eq_true rfl) rfl) ?_
  refine Zx <| DC.ret ?_
  refine Cl (cs := #[_, _]) (.inl rfl) rfl rfl Bo Bh ?_
  exact ⟨[slc (.slice Av lv cv) 43 2 (prs es)], fun w hw => hw.pick (.cons 0 rfl .nil), _, _, _, rfl, rfl⟩
open Classical in
theorem kp_mem {f : Nat → Bool} : ∀ {es : List Pr} {k : Nat} {e : Pr}, e ∈ kp f k es ↔ ∃ i, es[i]? = some e ∧ f (k + i) = true
 | [], k, e => by simp [kp]
 | x :: r, k, e => by
  have ih := kp_mem (f := f) (es := r) (k := k + 1) (e := e)
  unfold kp
  constructor
  ·intro h
   split at h
   ·rename_i hf
    rcases List.mem_cons.1 h with rfl | h
    ·exact ⟨0, rfl, hf⟩
    ·obtain ⟨i, hi, hfi⟩ := ih.1 h
     exact ⟨i + 1, by simpa using hi, by rw [← hfi]; congr 1; omega⟩
   ·obtain ⟨i, hi, hfi⟩ := ih.1 h
    exact ⟨i + 1, by simpa using hi, by rw [← hfi]; congr 1; omega⟩
  ·rintro ⟨i, hi, hfi⟩
   match i with
   | 0 =>
    simp at hi; subst hi
    rw [Nat.add_zero] at hfi
    rw [if_pos hfi]; simp
   | i + 1 =>
    have := ih.2 ⟨i, by simpa using hi, by rw [← hfi]; congr 1; omega⟩
    split
    ·exact List.mem_cons_of_mem _ this
    ·exact this
theorem LT (f : Nat → Bool) : ∀ (es : List Pr) (k : Nat), (kp f k es).Sublist es
 | [], k => by simp [kp]
 | x :: r, k => by
  have := LT f r (k + 1)
  unfold kp
  split
  ·exact this.cons_cons x
  ·exact this.cons x
theorem DN {N : Int} {es : List Pr} (hV : Vld N es) : es.Pairwise Lex := by
 rw [List.pairwise_iff_getElem]
 intro i j hi hj hij
 exact Jn hV hij (List.getElem?_eq_getElem hi) (List.getElem?_eq_getElem hj)
open Classical in
/-- Which places stand among the first i numbers. -/
noncomputable def stF (ks : List Int) (i : Nat) : Nat → Bool := fun x => decide ((x : Int) ∈ ks.take i)
theorem Sub_calls {n : Nat} {es : List Pr} {ks : List Int} {va vk : Value} {w : World} (hg : PrV w va es) (hV : Vld n es) (hk : SlV w vk ks) (hin : ∀ k, k ∈ ks → 0 ≤ k ∧ k < es.length) :
  Calls Tryz.prog 97 #[.agg #[.int .i64 n, va], vk] w (Ret w [] fun r M => ∃ Av l c, r = .tuple #[.agg #[.int .i64 n, .slice Av l c], .int .i64 0] ∧ M = [slc (.slice Av l c) 43 2 (prs (kp (stF ks ks.length) 0 es))]) := by
 have hg0 := hg
 have hfew := hV.few
 obtain ⟨A, cap, rfl, hr, hlc, hcm, hle⟩ := hg
 obtain ⟨B, capb, rfl, hrb, hlb, hcb, hleb⟩ := hk
 refine At (args := [_, _]) (L := []) Tryz.func97 rfl Tryz.ntmps97 rfl (Own.start _ _) ?_
 refine Zs ?_
 refine Zw (AR rfl rfl rfl) fun g2 => ?_
 refine Zw (AO rfl JW rfl) fun g4 => ?_
 refine Za ?_
 refine Zx <| DC.seq <| Zs ?_
 refine Zu (Aw (vs := [_, _]) rfl rfl Bo Bh rfl (Am rfl)) ?_
 refine Seq.rel0 rfl rfl (Ao L9 rfl rfl rfl (fun w' hw => CA (hg0.keep0 hw))) ?_
 rintro _ ⟨b, rfl, hb⟩
 refine Zo (Bg rfl rfl) ?_
 refine Zx ?_
 refine Zd (fun c1 => ?_) fun c1 => ?_
 ·refine Zs ?_
  refine Zo (AB (cs := #[_, _]) rfl rfl JN rfl rfl) ?_
  refine Zy (Az (cs' := #[_, _]) rfl rfl rfl Bh rfl (Nat.le_of_ble_eq_true rfl) rfl) ?_
  refine Za ?_
  refine Zx <| DC.ret <| Aa ?_
  refine Cy (cs := #[_, _]) (.inl rfl) rfl rfl rfl Bo Bh ?_
  rw [hb.2 hV] at c1
  simp at c1
 ·refine DC.skip <| Fin.then <| Zs ?_
  refine Zf AS ?_
  refine Zl Bj ?_
  refine Zn Tryz.underlying22 ?_
  refine Zw (B1 (k := es.length) rfl rfl rfl Tryz.underlying188 FS by4 ze4 rfl (by omega) (by omega) (DA _)) fun g16 => ?_
  refine Zw (AO rfl ze188 rfl) fun g6 => ?_
  refine Zy (AF (cs' := #[_]) rfl rfl rfl sz188 rfl (Nat.le_of_ble_eq_true rfl) rfl) ?_
  refine Zx <| DC.seq <| Zs ?_
  refine Zm ?_
  refine Zn Tryz.underlying44 ?_
  refine Zm ?_
  refine Zx <| DC.block ?_
  refine DC.loop (ι := Nat) (fun i => i ≤ ks.length)
   (fun i => [(2, .pointer (some ⟨g2, 0, none⟩)), (4, .pointer (some ⟨g4, 0, none⟩)), (6, .pointer (some ⟨g6, 0, none⟩)), (17, .slice B ks.length capb), (18, .int .i64 ks.length), (19, .int .i64 i)])
   (fun i => [blk g6 188 #[.slice (some ⟨g16, 0, none⟩) es.length es.length], blk g16 4 (bls es.length (stF ks i)).toArray, blk g4 24 #[.int .i64 0, .slice none 0 0], blk g2 24 #[.int .i64 n, .slice A es.length cap]]) (fun i => ks.length - i) 0 (Nat.zero_le _) ⟨rfl, rfl, rfl, rfl, rfl, rfl, trivial⟩
   (.cons 0 rfl (.cons' 0 rfl (by rw [show stF ks 0 = fun _ => false from funext fun x => by simp [stF]]) (.cons 0 rfl (.cons 0 rfl .nil)))) ?_
  rintro i hi
  refine Zs ?_
  refine Zc ?_
  refine Zx <| DC.seq ?_
  refine Zd (fun c5 => ?_) fun c5 => ?_
  ·have hlt : i < ks.length := by simpa using c5
   obtain ⟨k, hk⟩ : ∃ k, ks[i]? = some k := ⟨_, List.getElem?_eq_getElem hlt⟩
   obtain ⟨adb, rfl, hck⟩ := hrb.int hk
   obtain ⟨hk0, hk1⟩ := hin k (List.mem_of_getElem? hk)
   refine DC.skip <| Fin.then <| DC.seq <| DC.block <| Zs ?_
   refine Zo (Ah (ad' := adb.add i) rfl rfl rfl Tryz.underlying44 AL (by omega) (by omega) rfl) ?_
   refine Zu (Ai rfl rfl AI (Ar hck)) ?_
   refine Za ?_
   refine Zx <| DC.seq <| Zs ?_
   refine Zm ?_
   refine Zc ?_
   refine Zm ?_
   refine Seq.split 25 rfl (fun k7_2 => ?_) (fun k7_2 => ?_)
   ·refine Zk ?_
    refine Zk ?_
    refine Zk ?_
    refine Zk ?_
    refine Zt ?_
    refine Zx ?_
    refine AM rfl ?_
    refine Zs ?_
    refine Zo (AB (cs := #[_, _]) rfl rfl JN rfl rfl) ?_
    refine Zy (Az (cs' := #[_, _]) rfl rfl rfl Bh rfl (Nat.le_of_ble_eq_true rfl) rfl) ?_
    refine Za ?_
    refine Zx <| DC.ret <| Aa <| Ae <| Aa <| Aa <| Ae <| Aa ?_
    refine Cy (cs := #[_, _]) (.inl rfl) rfl rfl rfl Bo Bh ?_
    first
    | (simp at k7_2; omega)
    | (simp at c7; omega)
   ·refine Zm ?_
    refine Zl ag188 ?_
    refine Zn Tryz.underlying188 ?_
    refine Zo (Cj rfl rfl rfl) ?_
    refine Zg ?_
    refine Zx ?_
    refine Zd (fun c7 => ?_) fun c7 => ?_
    ·refine Zs ?_
     refine Zo (AB (cs := #[_, _]) rfl rfl JN rfl rfl) ?_
     refine Zy (Az (cs' := #[_, _]) rfl rfl rfl Bh rfl (Nat.le_of_ble_eq_true rfl) rfl) ?_
     refine Za ?_
     refine Zx <| DC.ret <| Aa <| Ae <| Aa <| Aa <| Ae <| Aa ?_
     refine Cy (cs := #[_, _]) (.inl rfl) rfl rfl rfl Bo Bh ?_
     first
     | (simp at k7_2; omega)
     | (simp at c7; omega)
    ·refine DC.skip <| Fin.then <| DC.region ?_
     refine Zl ag188 ?_
     refine Zm ?_
     refine Zi Tryz.underlying188 FS ?_
     refine Zy (AF (cs' := (bls es.length (stF ks (i + 1))).toArray) rfl rfl rfl FS rfl (by simp; omega) (by
      rw [D4]
      congr 1
      unfold bls
      apply List.map_congr_left
      intro x hx
      have hx := List.mem_range.1 hx
      congr 1
      unfold updB stF
      rw [List.take_add_one, hk]
      by_cases h : x = k.toNat
      ·rw [if_pos h]
       exact (decide_eq_true (by rw [List.mem_append]; right; simp; omega)).symm
      ·rw [if_neg h]
       have : ¬ (x : Int) = k := by omega
       simp [this])) ?_
     refine Seq.nil <| Fin.inBlock <| Fin.then <| DC.region ?_
     refine Zp ?_
     refine Zm ?_
     refine Seq.nil ?_
     refine Fin.again (i + 1) (by omega) (by omega) ⟨rfl, rfl, rfl, rfl, rfl, rfl, trivial⟩ (Pick.all _)
  ·refine DC.exit <| Ad <| Ad <| Ag <| Fin.then <| DC.seq ?_
   have hie : i = ks.length := by simp at c5; omega
   subst hie
   have hkl := LU (stF ks ks.length) es 0
   have hsub := LT (stF ks ks.length) es 0
   refine AD (cl := [.q, .v, .v, .q, .r, .r, .g, .q]) (A := [0, 1, 0, 0, 12, 31, 63, 127]) (order := [0, 1, 2, 3, 4, 5, 6, 7]) [] mixed (by kernel_rfl) (fun w hw => hw.pick .nil) ?_
   refine Yf Bz ?_
   refine Yl AI ?_
   refine Aj rfl rfl rfl rfl (Aw (vs := [_, _]) rfl rfl Bo Bh rfl (Am rfl)) ?_
   refine Yo rfl (F3 rfl rfl rfl) ?_
   refine EP rfl rfl rfl rfl (Ao en123 rfl rfl rfl (fun w' hw => LV (hg0.keep0 hw) (hw.holds _ (List.mem_cons_self ..)) (hw.holds _ (List.mem_cons_of_mem _ (List.mem_cons_self ..))) (by omega))) ?_
   rintro v40 _ rfl
   refine DG (V := (slc v40 43 2 (prs (kp (stF ks ks.length) 0 es)) :: [blk g6 188 #[.slice (some ⟨g16, 0, none⟩) es.length es.length], blk g16 4 (bls es.length (stF ks ks.length)).toArray, blk g4 24 #[.int .i64 0, .slice none 0 0], blk g2 24 #[.int .i64 n, .slice A es.length cap]])) rfl rfl rfl rfl (by kernel_rfl) (Ao en122 rfl rfl rfl (fun w' hw => LR (Fr hw 0 rfl (by omega)) ((DN hV).sublist hsub) (fun e he => by
    obtain ⟨j, hj⟩ := List.mem_iff_getElem?.1 (hsub.subset he)
    exact (hV.ok j e hj).lt) (by omega))) ?_
   rintro _ _ ⟨Av, l, c, rfl, rfl⟩
   refine Flow.sto (V := (slc (.slice Av l c) 43 2 (prs (kp (stF ks ks.length) 0 es)) :: slc v40 43 2 (prs (kp (stF ks ks.length) 0 es)) :: [blk g6 188 #[.slice (some ⟨g16, 0, none⟩) es.length es.length], blk g16 4 (bls es.length (stF ks ks.length)).toArray, blk g4 24 #[.int .i64 0, .slice none 0 0], blk g2 24 #[.int .i64 n, .slice A es.length cap]])) rfl rfl rfl rfl rfl (Az (cs' := #[_, _]) rfl rfl rfl Bh rfl (Nat.le_of_ble_eq_true rfl) rfl) (fun w hw => hw.pick (.nil)) ?_
   refine Yo rfl (AY rfl rfl) ?_
   refine Flow.end rfl ?_
   simp only [zq, zr]
   refine Fin.then <| DC.ret ?_
   refine Cy (cs := #[_, _]) (.inl rfl) rfl rfl rfl Bo Bh ?_
   exact ⟨[slc (.slice Av l c) 43 2 (prs (kp (stF ks ks.length) 0 es))], fun w hw => hw.pick (.cons 0 rfl .nil), Av, l, c, rfl, rfl⟩
theorem lex_ext : ∀ {a b : List Pr}, a.Pairwise Lex → b.Pairwise Lex → (∀ x, x ∈ a ↔ x ∈ b) → a = b
 | [], [], _, _, _ => rfl
 | [], y :: r, _, _, h => by have := (h y).2 (by simp); cases this
 | x :: r, [], _, _, h => by have := (h x).1 (by simp); cases this
 | x :: r, y :: s, ha, hb, h => by
  have irr : ∀ z : Pr, ¬ Lex z z := fun z hz => by unfold Lex at hz; omega
  have tr : ∀ {u v w : Pr}, Lex u v → Lex v w → Lex u w := fun h1 h2 => by unfold Lex at *; omega
  rw [List.pairwise_cons] at ha hb
  have hxy : x = y := by
   rcases List.mem_cons.1 ((h x).1 (by simp)) with h1 | h1
   ·exact h1
   ·rcases List.mem_cons.1 ((h y).2 (by simp)) with h2 | h2
    ·exact h2.symm
    ·exact absurd (tr (hb.1 x h1) (ha.1 y h2)) (irr y)
  subst hxy
  congr 1
  refine lex_ext ha.2 hb.2 fun z => ?_
  constructor
  ·intro hz
   rcases List.mem_cons.1 ((h z).1 (by simp [hz])) with h1 | h1
   ·subst h1; exact absurd (ha.1 z hz) (irr z)
   ·exact h1
  ·intro hz
   rcases List.mem_cons.1 ((h z).2 (by simp [hz])) with h1 | h1
   ·subst h1; exact absurd (hb.1 z hz) (irr z)
   ·exact h1
theorem IY {n : Int} {es cs : List Pr} (hV : Vld n es) (hc : EdgesOk cs) (hin : ∀ c, c ∈ cs → c ∈ es) : Vld n cs :=
 ⟨hV.lo, hV.hi, hc.few, fun i e he => by
  obtain ⟨j, hj⟩ := List.mem_iff_getElem?.1 (hin e (List.mem_of_getElem? he))
  exact hV.ok j e hj, hc.up⟩
theorem sub_is {n : Int} {es cs : List Pr} {ns : List Int} (hV : Vld n es) (hc : EdgesOk cs) (hin : ∀ c, c ∈ cs → c ∈ es) (hn : NumR es cs ns) : kp (stF ns ns.length) 0 es = cs := by
 refine lex_ext ((DN hV).sublist (LT _ _ _)) (DN (IY hV hc hin)) fun e => ?_
 rw [kp_mem]
 unfold stF
 rw [List.take_length]
 constructor
 ·rintro ⟨i, hi, hfi⟩
  have hm : (i : Int) ∈ ns := by simpa using hfi
  obtain ⟨j, hj⟩ := List.mem_iff_getElem?.1 hm
  obtain ⟨c, hcj⟩ : ∃ c, cs[j]? = some c := ⟨_, List.getElem?_eq_getElem (by rw [← hn.1]; exact (List.getElem?_eq_some_iff.1 hj).1)⟩
  rcases hn.2 j c _ hcj hj with ⟨h1, _⟩ | ⟨i', h1, h2⟩
  ·omega
  ·have : i' = i := by omega
   subst this
   rw [hi] at h2; cases h2
   exact List.mem_of_getElem? hcj
 ·intro he
  obtain ⟨j, hj⟩ := List.mem_iff_getElem?.1 he
  obtain ⟨m, hm⟩ : ∃ m, ns[j]? = some m := ⟨_, List.getElem?_eq_getElem (by rw [hn.1]; exact (List.getElem?_eq_some_iff.1 hj).1)⟩
  rcases hn.2 j e m hj hm with ⟨_, h1⟩ | ⟨i, h1, h2⟩
  ·exact absurd (hin e he) h1
  ·subst h1
   exact ⟨i, h2, by simpa using List.mem_of_getElem? hm⟩
theorem Jg {pl : Bool} {n : Nat} {es cs : List Pr} {va v u : Value} {w : World} (hg : PrV w va es) (hu : PrV w u cs) (hV : Vld n es) (hc : EdgesOk cs) (hin : ∀ c, c ∈ cs → c ∈ es) :
  Calls Tryz.prog 59 #[.agg #[.int .i64 n, va], .agg #[.bool pl, v, u]] w (Ret w [] fun r M => M = [] ∧ ∃ b, r = .bool b ∧ (b = true ↔ KuraOk n cs)) := by
 have hVc := IY hV hc hin
 have hfew := hVc.few
 have hfe := hV.few
 refine At (args := [_, _]) (L := []) Tryz.func59 rfl Tryz.ntmps59 rfl (Own.start _ _) ?_
 refine Zs ?_
 refine Zw (AR rfl rfl rfl) fun g2 => ?_
 refine Zw (AR rfl rfl rfl) fun g3 => ?_
 refine Za ?_
 refine Zx <| DC.seq ?_
 refine AD (cl := [.v, .v, .v, .r, .r, .q, .q, .q, .n, .g, .q]) (A := [0, 0, 0, 6, 15, 31, 63, 63, 0, 383, 1023]) (order := [0, 1, 2, 3, 4, 5, 6, 7, 8, 9, 10]) [] mixed (by kernel_rfl) (fun w hw => hw.pick .nil) ?_
 refine Aj rfl rfl rfl rfl (Aw (vs := [_, _]) rfl rfl Bo Bh rfl (Am rfl)) ?_
 refine Aj rfl rfl rfl rfl (Aw (vs := [_, _]) rfl rfl Bo Bh rfl (Am rfl)) ?_
 refine Aj rfl rfl rfl rfl (Aw (vs := [_, _, _]) rfl rfl FO EX rfl (Am rfl)) ?_
 refine EP rfl rfl rfl rfl (Ao en96 rfl rfl rfl (fun w' hw => Ev (hg.keep0 hw) (hu.keep0 hw))) ?_
 rintro _ _ ⟨gn, ns, rfl, hn, rfl⟩
 refine DG (V := (blk gn 3 (ints ns).toArray :: [blk g3 27 #[.bool pl, v, u], blk g2 24 #[.int .i64 n, va]])) rfl rfl rfl rfl (by kernel_rfl) (Ao en97 rfl rfl rfl (fun w' hw => Sub_calls (hg.keep0 hw) hV (BX hw (by simp) hn.1 (by omega)) (fun k hk => by
  obtain ⟨j, hj⟩ := List.mem_iff_getElem?.1 hk
  obtain ⟨c, hcj⟩ : ∃ c, cs[j]? = some c := ⟨_, List.getElem?_eq_getElem (by rw [← hn.1]; exact (List.getElem?_eq_some_iff.1 hj).1)⟩
  rcases hn.2 j c _ hcj hj with ⟨_, h1⟩ | ⟨i, h1, h2⟩
  ·exact absurd (hin c (List.mem_of_getElem? hcj)) h1
  ·have := (List.getElem?_eq_some_iff.1 h2).1; omega))) ?_
 rintro _ _ ⟨Av, l, c, rfl, rfl⟩
 rw [sub_is hV hc hin hn]
 refine Ym ?_
 refine Yo rfl (Dz rfl rfl rfl) ?_
 refine Yo rfl (Dz rfl rfl rfl) ?_
 refine Bt rfl rfl rfl rfl (AO rfl JW rfl) fun g5 => ?_
 refine Flow.sto (V := (blk g5 24 #[.int .i64 0, .slice none 0 0] :: slc (.slice Av l c) 43 2 (prs cs) :: blk gn 3 (ints ns).toArray :: [blk g3 27 #[.bool pl, v, u], blk g2 24 #[.int .i64 n, va]])) rfl rfl rfl rfl rfl (Az (cs' := #[_, _]) rfl rfl rfl Bh rfl (Nat.le_of_ble_eq_true rfl) rfl) (fun w hw => hw.pick (.nil)) ?_
 refine Yo rfl (AY rfl rfl) ?_
 refine Flow.end rfl ?_
 simp only [zq, zr]
 refine Fin.then <| DC.seq <| Zs ?_
 refine Zm ?_
 refine Zo (BB rfl rfl rfl) ?_
 refine Zx ?_
 refine Zd (fun c2 => ?_) fun c2 => ?_
 ·refine Zs ?_
  refine Za ?_
  refine Zx <| DC.ret <| Aa ?_
  refine Ak (.inl rfl) rfl rfl ?_
  simp at c2
 ·refine DC.skip <| Fin.then <| Zs ?_
  refine Zu (Aw (vs := [_, _]) rfl rfl Bo Bh rfl (Am rfl)) ?_
  refine Seq.rel0 rfl rfl (Ao en98 rfl rfl rfl (fun w' hw => Gx (Fr hw 1 rfl (by omega)) hVc)) ?_
  rintro _ ⟨k0, A0, l0, c0, A1, l1, c1, b, rfl, hb⟩
  refine Zm ?_
  refine Ze ?_
  refine Ze ?_
  refine Ze ?_
  refine Zw (AO rfl IW rfl) fun g7 => ?_
  refine Zy (Az (cs' := #[_, _, _]) rfl rfl rfl Ce rfl (Nat.le_of_ble_eq_true rfl) rfl) ?_
  refine Za ?_
  refine Za ?_
  refine Zx <| Zs ?_
  refine Zm ?_
  refine Za ?_
  refine Zx <| DC.ret ?_
  refine Fin.weak (E' := [(4, _)]) ⟨rfl, trivial⟩ .nil ?_
  refine Ak (.inl rfl) rfl rfl ?_
  exact ⟨rfl, b, rfl, hb⟩
open Classical
/-! ### a rotation is flat or not, whatever way it was found -/
theorem Im {N : Int} {es : List Pr} {ls rs rs' : List (List Int)} (hV : Vld N es) (h : RotR es ls rs) (h' : RotR es ls rs') : rs = rs' := by
 apply List.ext_getElem?
 intro v
 by_cases hv : v < ls.length
 ·obtain ⟨l, hl⟩ : ∃ l, ls[v]? = some l := ⟨_, List.getElem?_eq_getElem hv⟩
  obtain ⟨r, hr⟩ : ∃ r, rs[v]? = some r := ⟨_, List.getElem?_eq_getElem (by rw [h.1]; exact hv)⟩
  obtain ⟨r', hr'⟩ : ∃ r, rs'[v]? = some r := ⟨_, List.getElem?_eq_getElem (by rw [h'.1]; exact hv)⟩
  rw [hr, hr']
  congr 1
  obtain ⟨q1, q2⟩ := h.2 v l r hl hr
  obtain ⟨q3, q4⟩ := h'.2 v l r' hl hr'
  apply List.ext_getElem?
  intro j
  by_cases hj : j < l.length
  ·obtain ⟨u, hu⟩ : ∃ u, l[j]? = some u := ⟨_, List.getElem?_eq_getElem hj⟩
   obtain ⟨x, hx⟩ : ∃ x, r[j]? = some x := ⟨_, List.getElem?_eq_getElem (by omega)⟩
   obtain ⟨y, hy⟩ : ∃ y, r'[j]? = some y := ⟨_, List.getElem?_eq_getElem (by omega)⟩
   rw [hx, hy, (q2 j u x hu hx).uniq hV (q4 j u y hu hy)]
  ·rw [List.getElem?_eq_none (by omega), List.getElem?_eq_none (by omega)]
 ·rw [List.getElem?_eq_none (by rw [h.1]; omega), List.getElem?_eq_none (by rw [h'.1]; omega)]
theorem nx_uniq {n : Nat} {es : List Pr} {rs : List (List Int)} {f g : Nat → Int} (hok : RotL n es rs) (hf : NxOk rs rs.length f) (hg : NxOk rs rs.length g) {h : Nat} (hh : h < es.length * 2) : f h = g h := by
 obtain ⟨v, l, i, hl, hi, _⟩ := E0 hok hh
 have h1 := (Fo hok hf hl hi).1
 have h2 := (Fo hok hg hl hi).1
 rw [h1] at h2
 exact Option.some.inj h2
theorem L8 {n : Nat} {es : List Pr} {rs : List (List Int)} {f g : Nat → Int} (hok : RotL n es rs) (hf : NxOk rs rs.length f) (hg : NxOk rs rs.length g) : facesN es f = facesN es g := by
 have hp := (GI hok hf).1
 have htw : ∀ h, h < es.length * 2 → twn h < es.length * 2 := fun h hh => by unfold twn; split <;> omega
 have hit : ∀ h, h < es.length * 2 → ∀ k, itr (phi f) k h = itr (phi g) k h := by
  intro h hh k
  induction k with
  | zero => rfl
  | succ k ih =>
   have h1 := CD hp hh k
   show phi f (itr (phi f) k h) = phi g (itr (phi g) k h)
   rw [← ih]
   show (f (twn (itr (phi f) k h))).toNat = (g (twn (itr (phi f) k h))).toNat
   rw [nx_uniq hok hf hg (htw _ h1)]
 unfold facesN headsOf
 congr 2
 apply List.filter_congr
 intro x hx
 have hx := List.mem_range.1 hx
 unfold Lead
 simp only [hit x hx]
theorem Hz {n : Nat} {es : List Pr} {rs : List (List Int)} {f g : Nat → Int} (hok : RotL n es rs) (hf : NxOk rs rs.length f) (hg : NxOk rs rs.length g) : genus2 n es f = genus2 n es g := by
 unfold genus2; rw [L8 hok hf hg]
/-- The lists say a flat rotation. -/
def FlatP (n : Nat) (es : List Pr) (ls : List (List Int)) : Prop := ∃ rs fn, RotR es ls rs ∧ NxOk rs rs.length fn ∧ genus2 n es fn = 0
theorem IK {n : Nat} {es : List Pr} {ls : List (List Int)} {b : Prop} (hok : RotOk n es ls) (h : FlatR n es ls b) : b ↔ FlatP n es ls := by
 obtain ⟨rs, fn, h1, h2, h3⟩ := h
 rw [h3]
 constructor
 ·intro hb; exact ⟨rs, fn, h1, h2, hb⟩
 ·rintro ⟨rs', fn', k1, k2, k3⟩
  have := Im hok.1 h1 k1
  subst this
  rw [Hz (GB hok h1) h2 k2]; exact k3
/-- What check.Graph answers. -/
noncomputable def chkF (N : Int) (es : List Pr) (pl : Bool) (ls : List (List Int)) (cs : List Pr) : Int :=
 if ¬ Vld N es then 1
 else if ¬ TextOk pl ls cs then 181
 else if pl then (if ¬ RotOk N es ls then 182 else if ¬ FlatP N.toNat es ls then 183 else 0)
 else (if ¬ (∀ c, c ∈ cs → c ∈ es) then 184 else if ¬ KuraOk N.toNat cs then 185 else 0)
theorem I5 {N : Int} {es : List Pr} {va c : Value} {w : World} {p v u : Value} (hg : PrV w va es) (hc : c = .agg #[p, v, u]) (h1 : p.oneCell' = true) (h2 : v.oneCell' = true) (h3 : u.oneCell' = true) :
  Calls Tryz.prog 54 #[.agg #[.int .i64 N, va], c] w (Ret w [] fun r M => M = [] ∧ ∃ b, r = .bool b ∧ (b = true ↔ Vld N es)) := by
 subst hc
 refine At (args := [_, _]) (L := []) Tryz.func54 rfl Tryz.ntmps54 rfl (Own.start _ _) ?_
 refine Zs ?_
 refine Zw (AR rfl rfl rfl) fun g2 => ?_
 refine Zw (AR rfl rfl (cells3 h1 h2 h3)) fun g3 => ?_
 refine Za ?_
 refine Zx <| Zs ?_
 refine Zu (Aw (vs := [_, _]) rfl rfl Bo Bh rfl (Am rfl)) ?_
 refine Seq.rel0 rfl rfl (Ao L9 rfl rfl rfl (fun w' hw => CA (hg.keep0 hw))) ?_
 rintro _ ⟨b, rfl, hb⟩
 refine Za ?_
 refine Zx <| DC.ret ?_
 refine Fin.weak (E' := [(4, _)]) ⟨rfl, trivial⟩ .nil ?_
 refine Ak (.inl rfl) rfl rfl ?_
 exact ⟨rfl, b, rfl, hb⟩
def fnv (f : Nat) : Value := .func (.func f) #[] #[]
def stepsA : Array Value := #[.int .i64 0, fnv 54, .int .i64 1, .int .i64 0, fnv 55, .int .i64 181, .int .i64 1, fnv 56, .int .i64 182, .int .i64 1, fnv 57, .int .i64 183, .int .i64 (-1), fnv 58, .int .i64 184, .int .i64 (-1), fnv 59, .int .i64 185]
theorem J8 (w : World) : Calls Tryz.prog 30 #[] w (Ret w [] fun r M => ∃ g, r = .slice (some ⟨g, 0, none⟩) 6 6 ∧ M = [blk g 69 stepsA]) := by
 refine At (args := []) (L := []) Tryz.func30 rfl Tryz.ntmps30 rfl (Own.start _ _) ?_
 refine Zs ?_
 refine Za ?_
 refine Zx <| Zs ?_
 refine Zo (AB (cs := #[_, _, _]) rfl rfl bs69 rfl rfl) ?_
 refine Zo (AB (cs := #[_, _, _]) rfl rfl bs69 rfl rfl) ?_
 refine Zo (AB (cs := #[_, _, _]) rfl rfl bs69 rfl rfl) ?_
 refine Zo (AB (cs := #[_, _, _]) rfl rfl bs69 rfl rfl) ?_
 refine Zo (AB (cs := #[_, _, _]) rfl rfl bs69 rfl rfl) ?_
 refine Zo (AB (cs := #[_, _, _]) rfl rfl bs69 rfl rfl) ?_
 refine Zw (AP (cs := #[_, _, _, _, _, _, _, _, _, _, _, _, _, _, _, _, _, _]) rfl rfl Tryz.underlying66 sz69 ze69 rfl (by decide) (by decide) rfl rfl) fun g7 => ?_
 refine Za ?_
 refine Zx <| DC.ret ?_
 refine Fin.weak (E' := [(0, _)]) ⟨rfl, trivial⟩ (Pick.all _) ?_
 refine Ak (.inl rfl) rfl rfl ?_
 exact ⟨g7, rfl, rfl⟩
end Go.Fl

namespace Go.Fl
open Go Go.Proofs
open Classical
def ofS : Nat → Int
 | 0 => 0
 | 1 => 0
 | 2 => 1
 | 3 => 1
 | _ => -1
def fnS : Nat → Nat
 | 0 => 54
 | 1 => 55
 | 2 => 56
 | 3 => 57
 | 4 => 58
 | _ => 59
def badS : Nat → Int
 | 0 => 1
 | 1 => 181
 | 2 => 182
 | 3 => 183
 | 4 => 184
 | _ => 185
theorem stepsA_at {i : Nat} (hi : i < 6) : (stepsA.toList.drop (i * 3)).take [Value.int .i64 (ofS i), fnv (fnS i), .int .i64 (badS i)].length = [.int .i64 (ofS i), fnv (fnS i), .int .i64 (badS i)] := by
 rcases (show i = 0 ∨ i = 1 ∨ i = 2 ∨ i = 3 ∨ i = 4 ∨ i = 5 by omega) with rfl | rfl | rfl | rfl | rfl | rfl <;> rfl
theorem fnS_ent {i : Nat} (hi : i < 6) : Ent Tryz.prog (fnS i) := by
 rcases (show i = 0 ∨ i = 1 ∨ i = 2 ∨ i = 3 ∨ i = 4 ∨ i = 5 by omega) with rfl | rfl | rfl | rfl | rfl | rfl
 ·exact en54
 ·exact en55
 ·exact en56
 ·exact en57
 ·exact en58
 ·exact en59
/-- What each step asks. -/
def PS (N : Int) (es : List Pr) (pl : Bool) (ls : List (List Int)) (cs : List Pr) : Nat → Prop
 | 0 => Vld N es
 | 1 => TextOk pl ls cs
 | 2 => RotOk N es ls
 | 3 => FlatP N.toNat es ls
 | 4 => ∀ c, c ∈ cs → c ∈ es
 | _ => KuraOk N.toNat cs
def kindS (pl : Bool) : Int := if pl then 1 else -1
def Appl (pl : Bool) (i : Nat) : Prop := ofS i = 0 ∨ ofS i = kindS pl
theorem G1 {N : Int} {pl : Bool} {es cs : List Pr} {ls : List (List Int)} {va v u : Value} {w : World} (hg : PrV w va es) (hv : LsV w v ls) (hu : PrV w u cs) (hp : Pow w) (hs : ∀ l, l ∈ ls → l.length ≤ 2097152)
  {i : Nat} (hi : i < 6) (ha : Appl pl i) (hall : ∀ j, j < i → Appl pl j → PS N es pl ls cs j) :
  Calls Tryz.prog (fnS i) #[.agg #[.int .i64 N, va], .agg #[.bool pl, v, u]] w (Ret w [] fun r M => M = [] ∧ ∃ b, r = .bool b ∧ (b = true ↔ PS N es pl ls cs i)) := by
 have hv1 : v.oneCell' = true := by obtain ⟨A, c, rfl, _⟩ := hv; rfl
 have hu1 : u.oneCell' = true := by obtain ⟨A, c, rfl, _⟩ := hu; rfl
 have h0 : 0 < i → Vld N es := fun h => hall 0 h (.inl rfl)
 have hnat : 0 < i → ((N.toNat : Nat) : Int) = N := fun h => by have := (h0 h).lo; omega
 have h1 : 1 < i → TextOk pl ls cs := fun h => hall 1 h (.inl rfl)
 have hedges : 1 < i → pl = false → EdgesOk cs := fun h hpl => by
  have := (h1 h).1
  rw [hpl] at this
  exact this.2
 rcases (show i = 0 ∨ i = 1 ∨ i = 2 ∨ i = 3 ∨ i = 4 ∨ i = 5 by omega) with rfl | rfl | rfl | rfl | rfl | rfl
 ·exact I5 hg rfl rfl hv1 hu1
 ·exact Kr hv hu hp hs
 ·exact J3 hg hv
 ·have hpl : pl = true := by
   rcases ha with h | h
   ·simp [ofS] at h
   ·cases pl
    ·simp [ofS, kindS] at h
    ·rfl
  have hr : RotOk N es ls := hall 2 (by omega) (.inr (by rw [hpl]; rfl))
  rw [← hnat (by omega)] at hr ⊢
  refine (K2 hg hv hr).mono ?_
  rintro e w' ⟨r, L, rfl, ⟨rfl, b, rfl, hb⟩, hO⟩
  refine ⟨_, _, rfl, ⟨rfl, b, rfl, ?_⟩, hO⟩
  exact IK hr hb
 ·exact IX hg hu
 ·have hpl : pl = false := by
   rcases ha with h | h
   ·simp [ofS] at h
   ·cases pl
    ·rfl
    ·simp [ofS, kindS] at h
  have hin : ∀ c, c ∈ cs → c ∈ es := hall 4 (by omega) (.inr (by rw [hpl]; rfl))
  have hV := h0 (by omega)
  rw [← hnat (by omega)] at hV ⊢
  exact Jg hg hu hV (hedges (by omega) hpl) hin
theorem chk_bad {N : Int} {pl : Bool} {es cs : List Pr} {ls : List (List Int)} {i : Nat} (hi : i < 6) (ha : Appl pl i) (hall : ∀ j, j < i → Appl pl j → PS N es pl ls cs j) (hn : ¬ PS N es pl ls cs i) : chkF N es pl ls cs = badS i := by
 have h0 : 0 < i → Vld N es := fun h => hall 0 h (.inl rfl)
 have h1 : 1 < i → TextOk pl ls cs := fun h => hall 1 h (.inl rfl)
 unfold chkF
 have hk1 : ∀ {k : Int}, (k = 0 ∨ k = kindS true) → k = 0 ∨ k = 1 := fun h => h
 have hk2 : ∀ {k : Int}, (k = 0 ∨ k = kindS false) → k = 0 ∨ k = -1 := fun h => h
 rcases (show i = 0 ∨ i = 1 ∨ i = 2 ∨ i = 3 ∨ i = 4 ∨ i = 5 by omega) with rfl | rfl | rfl | rfl | rfl | rfl
 ·have hn' : ¬ Vld N es := hn
  rw [if_pos hn']; rfl
 ·have a0 := h0 (by omega)
  have hn' : ¬ TextOk pl ls cs := hn
  rw [if_neg (not_not_intro a0), if_pos hn']; rfl
 ·have a0 := h0 (by omega)
  have a1 := h1 (by omega)
  have hn' : ¬ RotOk N es ls := hn
  rw [if_neg (not_not_intro a0), if_neg (not_not_intro a1)]
  cases pl
  ·have := hk2 ha; simp [ofS] at this
  ·rw [if_pos rfl, if_pos hn']; rfl
 ·have a0 := h0 (by omega)
  have a1 := h1 (by omega)
  have hn' : ¬ FlatP N.toNat es ls := hn
  rw [if_neg (not_not_intro a0), if_neg (not_not_intro a1)]
  cases pl
  ·have := hk2 ha; simp [ofS] at this
  ·have a2 : RotOk N es ls := hall 2 (by omega) (.inr rfl)
   rw [if_pos rfl, if_neg (not_not_intro a2), if_pos hn']; rfl
 ·have a0 := h0 (by omega)
  have a1 := h1 (by omega)
  have hn' : ¬ ∀ c, c ∈ cs → c ∈ es := hn
  rw [if_neg (not_not_intro a0), if_neg (not_not_intro a1)]
  cases pl
  ·rw [if_neg (by simp), if_pos hn']; rfl
  ·have := hk1 ha; simp [ofS] at this
 ·have a0 := h0 (by omega)
  have a1 := h1 (by omega)
  have hn' : ¬ KuraOk N.toNat cs := hn
  rw [if_neg (not_not_intro a0), if_neg (not_not_intro a1)]
  cases pl
  ·have a4 : ∀ c, c ∈ cs → c ∈ es := hall 4 (by omega) (.inr rfl)
   rw [if_neg (by simp), if_neg (not_not_intro a4), if_pos hn']; rfl
  ·have := hk1 ha; simp [ofS] at this
theorem chk_ok {N : Int} {pl : Bool} {es cs : List Pr} {ls : List (List Int)} (hall : ∀ j, j < 6 → Appl pl j → PS N es pl ls cs j) : chkF N es pl ls cs = 0 := by
 unfold chkF
 have h0 : Vld N es := hall 0 (by omega) (.inl rfl)
 have h1 : TextOk pl ls cs := hall 1 (by omega) (.inl rfl)
 rw [if_neg (not_not_intro h0), if_neg (not_not_intro h1)]
 cases pl
 ·have a4 : ∀ c, c ∈ cs → c ∈ es := hall 4 (by omega) (.inr rfl)
  have a5 : KuraOk N.toNat cs := hall 5 (by omega) (.inr rfl)
  rw [if_neg (by simp), if_neg (not_not_intro a4), if_neg (not_not_intro a5)]
 ·have a2 : RotOk N es ls := hall 2 (by omega) (.inr rfl)
  have a3 : FlatP N.toNat es ls := hall 3 (by omega) (.inr rfl)
  rw [if_pos rfl, if_neg (not_not_intro a2), if_neg (not_not_intro a3)]
theorem Cw {N : Int} {pl : Bool} {es cs : List Pr} {ls : List (List Int)} {va v u : Value} {w : World} (hg : PrV w va es) (hv : LsV w v ls) (hu : PrV w u cs) (hp : Pow w) (hs : ∀ l, l ∈ ls → l.length ≤ 2097152) :
  Calls Tryz.prog 10 #[.agg #[.int .i64 N, va], .agg #[.bool pl, v, u]] w (Ret w [] fun r M => M = [] ∧ r = .int .i64 (chkF N es pl ls cs)) := by
 have hga : ∃ A l c, va = .slice A l c := by obtain ⟨A, c, rfl, _⟩ := hg; exact ⟨_, _, _, rfl⟩
 have hva : ∃ A l c, v = .slice A l c := by obtain ⟨A, c, rfl, _⟩ := hv; exact ⟨_, _, _, rfl⟩
 have hua : ∃ A l c, u = .slice A l c := by obtain ⟨A, c, rfl, _⟩ := hu; exact ⟨_, _, _, rfl⟩
 obtain ⟨A1, l1, c1, rfl⟩ := hga
 obtain ⟨A2, l2, c2, rfl⟩ := hva
 obtain ⟨A3, l3, c3, rfl⟩ := hua
 refine At (args := [_, _]) (L := []) Tryz.func10 rfl Tryz.ntmps10 rfl (Own.start _ _) ?_
 refine Zs ?_
 refine Zw (AR rfl rfl rfl) fun g2 => ?_
 refine Zw (AR rfl rfl rfl) fun g3 => ?_
 refine Za ?_
 refine Zx <| Zs ?_
 refine Za ?_
 refine Zx ?_
 refine DC.cut (ι := Unit) (fun _ => True) (fun _ => [(2, .pointer (some ⟨g2, 0, none⟩)), (3, .pointer (some ⟨g3, 0, none⟩)), (5, .int .i64 (kindS pl))]) (fun _ => [blk g3 27 #[.bool pl, .slice A2 l2 c2, .slice A3 l3 c3], blk g2 24 #[.int .i64 N, .slice A1 l1 c1]]) ?first3 ?rest3
 case first3 =>
  refine Zs ?_
  refine Zf C2 ?_
  refine Zl Id ?_
  refine Zx ?_
  refine Zd (fun c2 => ?_) fun c2 => ?_
  ·refine DC.region ?_
   refine Za ?_
   refine Seq.nil ?_
   refine AJ () trivial ⟨rfl, rfl, by rw [show pl = true from c2]; rfl, trivial⟩ (Pick.all _)
  ·refine DC.skip ?_
   refine AJ () trivial ⟨rfl, rfl, by rw [show pl = false from c2]; rfl, trivial⟩ (Pick.all _)
 case rest3 =>
  rintro _ _
  refine DC.seq <| Zs ?_
  refine Seq.rel rfl rfl (Ao en30 rfl rfl rfl (fun w' hw => J8 w')) ?_
  rintro _ _ ⟨gs, rfl, rfl⟩
  simp only [List.cons_append, List.nil_append]
  refine Zn Tryz.underlying66 ?_
  refine Zm ?_
  refine Zx <| DC.block ?_
  refine DC.loop (ι := Nat) (fun i => i ≤ 6 ∧ ∀ j, j < i → Appl pl j → PS N es pl ls cs j)
   (fun i => [(2, .pointer (some ⟨g2, 0, none⟩)), (3, .pointer (some ⟨g3, 0, none⟩)), (5, .int .i64 (kindS pl)), (10, .slice (some ⟨gs, 0, none⟩) 6 6), (11, .int .i64 6), (12, .int .i64 i)])
   (fun _ => [blk gs 69 stepsA, blk g3 27 #[.bool pl, .slice A2 l2 c2, .slice A3 l3 c3], blk g2 24 #[.int .i64 N, .slice A1 l1 c1]]) (fun i => 6 - i) 0 ⟨Nat.zero_le _, fun _ h => absurd h (Nat.not_lt_zero _)⟩
   ⟨rfl, rfl, rfl, rfl, rfl, rfl, trivial⟩ (Pick.all _) ?_
  rintro i ⟨hi, hall⟩
  refine Zs ?_
  refine Zc ?_
  refine Zx <| DC.seq ?_
  refine Zd (fun c5 => ?_) fun c5 => ?_
  ·have hlt : i < 6 := by simp at c5; omega
   refine DC.skip <| Fin.then <| DC.seq <| DC.block <| Zs ?_
   refine Zo (AE (ad' := ⟨gs, i * 3, none⟩) rfl rfl rfl Tryz.underlying66 sz69 (by omega) (by omega) (AC _ _)) ?_
   refine Zu (Aw (vs := [.int .i64 (ofS i), fnv (fnS i), .int .i64 (badS i)]) rfl rfl ag69 sz69 rfl (Am (stepsA_at hlt))) ?_
   refine Zw (AO rfl ze69 rfl) fun g7 => ?_
   refine Zy (Az (cs' := #[.int .i64 (ofS i), fnv (fnS i), .int .i64 (badS i)]) rfl rfl rfl sz69 rfl (Nat.le_of_ble_eq_true rfl) rfl) ?_
   refine Zx <| Zs ?_
   refine Zf fi69_0 ?_
   refine Zl AI ?_
   refine Zo (AN rfl rfl rfl) ?_
   refine Zm ?_
   refine Seq.split 19 rfl (fun k7_3 => ?_) (fun k7_3 => ?_)
   ·refine Zk ?_
    refine Zk ?_
    refine Zk ?_
    refine Zk ?_
    refine Zt ?_
    refine Zm ?_
    refine Zf fi69_1 ?_
    refine Zl ag34 ?_
    refine Zu (Aw (vs := [_, _]) rfl rfl Bo Bh rfl (Am rfl)) ?_
    refine Zu (Aw (vs := [_, _, _]) rfl rfl FO EX rfl (Am rfl)) ?_
    have hap : Appl pl i := by first | exact .inl (by simpa using k7_3) | exact .inr (by simpa using k7_9)
    refine Seq.rel0 rfl rfl (Ao (fnS_ent hlt) rfl rfl rfl (fun w' hw => G1 (hg.keep0 hw) (hv.keep0 hw) (hu.keep0 hw) (hp.keep0 hw) hs hlt hap hall)) ?_
    rintro _ ⟨b, rfl, hb⟩
    refine Zo (Bg rfl rfl) ?_
    refine Zt ?_
    refine Zx ?_
    refine Zd (fun c7 => ?_) fun c7 => ?_
    ·refine Zs ?_
     refine Zf fi69_2 ?_
     refine Zl HR ?_
     refine Za ?_
     refine Zx <| DC.ret <| Ae <| Aa <| Aa <| Ae <| Aa ?_
     refine Fin.weak (E' := [(4, _)]) ⟨rfl, trivial⟩ .nil ?_
     refine Ak (.inl rfl) rfl rfl ?_
     exact ⟨rfl, by rw [chk_bad hlt hap hall (fun h => by rw [hb.2 h] at c7; simp at c7)]⟩
    ·refine DC.skip <| Fin.inBlock <| Fin.then <| DC.region ?_
     refine Zp ?_
     refine Zm ?_
     refine Seq.nil ?_
     refine Fin.again (i + 1) (by omega) ⟨by omega, fun j hj hap' => ?_⟩ ⟨rfl, rfl, rfl, rfl, rfl, rfl, trivial⟩ (.cons 1 rfl (.cons 1 rfl (.cons 1 rfl .nil)))
     rcases Nat.lt_succ_iff_lt_or_eq.1 hj with hj | rfl
     ·exact hall j hj hap'
     ·exact hb.1 (by simpa using c7)
   ·refine Zf fi69_0 ?_
    refine Zl AI ?_
    refine Zm ?_
    refine Zo (AN rfl rfl rfl) ?_
    refine Zg ?_
    refine Zm ?_
    refine Seq.split 25 rfl (fun k7_9 => ?_) (fun k7_9 => ?_)
    ·refine Zf fi69_1 ?_
     refine Zl ag34 ?_
     refine Zu (Aw (vs := [_, _]) rfl rfl Bo Bh rfl (Am rfl)) ?_
     refine Zu (Aw (vs := [_, _, _]) rfl rfl FO EX rfl (Am rfl)) ?_
     have hap : Appl pl i := by first | exact .inl (by simpa using k7_3) | exact .inr (by simpa using k7_9)
     refine Seq.rel0 rfl rfl (Ao (fnS_ent hlt) rfl rfl rfl (fun w' hw => G1 (hg.keep0 hw) (hv.keep0 hw) (hu.keep0 hw) (hp.keep0 hw) hs hlt hap hall)) ?_
     rintro _ ⟨b, rfl, hb⟩
     refine Zo (Bg rfl rfl) ?_
     refine Zt ?_
     refine Zx ?_
     refine Zd (fun c7 => ?_) fun c7 => ?_
     ·refine Zs ?_
      refine Zf fi69_2 ?_
      refine Zl HR ?_
      refine Za ?_
      refine Zx <| DC.ret <| Ae <| Aa <| Aa <| Ae <| Aa ?_
      refine Fin.weak (E' := [(4, _)]) ⟨rfl, trivial⟩ .nil ?_
      refine Ak (.inl rfl) rfl rfl ?_
      exact ⟨rfl, by rw [chk_bad hlt hap hall (fun h => by rw [hb.2 h] at c7; simp at c7)]⟩
     ·refine DC.skip <| Fin.inBlock <| Fin.then <| DC.region ?_
      refine Zp ?_
      refine Zm ?_
      refine Seq.nil ?_
      refine Fin.again (i + 1) (by omega) ⟨by omega, fun j hj hap' => ?_⟩ ⟨rfl, rfl, rfl, rfl, rfl, rfl, trivial⟩ (.cons 1 rfl (.cons 1 rfl (.cons 1 rfl .nil)))
      rcases Nat.lt_succ_iff_lt_or_eq.1 hj with hj | rfl
      ·exact hall j hj hap'
      ·exact hb.1 (by simpa using c7)
    ·refine Zk ?_
     refine Zk ?_
     refine Zk ?_
     refine Zk ?_
     refine Zk ?_
     refine Zk ?_
     refine Zg ?_
     refine Zx ?_
     refine AT rfl ?_
     refine DC.skip <| Fin.inBlock <| Fin.then <| DC.region ?_
     refine Zp ?_
     refine Zm ?_
     refine Seq.nil ?_
     refine Fin.again (i + 1) (by omega) ⟨by omega, fun j hj hap' => ?_⟩ ⟨rfl, rfl, rfl, rfl, rfl, rfl, trivial⟩ (.cons 1 rfl (.cons 1 rfl (.cons 1 rfl .nil)))
     rcases Nat.lt_succ_iff_lt_or_eq.1 hj with hj | rfl
     ·exact hall j hj hap'
     ·rcases hap' with h | h
      ·simp at k7_3; exact absurd h k7_3
      ·simp at k7_9; exact absurd h k7_9
  ·refine DC.exit <| Ad <| Ad <| Ag <| Fin.then <| Zs ?_
   refine Za ?_
   refine Zx <| DC.ret ?_
   refine Fin.weak (E' := [(4, _)]) ⟨rfl, trivial⟩ .nil ?_
   refine Ak (.inl rfl) rfl rfl ?_
   have hie : i = 6 := by simp at c5; omega
   subst hie
   exact ⟨rfl, by rw [chk_ok hall]⟩
end Go.Fl

namespace Go.Fl
open Go Go.Proofs
open Classical
def es4 : List Pr := [(0, 1), (0, 2), (0, 3), (1, 2), (1, 3), (2, 3)]
def lsA : List (List Int) := [[1, 2, 3], [0, 3, 2], [0, 1, 3], [0, 2, 1]]
def lsB : List (List Int) := [[1, 2, 3], [0, 2, 3], [0, 1, 3], [0, 1, 2]]
def rsA : List (List Int) := [[0, 2, 4], [1, 8, 6], [3, 7, 10], [5, 11, 9]]
def rsB : List (List Int) := [[0, 2, 4], [1, 6, 8], [3, 7, 10], [5, 9, 11]]
theorem lt4 {v : Nat} {α : Type} {a b c d x : α} (h : [a, b, c, d][v]? = some x) : (v = 0 ∧ x = a) ∨ (v = 1 ∧ x = b) ∨ (v = 2 ∧ x = c) ∨ (v = 3 ∧ x = d) := by
 match v, h with
 | 0, h => simp at h; exact .inl ⟨rfl, h.symm⟩
 | 1, h => simp at h; exact .inr (.inl ⟨rfl, h.symm⟩)
 | 2, h => simp at h; exact .inr (.inr (.inl ⟨rfl, h.symm⟩))
 | 3, h => simp at h; exact .inr (.inr (.inr ⟨rfl, h.symm⟩))
 | v + 4, h => simp at h
theorem lt3 {v : Nat} {α : Type} {a b c x : α} (h : [a, b, c][v]? = some x) : (v = 0 ∧ x = a) ∨ (v = 1 ∧ x = b) ∨ (v = 2 ∧ x = c) := by
 match v, h with
 | 0, h => simp at h; exact .inl ⟨rfl, h.symm⟩
 | 1, h => simp at h; exact .inr (.inl ⟨rfl, h.symm⟩)
 | 2, h => simp at h; exact .inr (.inr ⟨rfl, h.symm⟩)
 | v + 3, h => simp at h
theorem vld4 : Vld 4 es4 where
 lo := by decide
 hi := by decide
 few := by decide
 ok := by
  intro i e h
  match i, h with
  | 0, h => cases h; exact ⟨by decide, by decide, by decide⟩
  | 1, h => cases h; exact ⟨by decide, by decide, by decide⟩
  | 2, h => cases h; exact ⟨by decide, by decide, by decide⟩
  | 3, h => cases h; exact ⟨by decide, by decide, by decide⟩
  | 4, h => cases h; exact ⟨by decide, by decide, by decide⟩
  | 5, h => cases h; exact ⟨by decide, by decide, by decide⟩
  | i + 6, h => simp [es4] at h
 up := by
  intro i a b h k
  match i, h, k with
  | 0, h, k => cases h; cases k; exact .inr ⟨by decide, by decide⟩
  | 1, h, k => cases h; cases k; exact .inr ⟨by decide, by decide⟩
  | 2, h, k => cases h; cases k; exact .inl (by decide)
  | 3, h, k => cases h; cases k; exact .inr ⟨by decide, by decide⟩
  | 4, h, k => cases h; cases k; exact .inl (by decide)
  | i + 5, h, k => simp [es4] at k
theorem conn4 {v : Nat} (h0 : 0 < v) (h : v < 4) : Conn es4 0 v := by
 refine .edge 0 v ?_
 match v, h0, h with
 | 1, _, _ => decide
 | 2, _, _ => decide
 | 3, _, _ => decide
theorem ncomp4 : ncomp 4 es4 = 1 := by
 have e : List.range 4 = [0, 1, 2, 3] := rfl
 unfold ncomp
 rw [e]
 have h0 : ∀ y, y < 0 → ¬ Conn es4 y 0 := fun y h => by omega
 have h1 : ∀ v, 0 < v → v < 4 → ¬ (∀ y, y < v → ¬ Conn es4 y v) := fun v h1 h2 h => h 0 h1 (conn4 h1 h2)
 rw [List.countP_cons, List.countP_cons, List.countP_cons, List.countP_cons, List.countP_nil, if_neg (by simpa using h1 3 (by decide) (by decide)), if_neg (by simpa using h1 2 (by decide) (by decide)), if_neg (by simpa using h1 1 (by decide) (by decide)), if_pos (decide_eq_true h0)]
theorem iso4 : isoN 4 es4 = 0 := by decide
def tabF (l : List Int) (h : Nat) : Int := (l[h]?).getD 0
/-- by half-edge the next one -/
def fnA : Nat → Int := tabF [2, 8, 4, 7, 0, 11, 1, 10, 6, 5, 3, 9]
def fnB : Nat → Int := tabF [2, 6, 4, 7, 0, 9, 8, 10, 1, 11, 3, 5]
theorem EM {f : Nat → Nat} {x m : Nat} (h0 : 0 < m) (h1 : itr f m x = x) (h2 : ∀ k, k < m → x ≤ itr f k x) : Lead f x := by
 intro k
 induction k using Nat.strongRecOn with
 | _ k ih =>
  by_cases hk : k < m
  ·exact h2 k hk
  ·have := ih (k - m) (by omega)
   have e : itr f k x = itr f (k - m) (itr f m x) := by rw [← DS]; congr 1; omega
   rw [e, h1]; exact this
theorem BF {f : Nat → Nat} {x k : Nat} (h : itr f k x < x) : ¬ Lead f x := fun hl => by have := hl k; omega
theorem facesA : facesN es4 fnA = 4 := by
 have h0 : decide (Lead (phi fnA) 0) = true := decide_eq_true (EM (m := 3) (by decide) (by decide) (by decide))
 have h1 : decide (Lead (phi fnA) 1) = true := decide_eq_true (EM (m := 3) (by decide) (by decide) (by decide))
 have h2 : decide (Lead (phi fnA) 2) = false := decide_eq_false (BF (k := 2) (by decide))
 have h3 : decide (Lead (phi fnA) 3) = true := decide_eq_true (EM (m := 3) (by decide) (by decide) (by decide))
 have h4 : decide (Lead (phi fnA) 4) = false := decide_eq_false (BF (k := 2) (by decide))
 have h5 : decide (Lead (phi fnA) 5) = false := decide_eq_false (BF (k := 1) (by decide))
 have h6 : decide (Lead (phi fnA) 6) = true := decide_eq_true (EM (m := 3) (by decide) (by decide) (by decide))
 have h7 : decide (Lead (phi fnA) 7) = false := decide_eq_false (BF (k := 1) (by decide))
 have h8 : decide (Lead (phi fnA) 8) = false := decide_eq_false (BF (k := 2) (by decide))
 have h9 : decide (Lead (phi fnA) 9) = false := decide_eq_false (BF (k := 1) (by decide))
 have h10 : decide (Lead (phi fnA) 10) = false := decide_eq_false (BF (k := 2) (by decide))
 have h11 : decide (Lead (phi fnA) 11) = false := decide_eq_false (BF (k := 1) (by decide))
 have e : List.range (es4.length * 2) = [0, 1, 2, 3, 4, 5, 6, 7, 8, 9, 10, 11] := rfl
 unfold facesN headsOf
 rw [e, List.length_map]
 simp only [List.filter_cons, List.filter_nil, h0, h1, h2, h3, h4, h5, h6, h7, h8, h9, h10, h11]
 rfl
theorem facesB : facesN es4 fnB = 2 := by
 have h0 : decide (Lead (phi fnB) 0) = true := decide_eq_true (EM (m := 4) (by decide) (by decide) (by decide))
 have h1 : decide (Lead (phi fnB) 1) = true := decide_eq_true (EM (m := 8) (by decide) (by decide) (by decide))
 have h2 : decide (Lead (phi fnB) 2) = false := decide_eq_false (BF (k := 7) (by decide))
 have h3 : decide (Lead (phi fnB) 3) = false := decide_eq_false (BF (k := 3) (by decide))
 have h4 : decide (Lead (phi fnB) 4) = false := decide_eq_false (BF (k := 2) (by decide))
 have h5 : decide (Lead (phi fnB) 5) = false := decide_eq_false (BF (k := 1) (by decide))
 have h6 : decide (Lead (phi fnB) 6) = false := decide_eq_false (BF (k := 3) (by decide))
 have h7 : decide (Lead (phi fnB) 7) = false := decide_eq_false (BF (k := 6) (by decide))
 have h8 : decide (Lead (phi fnB) 8) = false := decide_eq_false (BF (k := 5) (by decide))
 have h9 : decide (Lead (phi fnB) 9) = false := decide_eq_false (BF (k := 1) (by decide))
 have h10 : decide (Lead (phi fnB) 10) = false := decide_eq_false (BF (k := 2) (by decide))
 have h11 : decide (Lead (phi fnB) 11) = false := decide_eq_false (BF (k := 4) (by decide))
 have e : List.range (es4.length * 2) = [0, 1, 2, 3, 4, 5, 6, 7, 8, 9, 10, 11] := rfl
 unfold facesN headsOf
 rw [e, List.length_map]
 simp only [List.filter_cons, List.filter_nil, h0, h1, h2, h3, h4, h5, h6, h7, h8, h9, h10, h11]
 rfl
theorem genusA : genus2 4 es4 fnA = 0 := by unfold genus2; rw [ncomp4, iso4, facesA]; rfl
theorem genusB : genus2 4 es4 fnB = 2 := by unfold genus2; rw [ncomp4, iso4, facesB]; rfl
theorem Gc {es : List Pr} {u v x : Int} (h : rhalfF u v 0 es = x) (hx : x ≠ -1) : IsHalf es u v x := by
 rcases LC (es := es) u v with h1 | ⟨h1, _⟩
 ·rw [h] at h1; exact h1
 ·omega
theorem hit_ok {es : List Pr} {v : Nat} {l : List Int} (h : ∀ u, u ∈ l → rhalfF v u 0 es ≠ -1) : ∀ u, u ∈ l → ∃ h, IsHalf es v u h := fun u hu => ⟨_, Gc rfl (h u hu)⟩
theorem rotOkA : RotOk 4 es4 lsA := by
 refine ⟨vld4, by decide, fun v l hl => ?_⟩
 rcases lt4 hl with ⟨rfl, rfl⟩ | ⟨rfl, rfl⟩ | ⟨rfl, rfl⟩ | ⟨rfl, rfl⟩ <;> exact ⟨hit_ok (by decide), by decide, by decide⟩
theorem rotOkB : RotOk 4 es4 lsB := by
 refine ⟨vld4, by decide, fun v l hl => ?_⟩
 rcases lt4 hl with ⟨rfl, rfl⟩ | ⟨rfl, rfl⟩ | ⟨rfl, rfl⟩ | ⟨rfl, rfl⟩ <;> exact ⟨hit_ok (by decide), by decide, by decide⟩
theorem rotRA : RotR es4 lsA rsA := by
 refine ⟨rfl, fun v l r hl hr => ?_⟩
 rcases lt4 hl with ⟨rfl, rfl⟩ | ⟨rfl, rfl⟩ | ⟨rfl, rfl⟩ | ⟨rfl, rfl⟩ <;> cases hr <;> refine ⟨rfl, fun j u h hj hk => ?_⟩ <;> rcases lt3 hj with ⟨rfl, rfl⟩ | ⟨rfl, rfl⟩ | ⟨rfl, rfl⟩ <;> cases hk <;> exact Gc (by decide) (by decide)
theorem rotRB : RotR es4 lsB rsB := by
 refine ⟨rfl, fun v l r hl hr => ?_⟩
 rcases lt4 hl with ⟨rfl, rfl⟩ | ⟨rfl, rfl⟩ | ⟨rfl, rfl⟩ | ⟨rfl, rfl⟩ <;> cases hr <;> refine ⟨rfl, fun j u h hj hk => ?_⟩ <;> rcases lt3 hj with ⟨rfl, rfl⟩ | ⟨rfl, rfl⟩ | ⟨rfl, rfl⟩ <;> cases hk <;> exact Gc (by decide) (by decide)
theorem nxOkA : NxOk rsA rsA.length fnA := by
 intro x l i h hx hl hi
 rcases lt4 hl with ⟨rfl, rfl⟩ | ⟨rfl, rfl⟩ | ⟨rfl, rfl⟩ | ⟨rfl, rfl⟩ <;> rcases lt3 hi with ⟨rfl, rfl⟩ | ⟨rfl, rfl⟩ | ⟨rfl, rfl⟩ <;> rfl
theorem nxOkB : NxOk rsB rsB.length fnB := by
 intro x l i h hx hl hi
 rcases lt4 hl with ⟨rfl, rfl⟩ | ⟨rfl, rfl⟩ | ⟨rfl, rfl⟩ | ⟨rfl, rfl⟩ <;> rcases lt3 hi with ⟨rfl, rfl⟩ | ⟨rfl, rfl⟩ | ⟨rfl, rfl⟩ <;> rfl
theorem flatA : FlatP 4 es4 lsA := ⟨rsA, fnA, rotRA, nxOkA, genusA⟩
theorem flatB : ¬ FlatP 4 es4 lsB := by
 rintro ⟨rs, fn, h1, h2, h3⟩
 have := Im vld4 h1 rotRB
 subst this
 have h4 := Hz (n := 4) (GB rotOkB h1) h2 nxOkB
 rw [h3, genusB] at h4
 omega
theorem Kw {ls : List (List Int)} (h1 : ls.length ≤ 4) (h : ∀ l, l ∈ ls → ∀ n, n ∈ l → Fits n ∧ ∀ a, l[0]? = some a → a ≤ n) : ListsOk ls := by
 refine ⟨by omega, fun i l hl j n a hj ha => ?_⟩
 have := h l (List.mem_of_getElem? hl) n (List.mem_of_getElem? hj)
 exact ⟨this.1, this.2 a ha⟩
theorem Ga {ls : List (List Int)} (h : ∀ l, l ∈ ls → l.length ≤ 3 ∧ ∀ a, a ∈ l → I64 a) : (ls.map lineB).flatten.length ≤ 100 * ls.length := by
 induction ls with
 | nil => simp
 | cons l r ih =>
  have h1 := h l (List.mem_cons_self ..)
  have h2 := C8 h1.2
  have h3 := ih (fun l' hl => h l' (List.mem_cons_of_mem _ hl))
  simp only [List.map_cons, List.flatten_cons, List.length_append, List.length_cons]
  omega
theorem textA : TextOk true lsA [] := by
 refine ⟨⟨rfl, Kw (by decide) (by unfold Fits; decide)⟩, ?_⟩
 have h1 := C9 (letter := [112]) (n := 4) rfl (by decide)
 have h2 := Ga (ls := lsA) (by unfold I64; decide)
 have h3 : lsA.length = 4 := rfl
 simp only [certB, textB, List.length_append, if_true, List.length_map, h3] at h1 h2 ⊢
 omega
theorem textB4 : TextOk true lsB [] := by
 refine ⟨⟨rfl, Kw (by decide) (by unfold Fits; decide)⟩, ?_⟩
 have h1 := C9 (letter := [112]) (n := 4) rfl (by decide)
 have h2 := Ga (ls := lsB) (by unfold I64; decide)
 have h3 : lsB.length = 4 := rfl
 simp only [certB, textB, List.length_append, if_true, List.length_map, h3] at h1 h2 ⊢
 omega
def cs4 : List Pr := [(0, 1), (0, 4)]
theorem textC : TextOk false [] cs4 := by
 refine ⟨⟨rfl, ⟨by decide, fun i e h => ?_, fun i a b h k => ?_⟩⟩, ?_⟩
 ·match i, h with
  | 0, h => cases h; unfold Fits; decide
  | 1, h => cases h; unfold Fits; decide
  | i + 2, h => simp [cs4] at h
 ·match i, h, k with
  | 0, h, k => cases h; cases k; exact .inr ⟨rfl, by decide⟩
  | i + 1, h, k => simp [cs4] at k
 ·have h1 := C9 (letter := [110]) (n := 2) rfl (by decide)
  have h2 := Ga (ls := [[0, 1], [0, 4]]) (by unfold I64; decide)
  simp only [certB, textB, List.length_append, List.length_map, cs4, List.map_cons, List.map_nil, List.length_cons, List.length_nil] at h1 h2 ⊢
  simp only [Bool.false_eq_true, if_false, List.length_append]
  simp at h1 h2 ⊢
  omega
theorem chkA : chkF 4 es4 true lsA [] = 0 := by
 unfold chkF
 rw [if_neg (not_not_intro vld4), if_neg (not_not_intro textA), if_pos rfl, if_neg (not_not_intro rotOkA), if_neg (not_not_intro (show FlatP (4 : Int).toNat es4 lsA from flatA))]
theorem chkB : chkF 4 es4 true lsB [] = 183 := by
 unfold chkF
 rw [if_neg (not_not_intro vld4), if_neg (not_not_intro textB4), if_pos rfl, if_neg (not_not_intro rotOkB), if_pos (show ¬ FlatP (4 : Int).toNat es4 lsB from flatB)]
theorem chkC : chkF 4 es4 false [] cs4 = 184 := by
 unfold chkF
 rw [if_neg (not_not_intro vld4), if_neg (not_not_intro textC), if_neg (by decide), if_pos]
 intro h
 have := h (0, 4) (by decide)
 revert this; decide
/-- "1 1\n0 1\n" -/
def txt4 : List UInt8 := [49, 32, 49, 10, 48, 32, 49, 10]
theorem raw4 : rawF txt4 = .bad 24 6 := by
 simp [rawF, scanA, txt4, scanF, isDig, digs, decF, feedF, lineF, endF]
end Go.Fl

namespace Go.Fl
open Go Go.Proofs
/-- A scanner: its struct in block gs, its tokens. -/
def scL (gs : Nat) (vb vt : Value) (i : Nat) (tk : List Tk) : List Chunk := [blk gs 176 #[vb, .int .i64 i, vt], slc vt 138 4 (tks tk)]
def sflt (v e : Int) : Value := .iface 172 (.agg #[.int .i64 v, .int .i64 e])
def digAt (bs : List UInt8) (i : Nat) : Bool := (bs[i]?.map isDig).getD false
theorem DO {gs i : Nat} {vb vt : Value} {tk : List Tk} {kd fr nu : Int} {w : World} (hO : Own w (idsOf (scL gs vb vt i tk)) w (scL gs vb vt i tk)) (hl : tk.length ≤ 100000000) :
  Calls Tryz.prog 135 #[.pointer (some ⟨gs, 0, none⟩), .int .i64 kd, .int .i64 fr, .int .i64 nu] w
   (Ret w (idsOf (scL gs vb vt i tk)) fun r M => r = .tuple #[] ∧ ∃ vt', M = scL gs vb vt' i (tk ++ [⟨kd, fr, i, nu⟩])) := by
 refine At (args := [_, _, _, _]) Tryz.func135 rfl Tryz.ntmps135 rfl hO ?_
 unfold scL
 refine AD (cl := [.q, .q, .q, .q, .v, .q, .q, .q, .q, .q, .v, .q, .q, .n, .g, .q, .q, .g]) (A := [0, 0, 2, 6, 14, 0, 0, 0, 128, 384, 896, 0, 4064, 8160, 16382, 32767, 65535, 131071]) (order := [0, 1, 2, 3, 4, 5, 6, 7, 8, 9, 10, 11, 12, 13, 14, 15, 16, 17]) [] mixed (by kernel_rfl) (fun w hw => hw.pick .nil) ?_
 refine Ym ?_
 refine Ym ?_
 refine Yo rfl (AU rfl rfl) ?_
 refine Yf JA ?_
 refine Yl ag131 ?_
 refine Ym ?_
 refine Ym ?_
 refine Ym ?_
 refine Yo rfl (AU rfl rfl) ?_
 refine Yf Bw ?_
 refine Yl AI ?_
 refine Ym ?_
 refine Yo rfl (AB (cs := #[_, _, _, _]) rfl rfl bs138 rfl rfl) ?_
 refine Bt rfl rfl rfl rfl (AP (cs := #[_, _, _, _]) rfl rfl Tryz.underlying131 Cg Ig rfl (by decide) (by decide) rfl rfl) fun g21 => ?_
 refine DH (V := [blk g21 138 #[.int .i64 kd, .int .i64 fr, .int .i64 i, .int .i64 nu], blk gs 176 #[vb, .int .i64 i, vt], slc vt 138 4 (tks tk)]) rfl rfl rfl rfl rfl (Gen.shape (AG (F := [blk g21 138 #[.int .i64 kd, .int .i64 fr, .int .i64 i, .int .i64 nu], blk gs _ _]) (vs := tks tk) (k := 1) (news := [.int .i64 kd, .int .i64 fr, .int .i64 i, .int .i64 nu]) rfl rfl rfl Tryz.underlying131 Cg by138 Ig rfl (by decide) (by decide)
  (fun w hw => hw.pick (.cons 2 rfl (.cons 0 rfl (.cons 0 rfl .nil)))) (.inl ⟨_, _, rfl, Am rfl⟩) rfl (by intro u hu; simp at hu; rcases hu with rfl | rfl | rfl | rfl <;> rfl) (by rw [tks_length]; omega))) (fun v L' hC w hw => hw.pick (.nil)) ?_
 rintro _ _ ⟨⟨A11, l11, c11, rfl⟩, rfl⟩
 refine Yo rfl (AU rfl rfl) ?_
 refine Yf JA ?_
 refine AX rfl rfl rfl rfl (AF (cs' := #[_, _, _]) rfl rfl rfl sz131 rfl (Nat.le_of_ble_eq_true rfl) rfl) (fun w hw => hw.pick (.nil)) ?_
 refine Flow.end rfl ?_
 simp only [zq, zr]
 refine Fin.weak (E' := []) trivial (.cons 2 rfl (.cons 0 rfl .nil)) ?_
 refine B2 (.inr rfl) rfl ?_
 refine ⟨rfl, .slice A11 l11 c11, ?_⟩
 simp [scL, GW, tks]
theorem Fi {gs i : Nat} {vb vt : Value} {bs : List UInt8} {w : World} (hg : w.heap[gs]? = some (.cells #[vb, .int .i64 i, vt] 176 (0, 0))) (hB : ByV w vb bs) :
  Calls Tryz.prog 133 #[.pointer (some ⟨gs, 0, none⟩)] w (Ret w [] fun r M => M = [] ∧ r = .bool (digAt bs i)) := by
 obtain ⟨A, cap, rfl, hR, h1, h2⟩ := hB
 refine At (args := [_]) (L := []) Tryz.func133 rfl Tryz.ntmps133 rfl (Own.start _ _) ?_
 refine Zs ?_
 refine Za ?_
 refine Zx <| DC.seq ?_
 refine AD (cl := [.q, .q, .q, .v, .q, .q, .q, .v, .q, .q, .q, .q, .q, .q, .v, .q, .q, .q, .v, .q, .v, .q, .q, .q, .q, .q, .q, .v, .q, .q, .q, .v, .q, .v, .q, .q, .q]) (A := [0, 1, 3, 7, 0, 16, 48, 112, 240, 511, 1023, 2047, 4095, 8191, 16383, 2047, 34815, 100351, 231423, 524287, 1048575, 2097151, 4194303, 8388607, 16777215, 33554431, 67108863, 134217727, 16777215, 285212671, 822083583, 1895825407, 4294967295, 8589934591, 17179869183, 34359738367, 68719476735]) (order := [0, 1, 2, 3, 4, 5, 6, 7, 8, 9, 10, 11, 12, 13, 14, 15, 16, 17, 18, 19, 20, 21, 22, 23, 24, 25, 26, 27, 28, 29, 30, 31, 32, 33, 34, 35, 36]) [] mixed (by kernel_rfl) (fun w hw => hw.pick .nil) ?_
 refine Ym ?_
 refine Yo rfl (AU rfl rfl) ?_
 refine Yf Bw ?_
 refine Aj rfl rfl rfl rfl (Ai rfl rfl AI (Bc hg rfl)) ?_
 refine Ym ?_
 refine Yo rfl (AU rfl rfl) ?_
 refine Yf Du ?_
 refine Aj rfl rfl rfl rfl (Ai rfl rfl K8 (Bc hg rfl)) ?_
 refine Yo rfl (CL rfl rfl Tryz.underlying47) ?_
 refine Yo rfl (Gn rfl rfl rfl) ?_
 refine Ym ?_
 refine Flow.split 13 rfl (fun k1_10 => ?_) (fun k1_10 => ?_)
 ·have hil : i < bs.length := by simpa using k1_10
  obtain ⟨c, hc⟩ : ∃ c, bs[i]? = some c := ⟨_, List.getElem?_eq_getElem hil⟩
  obtain ⟨ad, rfl, hcell⟩ := hR.byte hc
  refine Ym ?_
  refine Yo rfl (AU rfl rfl) ?_
  refine Yf Du ?_
  refine Aj rfl rfl rfl rfl (Ai rfl rfl K8 (Bc hg rfl)) ?_
  refine Ym ?_
  refine Yo rfl (AU rfl rfl) ?_
  refine Yf Bw ?_
  refine Aj rfl rfl rfl rfl (Ai rfl rfl AI (Bc hg rfl)) ?_
  refine Yo rfl (Ah (ad' := ad.add i) rfl rfl rfl Tryz.underlying47 FR (by omega) (by omega) (by rw [Int.toNat_natCast])) ?_
  refine Aj rfl rfl rfl rfl (Ai rfl rfl ag5 (Ar hcell)) ?_
  refine Yo rfl (Cj rfl rfl rfl) ?_
  refine Yo rfl (Bb rfl rfl rfl) ?_
  refine Ym ?_
  refine Flow.split 26 rfl (fun k1_23 => ?_) (fun k1_23 => ?_)
  ·refine Ym ?_
   refine Yo rfl (AU rfl rfl) ?_
   refine Yf Du ?_
   refine Aj rfl rfl rfl rfl (Ai rfl rfl K8 (Bc hg rfl)) ?_
   refine Ym ?_
   refine Yo rfl (AU rfl rfl) ?_
   refine Yf Bw ?_
   refine Aj rfl rfl rfl rfl (Ai rfl rfl AI (Bc hg rfl)) ?_
   refine Yo rfl (Ah (ad' := ad.add i) rfl rfl rfl Tryz.underlying47 FR (by omega) (by omega) (by rw [Int.toNat_natCast])) ?_
   refine Aj rfl rfl rfl rfl (Ai rfl rfl ag5 (Ar hcell)) ?_
   refine Yo rfl (Iv rfl rfl rfl) ?_
   refine Yo rfl (Bb rfl rfl rfl) ?_
   refine Yo rfl (AY rfl rfl) ?_
   refine Flow.end rfl ?_
   simp only [zq, zr]
   refine Fin.then <| DC.ret ?_
   refine Ak (.inl rfl) rfl rfl ?_
   refine ⟨rfl, ?_⟩
   first
   | (have h9 : 48 ≤ c.toNat := by (simp at k1_23; omega)
      rw [digAt, hc]; simp [isDig, h9]; omega)
   | (have h9 : ¬ 48 ≤ c.toNat := by (simp at k1_23; omega)
      rw [digAt, hc]; simp [isDig, h9])
   | (rw [digAt, List.getElem?_eq_none hil]; rfl)
  ·refine Yk ?_
   refine Yk ?_
   refine Yk ?_
   refine Yk ?_
   refine Yk ?_
   refine Yk ?_
   refine Yk ?_
   refine Yk ?_
   refine Yk ?_
   refine Yk ?_
   refine Yk ?_
   refine Yo rfl (Ba rfl rfl rfl) ?_
   refine Yo rfl (AY rfl rfl) ?_
   refine Flow.end rfl ?_
   simp only [zq, zr]
   refine Fin.then <| DC.ret ?_
   refine Ak (.inl rfl) rfl rfl ?_
   refine ⟨rfl, ?_⟩
   first
   | (have h9 : 48 ≤ c.toNat := by (simp at k1_23; omega)
      rw [digAt, hc]; simp [isDig, h9]; omega)
   | (have h9 : ¬ 48 ≤ c.toNat := by (simp at k1_23; omega)
      rw [digAt, hc]; simp [isDig, h9])
   | (rw [digAt, List.getElem?_eq_none hil]; rfl)
 ·have hil : bs.length ≤ i := by simpa using k1_10
  refine Yk ?_
  refine Yk ?_
  refine Yk ?_
  refine Yk ?_
  refine Yk ?_
  refine Yk ?_
  refine Yk ?_
  refine Yk ?_
  refine Yk ?_
  refine Yk ?_
  refine Yk ?_
  refine Yo rfl (Ba rfl rfl rfl) ?_
  refine Ym ?_
  refine Yk ?_
  refine Yk ?_
  refine Yk ?_
  refine Yk ?_
  refine Yk ?_
  refine Yk ?_
  refine Yk ?_
  refine Yk ?_
  refine Yk ?_
  refine Yk ?_
  refine Yk ?_
  refine Yo rfl (Ba rfl rfl rfl) ?_
  refine Yo rfl (AY rfl rfl) ?_
  refine Flow.end rfl ?_
  simp only [zq, zr]
  refine Fin.then <| DC.ret ?_
  refine Ak (.inl rfl) rfl rfl ?_
  refine ⟨rfl, ?_⟩
  first
  | (have h9 : 48 ≤ c.toNat := by (simp at k1_23; omega)
     rw [digAt, hc]; simp [isDig, h9]; omega)
  | (have h9 : ¬ 48 ≤ c.toNat := by (simp at k1_23; omega)
     rw [digAt, hc]; simp [isDig, h9])
  | (rw [digAt, List.getElem?_eq_none hil]; rfl)
theorem dig_num {c : UInt8} (h : isDig c = true) : 48 ≤ c.toNat ∧ c.toNat ≤ 57 := by simpa [isDig] using h
theorem Mc : ∀ (k : Nat) (l : List UInt8), l.length = k → (∀ c, c ∈ l → isDig c = true) → 0 ≤ decF l ∧ decF l < 10 ^ k := by
 intro k
 induction k with
 | zero => intro l h _; rw [List.eq_nil_of_length_eq_zero h]; simp [decF]
 | succ k ih =>
  intro l h hd
  have hne : l ≠ [] := by rintro rfl; simp at h
  obtain ⟨x, hx⟩ : ∃ x, x = l.getLast hne := ⟨_, rfl⟩
  have e : l = l.dropLast ++ [x] := by rw [hx]; exact (List.dropLast_concat_getLast hne).symm
  have h1 := ih l.dropLast (by simp; omega) (fun c hc => hd c (List.dropLast_subset _ hc))
  have h2 := dig_num (hd x (by rw [hx]; exact List.getLast_mem hne))
  rw [e, IR]
  have : (10 : Int) ^ (k + 1) = 10 * 10 ^ k := by rw [Int.pow_succ, Int.mul_comm]
  omega
theorem Dj {bs : List UInt8} {i : Nat} (h : digAt bs i = true) : ∃ c, bs[i]? = some c ∧ isDig c = true := by
 unfold digAt at h
 cases hc : bs[i]? with
 | none => rw [hc] at h; cases h
 | some c => rw [hc] at h; exact ⟨c, rfl, h⟩
def numAt (bs : List UInt8) (i j : Nat) : Int := decF ((bs.drop i).take (min (j - i) 9))
theorem num_bound {bs : List UInt8} {i j : Nat} (hd : ∀ p, i ≤ p → p < j → digAt bs p = true) (hij : i ≤ j) (hj : j ≤ bs.length) : 0 ≤ numAt bs i j ∧ numAt bs i j < 1000000000 := by
 have hl : ((bs.drop i).take (min (j - i) 9)).length = min (j - i) 9 := by simp; omega
 have := Mc _ _ hl (fun c hc => by
  obtain ⟨p, hp, rfl⟩ := List.mem_iff_getElem.1 hc
  rw [hl] at hp
  obtain ⟨c', h1, h2⟩ := Dj (hd (i + p) (by omega) (by omega))
  simp only [List.getElem_take, List.getElem_drop]
  rw [List.getElem?_eq_getElem (by omega)] at h1
  cases h1; exact h2)
 have h9 : (10 : Int) ^ (min (j - i) 9) ≤ 10 ^ 9 := by
  have : min (j - i) 9 ≤ 9 := Nat.min_le_right _ _
  exact_mod_cast Nat.pow_le_pow_right (by omega) this
 have : (10 : Int) ^ 9 = 1000000000 := by decide
 unfold numAt
 omega
theorem Kq {bs : List UInt8} {i j : Nat} {c : UInt8} (hij : i ≤ j) (hc : bs[j]? = some c) : numAt bs i (j + 1) = if j - i < 9 then 10 * numAt bs i j + ((c.toNat : Int) - 48) else numAt bs i j := by
 unfold numAt
 have hj := (List.getElem?_eq_some_iff.1 hc).1
 split
 ·rename_i h
  rw [show min (j + 1 - i) 9 = (j - i) + 1 by omega, show min (j - i) 9 = j - i by omega, List.take_add_one, ← IR]
  congr 1; congr 1
  rw [List.getElem?_drop, show i + (j - i) = j by omega, hc]; rfl
 ·rename_i h
  rw [show min (j + 1 - i) 9 = 9 by omega, show min (j - i) 9 = 9 by omega]
theorem Lr {gs i : Nat} {vb vt : Value} {tk : List Tk} {bs : List UInt8} {w : World} (hO : Own w (idsOf (scL gs vb vt i tk)) w (scL gs vb vt i tk)) (hB : ByV w vb bs) (ho : ByO vb bs (idsOf (scL gs vb vt i tk))) (hl : tk.length ≤ 100000000) (hb : bs.length ≤ 33554432)
  (h0 : digAt bs i = true) :
  Calls Tryz.prog 134 #[.pointer (some ⟨gs, 0, none⟩)] w
   (RetP w (idsOf (scL gs vb vt i tk)) (fun r M => r = .tuple #[] ∧ ∃ vt' j tk', M = scL gs vb vt' j tk' ∧ (i < j ∧ j ≤ bs.length) ∧ tk'.length = tk.length + 1 ∧ scanF i (bs.drop i) tk = scanF j (bs.drop j) tk')
    (fun pv M => ∃ a e, pv = sflt a e ∧ scanF i (bs.drop i) tk = .bad a e)) := by
 obtain ⟨A, cap, hvb, hR, hb1, hb2⟩ := id hB
 have hil : i < bs.length := by obtain ⟨c, hc, _⟩ := Dj h0; exact (List.getElem?_eq_some_iff.1 hc).1
 obtain ⟨c0, hc0, hd0⟩ := Dj h0
 obtain ⟨ad0, hA, _⟩ := hR.byte hc0
 subst hA
 subst hvb
 refine Da (args := [_]) Tryz.func134 rfl Tryz.ntmps134 rfl hO ?_
 unfold scL at ho ⊢
 refine Zs ?_
 refine Zm ?_
 refine Zo (AU rfl rfl) ?_
 refine Zf Bw ?_
 refine Zl AI ?_
 refine Za ?_
 refine Za ?_
 refine Zx <| DC.seq <| DC.block ?_
 refine DC.loop (ι := Nat) (fun j => i ≤ j ∧ j ≤ bs.length ∧ ∀ p, i ≤ p → p < j → digAt bs p = true)
  (fun j => [(0, .pointer (some ⟨gs, 0, none⟩)), (2, .int .i64 i), (3, .int .i64 (numAt bs i j))]) (fun j => [blk gs 176 #[.slice (some ad0) bs.length cap, .int .i64 (j : Nat), vt], slc vt 138 4 (tks tk)]) (fun j => bs.length - j) i ⟨Nat.le_refl _, by omega, fun p h1 h2 => by omega⟩ ⟨rfl, rfl, by simp [numAt, decF, Bq], trivial⟩ (.cons 0 rfl (.cons 0 rfl .nil)) ?_
 rintro j ⟨hij, hjl, hdj⟩
 refine DC.seq <| Zs ?_
 refine Zm ?_
 refine Seq.rel0 rfl rfl (Ao en133 rfl rfl rfl (fun w hw => Fi (i := j) (vt := vt) (hw.holds _ (List.mem_cons_self ..)) (hB.keep ho hw))) ?_
 rintro _ rfl
 refine Zx ?_
 refine Zd (fun c1 => ?_) fun c1 => ?_
 ·obtain ⟨c, hcj, hdc⟩ := Dj (bs := bs) (i := j) (by simpa using c1)
  have hcn := dig_num hdc
  have hjl' : j < bs.length := (List.getElem?_eq_some_iff.1 hcj).1
  have hnb := num_bound hdj hij hjl
  refine DC.skip <| Fin.then <| DC.block <| DC.seq <| Zs ?_
  refine Zm ?_
  refine Zo (AU rfl rfl) ?_
  refine Zf Bw ?_
  refine Zl AI ?_
  refine Zm ?_
  refine Zo (BA rfl rfl rfl (by omega)) ?_
  refine Zc ?_
  refine Zx ?_
  refine Zd (fun c2 => ?_) fun c2 => ?_
  ·refine AD (cl := [.q, .q, .q, .q, .q, .v, .q, .q, .q, .v, .q, .v, .q, .q, .q, .q]) (A := [0, 1, 0, 4, 12, 28, 0, 64, 192, 448, 1020, 2044, 4092, 8188, 16383, 32767]) (order := [0, 1, 2, 3, 4, 5, 6, 7, 8, 9, 10, 11, 12, 13, 14, 15]) [] mixed (by kernel_rfl) (fun w hw => hw.pick .nil) ?_
   refine Ym ?_
   refine Yo rfl (Ci rfl rfl rfl (by omega)) ?_
   refine Ym ?_
   refine Yo rfl (AU rfl rfl) ?_
   refine Yf Du ?_
   refine Yl K8 ?_
   refine Ym ?_
   refine Yo rfl (AU rfl rfl) ?_
   refine Yf Bw ?_
   refine Yl AI ?_
   refine Yo rfl (Ah (ad' := ad0.add j) rfl rfl rfl Tryz.underlying47 FR (by omega) (by omega) (by rw [Int.toNat_natCast])) ?_
   refine Aj rfl rfl rfl rfl (Ai rfl rfl ag5 (hB.has ho hcj)) ?_
   refine Yo rfl (p_sub8 rfl rfl rfl (by omega)) ?_
   refine Yo rfl (LL rfl rfl Tryz.underlying5 Tryz.underlying3 (by omega) (by omega)) ?_
   refine Yo rfl (Cv rfl rfl rfl (by omega)) ?_
   refine Yo rfl (AY rfl rfl) ?_
   refine Flow.end rfl ?_
   simp only [zq, zr]
   refine Fin.then <| DC.region ?_
   refine Zm ?_
   refine Zo (AU rfl rfl) ?_
   refine Zf Bw ?_
   refine Zl AI ?_
   refine Zp ?_
   refine Zo (AU rfl rfl) ?_
   refine Zf Bw ?_
   refine Zy (AF (cs' := #[_, _, _]) rfl rfl rfl AL rfl (Nat.le_of_ble_eq_true rfl) rfl) ?_
   refine Seq.nil <| Fin.inBlock ?_
   have hst := Kq hij hcj
   refine Fin.again (j + 1) (by omega) ⟨by omega, by omega, fun p h1 h2 => ?_⟩ ⟨rfl, rfl, ?_, trivial⟩ (.cons' 0 rfl (by simp) (.cons 0 rfl .nil))
   ·by_cases hp : p = j
    ·subst hp; simpa using c1
    ·exact hdj p h1 (by omega)
   ·rw [hst]
    simp at c2
    first
    | (rw [if_pos (by omega)]; rfl)
    | (rw [if_neg (by omega)]; rfl)
  ·refine DC.skip <| Fin.then <| DC.region ?_
   refine Zm ?_
   refine Zo (AU rfl rfl) ?_
   refine Zf Bw ?_
   refine Zl AI ?_
   refine Zp ?_
   refine Zo (AU rfl rfl) ?_
   refine Zf Bw ?_
   refine Zy (AF (cs' := #[_, _, _]) rfl rfl rfl AL rfl (Nat.le_of_ble_eq_true rfl) rfl) ?_
   refine Seq.nil <| Fin.inBlock ?_
   have hst := Kq hij hcj
   refine Fin.again (j + 1) (by omega) ⟨by omega, by omega, fun p h1 h2 => ?_⟩ ⟨rfl, rfl, ?_, trivial⟩ (.cons' 0 rfl (by simp) (.cons 0 rfl .nil))
   ·by_cases hp : p = j
    ·subst hp; simpa using c1
    ·exact hdj p h1 (by omega)
   ·rw [hst]
    simp at c2
    first
    | (rw [if_pos (by omega)]; rfl)
    | (rw [if_neg (by omega)]; rfl)
 ·refine DC.exit <| Ad <| Ad <| Ag <| Fin.then <| DC.seq <| DC.seq ?_
  have hkd : digs (bs.drop i) = j - i := by
   rw [KW (j - i) i (fun p h1 h2 => Dj (hdj p h1 (by omega))), show i + (j - i) = j by omega, digs_end (fun c hc => by simpa [digAt, hc] using c1), Nat.add_zero]
  have hji : i < j := by
   rcases Nat.lt_or_eq_of_le hij with h | h
   ·exact h
   ·subst h; rw [h0] at c1; simp at c1
  refine DC.region ?_
  refine Zm ?_
  refine Zo (AU rfl rfl) ?_
  refine Zf Bw ?_
  refine Zl AI ?_
  refine Zm ?_
  refine Zo (BA rfl rfl rfl (by omega)) ?_
  refine Za ?_
  refine Zx <| Zs ?_
  refine Zm ?_
  refine Zo (BC rfl rfl rfl) ?_
  refine Zm ?_
  refine Seq.split 48 rfl (fun k6_2 => ?_) (fun k6_2 => ?_)
  ·refine Zk ?_
   refine Zk ?_
   refine Zk ?_
   refine Zk ?_
   refine Zk ?_
   refine Zk ?_
   refine Zk ?_
   refine Zk ?_
   refine Zk ?_
   refine Zk ?_
   refine Zk ?_
   refine Zk ?_
   refine Zt ?_
   refine Zx ?_
   refine AM rfl ?_
   refine DC.region ?_
   refine Zm ?_
   refine Zo (AB (cs := #[_, _]) rfl rfl bs172 rfl rfl) ?_
   refine Zo (E5 (v := sflt i 12) rfl rfl (fun w => by kernel_rfl)) ?_
   refine Seq.panic rfl rfl rfl ?_
   refine Ay <| ?_
   refine Bn ⟨i, 12, rfl, Fj hc0 hd0 hkd ?_⟩
   first
   | (simp at k6_2; omega)
   | (simp at k6_5 c6; omega)
  ·refine Zm ?_
   refine Zo (BC rfl rfl rfl) ?_
   refine Zm ?_
   refine Seq.split 51 rfl (fun k6_5 => ?_) (fun k6_5 => ?_)
   ·refine Zm ?_
    refine Zo (AU rfl rfl) ?_
    refine Zf Du ?_
    refine Zl K8 ?_
    refine Zm ?_
    refine Zo (Ah (ad' := ad0.add i) rfl rfl rfl Tryz.underlying47 FR (by omega) (by omega) (by rw [Int.toNat_natCast])) ?_
    refine Zu (Ai rfl rfl ag5 (hB.has ho hc0)) ?_
    refine Zo (AN rfl rfl rfl) ?_
    refine Zt ?_
    refine Zg ?_
    refine Zx ?_
    refine Zd (fun c6 => ?_) fun c6 => ?_
    ·refine DC.region ?_
     refine Zm ?_
     refine Zo (AB (cs := #[_, _]) rfl rfl bs172 rfl rfl) ?_
     refine Zo (E5 (v := sflt i 12) rfl rfl (fun w => by kernel_rfl)) ?_
     refine Seq.panic rfl rfl rfl ?_
     refine Ay <| ?_
     refine Bn ⟨i, 12, rfl, Fj hc0 hd0 hkd ?_⟩
     first
     | (simp at k6_2; omega)
     | (simp at k6_5 c6; omega)
    ·refine DC.skip <| Fin.then <| DC.region ?_
     refine Zm ?_
     refine Zm ?_
     refine Zm ?_
     refine Seq.gen rfl rfl (BK en135 rfl rfl rfl (Lc := scL gs (.slice (some ad0) bs.length cap) vt j tk) (F := []) (.refl _) (fun k hk => hk) (fun w hw => DO hw.self hl)) ?_
     rintro _ _ ⟨_, ⟨rfl, vt', rfl⟩, rfl⟩
     refine Seq.nil ?_
     refine Do (.inr rfl) (B2 (.inr rfl) rfl ?_)
     have hk9 : ¬(9 < j - i ∨ (1 < j - i ∧ c0.toNat = 48)) := by
      first
      | (simp at k6_2 k6_5 c6; omega)
      | (simp at k6_2 k6_5; omega)
     refine ⟨rfl, vt', j, _, List.append_nil _, ⟨hji, hjl⟩, by simp, ?_⟩
     have := Ij (acc := tk) hc0 hd0 hkd (by omega) (by omega)
     rw [this, show i + (j - i) = j by omega]
     unfold numAt
     rw [show min (j - i) 9 = j - i by omega]
   ·refine Zk ?_
    refine Zk ?_
    refine Zk ?_
    refine Zk ?_
    refine Zk ?_
    refine Zk ?_
    refine Zk ?_
    refine Zk ?_
    refine Zg ?_
    refine Zg ?_
    refine Zx ?_
    refine AT rfl ?_
    refine DC.skip <| Fin.then <| DC.region ?_
    refine Zm ?_
    refine Zm ?_
    refine Zm ?_
    refine Seq.gen rfl rfl (BK en135 rfl rfl rfl (Lc := scL gs (.slice (some ad0) bs.length cap) vt j tk) (F := []) (.refl _) (fun k hk => hk) (fun w hw => DO hw.self hl)) ?_
    rintro _ _ ⟨_, ⟨rfl, vt', rfl⟩, rfl⟩
    refine Seq.nil ?_
    refine Do (.inr rfl) (B2 (.inr rfl) rfl ?_)
    have hk9 : ¬(9 < j - i ∨ (1 < j - i ∧ c0.toNat = 48)) := by
     first
     | (simp at k6_2 k6_5 c6; omega)
     | (simp at k6_2 k6_5; omega)
    refine ⟨rfl, vt', j, _, List.append_nil _, ⟨hji, hjl⟩, by simp, ?_⟩
    have := Ij (acc := tk) hc0 hd0 hkd (by omega) (by omega)
    rw [this, show i + (j - i) = j by omega]
    unfold numAt
    rw [show min (j - i) 9 = j - i by omega]
structure AllI where
 i : Nat
 vt : Value
 tk : List Tk
theorem Lx {gs : Nat} {vb vt : Value} {bs : List UInt8} {w : World} (hO : Own w (idsOf (scL gs vb vt 0 [])) w (scL gs vb vt 0 [])) (hB : ByV w vb bs) (ho : ByO vb bs (idsOf (scL gs vb vt 0 []))) :
  Calls Tryz.prog 106 #[.pointer (some ⟨gs, 0, none⟩)] w
   (RetP w (idsOf (scL gs vb vt 0 [])) (fun r M => r = .tuple #[] ∧ ∃ vt' j tk', M = scL gs vb vt' j tk' ∧ scanA bs = .ok tk' ∧ tk'.length ≤ 33554433)
    (fun pv M => ∃ a e, pv = sflt a e ∧ scanA bs = .bad a e)) := by
 obtain ⟨A, cap, hvb, hR, hb1, hb2⟩ := id hB
 refine Da (args := [_]) Tryz.func106 rfl Tryz.ntmps106 rfl hO ?_
 subst hvb
 unfold scL at ho ⊢
 refine DC.seq <| Zs ?_
 refine Zm ?_
 refine Zo (AU rfl rfl) ?_
 refine Zf Du ?_
 refine Zl K8 ?_
 refine Zn Tryz.underlying47 ?_
 refine Zo (BC rfl rfl rfl) ?_
 refine Zx ?_
 refine Zd (fun c0 => ?_) fun c0 => ?_
 ·refine DC.region ?_
  refine Zo (AB (cs := #[_, _]) rfl rfl bs172 rfl rfl) ?_
  refine Zo (E5 (v := sflt 33554432 10) rfl rfl (fun w => by kernel_rfl)) ?_
  refine Seq.panic rfl rfl rfl ?_
  refine Ay <| ?_
  refine Bn ⟨33554432, 10, rfl, ?_⟩
  have : 33554432 < bs.length := by simp at c0; omega
  simp [scanA, this]
 ·have hlen : bs.length ≤ 33554432 := by simp at c0; omega
  have hsA : scanA bs = scanF 0 bs [] := by rw [scanA, if_neg (by omega)]
  refine DC.skip <| Fin.then <| DC.seq <| DC.block ?_
  refine DC.loop (ι := AllI) (fun j => j.i ≤ bs.length ∧ j.tk.length ≤ j.i ∧ scanA bs = scanF j.i (bs.drop j.i) j.tk)
   (fun j => [(0, .pointer (some ⟨gs, 0, none⟩))]) (fun j => [blk gs 176 #[.slice A bs.length cap, .int .i64 (j.i : Nat), j.vt], slc j.vt 138 4 (tks j.tk)]) (fun j => bs.length - j.i) ⟨0, vt, []⟩ ⟨by simp, by simp, hsA⟩ ⟨rfl, trivial⟩ (.cons 0 rfl (.cons 0 rfl .nil)) ?_
  rintro ⟨i, vt, tk⟩ ⟨hi, htl, hsc⟩
  dsimp only at hi htl hsc ⊢
  refine DC.seq <| DC.seq ?_
  refine AD (cl := [.q, .q, .q, .v, .q, .q, .q, .v, .q, .q]) (A := [0, 1, 3, 7, 0, 16, 48, 112, 240, 511]) (order := [0, 1, 2, 3, 4, 5, 6, 7, 8, 9]) [] mixed (by kernel_rfl) (fun w hw => hw.pick .nil) ?_
  refine Ym ?_
  refine Yo rfl (AU rfl rfl) ?_
  refine Yf Bw ?_
  refine Yl AI ?_
  refine Ym ?_
  refine Yo rfl (AU rfl rfl) ?_
  refine Yf Du ?_
  refine Yl K8 ?_
  refine Yo rfl (CL rfl rfl Tryz.underlying47) ?_
  refine Yo rfl (Gn rfl rfl rfl) ?_
  refine Flow.end rfl ?_
  simp only [zq, zr]
  refine Fin.then ?_
  refine Zd (fun c2 => ?_) fun c2 => ?_
  ·have hil : i < bs.length := by simpa using c2
   obtain ⟨c, hc⟩ : ∃ c, bs[i]? = some c := ⟨_, List.getElem?_eq_getElem hil⟩
   obtain ⟨ad, rfl, hcell⟩ := hR.byte hc
   refine DC.skip <| Fin.then <| DC.block <| DC.seq ?_
   refine AD (cl := [.q, .q, .q, .v, .q, .q, .q, .v, .q, .v, .q]) (A := [0, 1, 3, 7, 0, 16, 48, 112, 255, 511, 1023]) (order := [0, 1, 2, 3, 4, 5, 6, 7, 8, 9, 10]) [] mixed (by kernel_rfl) (fun w hw => hw.pick .nil) ?_
   refine Ym ?_
   refine Yo rfl (AU rfl rfl) ?_
   refine Yf Du ?_
   refine Yl K8 ?_
   refine Ym ?_
   refine Yo rfl (AU rfl rfl) ?_
   refine Yf Bw ?_
   refine Yl AI ?_
   refine Yo rfl (Ah (ad' := ad.add i) rfl rfl rfl Tryz.underlying47 FR (by omega) (by omega) (by rw [Int.toNat_natCast])) ?_
   refine Aj rfl rfl rfl rfl (Ai rfl rfl ag5 (hB.has ho hc)) ?_
   refine Yo rfl (AY rfl rfl) ?_
   refine Flow.end rfl ?_
   simp only [zq, zr]
   refine Fin.then <| DC.block <| Zs ?_
   refine Zm ?_
   refine Seq.rel0 rfl rfl (Ao en133 rfl rfl rfl (fun w hw => Fi (i := i) (vt := vt) (hw.holds _ (List.mem_cons_self ..)) (hB.keep ho hw))) ?_
   rintro _ rfl
   refine Za ?_
   refine Zx ?_
   refine Zd (fun c5 => ?_) fun c5 => ?_
   ·have hd : digAt bs i = true := by simpa using c5
    refine DC.region ?_
    refine Zm ?_
    refine DF rfl rfl en134 rfl rfl rfl (Lc := scL gs (.slice (some ad) bs.length cap) vt i tk) (F := []) (.refl _) (fun k hk => hk) (fun w hw => Lr hw.self (hB.keep ho hw) (ByO.step hB ho hw) (by omega) hlen hd) ?_ ?_
    ·rintro pv L' ⟨a, e, rfl, h⟩
     refine AA <| AA <| Ay <| AA <| Ay <| ?_
     exact Bn ⟨a, e, rfl, hsc.trans h⟩
    rintro _ _ ⟨rfl, vt', j, tk', rfl, ⟨hj, hj2⟩, htk, hsc'⟩
    refine Seq.nil <| Fin.inBlock <| Fin.inBlock ?_
    refine Fin.again ⟨j, vt', tk'⟩ (by dsimp only; omega) ⟨by dsimp only; omega, by dsimp only; omega, hsc.trans hsc'⟩ ⟨rfl, trivial⟩ (.cons 0 rfl (.cons 0 rfl .nil))
   ·have hd : isDig c = false := by simpa [digAt, hc] using c5
    refine Zs ?_
    refine Zm ?_
    refine Zo (AN rfl rfl rfl) ?_
    refine Za ?_
    refine Zx ?_
    refine Zd (fun c7 => ?_) fun c7 => ?_
    ·have hc10 : c.toNat = 10 := by simp at c7; omega
     have hst := Lw (acc := tk) hc hd hc10
     refine Zs ?_
     refine Zm ?_
     refine Zo (AU rfl rfl) ?_
     refine Zf Bw ?_
     refine Zl AI ?_
     refine Zp ?_
     refine Zo (AU rfl rfl) ?_
     refine Zf Bw ?_
     refine Zy (AF (cs' := #[_, _, _]) rfl rfl rfl AL rfl (Nat.le_of_ble_eq_true rfl) rfl) ?_
     refine Seq.nil ?_
     rw [show ((i : Int) + 1) = ((i + 1 : Nat) : Int) from rfl]
     refine Fin.then <| DC.region ?_
     refine Zm ?_
     refine Zm ?_
     refine Zo (AU rfl rfl) ?_
     refine Zf Bw ?_
     refine Zl AI ?_
     refine Zo (BA rfl rfl rfl (by omega)) ?_
     refine Seq.gen rfl rfl (BK en135 rfl rfl rfl (Lc := scL gs (.slice (some ad) bs.length cap) vt (i + 1) tk) (F := []) (.refl _) (fun k hk => hk) (fun w hw => DO hw.self (by omega))) ?_
     rintro _ _ ⟨_, ⟨rfl, vt', rfl⟩, rfl⟩
     rw [show ((i + 1 : Nat) : Int) - 1 = (i : Int) by omega]
     refine Seq.nil <| Fin.inBlock <| Fin.inBlock ?_
     refine Fin.again ⟨i + 1, vt', tk ++ [⟨2, i, (i + 1 : Nat), 0⟩]⟩ (by dsimp only; omega) ⟨by dsimp only; omega, by simp; omega, hsc.trans hst⟩ ⟨rfl, trivial⟩ (.cons 0 rfl (.cons 0 rfl .nil))
    ·have hc10 : c.toNat ≠ 10 := by simp at c7; omega
     refine Zs ?_
     refine Zm ?_
     refine Zo (AN rfl rfl rfl) ?_
     refine Zm ?_
     refine Seq.split 62 rfl (fun k10_2 => ?_) (fun k10_2 => ?_)
     ·refine Zk ?_
      refine Zk ?_
      refine Zt ?_
      refine Zm ?_
      refine Zk ?_
      refine Zk ?_
      refine Zt ?_
      refine Za ?_
      refine Zx ?_
      refine AM rfl ?_
      refine DC.region ?_
      refine Zm ?_
      refine Zo (AU rfl rfl) ?_
      refine Zf Bw ?_
      refine Zl AI ?_
      refine Zp ?_
      refine Zo (AU rfl rfl) ?_
      refine Zf Bw ?_
      refine Zy (AF (cs' := #[_, _, _]) rfl rfl rfl AL rfl (Nat.le_of_ble_eq_true rfl) rfl) ?_
      refine Seq.nil ?_
      rw [show ((i : Int) + 1) = ((i + 1 : Nat) : Int) from rfl]
      refine Fin.inBlock <| Fin.inBlock ?_
      refine Fin.again ⟨i + 1, vt, tk⟩ (by dsimp only; omega) ⟨by dsimp only; omega, by dsimp only; omega, hsc.trans (FW hc hd hc10 ?_)⟩ ⟨rfl, trivial⟩ (.cons 0 rfl (.cons 0 rfl .nil))
      first
      | (simp at k10_2; omega)
      | (simp at k10_6; omega)
      | (simp at c10; omega)
     ·refine Zm ?_
      refine Zo (AN rfl rfl rfl) ?_
      refine Zg ?_
      refine Zm ?_
      refine Seq.split 66 rfl (fun k10_6 => ?_) (fun k10_6 => ?_)
      ·refine Zk ?_
       refine Zk ?_
       refine Zt ?_
       refine Za ?_
       refine Zx ?_
       refine AM rfl ?_
       refine DC.region ?_
       refine Zm ?_
       refine Zo (AU rfl rfl) ?_
       refine Zf Bw ?_
       refine Zl AI ?_
       refine Zp ?_
       refine Zo (AU rfl rfl) ?_
       refine Zf Bw ?_
       refine Zy (AF (cs' := #[_, _, _]) rfl rfl rfl AL rfl (Nat.le_of_ble_eq_true rfl) rfl) ?_
       refine Seq.nil ?_
       rw [show ((i : Int) + 1) = ((i + 1 : Nat) : Int) from rfl]
       refine Fin.inBlock <| Fin.inBlock ?_
       refine Fin.again ⟨i + 1, vt, tk⟩ (by dsimp only; omega) ⟨by dsimp only; omega, by dsimp only; omega, hsc.trans (FW hc hd hc10 ?_)⟩ ⟨rfl, trivial⟩ (.cons 0 rfl (.cons 0 rfl .nil))
       first
       | (simp at k10_2; omega)
       | (simp at k10_6; omega)
       | (simp at c10; omega)
      ·refine Zm ?_
       refine Zo (AN rfl rfl rfl) ?_
       refine Zg ?_
       refine Za ?_
       refine Zx ?_
       refine Zd (fun c10 => ?_) fun c10 => ?_
       ·refine DC.region ?_
        refine Zm ?_
        refine Zo (AU rfl rfl) ?_
        refine Zf Bw ?_
        refine Zl AI ?_
        refine Zp ?_
        refine Zo (AU rfl rfl) ?_
        refine Zf Bw ?_
        refine Zy (AF (cs' := #[_, _, _]) rfl rfl rfl AL rfl (Nat.le_of_ble_eq_true rfl) rfl) ?_
        refine Seq.nil ?_
        rw [show ((i : Int) + 1) = ((i + 1 : Nat) : Int) from rfl]
        refine Fin.inBlock <| Fin.inBlock ?_
        refine Fin.again ⟨i + 1, vt, tk⟩ (by dsimp only; omega) ⟨by dsimp only; omega, by dsimp only; omega, hsc.trans (FW hc hd hc10 ?_)⟩ ⟨rfl, trivial⟩ (.cons 0 rfl (.cons 0 rfl .nil))
        first
        | (simp at k10_2; omega)
        | (simp at k10_6; omega)
        | (simp at c10; omega)
       ·refine DC.region ?_
        refine Zm ?_
        refine Zo (AU rfl rfl) ?_
        refine Zf Bw ?_
        refine Zl AI ?_
        refine Zo (AB (cs := #[_, _]) rfl rfl bs172 rfl rfl) ?_
        refine Zo (E5 (v := sflt i 11) rfl rfl (fun w => by kernel_rfl)) ?_
        refine Seq.panic rfl rfl rfl ?_
        refine AA <| AA <| Ay <| AA <| Ay <| ?_
        exact Bn ⟨i, 11, rfl, hsc.trans (scanF_bad hc hd hc10 (by simp at k10_2 k10_6 c10; omega))⟩
  ·refine DC.exit <| Ad <| Ad <| Ag <| Fin.then <| DC.region ?_
   refine Zm ?_
   refine Zm ?_
   refine Zo (AU rfl rfl) ?_
   refine Zf Bw ?_
   refine Zl AI ?_
   refine Seq.gen rfl rfl (BK en135 rfl rfl rfl (Lc := scL gs (.slice A bs.length cap) vt i tk) (F := []) (.refl _) (fun k hk => hk) (fun w hw => DO hw.self (by omega))) ?_
   rintro _ _ ⟨_, ⟨rfl, vt', rfl⟩, rfl⟩
   refine Seq.nil ?_
   refine Do (.inr rfl) (B2 (.inr rfl) rfl ?_)
   have hil : i = bs.length := by simp at c2; omega
   refine ⟨rfl, vt', i, _, List.append_nil _, ?_, by simp; omega⟩
   rw [hsc, scanF_end (by omega) (by omega)]
theorem HY {v e : Int} {x y z : Value} {ga gb gc : Nat} {w : World} (hO : Own w [ga, gb, gc] w [blk ga 131 #[x], blk gb 3 #[y], blk gc 29 #[z]]) :
  CallsD Tryz.prog 105 #[.pointer (some ⟨ga, 0, none⟩), .pointer (some ⟨gb, 0, none⟩), .pointer (some ⟨gc, 0, none⟩)] (.panicking (onePanic (sflt v e))) w
   fun e' u' w' => u' = .panicking [{ v := sflt v e, recovered := true }] ∧ Ret w [ga, gb, gc] (fun r M => M = [blk ga 131 #[.slice none 0 0], blk gb 3 #[.int .i64 v], blk gc 29 #[.int .i64 e]]) e' w' := by
 refine D3 (args := [_, _, _]) Tryz.func105 rfl Tryz.ntmps105 rfl rfl rfl rfl rfl rfl rfl rfl (.some _ []) hO ?_
 refine Zs ?_
 refine Zm ?_
 refine Zo (p_ifnil (b := true) rfl rfl rfl (fun w => by kernel_rfl)) ?_
 refine Zx ?_
 refine AM rfl ?_
 refine Zs ?_
 refine Zm ?_
 refine Zo (CX (v := .tuple #[.agg #[.int .i64 v, .int .i64 e], .bool true]) rfl rfl (fun w => by kernel_rfl)) ?_
 refine Zm ?_
 refine Ze ?_
 refine Ze ?_
 refine Zw (AO rfl ze172 rfl) fun g4 => ?_
 refine Zy (Az (cs' := #[_, _]) rfl rfl rfl sz172 rfl (Nat.le_of_ble_eq_true rfl) rfl) ?_
 refine Za ?_
 refine Zx <| DC.seq <| Zs ?_
 refine Zm ?_
 refine Zo (Bg rfl rfl) ?_
 refine Zx ?_
 refine AT rfl ?_
 refine DC.skip <| Fin.then ?_
 refine AD (cl := [.q, .q, .q, .q, .g, .g, .g]) (A := [0, 1, 0, 4, 0, 19, 63]) (order := [0, 1, 2, 3, 4, 5, 6]) ([blk g4 172 #[.int .i64 v, .int .i64 e]]) mixed (by kernel_rfl) (fun w hw => hw.pick (.cons 0 rfl .nil)) ?_
 refine Yf fi172_0 ?_
 refine Flow.old rfl rfl rfl (Ai rfl rfl AI (BM rfl)) ?_
 refine Yf fi172_1 ?_
 refine Flow.old rfl rfl rfl (Ai rfl rfl HR (BM rfl)) ?_
 refine AX rfl rfl rfl rfl (AF (cs' := #[_]) rfl rfl rfl sz131 rfl (Nat.le_of_ble_eq_true rfl) rfl) (fun w hw => hw.pick (.cons 0 rfl .nil)) ?_
 refine AX rfl rfl rfl rfl (AF (cs' := #[_]) rfl rfl rfl AL rfl (Nat.le_of_ble_eq_true rfl) rfl) (fun w hw => hw.pick (.cons 0 rfl .nil)) ?_
 refine AX rfl rfl rfl rfl (AF (cs' := #[_]) rfl rfl rfl sz29 rfl (Nat.le_of_ble_eq_true rfl) rfl) (fun w hw => hw.pick (.cons 0 rfl .nil)) ?_
 refine Flow.end rfl ?_
 simp only [zq, zr]
 refine Fin.weak (E' := []) trivial (.cons 1 rfl (.cons 1 rfl (.cons 1 rfl .nil))) ?_
 refine B2 (.inr rfl) rfl ?_
 rfl
theorem HZ {x y z : Value} {ga gb gc : Nat} {w : World} (hO : Own w [ga, gb, gc] w [blk ga 131 #[x], blk gb 3 #[y], blk gc 29 #[z]]) :
  CallsD Tryz.prog 105 #[.pointer (some ⟨ga, 0, none⟩), .pointer (some ⟨gb, 0, none⟩), .pointer (some ⟨gc, 0, none⟩)] .returning w
   fun e' u' w' => u' = .returning ∧ Ret w [ga, gb, gc] (fun r M => M = [blk ga 131 #[x], blk gb 3 #[y], blk gc 29 #[z]]) e' w' := by
 refine D3 (args := [_, _, _]) Tryz.func105 rfl Tryz.ntmps105 rfl rfl rfl rfl rfl rfl rfl rfl .none hO ?_
 refine Zs ?_
 refine Zm ?_
 refine Zo (Kl (b := false) rfl rfl (fun w => by kernel_rfl)) ?_
 refine Zx ?_
 refine AT rfl ?_
 refine DC.skip ?_
 refine B2 (.inr rfl) rfl ?_
 rfl
theorem own3 {w0 w : World} {K : List Nat} {ga gb gc t t' t'' : Nat} {x y z : Array Value} {F : List Chunk} (h : Own w0 K w (blk ga t x :: blk gb t' y :: blk gc t'' z :: F)) : Own w [ga, gb, gc] w [blk ga t x, blk gb t' y, blk gc t'' z] :=
 (h.sub (L' := [blk ga t x, blk gb t' y, blk gc t'' z]) (by simp)).self
/-- What nums.Scan answers. -/
def ScanR (bs : List UInt8) (r : Value) (M : List Chunk) : Prop :=
 (∃ tk vt, scanA bs = .ok tk ∧ tk.length ≤ 33554433 ∧ r = .tuple #[vt, .int .i64 0, .int .i64 0] ∧ M = [slc vt 138 4 (tks tk)]) ∨
 (∃ a e, scanA bs = .bad a e ∧ r = .tuple #[.slice none 0 0, .int .i64 a, .int .i64 e] ∧ M = [])
theorem Scan_calls {vb : Value} {bs : List UInt8} {w : World} (hB : ByV w vb bs) :
  Calls Tryz.prog 72 #[vb] w (Ret w [] (ScanR bs)) := by
 have ho : ByO vb bs [] := fun _ _ _ _ _ h => by simp at h
 obtain ⟨A, cb, hvb⟩ := hB.len
 subst hvb
 refine IU (K := []) (args := [_]) (L := []) Tryz.func72 rfl Tryz.ntmps72 rfl (Own.start _ _) ?_
 refine Zs ?_
 refine Zw (AO rfl ze131 rfl) fun g2 => ?_
 refine Zw (AO rfl BT rfl) fun g3 => ?_
 refine Zw (AO rfl ze29 rfl) fun g4 => ?_
 refine Zx <| Zs ?_
 refine Zo (F3 rfl rfl rfl) ?_
 refine Seq.defer rfl rfl rfl rfl ?_
 refine Zx <| Zs ?_
 refine Zm ?_
 refine Zo (AB (cs := #[_, _, _]) rfl rfl bs176 rfl rfl) ?_
 refine Zw (AR rfl rfl rfl) fun g9 => ?_
 refine Za ?_
 refine Zx <| DC.seq ?_
 refine DC.own (fun w hw => Bd (t := 138) (m := 4) hw) ?_
 refine DC.region ?_
 refine Zm ?_
 refine DF rfl rfl en106 rfl rfl rfl (Lc := scL g9 (.slice A bs.length cb) (.slice none 0 0) 0 []) (F := [blk g4 29 #[.int .i64 0], blk g3 3 #[.int .i64 0], blk g2 131 #[.slice none 0 0]]) (.swap _ _ _) (fun k hk => hk) (fun w hw => Lx (hw.pick (L' := scL g9 (.slice A bs.length cb) (.slice none 0 0) 0 []) (.cons 1 rfl (.cons 0 rfl .nil))).self (hB.keep ho hw) (ByO.step hB ho (hw.pick (L' := scL g9 (.slice A bs.length cb) (.slice none 0 0) 0 []) (.cons 1 rfl (.cons 0 rfl .nil))))) ?_ ?_
 ·rintro pv M ⟨a, e, rfl, hsc⟩
  refine Ay <| ?_
  refine HV ?_
  refine Fin.leaves (f := 105) (cap := [.pointer (some ⟨g2, 0, none⟩), .pointer (some ⟨g3, 0, none⟩), .pointer (some ⟨g4, 0, none⟩)]) (Lc := [blk g2 131 #[.slice none 0 0], blk g3 3 #[.int .i64 0], blk g4 29 #[.int .i64 0]]) (F := M) en105 (by simp) rfl
   ((List.perm_append_comm (l₁ := M)).trans (List.Perm.append_right M (List.reverse_perm [blk g2 131 #[.slice none 0 0], blk g3 3 #[.int .i64 0], blk g4 29 #[.int .i64 0]]))) (fun k hk => by simpa [blk] using hk) (fun w' hw => HY (own3 (hw.perm ((List.perm_append_comm (l₁ := M)).trans (List.Perm.append_right M (List.reverse_perm [blk g2 131 #[.slice none 0 0], blk g3 3 #[.int .i64 0], blk g4 29 #[.int .i64 0]]))).symm))) ?_
  rintro r L' rfl a' w' ha hw
  have e2 : a'.tmps.getD 2 undef = .pointer (some ⟨g2, 0, none⟩) := by have := ha.ev (x := .tmp 2) (v := .pointer (some ⟨g2, 0, none⟩)) rfl; simpa only [Act.eval] using this
  have e3 : a'.tmps.getD 3 undef = .pointer (some ⟨g3, 0, none⟩) := by have := ha.ev (x := .tmp 3) (v := .pointer (some ⟨g3, 0, none⟩)) rfl; simpa only [Act.eval] using this
  have e4 : a'.tmps.getD 4 undef = .pointer (some ⟨g4, 0, none⟩) := by have := ha.ev (x := .tmp 4) (v := .pointer (some ⟨g4, 0, none⟩)) rfl; simpa only [Act.eval] using this
  exact ⟨_, Io rfl e2 e3 e4 (Ca (hw.holds (blk g2 131 #[.slice none 0 0]) (by simp)) ag131 rfl) (Ca (hw.holds (blk g3 3 #[.int .i64 a]) (by simp)) AI rfl) (Ca (hw.holds (blk g4 29 #[.int .i64 e]) (by simp)) HR rfl),
   _, [], rfl, .inr ⟨a, e, hsc, rfl, rfl⟩, hw.sub (by simp)⟩
 rintro _ _ ⟨rfl, vt', j, tk', rfl, hsc, htl⟩
 unfold scL
 simp only [List.cons_append, List.nil_append]
 refine Zx <| DC.seq ?_
 refine DC.shape 1 rfl ?_
 rintro ⟨A5, l5, c5, rfl⟩
 refine DC.region ?_
 refine Zm ?_
 refine Zo (AU rfl rfl) ?_
 refine Zf JA ?_
 refine Zl ag131 ?_
 refine Zy (AF (cs' := #[_]) rfl rfl rfl sz131 rfl (Nat.le_of_ble_eq_true rfl) rfl) ?_
 refine Zy (AF (cs' := #[_]) rfl rfl rfl AL rfl (Nat.le_of_ble_eq_true rfl) rfl) ?_
 refine Zy (AF (cs' := #[_]) rfl rfl rfl sz29 rfl (Nat.le_of_ble_eq_true rfl) rfl) ?_
 refine Zx <| DC.ret ?_
 refine Li ?_
 refine Fin.leaves (f := 105) (cap := [.pointer (some ⟨g2, 0, none⟩), .pointer (some ⟨g3, 0, none⟩), .pointer (some ⟨g4, 0, none⟩)]) (Lc := [blk g2 131 #[.slice A5 l5 c5], blk g3 3 #[.int .i64 0], blk g4 29 #[.int .i64 0]]) (F := [slc (.slice A5 l5 c5) 138 4 (tks tk'), blk g9 176 #[.slice A bs.length cb, .int .i64 j, (.slice A5 l5 c5)]]) en105 (by simp) rfl
  (List.reverse_perm [blk g2 131 #[.slice A5 l5 c5], blk g3 3 #[.int .i64 0], blk g4 29 #[.int .i64 0], slc (.slice A5 l5 c5) 138 4 (tks tk'), blk g9 176 #[.slice A bs.length cb, .int .i64 j, (.slice A5 l5 c5)]]) (fun k hk => by simpa [blk] using hk) (fun w' hw => HZ (own3 (hw.perm (List.reverse_perm [blk g2 131 #[.slice A5 l5 c5], blk g3 3 #[.int .i64 0], blk g4 29 #[.int .i64 0], slc (.slice A5 l5 c5) 138 4 (tks tk'), blk g9 176 #[.slice A bs.length cb, .int .i64 j, .slice A5 l5 c5]]).symm))) ?_
 rintro r L' rfl a' w' ha hw
 have e2 : a'.tmps.getD 2 undef = .pointer (some ⟨g2, 0, none⟩) := by have := ha.ev (x := .tmp 2) (v := .pointer (some ⟨g2, 0, none⟩)) rfl; simpa only [Act.eval] using this
 have e3 : a'.tmps.getD 3 undef = .pointer (some ⟨g3, 0, none⟩) := by have := ha.ev (x := .tmp 3) (v := .pointer (some ⟨g3, 0, none⟩)) rfl; simpa only [Act.eval] using this
 have e4 : a'.tmps.getD 4 undef = .pointer (some ⟨g4, 0, none⟩) := by have := ha.ev (x := .tmp 4) (v := .pointer (some ⟨g4, 0, none⟩)) rfl; simpa only [Act.eval] using this
 exact ⟨_, Io rfl e2 e3 e4 (Ca (hw.holds (blk g2 131 #[.slice A5 l5 c5]) (by simp)) ag131 rfl) (Ca (hw.holds (blk g3 3 #[.int .i64 0]) (by simp)) AI rfl) (Ca (hw.holds (blk g4 29 #[.int .i64 0]) (by simp)) HR rfl),
  _, [slc (.slice A5 l5 c5) 138 4 (tks tk')], rfl, .inl ⟨tk', (.slice A5 l5 c5), hsc, htl, rfl, rfl⟩, hw.sub (by simp)⟩
def liL (gr : Nat) (vp : Value) (s : RdS) (vl : Value) (tk : List Tk) : List Chunk :=
 [blk gr 135 #[.int .i64 s.n, vp, .bool s.hd, .int .i64 s.m], slc vp 35 2 (prs s.ps), slc vl 138 4 (tks tk)]
def LineR (gr : Nat) (s : RdS) (vl : Value) (tk : List Tk) (r : Value) (M : List Chunk) : Prop :=
 (∃ s' vp', lineF s tk = .ok s' ∧ r = .agg #[.int .i64 0, .int .i64 0] ∧ M = liL gr vp' s' vl tk) ∨ (∃ c a, lineF s tk = .bad c a ∧ c ≠ 0 ∧ r = .agg #[.int .i64 c, .int .i64 a])
theorem Kb {gr : Nat} {vp vl : Value} {s : RdS} {tk : List Tk} {w : World} (hO : Own w (idsOf (liL gr vp s vl tk)) w (liL gr vp s vl tk)) (h0 : tk ≠ []) (hl : tk.length ≤ 100000000) (hp : s.ps.length ≤ 100000000) :
  Calls Tryz.prog 73 #[.pointer (some ⟨gr, 0, none⟩), vl] w (Ret w (idsOf (liL gr vp s vl tk)) (LineR gr s vl tk)) := by
 obtain ⟨A, cl, rfl, hR, hl1, hl2⟩ := I1 hO 2 rfl
 obtain ⟨t, tr, rfl⟩ : ∃ t tr, tk = t :: tr := by cases tk with | nil => exact absurd rfl h0 | cons a b => exact ⟨a, b, rfl⟩
 obtain ⟨ad, rfl, _⟩ := hR.tk (i := 0) rfl
 obtain ⟨Ap, cp, rfl, _⟩ := Fr hO 1 rfl (by omega)
 refine At (args := [_, _]) Tryz.func73 rfl Tryz.ntmps73 rfl hO ?_
 unfold liL
 refine Zs ?_
 refine Zw (AO rfl ze51 rfl) fun g4 => ?_
 refine Zx <| DC.seq <| Zs ?_
 refine Zm ?_
 refine Zo (AU rfl rfl) ?_
 refine Zf JD ?_
 refine Zl Id ?_
 refine Zo (Bg rfl rfl) ?_
 refine Zx ?_
 refine Zd (fun c1 => ?_) fun c1 => ?_
 ·have hh : s.hd = false := by simpa using c1
  refine DC.seq <| DC.block <| Zs ?_
  refine Zm ?_
  refine Zn Tryz.underlying131 ?_
  refine Zo (BB rfl rfl rfl) ?_
  refine Za ?_
  refine Zx ?_
  refine Zd (fun c2 => ?_) fun c2 => ?_
  ·have hr : tr.length ≠ 1 := by simp at c2; omega
   refine Zs ?_
   refine Zm ?_
   refine Zo (AE (ad' := ad.add (0 * 4)) rfl rfl rfl Tryz.underlying131 Cg (by omega) (by simp) rfl) ?_
   refine Zf EN ?_
   refine Zu (Ai rfl rfl AI (Dg (i := 3) (j := 0) rfl rfl 1 rfl)) ?_
   refine Zo (AB (cs := #[_, _]) rfl rfl Gf rfl rfl) ?_
   refine Zy (Az (cs' := #[_, _]) rfl rfl rfl Cf rfl (Nat.le_of_ble_eq_true rfl) rfl) ?_
   refine Zx <| DC.ret <| Ae <| Aa <| Aa ?_
   refine Cl (cs := #[_, _]) (.inl rfl) rfl rfl EE Cf ?_
   refine ⟨_, fun w hw => hw, .inr ⟨20, t.fr, ?_, by decide, rfl⟩⟩
   unfold lineF; simp only [hh, if_true]
   split
   ·simp at hr
   ·rfl
  ·have hr : tr.length = 1 := by simp at c2; omega
   obtain ⟨u, rfl⟩ := List.length_eq_one_iff.1 hr
   refine Zs ?_
   refine Zm ?_
   refine Zo (AE (ad' := ad.add (0 * 4)) rfl rfl rfl Tryz.underlying131 Cg (by omega) (by simp) rfl) ?_
   refine Zf DX ?_
   refine Zu (Ai rfl rfl AI (Dg (i := 3) (j := 0) rfl rfl 3 rfl)) ?_
   refine Zo (BC rfl rfl rfl) ?_
   refine Za ?_
   refine Zx ?_
   refine Zd (fun c4 => ?_) fun c4 => ?_
   ·refine Zs ?_
    refine Zm ?_
    refine Zo (AE (ad' := ad.add (0 * 4)) rfl rfl rfl Tryz.underlying131 Cg (by omega) (by simp) rfl) ?_
    refine Zf EN ?_
    refine Zu (Ai rfl rfl AI (Dg (i := 3) (j := 0) rfl rfl 1 rfl)) ?_
    refine Zo (AB (cs := #[_, _]) rfl rfl Gf rfl rfl) ?_
    refine Zy (Az (cs' := #[_, _]) rfl rfl rfl Cf rfl (Nat.le_of_ble_eq_true rfl) rfl) ?_
    refine Zx <| DC.ret <| Ae <| Aa <| Aa ?_
    refine Cl (cs := #[_, _]) (.inl rfl) rfl rfl EE Cf ?_
    refine ⟨_, fun w hw => hw, .inr ⟨21, t.fr, ?_, by decide, rfl⟩⟩
    simp at c4
    simp [lineF, hh, c4]
   ·refine Zs ?_
    refine Zm ?_
    refine Zo (AE (ad' := ad.add (1 * 4)) rfl rfl rfl Tryz.underlying131 Cg (by omega) (by simp) rfl) ?_
    refine Zf DX ?_
    refine Zu (Ai rfl rfl AI (Dg (i := 3) (j := 1) rfl rfl 3 rfl)) ?_
    refine Zo (BC rfl rfl rfl) ?_
    refine Za ?_
    refine Zx ?_
    refine Zd (fun c6 => ?_) fun c6 => ?_
    ·refine Zs ?_
     refine Zm ?_
     refine Zo (AE (ad' := ad.add (1 * 4)) rfl rfl rfl Tryz.underlying131 Cg (by omega) (by simp) rfl) ?_
     refine Zf EN ?_
     refine Zu (Ai rfl rfl AI (Dg (i := 3) (j := 1) rfl rfl 1 rfl)) ?_
     refine Zo (AB (cs := #[_, _]) rfl rfl Gf rfl rfl) ?_
     refine Zy (Az (cs' := #[_, _]) rfl rfl rfl Cf rfl (Nat.le_of_ble_eq_true rfl) rfl) ?_
     refine Zx <| DC.ret <| Ae <| Aa <| Aa ?_
     refine Cl (cs := #[_, _]) (.inl rfl) rfl rfl EE Cf ?_
     refine ⟨_, fun w hw => hw, .inr ⟨22, u.fr, ?_, by decide, rfl⟩⟩
     simp at c4 c6
     simp [lineF, hh, c6]
     try omega
    ·refine DC.skip <| Fin.inBlock <| Fin.then <| DC.seq ?_
     refine AD (cl := [.q, .q, .q, .q, .q, .q, .q, .q, .q, .q, .q, .q, .q, .g, .q, .q, .q, .g, .q, .q, .g]) (A := [0, 0, 0, 0, 8, 24, 56, 0, 128, 384, 896, 2041, 4089, 8185, 16379, 32763, 65531, 131067, 262143, 524287, 1048575]) (order := [0, 1, 2, 3, 4, 5, 6, 7, 8, 9, 10, 11, 12, 13, 14, 15, 16, 17, 18, 19, 20]) ([slc (.slice (some ad) _ cl) 138 4 (tks [t, u])]) mixed (by kernel_rfl) (fun w hw => hw.pick (.cons 3 rfl .nil)) ?_
     refine Ym ?_
     refine Ym ?_
     refine Ym ?_
     refine Ym ?_
     refine Yo rfl (AE (ad' := ad.add (0 * 4)) rfl rfl rfl Tryz.underlying131 Cg (by omega) (by simp) rfl) ?_
     refine Yf DX ?_
     refine Flow.old rfl rfl rfl (Ai rfl rfl AI (Dg (i := 0) (j := 0) rfl rfl 3 rfl)) ?_
     refine Ym ?_
     refine Yo rfl (AE (ad' := ad.add (1 * 4)) rfl rfl rfl Tryz.underlying131 Cg (by omega) (by simp) rfl) ?_
     refine Yf DX ?_
     refine Flow.old rfl rfl rfl (Ai rfl rfl AI (Dg (i := 0) (j := 1) rfl rfl 3 rfl)) ?_
     refine Yo rfl (AU rfl rfl) ?_
     refine Yf JD ?_
     refine AX rfl rfl rfl rfl (AF (cs' := #[_, _, _, _]) rfl rfl rfl FS rfl (Nat.le_of_ble_eq_true rfl) rfl) (fun w hw => hw.pick (.cons 3 rfl .nil)) ?_
     refine Yo rfl (AU rfl rfl) ?_
     refine Yf DY ?_
     refine Yf fi84_0 ?_
     refine AX rfl rfl rfl rfl (AF (cs' := #[_, _, _, _]) rfl rfl rfl AL rfl (Nat.le_of_ble_eq_true rfl) rfl) (fun w hw => hw.pick (.cons 3 rfl .nil)) ?_
     refine Yo rfl (AU rfl rfl) ?_
     refine Yf JC ?_
     refine AX rfl rfl rfl rfl (AF (cs' := #[_, _, _, _]) rfl rfl rfl AL rfl (Nat.le_of_ble_eq_true rfl) rfl) (fun w hw => hw.pick (.cons 3 rfl .nil)) ?_
     refine Flow.end rfl ?_
     simp only [zq, zr]
     refine Fin.then <| Zs ?_
     refine Zo (AB (cs := #[_, _]) rfl rfl Gf rfl rfl) ?_
     refine Zy (Az (cs' := #[_, _]) rfl rfl rfl Cf rfl (Nat.le_of_ble_eq_true rfl) rfl) ?_
     refine Zx <| DC.ret <| Aa ?_
     refine Cl (cs := #[_, _]) (.inl rfl) rfl rfl EE Cf ?_
     refine ⟨_, fun w hw => hw.pick (.cons 1 rfl (.cons 1 rfl (.cons 1 rfl .nil))), .inl ⟨⟨t.nu, s.ps, true, u.nu⟩, _, ?_, rfl, rfl⟩⟩
     simp at c4 c6
     simp [lineF, hh, show ¬ 1048576 < t.nu by omega, show ¬ 2097152 < u.nu by omega]
 ·have hh : s.hd = true := by simpa using c1
  refine DC.skip <| Fin.then <| DC.seq <| DC.block <| DC.seq ?_
  refine AD (cl := [.q, .q, .q, .q, .v, .q, .q, .q, .q, .v, .q, .q]) (A := [0, 1, 3, 7, 15, 31, 0, 64, 192, 448, 1023, 2047]) (order := [0, 1, 2, 3, 4, 5, 6, 7, 8, 9, 10, 11]) [] mixed (by kernel_rfl) (fun w hw => hw.pick .nil) ?_
  refine Ym ?_
  refine Yo rfl (AU rfl rfl) ?_
  refine Yf DY ?_
  refine Yf Jv ?_
  refine Yl ag37 ?_
  refine Yo rfl (CL rfl rfl Tryz.underlying37) ?_
  refine Ym ?_
  refine Yo rfl (AU rfl rfl) ?_
  refine Yf JC ?_
  refine Yl AI ?_
  refine Yo rfl (Cj rfl rfl rfl) ?_
  refine Yo rfl (AY rfl rfl) ?_
  refine Flow.end rfl ?_
  simp only [zq, zr]
  refine Fin.then ?_
  refine Zd (fun c10 => ?_) fun c10 => ?_
  ·have hm : s.m ≤ s.ps.length := by simp at c10; omega
   refine Zs ?_
   refine Zm ?_
   refine Zo (AE (ad' := ad.add (0 * 4)) rfl rfl rfl Tryz.underlying131 Cg (by omega) (by simp) rfl) ?_
   refine Zf EN ?_
   refine Zu (Ai rfl rfl AI (Dg (i := 3) (j := 0) rfl rfl 1 rfl)) ?_
   refine Zo (AB (cs := #[_, _]) rfl rfl Gf rfl rfl) ?_
   refine Zy (Az (cs' := #[_, _]) rfl rfl rfl Cf rfl (Nat.le_of_ble_eq_true rfl) rfl) ?_
   refine Zx <| DC.ret <| Ae <| Aa ?_
   refine Cl (cs := #[_, _]) (.inl rfl) rfl rfl EE Cf ?_
   refine ⟨_, fun w hw => hw, .inr ⟨26, t.fr, ?_, by decide, rfl⟩⟩
   simp [lineF, hh, hm]
  ·have hm : ¬ s.m ≤ s.ps.length := by simp at c10; omega
   refine Zs ?_
   refine Zm ?_
   refine Zn Tryz.underlying131 ?_
   refine Zo (BB rfl rfl rfl) ?_
   refine Za ?_
   refine Zx ?_
   refine Zd (fun c12 => ?_) fun c12 => ?_
   ·have hr : tr.length ≠ 1 := by simp at c12; omega
    refine Zs ?_
    refine Zm ?_
    refine Zo (AE (ad' := ad.add (0 * 4)) rfl rfl rfl Tryz.underlying131 Cg (by omega) (by simp) rfl) ?_
    refine Zf EN ?_
    refine Zu (Ai rfl rfl AI (Dg (i := 3) (j := 0) rfl rfl 1 rfl)) ?_
    refine Zo (AB (cs := #[_, _]) rfl rfl Gf rfl rfl) ?_
    refine Zy (Az (cs' := #[_, _]) rfl rfl rfl Cf rfl (Nat.le_of_ble_eq_true rfl) rfl) ?_
    refine Zx <| DC.ret <| Ae <| Aa ?_
    refine Cl (cs := #[_, _]) (.inl rfl) rfl rfl EE Cf ?_
    refine ⟨_, fun w hw => hw, .inr ⟨23, t.fr, ?_, by decide, rfl⟩⟩
    match tr, hr with
    | [], _ => simp [lineF, hh, hm]
    | _ :: _ :: _, _ => simp [lineF, hh, hm]
    | [_], h => exact absurd rfl h
   ·have hr : tr.length = 1 := by simp at c12; omega
    obtain ⟨u, rfl⟩ := List.length_eq_one_iff.1 hr
    refine DC.skip <| Fin.inBlock <| Fin.then <| DC.seq <| Zs ?_
    refine Zm ?_
    refine Zn Tryz.underlying131 ?_
    refine Zm ?_
    refine Zx <| DC.block ?_
    refine DC.loop (ι := Nat) (fun j => j ≤ 2 ∧ ∀ (p : Nat) k, p < j → [t, u][p]? = some k → k.nu < s.n)
     (fun j => [(0, .pointer (some ⟨gr, 0, none⟩)), (1, .slice (some ad) _ cl), (4, .pointer (some ⟨g4, 0, none⟩)), (88, .slice (some ad) _ cl), (89, .int .i64 2), (90, .int .i64 j)])
     (fun j => [blk g4 51 #[.int .i64 0, .int .i64 0], blk gr 135 #[.int .i64 s.n, .slice Ap s.ps.length cp, .bool s.hd, .int .i64 s.m], slc (.slice Ap s.ps.length cp) 35 2 (prs s.ps), slc (.slice (some ad) _ cl) 138 4 (tks [t, u])]) (fun j => 2 - j) 0 ⟨by omega, fun p k h => by omega⟩ ⟨rfl, rfl, rfl, rfl, rfl, rfl, trivial⟩ (.cons 0 rfl (.cons 0 rfl (.cons 0 rfl (.cons 0 rfl .nil)))) ?_
    rintro j ⟨hj, hall⟩
    refine Zs ?_
    refine Zc ?_
    refine Zx <| DC.seq ?_
    refine Zd (fun c15 => ?_) fun c15 => ?_
    ·have hj2 : j < 2 := by simp at c15; omega
     obtain ⟨k, hk⟩ : ∃ k, [t, u][j]? = some k := ⟨_, List.getElem?_eq_getElem hj2⟩
     refine DC.skip <| Fin.then <| DC.seq <| DC.block <| Zs ?_
     refine Zo (AE (ad' := ad.add (j * 4)) rfl rfl rfl Tryz.underlying131 Cg (by omega) (by simp; omega) (by rw [Int.toNat_natCast])) ?_
     refine Zu (Aw (vs := [_, _, _, _]) rfl rfl ag138 Cg rfl (Jq (i := 3) rfl hk)) ?_
     refine Zw (AO rfl Ig rfl) fun g6 => ?_
     refine Zy (Az (cs' := #[_, _, _, _]) rfl rfl rfl Cg rfl (Nat.le_of_ble_eq_true rfl) rfl) ?_
     refine Zx <| DC.seq ?_
     refine AD (cl := [.q, .v, .q, .q, .q, .q, .v, .q]) (A := [0, 1, 0, 4, 12, 28, 60, 127]) (order := [0, 1, 2, 3, 4, 5, 6, 7]) [] mixed (by kernel_rfl) (fun w hw => hw.pick .nil) ?_
     refine Yf DX ?_
     refine Yl AI ?_
     refine Ym ?_
     refine Yo rfl (AU rfl rfl) ?_
     refine Yf DY ?_
     refine Yf fi84_0 ?_
     refine Yl AI ?_
     refine Yo rfl (Cj rfl rfl rfl) ?_
     refine Flow.end rfl ?_
     simp only [zq, zr]
     refine Fin.then ?_
     refine Zd (fun c17 => ?_) fun c17 => ?_
     ·refine Zs ?_
      refine Zf EN ?_
      refine Zl AI ?_
      refine Zo (AB (cs := #[_, _]) rfl rfl Gf rfl rfl) ?_
      refine Zy (Az (cs' := #[_, _]) rfl rfl rfl Cf rfl (Nat.le_of_ble_eq_true rfl) rfl) ?_
      refine Zx <| DC.ret <| Ae <| Aa <| Aa <| Ae <| Aa ?_
      refine Cl (cs := #[_, _]) (.inl rfl) rfl rfl EE Cf ?_
      refine ⟨_, fun w hw => hw, .inr ⟨24, k.fr, ?_, by decide, rfl⟩⟩
      have hn : s.n ≤ k.nu := by simpa using c17
      match j, hj2, hk with
      | 0, _, hk => cases hk; simp [lineF, hh, hm, hn]
      | 1, _, hk =>
       cases hk
       have h1 := hall 0 t (by omega) rfl
       simp [lineF, hh, hm, hn, show ¬ s.n ≤ t.nu by omega]
     ·refine DC.skip <| Fin.inBlock <| Fin.then <| DC.region ?_
      refine Zp ?_
      refine Zm ?_
      refine Seq.nil ?_
      refine Fin.again (j + 1) (by omega) ⟨by omega, fun p k' h1 h2 => ?_⟩ ⟨rfl, rfl, rfl, rfl, rfl, rfl, trivial⟩ (.cons 1 rfl (.cons 1 rfl (.cons 1 rfl (.cons 1 rfl .nil))))
      by_cases hp : p = j
      ·subst hp; rw [hk] at h2; cases h2; simp at c17; omega
      ·exact hall p k' (by omega) h2
    ·refine DC.exit <| Ad <| Ad <| Ag <| Fin.then <| DC.seq ?_
     refine AD (cl := [.q, .q, .q, .q, .q, .v, .q, .q, .q, .v, .q, .q, .q, .v, .q, .n, .g, .q, .q, .q, .g]) (A := [0, 0, 2, 6, 14, 30, 0, 64, 192, 448, 0, 1024, 3072, 7168, 16320, 32704, 65534, 131071, 262143, 524287, 1048575]) (order := [0, 1, 2, 3, 4, 5, 6, 7, 8, 9, 10, 11, 12, 13, 14, 15, 16, 17, 18, 19, 20]) [] mixed (by kernel_rfl) (fun w hw => hw.pick .nil) ?_
     refine Ym ?_
     refine Ym ?_
     refine Yo rfl (AU rfl rfl) ?_
     refine Yf DY ?_
     refine Yf Jv ?_
     refine Yl ag37 ?_
     refine Ym ?_
     refine Yo rfl (AE (ad' := ad.add (0 * 4)) rfl rfl rfl Tryz.underlying131 Cg (by omega) (by simp) rfl) ?_
     refine Yf DX ?_
     refine Aj rfl rfl rfl rfl (Ai rfl rfl AI (Dg (i := 3) (j := 0) rfl rfl 3 rfl)) ?_
     refine Ym ?_
     refine Yo rfl (AE (ad' := ad.add (1 * 4)) rfl rfl rfl Tryz.underlying131 Cg (by omega) (by simp) rfl) ?_
     refine Yf DX ?_
     refine Aj rfl rfl rfl rfl (Ai rfl rfl AI (Dg (i := 3) (j := 1) rfl rfl 3 rfl)) ?_
     refine Yo rfl (Ji (cs := #[.int .i64 t.nu, .int .i64 u.nu]) rfl rfl Tryz.underlying35 AL ze35 rfl rfl rfl) ?_
     refine Bt rfl rfl rfl rfl (AP (cs := #[_, _]) rfl rfl Tryz.underlying37 sz35 ze35 rfl (by decide) (by decide) rfl rfl) fun g121 => ?_
     refine DH (V := [blk g121 35 #[.int .i64 t.nu, .int .i64 u.nu], blk g4 51 #[.int .i64 0, .int .i64 0], blk gr 135 #[.int .i64 s.n, .slice Ap s.ps.length cp, .bool s.hd, .int .i64 s.m], slc (.slice Ap s.ps.length cp) 35 2 (prs s.ps), slc (.slice (some ad) _ cl) 138 4 (tks [t, u])]) rfl rfl rfl rfl rfl (Gen.shape (AG (F := [blk g121 _ _, blk g4 _ _, blk gr _ _, slc _ _ _ _]) (vs := prs s.ps) (k := 1) (news := [.int .i64 t.nu, .int .i64 u.nu]) rfl rfl rfl Tryz.underlying37 sz35 by35 ze35 rfl (by decide) (by decide)
      (fun w hw => hw.pick (.cons 3 rfl (.cons 0 rfl (.cons 0 rfl (.cons 0 rfl (.cons 0 rfl .nil)))))) (.inl ⟨_, _, rfl, Am rfl⟩) rfl (by intro u hu; simp at hu; rcases hu with rfl | rfl <;> rfl) (by rw [prs_length]; omega))) (fun v L' hC w hw => hw.pick (.nil)) ?_
     rintro _ _ ⟨⟨A11, l11, c11, rfl⟩, rfl⟩
     refine Yo rfl (AU rfl rfl) ?_
     refine Yf DY ?_
     refine Yf Jv ?_
     refine AX rfl rfl rfl rfl (AF (cs' := #[_, _, _, _]) rfl rfl rfl sz37 rfl (Nat.le_of_ble_eq_true rfl) rfl) (fun w hw => hw.pick (.nil)) ?_
     refine Flow.end rfl ?_
     simp only [zq, zr]
     refine Fin.then <| Zs ?_
     refine Zo (AB (cs := #[_, _]) rfl rfl Gf rfl rfl) ?_
     refine Zy (Az (cs' := #[_, _]) rfl rfl rfl Cf rfl (Nat.le_of_ble_eq_true rfl) rfl) ?_
     refine Zx <| DC.ret ?_
     refine Cl (cs := #[_, _]) (.inl rfl) rfl rfl EE Cf ?_
     have hj2 : j = 2 := by simp at c15; omega
     have h1 := hall 0 t (by omega) rfl
     have h2 := hall 1 u (by omega) rfl
     refine ⟨_, fun w hw => hw.pick (.cons 3 rfl (.cons 0 rfl (.cons 2 rfl .nil))), .inl ⟨⟨s.n, s.ps ++ [(t.nu, u.nu)], true, s.m⟩, .slice A11 l11 c11, ?_, rfl, ?_⟩⟩
     ·simp [lineF, hh, hm, show ¬ s.n ≤ t.nu by omega, show ¬ s.n ≤ u.nu by omega]
     ·simp [liL, Ch, prs, hh]
theorem I7 {gr : Nat} {vp vl : Value} {s : RdS} {tk : List Tk} {w : World} (hO : Own w (idsOf (liL gr vp s vl tk)) w (liL gr vp s vl tk)) (h0 : tk ≠ []) (hl : tk.length ≤ 100000000) (hp : s.ps.length ≤ 100000000) :
  Calls Tryz.prog 73 #[.pointer (some ⟨gr, 0, none⟩), vl] w (Ret w (idsOf (liL gr vp s vl tk)) fun r M => ∃ c a, r = .agg #[.int .i64 c, .int .i64 a] ∧
   ((c = 0 ∧ ∃ s' vp', lineF s tk = .ok s' ∧ M = liL gr vp' s' vl tk) ∨ (c ≠ 0 ∧ lineF s tk = .bad c a))) := by
 refine Calls.mono (Kb hO h0 hl hp) ?_
 rintro e w' ⟨v, L', rfl, ⟨s', vp', h1, rfl, rfl⟩ | ⟨c, a, h1, h2, rfl⟩, hO⟩
 ·exact ⟨_, _, rfl, ⟨0, 0, rfl, .inl ⟨rfl, s', vp', h1, rfl⟩⟩, hO⟩
 ·exact ⟨_, _, rfl, ⟨c, a, rfl, .inr ⟨h2, h1⟩⟩, hO⟩
theorem Lb {vb : Value} {bs : List UInt8} {w : World} (hB : ByV w vb bs) :
  Calls Tryz.prog 72 #[vb] w (Ret w [] fun r M => ∃ tk A c a e, r = .tuple #[.slice A tk.length c, .int .i64 a, .int .i64 e] ∧ M = [slc (.slice A tk.length c) 138 4 (tks tk)] ∧ tk.length ≤ 33554433 ∧ (tk ≠ [] → ∃ ad, A = some ad) ∧ ((e = 0 ∧ scanA bs = .ok tk) ∨ (e ≠ 0 ∧ scanA bs = .bad a e))) := by
 refine Calls.mono (Scan_calls hB) ?_
 rintro e w' ⟨v, L', rfl, ⟨tk, vt, hsc, htl, rfl, rfl⟩ | ⟨a, e, hsc, rfl, rfl⟩, hO⟩
 ·obtain ⟨A, c, rfl, hR, _⟩ := I1 hO 0 rfl
  refine ⟨_, _, rfl, ⟨tk, A, c, 0, 0, rfl, rfl, htl, fun hne => ?_, .inl ⟨rfl, hsc⟩⟩, hO⟩
  obtain ⟨k, hk⟩ : ∃ k, tk[0]? = some k := ⟨_, List.getElem?_eq_getElem (List.length_pos_iff.2 hne)⟩
  obtain ⟨ad, e, _⟩ := hR.tk hk
  exact ⟨ad, e⟩
 ·exact ⟨_, _, rfl, ⟨[], none, 0, a, e, rfl, rfl, by simp, fun h => absurd rfl h, .inr ⟨scanA_err hsc, hsc⟩⟩, Bd hO⟩
structure FeI where
 s : RdS
 l : List Tk
 j : Nat
 vp : Value
 vl : Value
def RawR (bs : List UInt8) (r : Value) (M : List Chunk) : Prop :=
 (∃ n ps vp, rawF bs = .ok n ps ∧ ps.length ≤ 33554433 ∧ r = .tuple #[.agg #[.int .i64 n, vp], .agg #[.int .i64 0, .int .i64 0]] ∧ M = [slc vp 35 2 (prs ps)]) ∨
 (∃ c a, rawF bs = .bad c a ∧ c ≠ 0 ∧ r = .tuple #[.agg #[.int .i64 0, .slice none 0 0], .agg #[.int .i64 c, .int .i64 a]] ∧ M = [])
theorem Raw_calls {vb : Value} {bs : List UInt8} {w : World} (hB : ByV w vb bs) :
  Calls Tryz.prog 38 #[vb] w (Ret w [] (RawR bs)) := by
 have ho : ByO vb bs [] := fun _ _ _ _ _ h => by simp at h
 obtain ⟨Ab, cb, rfl⟩ := hB.len
 refine At (K := []) (args := [_]) (L := []) Tryz.func38 rfl Tryz.ntmps38 rfl (Own.start _ _) ?_
 refine Zs ?_
 refine Zw (AO rfl ze84 rfl) fun g2 => ?_
 refine Zw (AO rfl ze51 rfl) fun g3 => ?_
 refine Zx ?_
 refine DC.scope ?_
 refine DC.seq <| Zs ?_
 refine Zm ?_
 refine Zn Tryz.underlying47 ?_
 refine Zo (BC rfl rfl rfl) ?_
 refine Zx ?_
 refine Zd (fun c1 => ?_) fun c1 => ?_
 ·refine Zs ?_
  refine Zo (AB (cs := #[_, _]) rfl rfl bs84 rfl rfl) ?_
  refine Zo (AB (cs := #[_, _]) rfl rfl Gf rfl rfl) ?_
  refine Zy (Az (cs' := #[_, _]) rfl rfl rfl Fd rfl (Nat.le_of_ble_eq_true rfl) rfl) ?_
  refine Zy (Az (cs' := #[_, _]) rfl rfl rfl Cf rfl (Nat.le_of_ble_eq_true rfl) rfl) ?_
  refine Zx <| DC.ret <| Aa <| Cb ?_
  refine CQ (cs := #[_, _]) (cs' := #[_, _]) (.inl rfl) rfl rfl rfl ag84 Fd EE Cf ?_
  refine ⟨[], fun w hw => hw.pick .nil, .inr ⟨10, 16777216, ?_, by decide, rfl, rfl⟩⟩
  have : 16777216 < bs.length := by simp at c1; omega
  simp [rawF, this]
 ·have hlen : ¬ 16777216 < bs.length := by simp at c1; omega
  refine DC.skip <| Fin.then <| Zs ?_
  refine Zm ?_
  refine Seq.gen rfl rfl (BK en72 rfl rfl rfl (Lc := []) (F := [blk g3 51 #[.int .i64 0, .int .i64 0], blk g2 84 #[.int .i64 0, .slice none 0 0]]) (.refl _) (fun k hk => by simp at hk) (fun w hw => Lb (hB.keep0 hw))) ?_
  rintro _ _ ⟨_, ⟨tk, A, c, a, e, rfl, rfl, htl, hA, hsc⟩, rfl⟩
  refine Zm ?_
  refine Ze ?_
  refine Ze ?_
  refine Ze ?_
  refine Za ?_
  refine Za ?_
  refine Za ?_
  refine Zx <| DC.seq <| DC.seq ?_
  simp only [List.cons_append, List.nil_append]
  refine DC.region ?_
  refine Zm ?_
  refine Zo (BB rfl rfl rfl) ?_
  refine Zx ?_
  refine Zd (fun c4 => ?_) fun c4 => ?_
  ·have hbad : scanA bs = .bad a e ∧ e ≠ 0 := by
    rcases hsc with ⟨rfl, _⟩ | ⟨h1, h2⟩
    ·simp at c4
    ·exact ⟨h2, h1⟩
   refine Zs ?_
   refine Zo (AB (cs := #[_, _]) rfl rfl bs84 rfl rfl) ?_
   refine Zm ?_
   refine Zm ?_
   refine Zo (AB (cs := #[_, _]) rfl rfl Gf rfl rfl) ?_
   refine Zy (Az (cs' := #[_, _]) rfl rfl rfl Fd rfl (Nat.le_of_ble_eq_true rfl) rfl) ?_
   refine Zy (Az (cs' := #[_, _]) rfl rfl rfl Cf rfl (Nat.le_of_ble_eq_true rfl) rfl) ?_
   refine Zx <| DC.ret <| Aa <| Cb ?_
   refine CQ (cs := #[_, _]) (cs' := #[_, _]) (.inl rfl) rfl rfl rfl ag84 Fd EE Cf ?_
   refine ⟨[], fun w hw => hw.pick .nil, .inr ⟨e, a, ?_, hbad.2, rfl, rfl⟩⟩
   simp [rawF, hlen, hbad.1]
  ·have hok : scanA bs = .ok tk := by
    rcases hsc with ⟨_, h2⟩ | ⟨h1, h2⟩
    ·exact h2
    ·simp at c4; exact absurd c4.symm (fun h => h1 h.symm)
   have hrw : rawF bs = endF bs.length (feedF ⟨0, [], false, 0⟩ [] tk) := by simp [rawF, hlen, hok]
   refine DC.skip <| Fin.then <| Zs ?_
   refine Zw (AO rfl ze135 rfl) fun g7 => ?_
   refine Zx <| Zs ?_
   refine Za ?_
   refine Zx <| DC.seq <| DC.label <| Fin.then ?_
   refine DC.cut (ι := FeI) (fun i => feedF ⟨0, [], false, 0⟩ [] tk = .ok i.s ∧ i.s.ps.length ≤ 33554433) (fun i => [(0, .slice Ab bs.length cb), (2, .pointer (some ⟨g2, 0, none⟩)), (3, .pointer (some ⟨g3, 0, none⟩)), (7, .pointer (some ⟨g7, 0, none⟩))])
    (fun i => [blk g7 135 #[.int .i64 i.s.n, i.vp, .bool i.s.hd, .int .i64 i.s.m], slc i.vp 35 2 (prs i.s.ps), blk g3 51 #[.int .i64 0, .int .i64 0], blk g2 84 #[.int .i64 0, .slice none 0 0]]) ?first ?rest
   case first =>
    refine DC.seq ?_
    refine DC.own (fun w hw => Bd (t := 138) (m := 4) (Bd (t := 35) (m := 2) hw)) ?_
    refine DC.region ?_
    refine Zm ?_
    refine Zn Tryz.underlying131 ?_
    refine Zm ?_
    refine Zx <| DC.block ?_
    refine DC.loop (ι := FeI) (fun i => feedF ⟨0, [], false, 0⟩ [] tk = feedF i.s i.l (tk.drop i.j) ∧ i.j ≤ tk.length ∧ i.s.ps.length ≤ i.j ∧ i.l.length ≤ i.j)
     (fun i => [(0, .slice Ab bs.length cb), (2, .pointer (some ⟨g2, 0, none⟩)), (3, .pointer (some ⟨g3, 0, none⟩)), (7, .pointer (some ⟨g7, 0, none⟩)), (8, i.vl), (29, .slice A tk.length c), (30, .int .i64 tk.length), (31, .int .i64 (i.j : Nat))])
     (fun i => [blk g7 135 #[.int .i64 i.s.n, i.vp, .bool i.s.hd, .int .i64 i.s.m], slc i.vp 35 2 (prs i.s.ps), slc i.vl 138 4 (tks i.l), blk g3 51 #[.int .i64 0, .int .i64 0], blk g2 84 #[.int .i64 0, .slice none 0 0], slc (.slice A tk.length c) 138 4 (tks tk)]) (fun i => tk.length - i.j)
     ⟨⟨0, [], false, 0⟩, [], 0, .slice none 0 0, .slice none 0 0⟩ ⟨rfl, by simp, by simp, by simp⟩ ⟨rfl, rfl, rfl, rfl, rfl, rfl, rfl, rfl, trivial⟩ (.cons 2 rfl (.cons 1 rfl (.cons 0 rfl (.cons 1 rfl (.cons 1 rfl (.cons 0 rfl .nil)))))) ?_
    rintro ⟨s, l, j, vp, vl⟩ ⟨hfe, hj, hpl, hll⟩
    dsimp only at hfe hj hpl hll ⊢
    refine Zs ?_
    refine Zc ?_
    refine Zx <| DC.seq ?_
    refine Zd (fun c9 => ?_) fun c9 => ?_
    ·have hj9 : j < tk.length := by simpa using c9
     obtain ⟨k, hk⟩ : ∃ k, tk[j]? = some k := ⟨_, List.getElem?_eq_getElem hj9⟩
     obtain ⟨ad, rfl⟩ := hA (fun e => by rw [e] at hj9; simp at hj9)
     have hdr : tk.drop j = k :: tk.drop (j + 1) := by rw [List.drop_eq_getElem_cons hj9]; congr 1; exact (List.getElem?_eq_some_iff.1 hk).2
     rw [hdr] at hfe
     refine DC.skip <| Fin.then <| DC.seq <| DC.block <| Zs ?_
     refine Zo (AE (ad' := ad.add (j * 4)) rfl rfl rfl Tryz.underlying131 Cg (by omega) (by omega) (by rw [Int.toNat_natCast])) ?_
     refine Zu (Aw (vs := [_, _, _, _]) rfl rfl ag138 Cg rfl (Jq (i := 5) rfl hk)) ?_
     refine Zw (AO rfl Ig rfl) fun g10 => ?_
     refine Zy (Az (cs' := #[_, _, _, _]) rfl rfl rfl Cg rfl (Nat.le_of_ble_eq_true rfl) rfl) ?_
     refine Zx <| DC.seq <| Zs ?_
     refine Zf JB ?_
     refine Zl ag136 ?_
     refine Zo (AN rfl rfl rfl) ?_
     refine Zx ?_
     refine Zd (fun c11 => ?_) fun c11 => ?_
     ·have hk1 : k.kd = 1 := by simpa using c11
      refine Zs ?_
      refine Zm ?_
      refine Zu (Aw (vs := [_, _, _, _]) rfl rfl ag138 Cg rfl (Am rfl)) ?_
      refine Zw (AP (cs := #[_, _, _, _]) rfl rfl Tryz.underlying131 Cg Ig rfl (by decide) (by decide) rfl rfl) fun g40 => ?_
      refine Seq.gen rfl rfl (Gen.shape (AG (F := [blk g40 _ _, blk g10 _ _, blk g7 _ _, slc _ _ _ _, blk g3 _ _, blk g2 _ _, slc _ _ _ _]) (vs := tks l) (k := 1) (news := [.int .i64 k.kd, .int .i64 k.fr, .int .i64 k.en, .int .i64 k.nu]) rfl rfl rfl Tryz.underlying131 Cg by138 Ig rfl (by decide) (by decide)
       (fun w hw => hw.pick (.cons 4 rfl (.cons 0 rfl (.cons 0 rfl (.cons 0 rfl (.cons 0 rfl (.cons 0 rfl (.cons 0 rfl (.cons 0 rfl .nil))))))))) (.inl ⟨_, _, rfl, Am rfl⟩) rfl (by intro u hu; simp at hu; rcases hu with rfl | rfl | rfl | rfl <;> rfl) (by rw [tks_length]; omega))) ?_
      rintro _ _ ⟨⟨A11, l11, c11', rfl⟩, rfl⟩
      refine Za ?_
      refine Zx <| DC.exit <| Ad <| Ag <| Fin.then <| DC.region ?_
      refine Zp ?_
      refine Zm ?_
      refine Seq.nil ?_
      refine Fin.again ⟨s, l ++ [k], j + 1, vp, .slice A11 l11 c11'⟩ (by dsimp only; omega) ⟨hfe.trans (feedF_num hk1), by dsimp only; omega, by dsimp only; omega, by simp; omega⟩ ⟨rfl, rfl, rfl, rfl, rfl, rfl, rfl, rfl, trivial⟩ (.cons 3 rfl (.cons 3 rfl (.cons' 0 rfl (by rw [GW]; rfl) (.cons 2 rfl (.cons 2 rfl (.cons 2 rfl .nil))))))
     ·have hk1 : k.kd ≠ 1 := by simpa using c11
      refine DC.skip <| Fin.then <| DC.seq <| DC.seq ?_
      refine DC.shapeT 3 rfl ?_
      rintro ⟨Al, cl, rfl⟩
      refine DC.region ?_
      refine Zm ?_
      refine Zn Tryz.underlying131 ?_
      refine Zo (BC rfl rfl rfl) ?_
      refine Zx ?_
      refine Zd (fun c13 => ?_) fun c13 => ?_
      ·have hl0 : l ≠ [] := by rintro rfl; simp at c13
       refine DC.seq <| Zs ?_
       refine Zm ?_
       refine Seq.gen rfl rfl (BK en73 rfl rfl rfl (Lc := liL g7 vp s (.slice Al l.length cl) l) (F := [blk g10 138 #[.int .i64 k.kd, .int .i64 k.fr, .int .i64 k.en, .int .i64 k.nu], blk g3 51 #[.int .i64 0, .int .i64 0], blk g2 84 #[.int .i64 0, .slice none 0 0], slc (.slice (some ad) tk.length c) 138 4 (tks tk)]) (List.perm_middle (a := blk g10 138 #[.int .i64 k.kd, .int .i64 k.fr, .int .i64 k.en, .int .i64 k.nu]) (l₁ := liL g7 vp s (.slice Al l.length cl) l)).symm (fun k hk => hk) (fun w hw => I7 (hw.pick (L' := liL g7 vp s (.slice Al l.length cl) l) (.cons 1 rfl (.cons 1 rfl (.cons 1 rfl .nil)))).self hl0 (by omega) (by omega))) ?_
       rintro _ _ ⟨M', ⟨cc, aa, rfl, hln⟩, rfl⟩
       refine Seq.own (fun w hw => hw.perm (List.perm_append_comm)) ?_
       simp only [List.cons_append, List.nil_append]
       refine Zw (AO rfl ze51 rfl) fun g11 => ?_
       refine Zy (Az (cs' := #[_, _]) rfl rfl rfl Cf rfl (Nat.le_of_ble_eq_true rfl) rfl) ?_
       refine Zx <| Zs ?_
       refine Zf L7 ?_
       refine Zl HR ?_
       refine Zo (BB rfl rfl rfl) ?_
       refine Zx ?_
       refine Zd (fun c15 => ?_) fun c15 => ?_
       ·have hbad : lineF s l = .bad cc aa ∧ cc ≠ 0 := by
         rcases hln with ⟨rfl, _⟩ | ⟨h1, h2⟩
         ·simp at c15
         ·exact ⟨h2, h1⟩
        refine DC.seq ?_
        refine AD (cl := [.q, .q, .g, .g]) (A := [0, 0, 1, 7]) (order := [0, 1, 2, 3]) ([blk g11 51 #[.int .i64 cc, .int .i64 aa]]) mixed (by kernel_rfl) (fun w hw => hw.pick (.cons 0 rfl .nil)) ?_
        refine Yo rfl (AB (cs := #[_, _]) rfl rfl bs84 rfl rfl) ?_
        refine Flow.old rfl rfl rfl (Aw (vs := [_, _]) rfl rfl EE Cf rfl (Am rfl)) ?_
        refine AX rfl rfl rfl rfl (Az (cs' := #[_, _]) rfl rfl rfl Fd rfl (Nat.le_of_ble_eq_true rfl) rfl) (fun w hw => hw.pick (.cons 0 rfl .nil)) ?_
        refine AX rfl rfl rfl rfl (Az (cs' := #[_, _]) rfl rfl rfl Cf rfl (Nat.le_of_ble_eq_true rfl) rfl) (fun w hw => hw.pick (.cons 0 rfl .nil)) ?_
        refine Flow.end rfl ?_
        simp only [zq, zr]
        refine Fin.then <| DC.ret <| Aa <| Aa <| Ae <| Aa <| Aa <| Ae <| Aa <| Cb ?_
        refine CQ (cs := #[_, _]) (cs' := #[_, _]) (.inl rfl) rfl rfl rfl ag84 Fd EE Cf ?_
        refine ⟨[], fun w hw => hw.pick .nil, .inr ⟨cc, aa, ?_, hbad.2, rfl, rfl⟩⟩
        rw [hrw, hfe, feedF_bad hk1 hl0 hbad.1]; rfl
       ·obtain ⟨s', vp', hs', rfl⟩ : ∃ s' vp', lineF s l = .ok s' ∧ M' = liL g7 vp' s' (.slice Al l.length cl) l := by
         rcases hln with ⟨_, h⟩ | ⟨h1, h2⟩
         ·exact h
         ·simp at c15; exact absurd c15.symm (fun h => h1 h.symm)
        have hpl' := lineF_len hs'
        refine DC.skip <| Fin.then <| DC.region ?_
        refine Zm ?_
        refine Zo (CO (hi := 0) rfl rfl rfl Tryz.underlying131 Cg (by omega)) ?_
        refine Za ?_
        refine Seq.nil ?_
        unfold liL
        refine Fin.own (fun w hw => own_cutAt (m := 4) 7 rfl (by decide) hw) ?_
        simp only [List.eraseIdx_cons_succ, List.eraseIdx_cons_zero]
        refine Fin.then <| Zs ?_
        refine Zf JB ?_
        refine Zl ag136 ?_
        refine Zo (AN rfl rfl rfl) ?_
        refine Zx ?_
        refine Zd (fun c18 => ?_) fun c18 => ?_
        ·have hk3 : k.kd = 3 := by simpa using c18
         refine DC.exit <| ET (by decide) <| Ad <| Ad <| Ag ?_
         refine AJ ⟨s', [], 0, vp', .slice none 0 0⟩ ⟨hfe.trans (IM hk1 (.inr ⟨hl0, hs'⟩) hk3), by dsimp only; omega⟩ ⟨rfl, rfl, rfl, rfl, trivial⟩ (.cons 6 rfl (.cons 6 rfl (.cons 3 rfl (.cons 3 rfl .nil))))
        ·have hk3 : k.kd ≠ 3 := by simpa using c18
         refine DC.skip <| Fin.inBlock <| Fin.then <| DC.region ?_
         refine Zp ?_
         refine Zm ?_
         refine Seq.nil ?_
         refine Fin.again ⟨s', [], j + 1, vp', .slice Al 0 cl⟩ (by dsimp only; omega) ⟨hfe.trans (KN hk1 (.inr ⟨hl0, hs'⟩) hk3), by dsimp only; omega, by dsimp only; omega, by simp⟩ ⟨rfl, rfl, rfl, rfl, rfl, rfl, rfl, rfl, trivial⟩ (.cons 6 rfl (.cons 6 rfl (.cons 0 rfl (.cons 2 rfl (.cons 2 rfl (.cons 2 rfl .nil))))))
      ·have hl0 : l = [] := by simp at c13; exact c13
       refine DC.skip <| Fin.then <| Zs ?_
       refine Zf JB ?_
       refine Zl ag136 ?_
       refine Zo (AN rfl rfl rfl) ?_
       refine Zx ?_
       refine Zd (fun c18 => ?_) fun c18 => ?_
       ·have hk3 : k.kd = 3 := by simpa using c18
        refine DC.exit <| ET (by decide) <| Ad <| Ad <| Ag ?_
        refine AJ ⟨s, [], 0, vp, .slice none 0 0⟩ ⟨hfe.trans (IM hk1 (.inl ⟨hl0, rfl⟩) hk3), by dsimp only; omega⟩ ⟨rfl, rfl, rfl, rfl, trivial⟩ (.cons 1 rfl (.cons 1 rfl (.cons 2 rfl (.cons 2 rfl .nil))))
       ·have hk3 : k.kd ≠ 3 := by simpa using c18
        refine DC.skip <| Fin.inBlock <| Fin.then <| DC.region ?_
        refine Zp ?_
        refine Zm ?_
        refine Seq.nil ?_
        subst hl0
        refine Fin.again ⟨s, [], j + 1, vp, .slice Al ([] : List Tk).length cl⟩ (by dsimp only; omega) ⟨hfe.trans (KN hk1 (.inl ⟨rfl, rfl⟩) hk3), by dsimp only; omega, by dsimp only; omega, by simp⟩ ⟨rfl, rfl, rfl, rfl, rfl, rfl, rfl, rfl, trivial⟩ (.cons 1 rfl (.cons 1 rfl (.cons 1 rfl (.cons 1 rfl (.cons 1 rfl (.cons 1 rfl .nil))))))
    ·refine DC.exit <| Ad <| Ad <| Ag ?_
     have hj9 : tk.length ≤ j := by simp at c9; omega
     rw [List.drop_eq_nil_of_le hj9] at hfe
     refine AJ ⟨s, [], 0, vp, .slice none 0 0⟩ ⟨hfe, by dsimp only; omega⟩ ⟨rfl, rfl, rfl, rfl, trivial⟩ (.cons 0 rfl (.cons 0 rfl (.cons 1 rfl (.cons 1 rfl .nil))))
   case rest =>
    rintro ⟨s, l', j', vp, vl'⟩ ⟨hfe, hpl⟩
    dsimp only at hfe hpl ⊢
    refine DC.shapeP 1 rfl (by omega) ?_
    rintro ⟨Ap, cp, rfl⟩
    refine DC.seq <| DC.block <| Zs ?_
    refine Zf JD ?_
    refine Zl Id ?_
    refine Zo (Bg rfl rfl) ?_
    refine Za ?_
    refine Zx ?_
    refine Zd (fun c20 => ?_) fun c20 => ?_
    ·refine Zs ?_
     refine Zo (AB (cs := #[_, _]) rfl rfl bs84 rfl rfl) ?_
     refine Zm ?_
     refine Zn Tryz.underlying47 ?_
     refine Zo (AB (cs := #[_, _]) rfl rfl Gf rfl rfl) ?_
     refine Zy (Az (cs' := #[_, _]) rfl rfl rfl Fd rfl (Nat.le_of_ble_eq_true rfl) rfl) ?_
     refine Zy (Az (cs' := #[_, _]) rfl rfl rfl Cf rfl (Nat.le_of_ble_eq_true rfl) rfl) ?_
     refine Zx <| DC.ret <| Ae <| Aa <| Cb ?_
     refine CQ (cs := #[_, _]) (cs' := #[_, _]) (.inl rfl) rfl rfl rfl ag84 Fd EE Cf ?_
     refine ⟨[], fun w hw => hw.pick .nil, .inr ⟨20, bs.length, ?_, by decide, rfl, rfl⟩⟩
     have hh : s.hd = false := by simpa using c20
     rw [hrw, hfe]; simp [endF, hh]
    ·have hh : s.hd = true := by simpa using c20
     refine Zs ?_
     refine Zf DY ?_
     refine Zf Jv ?_
     refine Zl ag37 ?_
     refine Zn Tryz.underlying37 ?_
     refine Zf JC ?_
     refine Zl AI ?_
     refine Zc ?_
     refine Za ?_
     refine Zx ?_
     refine Zd (fun c22 => ?_) fun c22 => ?_
     ·refine Zs ?_
      refine Zo (AB (cs := #[_, _]) rfl rfl bs84 rfl rfl) ?_
      refine Zm ?_
      refine Zn Tryz.underlying47 ?_
      refine Zo (AB (cs := #[_, _]) rfl rfl Gf rfl rfl) ?_
      refine Zy (Az (cs' := #[_, _]) rfl rfl rfl Fd rfl (Nat.le_of_ble_eq_true rfl) rfl) ?_
      refine Zy (Az (cs' := #[_, _]) rfl rfl rfl Cf rfl (Nat.le_of_ble_eq_true rfl) rfl) ?_
      refine Zx <| DC.ret <| Ae <| Aa <| Cb ?_
      refine CQ (cs := #[_, _]) (cs' := #[_, _]) (.inl rfl) rfl rfl rfl ag84 Fd EE Cf ?_
      refine ⟨[], fun w hw => hw.pick .nil, .inr ⟨25, bs.length, ?_, by decide, rfl, rfl⟩⟩
      have hm : (s.ps.length : Int) < s.m := by simpa using c22
      rw [hrw, hfe]; simp [endF, hh, hm]
     ·refine DC.skip <| Fin.inBlock <| Fin.then <| Zs ?_
      refine Zf DY ?_
      refine Zu (Aw (vs := [_, _]) rfl rfl ag84 Fd rfl (Am rfl)) ?_
      refine Zo (AB (cs := #[_, _]) rfl rfl Gf rfl rfl) ?_
      refine Zy (Az (cs' := #[_, _]) rfl rfl rfl Fd rfl (Nat.le_of_ble_eq_true rfl) rfl) ?_
      refine Zy (Az (cs' := #[_, _]) rfl rfl rfl Cf rfl (Nat.le_of_ble_eq_true rfl) rfl) ?_
      refine Zx <| DC.ret <| Cb ?_
      refine CQ (cs := #[_, _]) (cs' := #[_, _]) (.inl rfl) rfl rfl rfl ag84 Fd EE Cf ?_
      refine ⟨_, fun w hw => hw.pick (.cons 1 rfl .nil), .inl ⟨s.n, s.ps, _, ?_, hpl, rfl, rfl⟩⟩
      have hm : ¬ (s.ps.length : Int) < s.m := by simp at c22; omega
      rw [hrw, hfe]; simp [endF, hh, hm]
theorem Raw_bad {vb : Value} {bs : List UInt8} {c a : Int} {w : World} (hB : ByV w vb bs) (h : rawF bs = .bad c a) :
  Calls Tryz.prog 38 #[vb] w (Ret w [] fun r M => M = [] ∧ c ≠ 0 ∧ r = .tuple #[.agg #[.int .i64 0, .slice none 0 0], .agg #[.int .i64 c, .int .i64 a]]) := by
 refine Calls.mono (Raw_calls hB) ?_
 rintro e w' ⟨v, L', rfl, ⟨n, ps, vp, h1, _⟩ | ⟨c', a', h1, h2, rfl, rfl⟩, hO⟩
 ·rw [h] at h1; cases h1
 ·rw [h] at h1; cases h1; exact ⟨_, _, rfl, ⟨rfl, h2, rfl⟩, hO⟩
theorem Read_bad {vb : Value} {bs : List UInt8} {c a : Int} {w : World} (hB : ByV w vb bs) (h : rawF bs = .bad c a) :
  Calls Tryz.prog 21 #[vb] w (Ret w [] fun r M => M = [] ∧ c ≠ 0 ∧ r = .tuple #[.agg #[.int .i64 0, .slice none 0 0], .agg #[.int .i64 c, .int .i64 a]]) := by
 refine At (K := []) (args := [_]) (L := []) Tryz.func21 rfl Tryz.ntmps21 rfl (Own.start _ _) ?_
 refine Zs ?_
 refine Zw (AO rfl JW rfl) fun g2 => ?_
 refine Zw (AO rfl ze51 rfl) fun g3 => ?_
 refine Zx <| Zs ?_
 refine Zm ?_
 refine Seq.rel0 rfl rfl (Ao en38 rfl rfl rfl (fun w hw => Raw_bad (hB.keep0 hw) h)) ?_
 rintro _ ⟨hc0, rfl⟩
 refine Zm ?_
 refine Ze ?_
 refine Ze ?_
 refine Zw (AO rfl ze84 rfl) fun g4 => ?_
 refine Zw (AO rfl ze51 rfl) fun g5 => ?_
 refine Zy (Az (cs' := #[_, _]) rfl rfl rfl Fd rfl (Nat.le_of_ble_eq_true rfl) rfl) ?_
 refine Zy (Az (cs' := #[_, _]) rfl rfl rfl Cf rfl (Nat.le_of_ble_eq_true rfl) rfl) ?_
 refine Zx <| DC.seq <| Zs ?_
 refine Zf L7 ?_
 refine Zl HR ?_
 refine Zo (BB rfl rfl rfl) ?_
 refine Zx ?_
 refine Zd (fun c2 => ?_) fun c2 => ?_
 ·refine DC.seq ?_
  refine AD (cl := [.q, .q, .g, .g]) (A := [0, 0, 1, 7]) (order := [0, 1, 2, 3]) ([blk g5 51 #[.int .i64 c, .int .i64 a]]) mixed (by kernel_rfl) (fun w hw => hw.pick (.cons 0 rfl .nil)) ?_
  refine Yo rfl (AB (cs := #[_, _]) rfl rfl JN rfl rfl) ?_
  refine Flow.old rfl rfl rfl (Aw (vs := [_, _]) rfl rfl EE Cf rfl (Am rfl)) ?_
  refine AX rfl rfl rfl rfl (Az (cs' := #[_, _]) rfl rfl rfl Bh rfl (Nat.le_of_ble_eq_true rfl) rfl) (fun w hw => hw.pick (.cons 0 rfl .nil)) ?_
  refine AX rfl rfl rfl rfl (Az (cs' := #[_, _]) rfl rfl rfl Cf rfl (Nat.le_of_ble_eq_true rfl) rfl) (fun w hw => hw.pick (.cons 0 rfl .nil)) ?_
  refine Flow.end rfl ?_
  simp only [zq, zr]
  refine Fin.then <| DC.ret <| Aa ?_
  refine CQ (cs := #[_, _]) (cs' := #[_, _]) (.inl rfl) rfl rfl rfl Bo Bh EE Cf ?_
  exact ⟨[], fun w hw => hw.pick .nil, rfl, hc0, rfl⟩
 ·exact absurd c2 (by simpa using hc0)
theorem Bytes_bad {vb vc : Value} {bs : List UInt8} {c a : Int} {w : World} (hB : ByV w vb bs) (h : rawF bs = .bad c a) :
  Calls Tryz.prog 19 #[vb, vc] w (Ret w [] fun r M => M = [] ∧ r = .int .i64 180) := by
 refine At (K := []) (args := [_, _]) (L := []) Tryz.func19 rfl Tryz.ntmps19 rfl (Own.start _ _) ?_
 refine Zs ?_
 refine Za ?_
 refine Zx <| Zs ?_
 refine Zm ?_
 refine Seq.rel0 rfl rfl (Ao en21 rfl rfl rfl (fun w hw => Read_bad (hB.keep0 hw) h)) ?_
 rintro _ ⟨hc0, rfl⟩
 refine Zm ?_
 refine Ze ?_
 refine Ze ?_
 refine Zw (AO rfl JW rfl) fun g5 => ?_
 refine Zw (AO rfl ze51 rfl) fun g6 => ?_
 refine Zy (Az (cs' := #[_, _]) rfl rfl rfl Bh rfl (Nat.le_of_ble_eq_true rfl) rfl) ?_
 refine Zy (Az (cs' := #[_, _]) rfl rfl rfl Cf rfl (Nat.le_of_ble_eq_true rfl) rfl) ?_
 refine Zx <| DC.seq <| Zs ?_
 refine Zf L7 ?_
 refine Zl HR ?_
 refine Zo (BB rfl rfl rfl) ?_
 refine Zx ?_
 refine Zd (fun c2 => ?_) fun c2 => ?_
 ·refine Zs ?_
  refine Za ?_
  refine Zx <| DC.ret <| Aa ?_
  refine Fin.weak (E' := [(4, _)]) ⟨rfl, trivial⟩ .nil ?_
  refine Ak (.inl rfl) rfl rfl ?_
  exact ⟨rfl, rfl⟩
 ·exact absurd c2 (by simpa using hc0)
theorem Fa {w : World} : Calls Tryz.prog 29 #[] w (Ret w [] fun r M => ∃ g, r = .agg #[.int .i64 4, .slice (some ⟨g, 0, none⟩) 6 6] ∧ M = [blk g 43 (prs es4).toArray]) := by
 refine At (K := []) (args := []) (L := []) Tryz.func29 rfl Tryz.ntmps29 rfl (Own.start _ _) ?_
 refine Zs ?_
 refine Zw (AO rfl JW rfl) fun g0 => ?_
 refine Zx <| Zs ?_
 refine Zo (AB (cs := #[_, _]) rfl rfl Gg rfl rfl) ?_
 refine Zo (AB (cs := #[_, _]) rfl rfl Gg rfl rfl) ?_
 refine Zo (AB (cs := #[_, _]) rfl rfl Gg rfl rfl) ?_
 refine Zo (AB (cs := #[_, _]) rfl rfl Gg rfl rfl) ?_
 refine Zo (AB (cs := #[_, _]) rfl rfl Gg rfl rfl) ?_
 refine Zo (AB (cs := #[_, _]) rfl rfl Gg rfl rfl) ?_
 refine Zw (AP (cs := #[_, _, _, _, _, _, _, _, _, _, _, _]) rfl rfl Tryz.underlying22 AW CK rfl (by decide) (by decide) rfl rfl) fun g7 => ?_
 refine Zo (AB (cs := #[_, _]) rfl rfl JN rfl rfl) ?_
 refine Zy (Az (cs' := #[_, _]) rfl rfl rfl Bh rfl (Nat.le_of_ble_eq_true rfl) rfl) ?_
 refine Zx <| DC.ret ?_
 refine Cl (cs := #[_, _]) (.inl rfl) rfl rfl Bo Bh ?_
 exact ⟨_, fun w hw => hw.pick (.cons 0 rfl .nil), g7, rfl, rfl⟩
theorem Ku {w0 w : World} {K : List Nat} {L : List Chunk} {g t : Nat} {v0 v1 v2 v3 : Value} {l0 l1 l2 l3 : List Int} [h : Find L g t #[v0, v1, v2, v3]] (hw : Own w0 K w L) (h0 : SlV w v0 l0) (h1 : SlV w v1 l1) (h2 : SlV w v2 l2) (h3 : SlV w v3 l3) :
  LsV w (.slice (some ⟨g, 0, none⟩) 4 4) [l0, l1, l2, l3] := by
 have hg := hw.holds _ h.mem
 refine ⟨some ⟨g, 0, none⟩, 4, rfl, fun i l hl => ?_, by simp, by decide, by simp⟩
 rcases lt4 hl with ⟨rfl, rfl⟩ | ⟨rfl, rfl⟩ | ⟨rfl, rfl⟩ | ⟨rfl, rfl⟩
 ·exact ⟨_, v0, rfl, by rw [AC]; exact K4 hg rfl, h0⟩
 ·exact ⟨_, v1, rfl, by rw [AC]; exact K4 hg rfl, h1⟩
 ·exact ⟨_, v2, rfl, by rw [AC]; exact K4 hg rfl, h2⟩
 ·exact ⟨_, v3, rfl, by rw [AC]; exact K4 hg rfl, h3⟩
theorem prv_nil {w : World} {c : Nat} (hc : c ≤ 9223372036854775807) : PrV w (.slice none 0 c) [] := ⟨none, c, rfl, fun j u h => by simp [prs] at h, Nat.zero_le _, hc, by simp⟩
theorem lsv_nil {w : World} {c : Nat} (hc : c ≤ 9223372036854775807) : LsV w (.slice none 0 c) [] := ⟨none, c, rfl, fun i l h => by simp at h, Nat.zero_le _, hc, by simp⟩
theorem J0 {w : World} (hp : Pow w) : Calls Tryz.prog 9 #[] w (Ret w [] fun r M => M = [] ∧ r = .bool true) := by
 refine At (K := []) (args := []) (L := []) Tryz.func9 rfl Tryz.ntmps9 rfl (Own.start _ _) ?_
 refine Zs ?_
 refine Za ?_
 refine Zx <| Zs ?_
 refine Seq.rel rfl rfl (Ao en29 rfl rfl rfl (fun w hw => Fa)) ?_
 rintro _ _ ⟨g5, rfl, rfl⟩
 simp only [List.cons_append, List.nil_append, List.append_nil]
 refine Zw (AP (cs := #[_, _, _]) rfl rfl Tryz.underlying44 AL BT rfl (by decide) (by decide) rfl rfl) fun g6 => ?_
 refine Zw (AP (cs := #[_, _, _]) rfl rfl Tryz.underlying44 AL BT rfl (by decide) (by decide) rfl rfl) fun g7 => ?_
 refine Zw (AP (cs := #[_, _, _]) rfl rfl Tryz.underlying44 AL BT rfl (by decide) (by decide) rfl rfl) fun g8 => ?_
 refine Zw (AP (cs := #[_, _, _]) rfl rfl Tryz.underlying44 AL BT rfl (by decide) (by decide) rfl rfl) fun g9 => ?_
 refine Zw (AP (cs := #[_, _, _, _]) rfl rfl Tryz.underlying25 Br CV rfl (by decide) (by decide) rfl rfl) fun g10 => ?_
 refine Zo (AB (cs := #[_, _, _]) rfl rfl bs27 rfl rfl) ?_
 refine Seq.rel0 rfl rfl (Ao en10 rfl rfl rfl (fun w hw => Cw (N := 4) (es := es4) (pl := true) (ls := lsA) (cs := []) (GD (g := g5) hw rfl rfl (by decide)) (Ku (g := g10) hw (BX (g := g6) hw rfl rfl (by decide)) (BX (g := g7) hw rfl rfl (by decide)) (BX (g := g8) hw rfl rfl (by decide)) (BX (g := g9) hw rfl rfl (by decide))) (prv_nil (by decide)) (hp.keep0 hw) (by decide))) ?_
 rintro _ rfl
 rw [chkA]
 refine Za ?_
 refine Zx <| Zs ?_
 refine Seq.rel rfl rfl (Ao en29 rfl rfl rfl (fun w hw => Fa)) ?_
 rintro _ _ ⟨g13, rfl, rfl⟩
 simp only [List.cons_append, List.nil_append, List.append_nil]
 refine Zw (AP (cs := #[_, _, _]) rfl rfl Tryz.underlying44 AL BT rfl (by decide) (by decide) rfl rfl) fun g14 => ?_
 refine Zw (AP (cs := #[_, _, _]) rfl rfl Tryz.underlying44 AL BT rfl (by decide) (by decide) rfl rfl) fun g15 => ?_
 refine Zw (AP (cs := #[_, _, _]) rfl rfl Tryz.underlying44 AL BT rfl (by decide) (by decide) rfl rfl) fun g16 => ?_
 refine Zw (AP (cs := #[_, _, _]) rfl rfl Tryz.underlying44 AL BT rfl (by decide) (by decide) rfl rfl) fun g17 => ?_
 refine Zw (AP (cs := #[_, _, _, _]) rfl rfl Tryz.underlying25 Br CV rfl (by decide) (by decide) rfl rfl) fun g18 => ?_
 refine Zo (AB (cs := #[_, _, _]) rfl rfl bs27 rfl rfl) ?_
 refine Seq.rel0 rfl rfl (Ao en10 rfl rfl rfl (fun w hw => Cw (N := 4) (es := es4) (pl := true) (ls := lsB) (cs := []) (GD (g := g13) hw rfl rfl (by decide)) (Ku (g := g18) hw (BX (g := g14) hw rfl rfl (by decide)) (BX (g := g15) hw rfl rfl (by decide)) (BX (g := g16) hw rfl rfl (by decide)) (BX (g := g17) hw rfl rfl (by decide))) (prv_nil (by decide)) (hp.keep0 hw) (by decide))) ?_
 rintro _ rfl
 rw [chkB]
 refine Za ?_
 refine Zx <| Zs ?_
 refine Seq.rel rfl rfl (Ao en29 rfl rfl rfl (fun w hw => Fa)) ?_
 rintro _ _ ⟨g21, rfl, rfl⟩
 simp only [List.cons_append, List.nil_append, List.append_nil]
 refine Zo (AB (cs := #[_, _]) rfl rfl Gg rfl rfl) ?_
 refine Zo (AB (cs := #[_, _]) rfl rfl Gg rfl rfl) ?_
 refine Zw (AP (cs := #[_, _, _, _]) rfl rfl Tryz.underlying22 AW CK rfl (by decide) (by decide) rfl rfl) fun g24 => ?_
 refine Zo (AB (cs := #[_, _, _]) rfl rfl bs27 rfl rfl) ?_
 refine Seq.rel0 rfl rfl (Ao en10 rfl rfl rfl (fun w hw => Cw (N := 4) (es := es4) (pl := false) (ls := []) (cs := cs4) (GD (g := g21) hw rfl rfl (by decide)) (lsv_nil (by decide)) (GD (g := g24) hw rfl rfl (by decide)) (hp.keep0 hw) (by simp))) ?_
 rintro _ rfl
 rw [chkC]
 refine Za ?_
 refine Zx <| Zs ?_
 refine Zw (AP (cs := #[_, _, _, _, _, _, _, _]) rfl rfl Tryz.underlying47 FR GS rfl (by decide) (by decide) rfl rfl) fun g27 => ?_
 refine Seq.gen rfl rfl (g_mark (cs := #[_, _, _, _, _, _, _, _]) rfl rfl Tryz.underlying47 Tryz.underlying5 (fun w hw => hw)) ?_
 rintro _ _ ⟨rfl, rfl⟩
 refine Seq.rel0 rfl rfl (Ao en19 rfl rfl rfl (fun w hw => Bytes_bad (bs := txt4) (c := 24) (a := 6) (byv_fro (bs := txt4) (cap := 8) (sp := []) hw 0 rfl (by decide) (by decide)) raw4)) ?_
 rintro _ rfl
 refine Za ?_
 refine Zx <| Zs ?_
 refine Zm ?_
 refine Zo (AN rfl rfl rfl) ?_
 refine Zm ?_
 refine Seq.split 32 rfl (fun k5_2 => ?_) (fun k5_2 => ?_)
 ·refine Zm ?_
  refine Zo (AN rfl rfl rfl) ?_
  refine Zt ?_
  refine Zm ?_
  refine Seq.split 36 rfl (fun k5_6 => ?_) (fun k5_6 => ?_)
  ·refine Zm ?_
   refine Zo (AN rfl rfl rfl) ?_
   refine Zt ?_
   refine Zm ?_
   refine Seq.split 40 rfl (fun k5_10 => ?_) (fun k5_10 => ?_)
   ·refine Zm ?_
    refine Zo (AN rfl rfl rfl) ?_
    refine Zt ?_
    refine Za ?_
    refine Zx <| DC.ret ?_
    refine Fin.weak (E' := [(0, _)]) ⟨rfl, trivial⟩ .nil ?_
    refine Ak (.inl rfl) rfl rfl ?_
    exact ⟨rfl, rfl⟩
   ·exact absurd k5_10 (by decide)
  ·exact absurd k5_6 (by decide)
 ·exact absurd k5_2 (by decide)
theorem Dh {es : List Pr} {h : Int} (h0 : 0 ≤ h) (h1 : h < es.length * 2) : ∃ e, es[(h / 2).toNat]? = some e ∧ fromV es h = (if h % 2 = 0 then e.1 else e.2) := by
 obtain ⟨k, rfl⟩ := Int.eq_ofNat_of_zero_le h0
 obtain ⟨e, he, hf⟩ := frs_at (es := es) (h := k) (by omega)
 refine ⟨e, by rw [show ((k : Int) / 2).toNat = k / 2 by omega]; exact he, ?_⟩
 unfold fromV
 rw [if_pos h0, Int.toNat_natCast, hf]
 by_cases hp : k % 2 = 0
 ·rw [if_pos hp, if_pos (by omega)]; rfl
 ·rw [if_neg hp, if_neg (by omega)]; rfl
theorem CR {N h : Int} {es : List Pr} {va : Value} {w : World} (hg : PrV w va es) (h0 : 0 ≤ h) (h1 : h < es.length * 2) :
  Calls Tryz.prog 100 #[.agg #[.int .i64 N, va], .int .i64 h] w (Ret w [] fun r M => M = [] ∧ r = .int .i64 (fromV es h)) := by
 obtain ⟨A, cap, rfl, hr, hlc, hcm, hl⟩ := hg
 obtain ⟨e, he, hf⟩ := Dh h0 h1
 obtain ⟨ad, rfl, hU, hVe⟩ := hr.pair he
 refine At (K := []) (args := [_, _]) (L := []) Tryz.func100 rfl Tryz.ntmps100 rfl (Own.start _ _) ?_
 refine Zs ?_
 refine Zw (AR rfl rfl rfl) fun g2 => ?_
 refine Za ?_
 refine Zx <| DC.seq <| Zs ?_
 refine Zm ?_
 refine Zo (Is rfl rfl rfl (by omega) (by omega)) ?_
 refine Zo (AN rfl rfl rfl) ?_
 refine Zx ?_
 refine Zd (fun c1 => ?_) fun c1 => ?_
 ·refine Zs ?_
  refine Zf AS ?_
  refine Zl Bj ?_
  refine Zm ?_
  refine Zo (Iu rfl rfl rfl (by omega) (by omega)) ?_
  refine Zo (AE (ad' := ad.add ((h / 2).toNat * 2)) rfl rfl rfl Tryz.underlying22 AW (by omega) (by omega) rfl) ?_
  refine Zo (Bk (ad' := ad.add ((h / 2).toNat * 2)) rfl rfl AZ (by simp [Addr.add])) ?_
  refine Zu (Ai rfl rfl AI (Ar hU)) ?_
  refine Za ?_
  refine Zx <| DC.ret <| Aa ?_
  refine Fin.weak (E' := [(4, _)]) ⟨rfl, trivial⟩ .nil ?_
  refine Ak (.inl rfl) rfl rfl ?_
  refine ⟨rfl, ?_⟩
  rw [hf, if_pos (by simpa using c1)]
 ·refine DC.skip <| Fin.then <| Zs ?_
  refine Zf AS ?_
  refine Zl Bj ?_
  refine Zm ?_
  refine Zo (Iu rfl rfl rfl (by omega) (by omega)) ?_
  refine Zo (AE (ad' := ad.add ((h / 2).toNat * 2)) rfl rfl rfl Tryz.underlying22 AW (by omega) (by omega) rfl) ?_
  refine Zo (Bk (ad' := ad.add ((h / 2).toNat * 2 + 1)) rfl rfl Bi (BS _ _ _ (by decide))) ?_
  refine Zu (Ai rfl rfl AI (Ar hVe)) ?_
  refine Za ?_
  refine Zx <| DC.ret ?_
  refine Fin.weak (E' := [(4, _)]) ⟨rfl, trivial⟩ .nil ?_
  refine Ak (.inl rfl) rfl rfl ?_
  refine ⟨rfl, ?_⟩
  rw [hf, if_neg (by simpa using c1)]
theorem Ki {N h : Int} {es : List Pr} {va : Value} {w : World} (hg : PrV w va es) (h0 : 0 ≤ h) (h1 : h < es.length * 2) (hl : es.length ≤ 1000000000) :
  Calls Tryz.prog 101 #[.agg #[.int .i64 N, va], .int .i64 h] w (Ret w [] fun r M => M = [] ∧ r = .int .i64 (toV es h)) := by
 obtain ⟨A, cap, hva, _⟩ := id hg
 subst hva
 have htw := GV h0 h1
 refine At (K := []) (args := [_, _]) (L := []) Tryz.func101 rfl Tryz.ntmps101 rfl (Own.start _ _) ?_
 refine Zs ?_
 refine Zw (AR rfl rfl rfl) fun g2 => ?_
 refine Za ?_
 refine Zx <| Zs ?_
 refine Zu (Aw (vs := [_, _]) rfl rfl Bo Bh rfl (Am rfl)) ?_
 refine Zm ?_
 refine Zo (Hj rfl rfl rfl (by omega)) ?_
 refine Seq.rel0 rfl rfl (Ao en100 rfl rfl rfl (fun w hw => CR (h := tw h) (hg.keep0 hw) htw.1 htw.2)) ?_
 rintro _ rfl
 refine Za ?_
 refine Zx <| DC.ret ?_
 refine Fin.weak (E' := [(4, _)]) ⟨rfl, trivial⟩ .nil ?_
 refine Ak (.inl rfl) rfl rfl ?_
 refine ⟨rfl, ?_⟩
 unfold toV; rw [if_pos h0]
/-! ### degree -/
def dgF (es : List Pr) (v : Int) (j : Nat) : Nat := (List.range j).countP fun (h : Nat) => decide (fromV es (h : Int) = v)
theorem KX (es : List Pr) (v : Int) (j : Nat) : dgF es v (j + 1) = dgF es v j + if fromV es (j : Int) = v then 1 else 0 := by
 unfold dgF
 rw [List.range_succ, List.countP_append]
 by_cases h : fromV es (j : Int) = v <;> simp [h]
theorem dgF_le (es : List Pr) (v : Int) (j : Nat) : dgF es v j ≤ j := by
 have := List.countP_le_length (p := fun (h : Nat) => decide (fromV es (h : Int) = v)) (l := List.range j)
 simpa [dgF] using this
theorem dgF_all {N : Int} {es : List Pr} (hV : Vld N es) (v : Nat) : (dgF es v (es.length * 2) : Int) = cnt es v := by
 have hp : (((List.range (es.length * 2)).filter fun (h : Nat) => decide (fromV es (h : Int) = (v : Int))).map fun (h : Nat) => (h : Int)).Perm (outs es v) := by
  refine (List.perm_ext_iff_of_nodup ?_ ?_).2 fun x => ?_
  ·exact List.Pairwise.map _ (fun a b h e => h (by exact Int.ofNat.inj e)) (List.Pairwise.filter _ List.nodup_range)
  ·exact ((C7 es 0 v).1).imp (fun h => Int.ne_of_lt h)
  ·rw [Bl hV, List.mem_map]
   constructor
   ·rintro ⟨h, hh, rfl⟩
    rw [List.mem_filter, List.mem_range] at hh
    exact ⟨by omega, by omega, by simpa using hh.2⟩
   ·rintro ⟨h0, h1, h2⟩
    exact ⟨x.toNat, by rw [List.mem_filter, List.mem_range]; exact ⟨by omega, by simpa [Int.toNat_of_nonneg h0] using h2⟩, Int.toNat_of_nonneg h0⟩
 have := hp.length_eq
 rw [List.length_map] at this
 unfold dgF cnt
 rw [List.countP_eq_length_filter, this]
theorem Ed {N : Int} {v : Nat} {es : List Pr} {va : Value} {w : World} (hg : PrV w va es) (hV : Vld N es) :
  Calls Tryz.prog 65 #[.agg #[.int .i64 N, va], .int .i64 v] w (Ret w [] fun r M => M = [] ∧ r = .int .i64 (cnt es v)) := by
 have hfew := hV.few
 obtain ⟨A, cap, hva, _⟩ := id hg
 subst hva
 refine At (K := []) (args := [_, _]) (L := []) Tryz.func65 rfl Tryz.ntmps65 rfl (Own.start _ _) ?_
 refine Zs ?_
 refine Zw (AR rfl rfl rfl) fun g2 => ?_
 refine Za ?_
 refine Zx <| Zs ?_
 refine Za ?_
 refine Zx <| DC.seq <| Zs ?_
 refine Za ?_
 refine Zx <| DC.block ?_
 refine DC.loop (ι := Nat) (fun j => j ≤ es.length * 2) (fun j => [(1, .int .i64 v), (2, .pointer (some ⟨g2, 0, none⟩)), (5, .int .i64 (dgF es v j : Nat)), (6, .int .i64 (j : Nat))])
  (fun _ => [blk g2 24 #[.int .i64 N, .slice A es.length cap]]) (fun j => es.length * 2 - j) 0 (Nat.zero_le _) ⟨rfl, rfl, rfl, rfl, trivial⟩ (.cons 0 rfl .nil) ?_
 intro j hj
 have hdg := dgF_le es v j
 refine DC.seq <| Zs ?_
 refine Zm ?_
 refine Zf AS ?_
 refine Zl Bj ?_
 refine Zn Tryz.underlying22 ?_
 refine Zo (Ci rfl rfl rfl (by omega)) ?_
 refine Zc ?_
 refine Zx ?_
 refine Zd (fun c3 => ?_) fun c3 => ?_
 ·have hlt : j < es.length * 2 := by simp at c3; omega
  refine DC.skip <| Fin.then <| DC.seq <| DC.block <| Zs ?_
  refine Zu (Aw (vs := [_, _]) rfl rfl Bo Bh rfl (Am rfl)) ?_
  refine Zm ?_
  refine Seq.rel0 rfl rfl (Ao en100 rfl rfl rfl (fun w hw => CR (hg.keep0 hw) (by omega) (by omega))) ?_
  rintro _ rfl
  refine Zm ?_
  refine Zo (AN rfl rfl rfl) ?_
  refine Zx ?_
  refine Zd (fun c5 => ?_) fun c5 => ?_
  ·refine DC.region ?_
   refine Zm ?_
   refine Zp ?_
   refine Za ?_
   refine Seq.nil <| Fin.inBlock <| Fin.then <| DC.region ?_
   refine Zm ?_
   refine Zp ?_
   refine Za ?_
   refine Seq.nil ?_
   refine Fin.again (j + 1) (by omega) (by omega) ⟨rfl, rfl, ?_, rfl, trivial⟩ (.cons 0 rfl .nil)
   rw [KX, if_pos (by simpa using c5)]; rfl
  ·refine DC.skip <| Fin.inBlock <| Fin.then <| DC.region ?_
   refine Zm ?_
   refine Zp ?_
   refine Za ?_
   refine Seq.nil ?_
   refine Fin.again (j + 1) (by omega) (by omega) ⟨rfl, rfl, ?_, rfl, trivial⟩ (.cons 0 rfl .nil)
   rw [KX, if_neg (by simpa using c5)]; rfl
 ·refine DC.exit <| Ad <| Ad <| Ag <| Fin.then <| Zs ?_
  refine Zm ?_
  refine Za ?_
  refine Zx <| DC.ret ?_
  refine Fin.weak (E' := [(4, _)]) ⟨rfl, trivial⟩ .nil ?_
  refine Ak (.inl rfl) rfl rfl ?_
  have he : j = es.length * 2 := by simp at c3; omega
  subst he
  exact ⟨rfl, by rw [dgF_all hV]⟩
theorem Ec {n : Nat} {x : Int} {l : List Int} {vl : Value} {w : World} (hl : SlV w vl l) (hn : n ≤ l.length) :
  Calls Tryz.prog 64 #[vl, .int .i64 n, .int .i64 x] w (Ret w [] fun r M => M = [] ∧ ∃ b, r = .bool b ∧ (b = true ↔ x ∈ l.take n)) := by
 obtain ⟨A, cap, rfl, hr, hlc, hcm, hle⟩ := hl
 refine At (K := []) (args := [_, _, _]) (L := []) Tryz.func64 rfl Tryz.ntmps64 rfl (Own.start _ _) ?_
 refine Zs ?_
 refine Za ?_
 refine Zx <| DC.seq <| Zs ?_
 refine Za ?_
 refine Zx <| DC.block ?_
 refine DC.loop (ι := Nat) (fun j => j ≤ n ∧ x ∉ l.take j) (fun j => [(0, .slice A l.length cap), (1, .int .i64 n), (2, .int .i64 x), (7, .int .i64 (j : Nat))])
  (fun _ => []) (fun j => n - j) 0 ⟨Nat.zero_le _, by simp⟩ ⟨rfl, rfl, rfl, rfl, trivial⟩ .nil ?_
 rintro j ⟨hj, hno⟩
 refine DC.seq <| Zs ?_
 refine Zm ?_
 refine Zm ?_
 refine Zc ?_
 refine Zx ?_
 refine Zd (fun c2 => ?_) fun c2 => ?_
 ·have hlt : j < n := by simpa using c2
  obtain ⟨y, hy⟩ : ∃ y, l[j]? = some y := ⟨_, List.getElem?_eq_getElem (by omega)⟩
  obtain ⟨ad, rfl, hc⟩ := hr.int hy
  have htk : l.take (j + 1) = l.take j ++ [y] := by rw [List.take_add_one, hy]; rfl
  refine DC.skip <| Fin.then <| DC.seq <| DC.block <| Zs ?_
  refine Zm ?_
  refine Zm ?_
  refine Zo (Ah (ad' := ad.add j) rfl rfl rfl Tryz.underlying44 AL (by omega) (by omega) (by rw [Int.toNat_natCast])) ?_
  refine Zu (Ai rfl rfl AI (Ar hc)) ?_
  refine Zm ?_
  refine Zo (AN rfl rfl rfl) ?_
  refine Zx ?_
  refine Zd (fun c4 => ?_) fun c4 => ?_
  ·refine Zs ?_
   refine Za ?_
   refine Zx <| DC.ret <| Ae <| Aa <| Aa <| Ae <| Aa ?_
   refine Fin.weak (E' := [(6, _)]) ⟨rfl, trivial⟩ .nil ?_
   refine Ak (.inl rfl) rfl rfl ?_
   have hm : (l.take n)[j]? = some x := by
    rw [List.getElem?_take, if_pos hlt, hy]
    congr 1; simpa using c4
   exact ⟨rfl, true, rfl, by simp only [true_iff]; exact List.mem_of_getElem? hm⟩
  ·refine DC.skip <| Fin.inBlock <| Fin.then <| DC.region ?_
   refine Zm ?_
   refine Zp ?_
   refine Za ?_
   refine Seq.nil ?_
   refine Fin.again (j + 1) (by omega) ⟨by omega, ?_⟩ ⟨rfl, rfl, rfl, rfl, trivial⟩ .nil
   rw [htk, List.mem_append]
   rintro (h | h)
   ·exact hno h
   ·simp at h c4; exact c4 h.symm
 ·refine DC.exit <| Ad <| Ad <| Ag <| Fin.then <| Zs ?_
  refine Za ?_
  refine Zx <| DC.ret ?_
  refine Fin.weak (E' := [(6, _)]) ⟨rfl, trivial⟩ .nil ?_
  refine Ak (.inl rfl) rfl rfl ?_
  have hjn : j = n := by simp at c2; omega
  subst hjn
  exact ⟨rfl, false, rfl, by simp [hno]⟩
theorem H5 {N u v : Int} {es : List Pr} {va : Value} {w : World} (hg : PrV w va es) (hV : Vld N es) :
  Calls Tryz.prog 63 #[.agg #[.int .i64 N, va], .int .i64 u, .int .i64 v] w (Ret w [] fun r M => M = [] ∧ ∃ h, r = .int .i64 h ∧ ((0 ≤ h ∧ IsHalf es u v h) ∨ (h = -1 ∧ ∀ k, ¬ IsHalf es u v k))) := by
 have hfew := hV.few
 obtain ⟨A, cap, hva, _⟩ := id hg
 subst hva
 refine At (K := []) (args := [_, _, _]) (L := []) Tryz.func63 rfl Tryz.ntmps63 rfl (Own.start _ _) ?_
 refine Zs ?_
 refine Zw (AR rfl rfl rfl) fun g3 => ?_
 refine Za ?_
 refine Zx <| DC.seq <| Zs ?_
 refine Za ?_
 refine Zx <| DC.block ?_
 refine DC.loop (ι := Nat) (fun j => j ≤ es.length * 2 ∧ ∀ k : Nat, k < j → ¬ IsHalf es u v k) (fun j => [(1, .int .i64 u), (2, .int .i64 v), (3, .pointer (some ⟨g3, 0, none⟩)), (7, .int .i64 (j : Nat))])
  (fun _ => [blk g3 24 #[.int .i64 N, .slice A es.length cap]]) (fun j => es.length * 2 - j) 0 ⟨Nat.zero_le _, fun k h => absurd h (Nat.not_lt_zero _)⟩ ⟨rfl, rfl, rfl, rfl, trivial⟩ (.cons 0 rfl .nil) ?_
 rintro j ⟨hj, hno⟩
 refine DC.seq <| Zs ?_
 refine Zm ?_
 refine Zf AS ?_
 refine Zl Bj ?_
 refine Zn Tryz.underlying22 ?_
 refine Zo (Ci rfl rfl rfl (by omega)) ?_
 refine Zc ?_
 refine Zx ?_
 refine Zd (fun c2 => ?_) fun c2 => ?_
 ·have hlt : j < es.length * 2 := by simp at c2; omega
  have more : ¬ IsHalf es u v j → ∀ k : Nat, k < j + 1 → ¬ IsHalf es u v k := fun h k hk => by
   by_cases e : k = j
   ·subst e; exact h
   ·exact hno k (by omega)
  refine DC.skip <| Fin.then <| DC.seq <| DC.block <| Zs ?_
  refine Zu (Aw (vs := [_, _]) rfl rfl Bo Bh rfl (Am rfl)) ?_
  refine Zm ?_
  refine Seq.rel0 rfl rfl (Ao en100 rfl rfl rfl (fun w hw => CR (hg.keep0 hw) (by omega) (by omega))) ?_
  rintro _ rfl
  refine Zm ?_
  refine Zo (AN rfl rfl rfl) ?_
  refine Zm ?_
  refine Seq.split 21 rfl (fun k4_5 => ?_) (fun k4_5 => ?_)
  ·refine Zu (Aw (vs := [_, _]) rfl rfl Bo Bh rfl (Am rfl)) ?_
   refine Zm ?_
   refine Seq.rel0 rfl rfl (Ao en101 rfl rfl rfl (fun w hw => Ki (hg.keep0 hw) (by omega) (by omega) (by omega))) ?_
   rintro _ rfl
   refine Zm ?_
   refine Zo (AN rfl rfl rfl) ?_
   refine Zt ?_
   refine Zx ?_
   refine Zd (fun c4 => ?_) fun c4 => ?_
   ·refine Zs ?_
    refine Zm ?_
    refine Za ?_
    refine Zx <| DC.ret <| Ae <| Aa <| Aa <| Ae <| Aa ?_
    refine Fin.weak (E' := [(6, _)]) ⟨rfl, trivial⟩ .nil ?_
    refine Ak (.inl rfl) rfl rfl ?_
    exact ⟨rfl, j, rfl, .inl ⟨by omega, by omega, by omega, by simpa using k4_5, by simpa using c4⟩⟩
   ·refine DC.skip <| Fin.inBlock <| Fin.then <| DC.region ?_
    refine Zm ?_
    refine Zp ?_
    refine Za ?_
    refine Seq.nil ?_
    refine Fin.again (j + 1) (by omega) ⟨by omega, more fun h => ?_⟩ ⟨rfl, rfl, rfl, rfl, trivial⟩ (.cons 0 rfl .nil)
    have hf := h.fr
    have ht := h.to
    first
    | (simp at c4; exact c4 ht)
    | (simp at k4_5; exact k4_5 hf)
  ·refine Zk ?_
   refine Zk ?_
   refine Zk ?_
   refine Zk ?_
   refine Zk ?_
   refine Zg ?_
   refine Zx ?_
   refine AT rfl ?_
   refine DC.skip <| Fin.inBlock <| Fin.then <| DC.region ?_
   refine Zm ?_
   refine Zp ?_
   refine Za ?_
   refine Seq.nil ?_
   refine Fin.again (j + 1) (by omega) ⟨by omega, more fun h => ?_⟩ ⟨rfl, rfl, rfl, rfl, trivial⟩ (.cons 0 rfl .nil)
   have hf := h.fr
   have ht := h.to
   first
   | (simp at c4; exact c4 ht)
   | (simp at k4_5; exact k4_5 hf)
 ·refine DC.exit <| Ad <| Ad <| Ag <| Fin.then <| Zs ?_
  refine Za ?_
  refine Zx <| DC.ret ?_
  refine Fin.weak (E' := [(6, _)]) ⟨rfl, trivial⟩ .nil ?_
  refine Ak (.inl rfl) rfl rfl ?_
  have he : j = es.length * 2 := by simp at c2; omega
  subst he
  refine ⟨rfl, -1, rfl, .inr ⟨rfl, fun k hk => ?_⟩⟩
  have h0 := hk.lo; have h1 := hk.hi
  refine hno k.toNat (by omega) ?_
  rw [Int.toNat_of_nonneg h0]; exact hk
end Go.Fl
