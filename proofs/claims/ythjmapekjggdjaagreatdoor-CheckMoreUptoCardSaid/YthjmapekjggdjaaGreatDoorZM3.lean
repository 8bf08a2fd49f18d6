/- Part 3 of the proof: the library of the walk and the walks, in build order; no condition. -/
import Derived.Test.YthjmapekjggdjaaGreatDoorZM2
set_option linter.unusedVariables false
set_option linter.unusedSimpArgs false
namespace Go.Fl
open Classical
def itr (f : Nat → Nat) : Nat → Nat → Nat
  | 0, h => h
  | k + 1, h => f (itr f k h)
/-- The least of its cycle. -/
def Lead (f : Nat → Nat) (h : Nat) : Prop := ∀ k, h ≤ itr f k h
noncomputable def leads (n : Nat) (f : Nat → Nat) : Nat := (List.range n).countP fun h => decide (Lead f h)
structure Perm (n : Nat) (f : Nat → Nat) : Prop where
  lt : ∀ i, i < n → f i < n
  inj : ∀ i j, i < n → j < n → f i = f j → i = j
def invs : List Nat → Nat
  | [] => 0
  | x :: r => r.countP (fun y => decide (y < x)) + invs r
def cross (a b : List Nat) : Nat := (a.map fun x => b.countP fun y => decide (y < x)).sum
theorem itr_lt {n : Nat} {f : Nat → Nat} (h : Perm n f) {i : Nat} (hi : i < n) : ∀ k, itr f k i < n
  | 0 => hi
  | k + 1 => h.lt _ (itr_lt h hi k)
theorem invs_append (a b : List Nat) : invs (a ++ b) = invs a + invs b + cross a b := by
  induction a with
  | nil => simp [invs, cross]
  | cons x r ih =>
    simp only [List.cons_append, invs, ih, List.countP_append, cross, List.map_cons, List.sum_cons]
    omega
theorem cross_cons (a b : List Nat) (x : Nat) : cross a (x :: b) = cross a [x] + cross a b := by
  induction a with
  | nil => rfl
  | cons y r ih =>
    simp only [cross, List.map_cons, List.sum_cons] at ih ⊢
    rw [ih]
    simp only [List.countP_cons, List.countP_nil]
    omega
theorem cross_append (a b c : List Nat) : cross a (b ++ c) = cross a b + cross a c := by
  induction b with
  | nil =>
    have : cross a [] = 0 := by
      unfold cross
      induction a with
      | nil => rfl
      | cons y r ih => simpa using ih
    rw [this]; simp
  | cons x r ih => rw [List.cons_append, cross_cons, ih, cross_cons a r]; omega
theorem cross_zero {a : List Nat} {n : Nat} (h : ∀ x, x ∈ a → x < n) : cross a [n] = 0 := by
  induction a with
  | nil => rfl
  | cons y r ih =>
    have h1 := h y (by simp)
    have h2 := ih fun x hx => h x (by simp [hx])
    simp only [cross, List.map_cons, List.sum_cons, List.countP_cons, List.countP_nil] at h2 ⊢
    rw [h2, if_neg (by simp; omega)]
theorem count_parts {l : List Nat} {q : Nat} (h : q ∉ l) : l.countP (fun y => decide (y < q)) + l.countP (fun y => decide (q < y)) = l.length := by
  induction l with
  | nil => rfl
  | cons y r ih =>
    have h1 : y ≠ q := fun e => h (by simp [e])
    have := ih fun hm => h (by simp [hm])
    simp only [List.countP_cons, List.length_cons]
    by_cases c : y < q
    · have : ¬ q < y := by omega
      simp [c, this]; omega
    · have : q < y := by omega
      simp [c, this]; omega
theorem countP_all {l : List Nat} {n : Nat} (h : ∀ x, x ∈ l → x < n) : l.countP (fun y => decide (y < n)) = l.length := by
  rw [List.countP_eq_length]; intro a ha; simp [h a ha]
theorem cross_one (b : List Nat) (q : Nat) : cross b [q] = b.countP fun y => decide (q < y) := by
  induction b with
  | nil => rfl
  | cons x r ih =>
    simp only [cross, List.map_cons, List.sum_cons] at ih ⊢
    rw [ih]
    simp only [List.countP_cons, List.countP_nil]
    by_cases c : q < x <;> simp [c]; omega
/-- The greatest number is taken out of its cycle. -/
def cutF (n p q : Nat) (f : Nat → Nat) : Nat → Nat := fun i => if i = p then q else f i
theorem cut_perm {n p : Nat} {f : Nat → Nat} (h : Perm (n + 1) f) (hp : p < n) (hfp : f p = n) : Perm n (cutF n p (f n) f) := by
  have hq : f n < n := by
    have := h.lt n (by omega)
    have : f n ≠ n := fun e => by have := h.inj p n (by omega) (by omega) (by rw [hfp, e]); omega
    omega
  refine ⟨fun i hi => ?_, fun i j hi hj he => ?_⟩
  · unfold cutF
    split
    · exact hq
    · have := h.lt i (by omega)
      have : f i ≠ n := fun e => by have := h.inj i p (by omega) (by omega) (by rw [e, hfp]); omega
      omega
  · unfold cutF at he
    split at he <;> split at he
    · omega
    · have := h.inj n j (by omega) (by omega) he; omega
    · have := h.inj i n (by omega) (by omega) he; omega
    · exact h.inj i j (by omega) (by omega) he
theorem cut_itr {n p : Nat} {f : Nat → Nat} (h : Perm (n + 1) f) (hp : p < n) (hfp : f p = n) {i : Nat} (hi : i < n) :
    (∀ k, ∃ j, itr (cutF n p (f n) f) k i = itr f j i) ∧ (∀ k, (itr f k i = n ∧ ∃ j, itr (cutF n p (f n) f) j i = p) ∨ ∃ j, itr f k i = itr (cutF n p (f n) f) j i) := by
  have hc := cut_perm h hp hfp
  constructor
  · intro k
    induction k with
    | zero => exact ⟨0, rfl⟩
    | succ k ih =>
      obtain ⟨j, hj⟩ := ih
      by_cases c : itr (cutF n p (f n) f) k i = p
      · refine ⟨j + 2, ?_⟩
        show cutF n p (f n) f (itr (cutF n p (f n) f) k i) = f (f (itr f j i))
        rw [← hj, c]
        unfold cutF
        rw [if_pos rfl, hfp]
      · refine ⟨j + 1, ?_⟩
        show cutF n p (f n) f (itr (cutF n p (f n) f) k i) = f (itr f j i)
        rw [← hj]
        unfold cutF at c ⊢
        rw [if_neg c]
  · intro k
    induction k with
    | zero => exact .inr ⟨0, rfl⟩
    | succ k ih =>
      rcases ih with ⟨h1, j, hj⟩ | ⟨j, hj⟩
      · right
        refine ⟨j + 1, ?_⟩
        show f (itr f k i) = cutF n p (f n) f (itr (cutF n p (f n) f) j i)
        rw [h1, hj]
        unfold cutF
        rw [if_pos rfl]
      · have h4 : itr (cutF n p (f n) f) j i < n := itr_lt hc hi j
        by_cases c : f (itr f k i) = n
        · left
          have h3 : itr f k i = p := h.inj _ _ (by rw [hj]; omega) (by omega) (by rw [c, hfp])
          exact ⟨c, j, by rw [← hj, h3]⟩
        · right
          refine ⟨j + 1, ?_⟩
          show f (itr f k i) = cutF n p (f n) f (itr (cutF n p (f n) f) j i)
          rw [← hj]
          unfold cutF
          rw [if_neg]
          intro e
          apply c; rw [e, hfp]
theorem cut_lead {n p : Nat} {f : Nat → Nat} (h : Perm (n + 1) f) (hp : p < n) (hfp : f p = n) {i : Nat} (hi : i < n) : Lead (cutF n p (f n) f) i ↔ Lead f i := by
  obtain ⟨h1, h2⟩ := cut_itr h hp hfp hi
  constructor
  · intro hl k
    rcases h2 k with ⟨e, _⟩ | ⟨j, hj⟩
    · omega
    · rw [hj]; exact hl j
  · intro hl k
    obtain ⟨j, hj⟩ := h1 k
    rw [hj]; exact hl j
theorem leads_congr {n : Nat} {f g : Nat → Nat} (h : ∀ i, i < n → (Lead f i ↔ Lead g i)) : leads n f = leads n g := by
  unfold leads
  apply List.countP_congr
  intro x hx
  have := h x (List.mem_range.1 hx)
  simp [this]
theorem leads_succ (n : Nat) (f : Nat → Nat) : leads (n + 1) f = leads n f + if Lead f n then 1 else 0 := by
  unfold leads
  rw [List.range_succ, List.countP_append]
  simp
theorem map_lt {n : Nat} {f : Nat → Nat} {l : List Nat} (h : Perm (n + 1) f) (hl : ∀ i, i ∈ l → i < n + 1) (p : Nat) (hp : p < n + 1) (hfp : f p = n) (hn : p ∉ l) : ∀ x, x ∈ l.map f → x < n := by
  intro x hx
  obtain ⟨i, hi, rfl⟩ := List.mem_map.1 hx
  have h1 := h.lt i (hl i hi)
  have : f i ≠ n := fun e => hn (by have := h.inj i p (hl i hi) hp (by rw [e, hfp]); rw [← this]; exact hi)
  omega
theorem nodup_le : ∀ {a b : List Nat}, a.Nodup → (∀ x, x ∈ a → x ∈ b) → a.length ≤ b.length
  | [], b, _, _ => by simp
  | x :: r, b, hn, hs => by
    rw [List.nodup_cons] at hn
    have hx : x ∈ b := hs x (by simp)
    have ih := nodup_le (a := r) (b := b.erase x) hn.2 (fun y hy => (List.mem_erase_of_ne (fun e => hn.1 (by rw [← e]; exact hy))).2 (hs y (by simp [hy])))
    have := List.length_erase_of_mem hx
    have : 0 < b.length := List.length_pos_of_mem hx
    simp; omega
theorem pre_image {n : Nat} {f : Nat → Nat} (h : Perm n f) {y : Nat} (hy : y < n) : ∃ x, x < n ∧ f x = y := by
  apply Classical.byContradiction
  intro hn
  have hnd : ((List.range n).map f).Nodup := by
    unfold List.Nodup
    rw [List.pairwise_map]
    refine List.nodup_range.imp_of_mem fun {a b} ha hb hab he => hab (h.inj a b (List.mem_range.1 ha) (List.mem_range.1 hb) he)
  have hsub : ∀ x, x ∈ (List.range n).map f → x ∈ (List.range n).filter fun z => decide (z ≠ y) := by
    intro x hx
    obtain ⟨i, hi, rfl⟩ := List.mem_map.1 hx
    have hi' := List.mem_range.1 hi
    exact List.mem_filter.2 ⟨List.mem_range.2 (h.lt i hi'), by simp; exact fun e => hn ⟨i, hi', e⟩⟩
  have h1 := nodup_le hnd hsub
  have h2 : ((List.range n).filter fun z => decide (z ≠ y)).length < n := by
    have h3 : ((List.range n).filter fun z => decide (z ≠ y)).length + ((List.range n).filter fun z => decide (z = y)).length = n := by
      have : ∀ l : List Nat, (l.filter fun z => decide (z ≠ y)).length + (l.filter fun z => decide (z = y)).length = l.length := by
        intro l
        induction l with
        | nil => rfl
        | cons a r ih =>
          by_cases c : a = y
          · simp [c] at ih ⊢; omega
          · simp [c] at ih ⊢; omega
      have h5 := this (List.range n)
      rw [List.length_range] at h5
      exact h5
    have h4 : 0 < ((List.range n).filter fun z => decide (z = y)).length := List.length_pos_of_mem (a := y) (List.mem_filter.2 ⟨List.mem_range.2 hy, by simp⟩)
    omega
  rw [List.length_map, List.length_range] at h1
  omega
theorem itr_fix {f : Nat → Nat} {n : Nat} (h : f n = n) : ∀ k, itr f k n = n
  | 0 => rfl
  | k + 1 => by show f (itr f k n) = n; rw [itr_fix h k, h]
theorem Perm.cut {n : Nat} {f : Nat → Nat} (h : Perm (n + 1) f) (hf : f n = n) : Perm n f :=
  ⟨fun i hi => by
    have h1 := h.lt i (by omega)
    have : f i ≠ n := fun e => by have := h.inj i n (by omega) (by omega) (by rw [e, hf]); omega
    omega, fun i j hi hj he => h.inj i j (by omega) (by omega) he⟩
/-- Inversions and cycles. -/
theorem invs_leads : ∀ (n : Nat) (f : Nat → Nat), Perm n f → (invs ((List.range n).map f) + leads n f) % 2 = n % 2
  | 0, f, _ => rfl
  | n + 1, f, h => by
    obtain ⟨p, hp, hfp⟩ := pre_image h (y := n) (by omega)
    by_cases hpn : p = n
    · subst hpn
      have ih := invs_leads p f (h.cut hfp)
      have e1 : (List.range (p + 1)).map f = (List.range p).map f ++ [p] := by rw [List.range_succ, List.map_append]; simp [hfp]
      have hlp : Lead f p := fun k => by rw [itr_fix hfp k]; exact Nat.le_refl _
      rw [e1, invs_append, leads_succ, if_pos hlp]
      have e2 : cross ((List.range p).map f) [p] = 0 := cross_zero (map_lt h (fun i hi => by have := List.mem_range.1 hi; omega) p (by omega) hfp (by simp))
      have e3 : invs [p] = 0 := rfl
      omega
    · have hpl : p < n := by omega
      have hc := cut_perm h hpl hfp
      have ih := invs_leads n _ hc
      have hl : leads n (cutF n p (f n) f) = leads n f := leads_congr fun i hi => cut_lead h hpl hfp hi
      have hnl : ¬ Lead f n := fun hl => by
        have := hl 1
        have h2 : f n < n + 1 := h.lt n (by omega)
        have : f n ≠ n := fun e => hpn (h.inj p n hp (by omega) (by rw [hfp, e]))
        have h3 : n ≤ f n := hl 1
        omega
      rw [leads_succ, if_neg hnl]
      rw [hl] at ih
      obtain ⟨m, hm⟩ : ∃ m, n = p + 1 + m := ⟨n - (p + 1), by omega⟩
      generalize hA : (List.range p).map f = A
      generalize hB : (List.range' (p + 1) m).map f = B
      have hr1 : (List.range n) = List.range p ++ p :: List.range' (p + 1) m := by
        rw [List.range_eq_range', List.range_eq_range', hm, show p + 1 + m = p + (1 + m) by omega, ← List.range'_append_1, Nat.zero_add, Nat.add_comm 1 m, List.range'_succ]
      have e1 : (List.range (n + 1)).map f = A ++ n :: (B ++ [f n]) := by
        rw [List.range_succ, hr1, List.map_append, List.map_append, List.map_cons, hA, hB, hfp]; simp
      have e2 : (List.range n).map (cutF n p (f n) f) = A ++ f n :: B := by
        rw [hr1, List.map_append, List.map_cons]
        have c1 : (List.range p).map (cutF n p (f n) f) = A := by
          rw [← hA]; apply List.map_congr_left; intro i hi; have := List.mem_range.1 hi; unfold cutF; rw [if_neg (by omega)]
        have c2 : (List.range' (p + 1) m).map (cutF n p (f n) f) = B := by
          rw [← hB]; apply List.map_congr_left; intro i hi; have := List.mem_range'_1.1 hi; unfold cutF; rw [if_neg (by omega)]
        rw [c1, c2]
        congr 2
        unfold cutF; rw [if_pos rfl]
      rw [e2] at ih
      rw [e1]
      have bA : ∀ x, x ∈ A → x < n := by rw [← hA]; exact map_lt h (fun i hi => by have := List.mem_range.1 hi; omega) p hp hfp (by simp)
      have bB : ∀ x, x ∈ B → x < n := by rw [← hB]; exact map_lt h (fun i hi => by have := List.mem_range'_1.1 hi; omega) p hp hfp (fun hm3 => by have := List.mem_range'_1.1 hm3; omega)
      have hq : f n < n := by
        have := h.lt n (by omega)
        have : f n ≠ n := fun e => hpn (h.inj p n hp (by omega) (by rw [hfp, e]))
        omega
      have hqB : f n ∉ B := by
        rw [← hB]
        intro hm2
        obtain ⟨i, hi, he⟩ := List.mem_map.1 hm2
        have hi2 := List.mem_range'_1.1 hi
        have := h.inj i n (by omega) (by omega) he
        omega
      have k1 := count_parts hqB
      have k2 : (B ++ [f n]).countP (fun y => decide (y < n)) = (B ++ [f n]).length := countP_all (by
        intro x hx
        rcases List.mem_append.1 hx with hx | hx
        · exact bB x hx
        · simp at hx; omega)
      have k3 : cross A (n :: (B ++ [f n])) = cross A B + cross A [f n] := by rw [cross_cons, cross_append, cross_zero bA]; omega
      have k4 : cross A (f n :: B) = cross A [f n] + cross A B := cross_cons _ _ _
      have k5 : invs (B ++ [f n]) = invs B + B.countP (fun y => decide (f n < y)) := by
        rw [invs_append, cross_one]
        have : invs [f n] = 0 := rfl
        omega
      rw [invs_append] at ih ⊢
      simp only [invs] at ih ⊢
      rw [k2, k3, k5]
      rw [k4] at ih
      simp only [List.length_append, List.length_singleton]
      omega
/-! ### neighbours change places in pairs -/
def swp (T : Nat → Bool) : Nat → List Nat → List Nat
  | i, x :: y :: r => if T i then y :: x :: swp T (i + 1) r else x :: y :: swp T (i + 1) r
  | _, l => l
theorem swp_perm (T : Nat → Bool) : ∀ (i : Nat) (l : List Nat), (swp T i l).Perm l
  | i, x :: y :: r => by
    unfold swp
    have ih := swp_perm T (i + 1) r
    split
    · exact (List.Perm.swap x y _).trans ((ih.cons y).cons x)
    · exact (ih.cons y).cons x
  | _, [] => .refl _
  | _, [_] => .refl _
theorem invs_swp (T : Nat → Bool) : ∀ (m i : Nat) (l : List Nat), l.Nodup → l.length = 2 * m → (invs (swp T i l) + (List.range' i m).countP T) % 2 = invs l % 2
  | 0, i, l, _, hl => by
    have : l = [] := List.eq_nil_of_length_eq_zero (by omega)
    subst this; rfl
  | m + 1, i, l, hn, hl => by
    match l, hn, hl with
    | [], _, hl => simp at hl
    | [_], _, hl => simp at hl; omega
    | x :: y :: r, hn, hl =>
      rw [List.nodup_cons, List.nodup_cons] at hn
      have ih := invs_swp T m (i + 1) r hn.2.2 (by simp at hl; omega)
      have hp := swp_perm T (i + 1) r
      have hxy : x ≠ y := fun e => hn.1 (by simp [e])
      have c1 : ∀ z : Nat, (swp T (i + 1) r).countP (fun w => decide (w < z)) = r.countP (fun w => decide (w < z)) := fun z => hp.countP_eq _
      unfold swp
      rw [List.range'_succ, List.countP_cons]
      split
      · rename_i ht
        simp only [invs, List.countP_cons, c1, ht, if_true]
        by_cases c : x < y
        · have : ¬ y < x := by omega
          simp [c, this]; omega
        · have : y < x := by omega
          simp [c, this]; omega
      · rename_i ht
        simp only [invs, List.countP_cons, c1, ht]
        simp; omega
def twn (h : Nat) : Nat := if h % 2 = 0 then h + 1 else h - 1
theorem swp_map (T : Nat → Bool) (s : Nat → Nat) : ∀ (m i : Nat), swp T i ((List.range' (2 * i) (2 * m)).map s) = (List.range' (2 * i) (2 * m)).map fun h => s (if T (h / 2) then twn h else h)
  | 0, i => rfl
  | m + 1, i => by
    have ih := swp_map T s m (i + 1)
    rw [show 2 * (m + 1) = 2 * m + 1 + 1 by omega, List.range'_succ, List.range'_succ]
    simp only [List.map_cons]
    unfold swp
    rw [show 2 * i + 1 + 1 = 2 * (i + 1) by omega, ih]
    have e1 : 2 * i / 2 = i := by omega
    have e2 : (2 * i + 1) / 2 = i := by omega
    have e3 : twn (2 * i) = 2 * i + 1 := by unfold twn; rw [if_pos (by omega)]
    have e4 : twn (2 * i + 1) = 2 * i := by unfold twn; rw [if_neg (by omega)]; omega
    rw [e1, e2, e3, e4]
    split <;> rfl
theorem twn_perm (m : Nat) : Perm (2 * m) twn :=
  ⟨fun i hi => by unfold twn; split <;> omega, fun i j hi hj he => by unfold twn at he; split at he <;> split at he <;> omega⟩
theorem Perm.nodup {n : Nat} {f : Nat → Nat} (h : Perm n f) : ((List.range n).map f).Nodup := by
  unfold List.Nodup
  rw [List.pairwise_map]
  exact List.nodup_range.imp_of_mem fun {a b} ha hb hab he => hab (h.inj a b (List.mem_range.1 ha) (List.mem_range.1 hb) he)
/-- A permutation on a part, the rest at rest. -/
def onP (c : Nat → Bool) (f : Nat → Nat) : Nat → Nat := fun h => if c h then f h else h
theorem onP_perm {n : Nat} {f : Nat → Nat} {c : Nat → Bool} (h : Perm n f) (hc : ∀ i, i < n → c (f i) = c i) : Perm n (onP c f) := by
  refine ⟨fun i hi => ?_, fun i j hi hj he => ?_⟩
  · unfold onP; split
    · exact h.lt i hi
    · exact hi
  · unfold onP at he
    split at he <;> split at he
    · exact h.inj i j hi hj he
    · rename_i a b; have := hc i hi; rw [he] at this; rw [this] at b; exact absurd a b
    · rename_i a b; have := hc j hj; rw [← he] at this; rw [this] at a; exact absurd b a
    · exact he
theorem onP_itr {n : Nat} {f : Nat → Nat} {c : Nat → Bool} (h : Perm n f) (hc : ∀ i, i < n → c (f i) = c i) {i : Nat} (hi : i < n) (hci : c i = true) : ∀ k, itr (onP c f) k i = itr f k i ∧ c (itr f k i) = true
  | 0 => ⟨rfl, hci⟩
  | k + 1 => by
    obtain ⟨h1, h2⟩ := onP_itr h hc hi hci k
    have h3 : onP c f (itr f k i) = f (itr f k i) := by unfold onP; rw [if_pos h2]
    exact ⟨by show onP c f (itr (onP c f) k i) = _; rw [h1, h3]; rfl, by show c (f (itr f k i)) = true; rw [hc _ (itr_lt h hi k)]; exact h2⟩
theorem onP_leads {n : Nat} {f : Nat → Nat} {c : Nat → Bool} (h : Perm n f) (hc : ∀ i, i < n → c (f i) = c i) :
    leads n (onP c f) = (List.range n).countP (fun i => c i && decide (Lead f i)) + (List.range n).countP fun i => !c i := by
  unfold leads
  have key : ∀ l : List Nat, (∀ i, i ∈ l → i < n) → l.countP (fun i => decide (Lead (onP c f) i)) = l.countP (fun i => c i && decide (Lead f i)) + l.countP fun i => !c i := by
    intro l hl
    induction l with
    | nil => rfl
    | cons i r ih =>
      have ih' := ih fun j hj => hl j (by simp [hj])
      have hi := hl i (by simp)
      simp only [List.countP_cons, ih']
      by_cases hci : c i = true
      · have e : Lead (onP c f) i ↔ Lead f i := by
          unfold Lead
          constructor
          · intro hh k; rw [← (onP_itr h hc hi hci k).1]; exact hh k
          · intro hh k; rw [(onP_itr h hc hi hci k).1]; exact hh k
        simp [hci, e]; omega
      · have e : Lead (onP c f) i := fun k => by
          have : onP c f i = i := by unfold onP; rw [if_neg hci]
          rw [itr_fix this k]; exact Nat.le_refl _
        simp [hci, e]; omega
  exact key _ fun i hi => List.mem_range.1 hi
/-- Of a part that both leave in place: its faces, its vertices and its edges are even together. -/
theorem face_parity {m : Nat} {s : Nat → Nat} {c : Nat → Bool} (hs : Perm (2 * m) s) (h1 : ∀ i, i < 2 * m → c (s i) = c i) (h2 : ∀ i, i < 2 * m → c (twn i) = c i) :
    ((List.range (2 * m)).countP (fun i => c i && decide (Lead (fun h => s (twn h)) i)) + (List.range (2 * m)).countP (fun i => c i && decide (Lead s i)) + (List.range m).countP fun e => c (2 * e)) % 2 = 0 := by
  have ht := twn_perm m
  have hf : Perm (2 * m) fun h => s (twn h) := ⟨fun i hi => hs.lt _ (ht.lt i hi), fun i j hi hj he => ht.inj i j hi hj (hs.inj _ _ (ht.lt i hi) (ht.lt j hj) he)⟩
  have hfc : ∀ i, i < 2 * m → c (s (twn i)) = c i := fun i hi => by rw [h1 _ (ht.lt i hi), h2 i hi]
  have a1 := invs_leads _ _ (onP_perm hs h1)
  have a2 := invs_leads _ _ (onP_perm hf hfc)
  rw [onP_leads hs h1] at a1
  rw [onP_leads hf hfc] at a2
  have e1 : (List.range (2 * m)).map (onP c fun h => s (twn h)) = swp (fun e => c (2 * e)) 0 ((List.range (2 * m)).map (onP c s)) := by
    have := swp_map (fun e => c (2 * e)) (onP c s) m 0
    rw [Nat.mul_zero, ← List.range_eq_range'] at this
    rw [this]
    apply List.map_congr_left
    intro h hh
    have hlt := List.mem_range.1 hh
    have h3 : c (2 * (h / 2)) = c h := by
      by_cases hp : h % 2 = 0
      · rw [show 2 * (h / 2) = h by omega]
      · have e : twn h = 2 * (h / 2) := by unfold twn; rw [if_neg hp]; omega
        rw [← e]; exact h2 h hlt
    rw [h3]
    unfold onP
    by_cases hc : c h = true
    · rw [if_pos hc, if_pos hc, if_pos (by rw [h2 h hlt]; exact hc)]
    · rw [if_neg hc, if_neg hc, if_neg hc]
  have a3 := invs_swp (fun e => c (2 * e)) m 0 _ (onP_perm hs h1).nodup (by simp)
  rw [← e1, ← List.range_eq_range'] at a3
  omega
end Go.Fl

set_option linter.unusedVariables false
set_option linter.unusedSimpArgs false
namespace Go.Fl
open Classical
theorem itr_add (f : Nat → Nat) (x : Nat) : ∀ a b, itr f (a + b) x = itr f a (itr f b x)
  | 0, b => by rw [Nat.zero_add]; rfl
  | a + 1, b => by rw [Nat.succ_add]; show f _ = f _; rw [itr_add f x a b]
theorem itr_inj {n : Nat} {f : Nat → Nat} (h : Perm n f) {x y : Nat} (hx : x < n) (hy : y < n) : ∀ k, itr f k x = itr f k y → x = y
  | 0, e => e
  | k + 1, e => itr_inj h hx hy k (h.inj _ _ (itr_lt h hx k) (itr_lt h hy k) e)
theorem itr_ret {n : Nat} {f : Nat → Nat} (h : Perm n f) {x : Nat} (hx : x < n) : ∃ k, 0 < k ∧ itr f k x = x := by
  apply Classical.byContradiction
  intro hno
  have hnd : ((List.range (n + 1)).map fun k => itr f k x).Nodup := by
    unfold List.Nodup
    rw [List.pairwise_map, List.pairwise_iff_getElem]
    intro i j hi hj hij e
    simp only [List.getElem_range] at e
    have e2 : itr f i (itr f (j - i) x) = itr f i x := by rw [← itr_add, show i + (j - i) = j by omega]; exact e.symm
    exact hno ⟨j - i, by omega, itr_inj h (itr_lt h hx _) hx i e2⟩
  have := nodup_le (b := List.range n) hnd (fun y hy => by
    obtain ⟨k, _, rfl⟩ := List.mem_map.1 hy
    exact List.mem_range.2 (itr_lt h hx k))
  rw [List.length_map, List.length_range, List.length_range] at this
  omega
theorem itr_back {n : Nat} {f : Nat → Nat} (h : Perm n f) {x y : Nat} {q : Nat} (hx : x < n) (e : itr f q x = y) : ∃ r, itr f r y = x := by
  obtain ⟨k, hk, hr⟩ := itr_ret h hx
  have hm : ∀ m, itr f (k * m) x = x := by
    intro m
    induction m with
    | zero => rfl
    | succ m ih => rw [Nat.mul_succ, itr_add, hr, ih]
  have hq : q ≤ k * q := Nat.le_mul_of_pos_left _ hk
  refine ⟨k * q - q, ?_⟩
  rw [← e, ← itr_add, show k * q - q + q = k * q by omega, hm]
/-- Seen by the walks that began below h. -/
def SeenB (f : Nat → Nat) (h x : Nat) : Prop := ∃ j q, j < h ∧ itr f q j = x
theorem seen_lead {n : Nat} {f : Nat → Nat} (h : Perm n f) {x : Nat} (hx : x < n) : SeenB f x x ↔ ¬ Lead f x := by
  constructor
  · rintro ⟨j, q, hj, e⟩ hl
    obtain ⟨r, hr⟩ := itr_back h (by omega) e
    have := hl r
    omega
  · intro hl
    simp only [Lead, Classical.not_forall, Nat.not_le] at hl
    obtain ⟨k, hk⟩ := hl
    obtain ⟨r, hr⟩ := itr_back h hx rfl (q := k)
    exact ⟨_, r, hk, hr⟩
/-- A walk round that comes upon what is seen. -/
theorem walk_done {n : Nat} {f : Nat → Nat} (h : Perm n f) {x t : Nat} (hx : x < n) (ht : 0 < t) (hns : ¬ SeenB f x x) (hs : SeenB f x (itr f t x) ∨ ∃ i, i < t ∧ itr f i x = itr f t x) :
    ∀ q, ∃ i, i < t ∧ itr f i x = itr f q x := by
  have hcl : ∃ i, i < t ∧ itr f i x = itr f t x := by
    rcases hs with ⟨j, q, hj, e⟩ | hs
    · exfalso
      obtain ⟨r, hr⟩ := itr_back h hx rfl (q := t)
      exact hns ⟨j, r + q, hj, by rw [itr_add, e, hr]⟩
    · exact hs
  intro q
  induction q with
  | zero => exact ⟨0, ht, rfl⟩
  | succ q ih =>
    obtain ⟨i, hi, e⟩ := ih
    have e2 : itr f (i + 1) x = itr f (q + 1) x := by show f _ = f _; rw [e]
    by_cases h1 : i + 1 < t
    · exact ⟨i + 1, h1, e2⟩
    · obtain ⟨i', hi', e'⟩ := hcl
      exact ⟨i', hi', by rw [e', show t = i + 1 by omega, e2]⟩
theorem seen_next_new {f : Nat → Nat} {x t : Nat} (hall : ∀ q, ∃ i, i < t ∧ itr f i x = itr f q x) (y : Nat) : SeenB f (x + 1) y ↔ SeenB f x y ∨ ∃ i, i < t ∧ itr f i x = y := by
  constructor
  · rintro ⟨j, q, hj, e⟩
    rcases Nat.lt_succ_iff_lt_or_eq.1 hj with hj | rfl
    · exact .inl ⟨j, q, hj, e⟩
    · obtain ⟨i, hi, e2⟩ := hall q
      exact .inr ⟨i, hi, e2.trans e⟩
  · rintro (⟨j, q, hj, e⟩ | ⟨i, hi, e⟩)
    · exact ⟨j, q, by omega, e⟩
    · exact ⟨x, i, by omega, e⟩
theorem seen_next_old {f : Nat → Nat} {x : Nat} (hs : SeenB f x x) (y : Nat) : SeenB f (x + 1) y ↔ SeenB f x y := by
  constructor
  · rintro ⟨j, q, hj, e⟩
    rcases Nat.lt_succ_iff_lt_or_eq.1 hj with hj | rfl
    · exact ⟨j, q, hj, e⟩
    · obtain ⟨j', q', hj', e'⟩ := hs
      exact ⟨j', q + q', hj', by rw [itr_add, e', e]⟩
  · rintro ⟨j, q, hj, e⟩; exact ⟨j, q, by omega, e⟩
end Go.Fl

set_option linter.unusedVariables false
set_option linter.unusedSimpArgs false
set_option maxRecDepth 100000
namespace Go.Fl
open Go Go.Proofs
open Classical
/-- The step along a face. -/
def phi (f : Nat → Int) (h : Nat) : Nat := (f (twn h)).toNat
structure FaI where
  h : Nat
  g : Nat → Bool
  fs : RL
  v : Value
structure FaJ where
  t : Nat
  g : Nat → Bool
  v : Value
structure FaD (n : Nat) (f : Nat → Int) (j : FaI) : Prop where
  le : j.h ≤ n
  seen : ∀ x, x < n → (j.g x = true ↔ SeenB (phi f) j.h x)
  heads : j.fs.map (fun p => p.2.head?) = ((List.range j.h).filter fun x => decide (Lead (phi f) x)).map fun (x : Nat) => some (x : Int)
  short : ∀ p, p ∈ j.fs → p.2.length ≤ n
structure FaW (n : Nat) (f : Nat → Int) (h : Nat) (g0 : Nat → Bool) (j : FaJ) : Prop where
  nd : ((List.range j.t).map fun i => itr (phi f) i h).Nodup
  seen : ∀ x, x < n → (j.g x = true ↔ g0 x = true ∨ ∃ i, i < j.t ∧ itr (phi f) i h = x)
  new : 0 < j.t → ¬ (g0 h = true)
def faceL (f : Nat → Int) (h t : Nat) : List Int := (List.range t).map fun i => ((itr (phi f) i h : Nat) : Int)
theorem FOf_calls {N : Int} {es : List Pr} {rs : List (List Int)} {va v : Value} {w : World} (hg : PrV w va es) (hl : LsV w v rs)
    (hperm : ∀ f, RotL N es rs → NxOk rs rs.length f → Perm (es.length * 2) (phi f) ∧ ∀ h, h < es.length * 2 → 0 ≤ f h) :
    Calls Tryz.prog 152 #[.agg #[.int .i64 N, va], v] w (Ret w [] fun r M =>
      (RotL N es rs ∧ ∃ v fs f, r = .tuple #[v, .int .i64 0] ∧ NxOk rs rs.length f ∧ FaD (es.length * 2) f ⟨es.length * 2, fun _ => true, fs, v⟩ ∧ M = slc v 44 1 (rowsV fs) :: rowsC 3 fs) ∨
      (¬ RotL N es rs ∧ M = [] ∧ ∃ e, r = .tuple #[.slice none 0 0, .int .i64 e] ∧ e ≠ 0)) := by
  refine calls_of (args := [_, _]) (L := []) Tryz.func152 rfl Tryz.ntmps152 rfl (Own.start _ _) ?_
  refine Zs ?_
  refine Seq.new rfl rfl (n_box (cs := #[.int .i64 N, va]) rfl rfl rfl) fun g2 => ?_
  refine Za ?_
  refine Za ?_
  refine Zx ?_
  refine Zs ?_
  refine Seq.val rfl rfl (v_loads (vs := [_, _]) rfl rfl ag24 sz24 rfl (hass_blk rfl)) ?_
  refine Zm ?_
  refine Seq.rel rfl rfl (r_call en174 rfl rfl rfl (fun w' hw => Next_calls (hg.keep0 hw) (hl.keep0 hw))) ?_
  intro v16 L16 hC16
  obtain ⟨sv, e, rfl, hD16⟩ : ∃ sv e, v16 = .tuple #[sv, .int .i64 e] ∧ ((e = 0 ∧ RotL N es rs ∧ ∃ g f, sv = .slice (some ⟨g, 0, none⟩) (es.length * 2) (es.length * 2) ∧ NxOk rs rs.length f ∧ L16 = [blk g 3 (ints (tab (es.length * 2) f)).toArray]) ∨ (¬ RotL N es rs ∧ e ≠ 0)) := by
    rcases hC16 with ⟨hok, g, f, rfl, h1, h2⟩ | ⟨hno, _, e, rfl, hne⟩
    · exact ⟨_, _, rfl, .inl ⟨rfl, hok, g, f, rfl, h1, h2⟩⟩
    · exact ⟨_, _, rfl, .inr ⟨hno, hne⟩⟩
  clear hC16
  refine Zm ?_
  refine Ze ?_
  refine Ze ?_
  refine Za ?_
  refine Za ?_
  refine Zx ?_
  refine DC.seq ?_
  refine Zs ?_
  refine Zm ?_
  refine Seq.pur rfl rfl (p_neq rfl rfl rfl) ?_
  refine Zx ?_
  refine DC.cond rfl (fun c2 => ?_) (fun c2 => ?_)
  · refine Zs ?_
    refine Zm ?_
    refine Za ?_
    refine Za ?_
    refine Zx ?_
    refine DC.ret ?_
    refine Fin.ret_then <| ?_
    have hne : e ≠ 0 := by simpa using c2
    have hno := (hD16.resolve_left (fun h => hne h.1)).1
    refine Fin.weak (E' := [(4, _), (5, _)]) ⟨rfl, rfl, trivial⟩ .nil ?_
    refine Fin.end2 (.inl rfl) rfl rfl rfl ?_
    exact .inr ⟨hno, rfl, e, rfl, hne⟩
  · refine DC.skip ?_
    refine Fin.then ?_
    refine DC.seq ?_
    have he0 : e = 0 := by simpa using c2
    obtain ⟨_, hok, gn, f, rfl, hnx, rfl⟩ := hD16.resolve_right (fun h => h.2 he0)
    simp only [List.cons_append, List.nil_append]
    obtain ⟨hP, hf0⟩ := hperm f hok hnx
    have hfew := hok.1.few
    obtain ⟨n, hn⟩ : ∃ n, n = es.length * 2 := ⟨_, rfl⟩
    rw [← hn] at hP hf0 ⊢
    have hn1 : n ≤ 8388608 := by omega
    refine DC.region ?_
    refine Zm ?_
    refine Zn Tryz.underlying44 ?_
    refine Seq.new rfl rfl (n_make (k := n) rfl rfl rfl Tryz.underlying188 sz4 by4 ze4 rfl (by omega) (by omega) (made_bls _)) fun g24 => ?_
    refine Za ?_
    refine Zx ?_
    refine Zs ?_
    refine Za ?_
    refine Zx ?_
    refine DC.seq ?_
    refine Zs ?_
    refine Zm ?_
    refine Zn Tryz.underlying44 ?_
    refine Zm ?_
    refine Zx ?_
    refine DC.block ?_
    refine DC.own (fun w hw => own_nil (t := 44) (m := 1) hw) ?_
    refine DC.loop (ι := FaI) (fun j => FaD n f j)
      (fun j => [(6, .slice (some ⟨gn, 0, none⟩) n n), (8, .slice (some ⟨g24, 0, none⟩) n n), (9, j.v), (25, .slice (some ⟨gn, 0, none⟩) n n), (26, .int .i64 n), (27, .int .i64 j.h)])
      (fun j => slc j.v 44 1 (rowsV j.fs) :: blk g24 4 (bls n j.g).toArray :: blk gn 3 (ints (tab n f)).toArray :: rowsC 3 j.fs) (fun j => n - j.h) ⟨0, fun _ => false, [], .slice none 0 0⟩
      ⟨Nat.zero_le _, fun x _ => ⟨fun h => by simp at h, fun ⟨j, q, h, _⟩ => absurd h (Nat.not_lt_zero _)⟩, by simp, by simp⟩ ⟨rfl, rfl, rfl, rfl, rfl, rfl, trivial⟩ (.cons 0 rfl (.cons 0 rfl (.cons 0 rfl .nil))) ?_
    rintro ⟨h, g, fs, v9⟩ hD
    have hDle := hD.le
    have hDse := hD.seen
    dsimp only at hDle hDse ⊢
    refine Zs ?_
    refine Zc ?_
    refine Zx ?_
    refine DC.seq ?_
    refine DC.cond rfl (fun c7 => ?_) (fun c7 => ?_)
    · have hlt : h < n := by simpa using c7
      refine DC.skip ?_
      refine Fin.then ?_
      refine DC.seq ?_
      refine DC.block ?_
      refine Zs ?_
      refine Zm ?_
      refine Za ?_
      refine Zx ?_
      refine Zs ?_
      refine Za ?_
      refine Zx ?_
      refine DC.seq ?_
      refine Zs ?_
      refine Zm ?_
      refine Za ?_
      refine Zx ?_
      refine DC.block ?_
      refine DC.own (fun w hw => own_nil (t := 3) (m := 1) hw) ?_
      refine DC.loop (ι := FaJ) (fun j => FaW n f h g j)
        (fun j => [(6, .slice (some ⟨gn, 0, none⟩) n n), (8, .slice (some ⟨g24, 0, none⟩) n n), (9, v9), (11, j.v), (12, .int .i64 (itr (phi f) j.t h : Nat)), (25, .slice (some ⟨gn, 0, none⟩) n n), (26, .int .i64 n), (27, .int .i64 h)])
        (fun j => slc j.v 3 1 (ints (faceL f h j.t)) :: slc v9 44 1 (rowsV fs) :: blk g24 4 (bls n j.g).toArray :: blk gn 3 (ints (tab n f)).toArray :: rowsC 3 fs) (fun j => n - j.t) ⟨0, g, .slice none 0 0⟩
        ⟨by simp, fun x hx => by simp, fun h => absurd h (Nat.lt_irrefl _)⟩ ⟨rfl, rfl, rfl, rfl, rfl, rfl, rfl, rfl, trivial⟩ (Pick.all _) ?_
      rintro ⟨t, g', v11⟩ hW
      have hWse := hW.seen
      have hk := itr_lt hP hlt t
      dsimp only at hWse ⊢
      have htn : t ≤ n := by
        have := nodup_le (b := List.range n) hW.nd (fun y hy => by obtain ⟨q, _, rfl⟩ := List.mem_map.1 hy; exact List.mem_range.2 (itr_lt hP hlt q))
        simpa using this
      obtain ⟨k, hkk⟩ : ∃ k, k = itr (phi f) t h := ⟨_, rfl⟩
      rw [← hkk] at hk ⊢
      have htw : twn k < n := by unfold twn; split <;> omega
      have hval : (ints (tab n f)).toArray[twn k]? = some (.int .i64 ((phi f k : Nat) : Int)) := by
        rw [row_getT htw]; congr 2; exact (Int.toNat_of_nonneg (hf0 _ htw)).symm
      have exor : (if (k : Int) % 2 = 0 then (k : Int) + 1 else (k : Int) - 1) = ((twn k : Nat) : Int) := by unfold twn; split <;> split <;> omega
      refine DC.seq ?_
      refine Zs ?_
      refine Zm ?_
      refine Zm ?_
      refine Zi Tryz.underlying188 sz4 ?_
      refine Seq.val rfl rfl (v_load rfl rfl ag4 (has_row (bls_get g' hk))) ?_
      refine Seq.pur rfl rfl (p_not rfl rfl) ?_
      refine Zx ?_
      refine DC.cond rfl (fun c11 => ?_) (fun c11 => ?_)
      · have hgk : ¬ (g' k = true) := by simpa using c11
        have hkn : ¬ ∃ i, i < t ∧ itr (phi f) i h = k := fun h1 => hgk ((hWse k hk).2 (.inr h1))
        have hnd1 : ((List.range (t + 1)).map fun i => itr (phi f) i h).Nodup := by
          rw [List.range_succ, List.map_append, List.nodup_append]
          refine ⟨hW.nd, by simp, fun a ha b hb e => ?_⟩
          simp at hb; subst hb; subst e
          obtain ⟨q, hq, e⟩ := List.mem_map.1 ha
          exact hkn ⟨q, List.mem_range.1 hq, by rw [hkk]; exact e⟩
        have htn1 : t + 1 ≤ n := by
          have := nodup_le (b := List.range n) hnd1 (fun y hy => by obtain ⟨q, _, rfl⟩ := List.mem_map.1 hy; exact List.mem_range.2 (itr_lt hP hlt q))
          simpa using this
        refine DC.skip ?_
        refine Fin.then ?_
        refine DC.seq ?_
        refine DC.block ?_
        refine Zs ?_
        refine Zm ?_
        refine Zm ?_
        refine Zi Tryz.underlying188 sz4 ?_
        refine Seq.sto rfl rfl (s_store (cs' := (bls n (updB g' k true)).toArray) rfl rfl rfl sz4 rfl (by simp; omega) (bls_set g' true)) ?_
        refine Zx ?_
        refine DC.region ?_
        refine Zm ?_
        refine Zm ?_
        refine Seq.new rfl rfl (n_slit (cs := #[_]) rfl rfl Tryz.underlying44 sz3 ze3 rfl (by decide) (by decide) rfl rfl) fun g46 => ?_
        refine Seq.gen rfl rfl (g_append rfl rfl rfl Tryz.underlying44 sz3 by3 ze3 rfl (by decide) (by decide) (fun w hw => hw.sub (List.sublist_cons_self ..)) (.inl ⟨_, _, rfl, hass_blk rfl⟩) rfl (ints_one [(k : Int)] []) (by simp [faceL]; omega)) ?_
        rintro v47 _ rfl
        refine Za ?_
        refine Seq.nil ?_
        refine Fin.inBlock ?_
        refine Fin.then ?_
        refine DC.region ?_
        refine Zm ?_
        refine Zm ?_
        refine Seq.pur rfl rfl (p_xor1 rfl rfl rfl (by omega)) ?_
        rw [exor]
        refine Seq.pur rfl rfl (p_index1 (ad' := ⟨gn, twn k, none⟩) rfl rfl rfl Tryz.underlying44 sz3 (by omega) (by omega) (by rw [add_at0]; rfl)) ?_
        refine Seq.val rfl rfl (v_load rfl rfl ag3 (has_row hval)) ?_
        refine Za ?_
        refine Seq.nil ?_
        refine Fin.again ⟨t + 1, updB g' k true, v47⟩ (by dsimp only; omega) ⟨hnd1, ?_, ?_⟩ ⟨rfl, rfl, rfl, rfl, by rw [hkk]; rfl, rfl, rfl, rfl, trivial⟩ (.cons' 0 rfl (by dsimp only; unfold faceL; rw [List.range_succ, List.map_append, ints_append, hkk]; rfl) (Pick.all _))
        · intro x hx
          dsimp only
          unfold updB
          split
          · rename_i e; subst e
            simp only [true_iff]
            exact .inr ⟨t, by omega, hkk.symm⟩
          · rename_i e
            rw [hWse x hx]
            constructor
            · rintro (h1 | ⟨i, hi, h1⟩)
              · exact .inl h1
              · exact .inr ⟨i, by omega, h1⟩
            · rintro (h1 | ⟨i, hi, h1⟩)
              · exact .inl h1
              · rcases Nat.lt_succ_iff_lt_or_eq.1 hi with hi | rfl
                · exact .inr ⟨i, hi, h1⟩
                · exact absurd (by rw [hkk, h1]) (Ne.symm e)
        · intro _ hgh
          by_cases h0 : 0 < t
          · exact hW.new h0 hgh
          · have : k = h := by rw [hkk, show t = 0 by omega]; rfl
            exact hgk ((hWse k hk).2 (.inl (by rw [this]; exact hgh)))
      · refine DC.exit ?_
        refine Fin.exit_then <| Fin.exit_then <| Fin.exit_here <| ?_
        refine Fin.then ?_
        refine DC.seq ?_
        have hgk : g' k = true := by simpa using c11
        refine DC.slcs (i := 0) rfl (by simp [faceL]; omega) ?_
        rintro A11 c11' rfl _
        have hfl : (faceL f h t).length = t := by simp [faceL]
        rw [hfl]
        refine DC.region ?_
        refine Zm ?_
        refine Zn Tryz.underlying44 ?_
        refine Seq.pur rfl rfl (p_gtr rfl rfl rfl) ?_
        refine Zx ?_
        refine DC.cond rfl (fun c15 => ?_) (fun c15 => ?_)
        · have ht0 : 0 < t := by simp at c15; omega
          have hns : ¬ SeenB (phi f) h h := fun h1 => hW.new ht0 ((hDse h hlt).2 h1)
          have hlead : Lead (phi f) h := by
            apply Classical.byContradiction
            intro h1; exact hns ((seen_lead hP hlt).2 h1)
          have hall := walk_done hP hlt ht0 hns (by
            rw [← hkk]
            rcases (hWse k hk).1 hgk with h1 | h1
            · exact .inl ((hDse k hk).1 h1)
            · exact .inr h1)
          have hfslen : fs.length ≤ h := by
            have h1 := congrArg List.length hD.heads
            simp only [List.length_map] at h1
            have h2 := List.length_filter_le (fun x => decide (Lead (phi f) x)) (List.range h)
            simp at h2; omega
          refine DC.region ?_
          refine Zm ?_
          refine Zm ?_
          refine Seq.new rfl rfl (n_slit (cs := #[_]) rfl rfl Tryz.underlying25 sz44 ze44 rfl (by decide) (by decide) rfl rfl) fun g53 => ?_
          refine Seq.gen rfl rfl (g_append rfl rfl rfl Tryz.underlying25 sz44 by44 ze44 rfl (by decide) (by decide) (news := [.slice A11 t c11']) (k := 1) (fun w hw => (hw.sub (List.sublist_cons_self ..)).perm (.swap _ _ _)) (.inl ⟨_, _, rfl, hass_blk rfl⟩) rfl (fun u hu => by rw [List.mem_singleton.1 hu]; rfl) (by simp; omega)) ?_
          rintro v54 _ rfl
          refine Za ?_
          refine Seq.nil ?_
          refine Fin.inBlock ?_
          refine Fin.then ?_
          refine DC.region ?_
          refine Zp ?_
          refine Zm ?_
          refine Seq.nil ?_
          refine Fin.own (M := slc v54 44 1 (rowsV (fs ++ [(.slice A11 t c11', faceL f h t)])) :: blk g24 4 (bls n g').toArray :: blk gn 3 (ints (tab n f)).toArray :: rowsC 3 (fs ++ [(.slice A11 t c11', faceL f h t)])) (fun w hw => ?_) ?_
          · have e1 : rowsV (fs ++ [(.slice A11 t c11', faceL f h t)]) = rowsV fs ++ [.slice A11 t c11'] := by simp [rowsV]
            have e2 : rowsC 3 (fs ++ [(.slice A11 t c11', faceL f h t)]) = rowsC 3 fs ++ [slc (.slice A11 t c11') 3 1 (ints (faceL f h t))] := by simp [rowsC]
            rw [e1, e2]
            refine hw.perm ?_
            refine List.Perm.cons _ ?_
            have := List.perm_append_comm (l₁ := blk g24 4 (bls n g').toArray :: blk gn 3 (ints (tab n f)).toArray :: rowsC 3 fs) (l₂ := [slc (.slice A11 t c11') 3 1 (ints (faceL f h t))])
            simpa using this
          refine Fin.again ⟨h + 1, g', fs ++ [(.slice A11 t c11', faceL f h t)], v54⟩ (by dsimp only; omega) ⟨by dsimp only; omega, ?_, ?_, ?_⟩ ⟨rfl, rfl, rfl, rfl, rfl, rfl, trivial⟩ (Pick.all _)
          · intro x hx
            dsimp only
            rw [hWse x hx, hDse x hx, seen_next_new hall]
          · dsimp only
            rw [List.range_succ, List.filter_append, List.map_append, List.map_append, hD.heads]
            congr 1
            have : (faceL f h t).head? = some (h : Int) := by
              obtain ⟨t', rfl⟩ : ∃ t', t = t' + 1 := ⟨t - 1, by omega⟩
              simp [faceL, List.range_succ_eq_map, itr]
            simp [hlead, this]
          · intro p hp
            rw [List.mem_append] at hp
            rcases hp with hp | hp
            · exact hD.short p hp
            · simp at hp; subst hp; dsimp only; omega
        · refine DC.skip ?_
          refine Fin.inBlock ?_
          refine Fin.then ?_
          refine DC.region ?_
          refine Zp ?_
          refine Zm ?_
          refine Seq.nil ?_
          have ht0 : t = 0 := by simp at c15; omega
          subst ht0
          have hkh : k = h := hkk
          subst hkh
          have hgx : ∀ x, x < n → (g' x = true ↔ g x = true) := fun x hx => by rw [hWse x hx]; simp
          have hs : SeenB (phi f) k k := (hDse k hlt).1 ((hgx k hlt).1 hgk)
          have hnl : ¬ Lead (phi f) k := (seen_lead hP hlt).1 hs
          refine Fin.own (fun w hw => hw.sub (List.sublist_cons_self ..)) ?_
          refine Fin.again ⟨k + 1, g', fs, v9⟩ (by dsimp only; omega) ⟨by dsimp only; omega, ?_, ?_, hD.short⟩ ⟨rfl, rfl, rfl, rfl, rfl, rfl, trivial⟩ (Pick.all _)
          · intro x hx
            dsimp only
            rw [hgx x hx, hDse x hx, seen_next_old hs]
          · dsimp only
            rw [List.range_succ, List.filter_append, List.map_append, hD.heads]
            simp [hnl]
    · refine DC.exit ?_
      refine Fin.exit_then <| Fin.exit_then <| Fin.exit_here <| ?_
      refine Fin.then ?_
      refine Zs ?_
      refine Zm ?_
      refine Za ?_
      refine Za ?_
      refine Zx ?_
      refine DC.ret ?_
      have hhn : h = n := by simp at c7; omega
      subst hhn
      refine Fin.own (M := slc v9 44 1 (rowsV fs) :: rowsC 3 fs) (fun w hw => hw.sub (.cons_cons _ (.cons _ (.cons _ (List.Sublist.refl _))))) ?_
      refine Fin.end2 (.inl rfl) rfl rfl rfl ?_
      refine .inl ⟨hok, v9, fs, f, rfl, hnx, ?_, rfl⟩
      exact ⟨Nat.le_refl _, fun x hx => ⟨fun _ => ⟨x, 0, hx, rfl⟩, fun _ => rfl⟩, hD.heads, hD.short⟩
end Go.Fl

set_option linter.unusedVariables false
set_option linter.unusedSimpArgs false
set_option maxRecDepth 100000
namespace Go.Fl
open Go Go.Proofs
theorem nodup_leI : ∀ {a b : List Int}, a.Nodup → (∀ x, x ∈ a → x ∈ b) → a.length ≤ b.length
  | [], b, _, _ => by simp
  | x :: r, b, hn, hs => by
    rw [List.nodup_cons] at hn
    have hx : x ∈ b := hs x (by simp)
    have ih := nodup_leI (a := r) (b := b.erase x) hn.2 (fun y hy => (List.mem_erase_of_ne (fun e => hn.1 (by rw [← e]; exact hy))).2 (hs y (by simp [hy])))
    have := List.length_erase_of_mem hx
    have : 0 < b.length := List.length_pos_of_mem hx
    simp; omega
theorem mod_inj {i j n : Nat} (hi : i < n) (hj : j < n) (h : (i + 1) % n = (j + 1) % n) : i = j := by
  have e : ∀ k, k < n → (k + 1) % n = if k + 1 = n then 0 else k + 1 := by
    intro k hk
    split
    · rename_i h1; rw [h1, Nat.mod_self]
    · exact Nat.mod_eq_of_lt (by omega)
  rw [e i hi, e j hj] at h
  split at h <;> split at h <;> omega
theorem row_of {N : Int} {es : List Pr} {rs : List (List Int)} (hok : RotL N es rs) {h : Nat} (hh : h < es.length * 2) :
    ∃ (v : Nat) (l : List Int) (i : Nat), rs[v]? = some l ∧ l[i]? = some (h : Int) ∧ fromV es h = v := by
  obtain ⟨hV, hN, hrow⟩ := hok
  obtain ⟨e, a, he, hcase⟩ := half_ends (es := es) (h := (h : Int)) (by omega) (by omega)
  have ho := hV.ok e a he
  have h1 := ho.lo
  have h2 := ho.lt
  have h3 := ho.hi
  have hb : 0 ≤ fromV es h ∧ fromV es h < N := by
    rcases hcase with ⟨_, h4, _⟩ | ⟨_, h4, _⟩ <;> rw [h4] <;> omega
  obtain ⟨v, hv⟩ := Int.eq_ofNat_of_zero_le hb.1
  obtain ⟨l, hl⟩ : ∃ l, rs[v]? = some l := ⟨_, List.getElem?_eq_getElem (by omega)⟩
  obtain ⟨hfr, hnd, hcnt⟩ := hrow v l hl
  have hmem : (h : Int) ∈ l := by
    apply Classical.byContradiction
    intro hno
    have hle := nodup_leI (a := (h : Int) :: l) (b := outs es v) (List.nodup_cons.2 ⟨hno, hnd⟩) (fun x hx => by
      rcases List.mem_cons.1 hx with rfl | hx
      · exact (mem_outs hV).2 ⟨by omega, by omega, hv⟩
      · exact (mem_outs hV).2 (hfr x hx))
    unfold cnt at hcnt
    simp only [List.length_cons] at hle
    omega
  obtain ⟨i, hi⟩ := List.mem_iff_getElem?.1 hmem
  exact ⟨v, l, i, hl, hi, hv⟩
theorem nx_perm {N : Int} {es : List Pr} {rs : List (List Int)} {f : Nat → Int} (hok : RotL N es rs) (hnx : NxOk rs rs.length f) : Perm (es.length * 2) (phi f) ∧ ∀ h, h < es.length * 2 → 0 ≤ f h := by
  have hrow := hok.2.2
  have next : ∀ {v : Nat} {l : List Int} {i h : Nat}, rs[v]? = some l → l[i]? = some (h : Int) → l[(i + 1) % l.length]? = some (f h) ∧ 0 ≤ f h ∧ f h < es.length * 2 ∧ fromV es (f h) = v := by
    intro v l i h hl hi
    have h1 := hnx v l i h (List.getElem?_eq_some_iff.1 hl).1 hl hi
    rw [Int.toNat_natCast] at h1
    obtain ⟨h2, h3, h4⟩ := (hrow v l hl).1 _ (List.mem_of_getElem? h1)
    exact ⟨h1, h2, h3, h4⟩
  have hf0 : ∀ h, h < es.length * 2 → 0 ≤ f h := fun h hh => by
    obtain ⟨v, l, i, hl, hi, _⟩ := row_of hok hh
    exact (next hl hi).2.1
  have htw : ∀ h, h < es.length * 2 → twn h < es.length * 2 := fun h hh => by unfold twn; split <;> omega
  have htinj : ∀ a b, twn a = twn b → a = b := fun a b e => by unfold twn at e; split at e <;> split at e <;> omega
  refine ⟨⟨fun h hh => ?_, fun a b ha hb e => ?_⟩, hf0⟩
  · obtain ⟨v, l, i, hl, hi, _⟩ := row_of hok (htw h hh)
    have := next hl hi
    unfold phi; omega
  · obtain ⟨v, l, i, hl, hi, hv⟩ := row_of hok (htw a ha)
    obtain ⟨v', l', i', hl', hi', hv'⟩ := row_of hok (htw b hb)
    obtain ⟨n1, n2, n3, n4⟩ := next hl hi
    obtain ⟨m1, m2, m3, m4⟩ := next hl' hi'
    have hff : f (twn a) = f (twn b) := by unfold phi at e; omega
    have hvv : v = v' := by rw [hff] at n4; omega
    subst hvv
    rw [hl] at hl'; cases hl'
    have hnd := (hrow v l hl).2.1
    have hil := (List.getElem?_eq_some_iff.1 hi).1
    have hil' := (List.getElem?_eq_some_iff.1 hi').1
    have hmm := (List.getElem?_inj (Nat.mod_lt _ (by omega)) hnd).1 (n1.trans ((congrArg some hff).trans m1.symm))
    have hii := mod_inj hil hil' hmm
    subst hii
    rw [hi] at hi'
    have : twn a = twn b := by have := Option.some.inj hi'; omega
    exact htinj a b this
end Go.Fl

set_option linter.unusedVariables false
set_option linter.unusedSimpArgs false
set_option linter.unusedSectionVars false
namespace Go.Fl
open Go
theorem filter_erase {α : Type} (b : α → Nat) : ∀ {l : List α} {j : Nat} {e : α}, (l.map b).Nodup → l[j]? = some e → l.filter (fun x => b x != b e) = l.eraseIdx j
  | [], j, e, _, h => by simp at h
  | x :: r, 0, e, hn, h => by
    simp at h; subst h
    simp only [List.map_cons, List.nodup_cons] at hn
    rw [List.filter_cons, if_neg (by simp), List.eraseIdx_cons_zero, List.filter_eq_self]
    intro y hy
    have : b y ≠ b x := fun e => hn.1 (by rw [← e]; exact List.mem_map_of_mem hy)
    simpa using this
  | x :: r, j + 1, e, hn, h => by
    simp only [List.getElem?_cons_succ] at h
    simp only [List.map_cons, List.nodup_cons] at hn
    have : b x ≠ b e := fun e' => hn.1 (by rw [e']; exact List.mem_map_of_mem (List.mem_of_getElem? h))
    rw [List.filter_cons, if_pos (by simpa using this), List.eraseIdx_cons_succ, filter_erase b hn.2 h]
section
variable {κ : Type} [DecidableEq κ]
def kv (e : MapEntry) : Value × Value := (e.key, e.val)
/-- A map and an iterator over it; 'left': the entries that have not come yet; 'last': the one that came last. -/
def mit (enc : κ → Value) (gm gi : Nat) (m left : List (κ × Value)) (last : Option (κ × Value)) : Chunk :=
  ⟨[gm, gi], fun w => ∃ es clock seen, w.heap[gm]? = some (.map es clock) ∧ es.toList.map (fun e => (e.key, e.val)) = m.map (fun p => (enc p.1, p.2)) ∧ (es.toList.map (·.born)).Nodup ∧ (∀ e, e ∈ es.toList → e.born < clock) ∧
      w.heap[gi]? = some (.mapIter (some gm) clock seen clock) ∧ (leftOf es seen).toList.map (fun e => (e.key, e.val)) = left.map (fun p => (enc p.1, p.2)) ∧
      ∀ p, last = some p → ∃ (e : MapEntry) (s0 : Array Nat), e ∈ es.toList ∧ seen = s0.push e.born ∧ e.key = enc p.1 ∧ e.val = p.2,
    fun w w' h hh => by
      obtain ⟨es, c, s, h1, h2, h3, h4, h5, h6⟩ := hh
      exact ⟨es, c, s, (h gm (by simp)).trans h1, h2, h3, h4, (h gi (by simp)).trans h5, h6⟩⟩
variable {P : Program} {w0 w : World} {K : List Nat} {n : Nat} {ds : List Deferred} {E : Env} {L : List Chunk} {o : Oper} {x : Operand} {v : Value} {enc : κ → Value} {m left : List (κ × Value)} {gm gi : Nat} {v0 : Option (κ × Value)}
theorem g_range {t kt et : TypeId} (i : Nat) (hi : L[i]? = some (mpc enc gm m)) (ho : o.op = .range t x) (hx : ev n E x = some (.map (some gm))) (ht : P.underlying t = some (.map kt et)) :
    Gen P w0 K n ds E L o (fun v M => ∃ gi, v = .pointer (some ⟨gi, 0, none⟩) ∧ M = L.set i (mit enc gm gi m m none)) := by
  intro a w ha hw
  obtain ⟨es, clock, h1, h2, h3, h4⟩ := own_mem i hi hw
  have hlt : gm < w.heap.size := (Array.getElem?_eq_some_iff.1 h1).1
  have hr : (execOp a.eval o).run P w = .ok (.value (.pointer (some ⟨w.heap.size, 0, none⟩))) (w.alloc (.mapIter (some gm) clock #[] clock)) := by
    have hg : (getObj gm).run P w = .ok (.map es clock) w := by simp [getObj, Sem.run, h1]
    simp only [execOp, ho, ha.ev hx, Instr.range, Sem.run_bind, run_underlying ht, Result.andThen_ok, hg, Sem.run_pure]
    rfl
  refine RunsTo.value hr ⟨_, ⟨w.heap.size, rfl, rfl⟩, ?_⟩
  have hO : Own w [gm] (w.alloc (.mapIter (some gm) clock #[] clock)) [mit enc gm w.heap.size m m none] := by
    refine ⟨rfl, rfl, rfl, Lo.refl _, by simp, fun k hk hn => ?_, ?_, fun g hg => ?_, fun g hg => ?_, fun c hc => ?_⟩
    · simp only [World.alloc, Array.getElem?_push]; rw [if_neg (by omega)]
    · simp [mit]; exact fun e => by omega
    · simp [mit] at hg; rcases hg with rfl | rfl
      · exact .inl (by simp)
      · exact .inr (Nat.le_refl _)
    · simp [mit] at hg; rcases hg with rfl | rfl
      · simp; omega
      · simp
    · simp at hc; subst hc
      refine ⟨es, clock, #[], ?_, h2, h3, h4, ?_, ?_, fun p hp => by cases hp⟩
      · simp only [World.alloc, Array.getElem?_push]; rw [if_neg (by omega)]; exact h1
      · simp only [World.alloc, Array.getElem?_push]; rw [if_pos trivial]
      · have : leftOf es #[] = es := by simp [leftOf]
        rw [this]; exact h2
  exact (Own.frame (Lc := [mpc enc gm m]) (hw.perm (perm_eraseIdx hi).symm) hO (fun k hk => by simp [mpc] at hk ⊢; exact hk)).perm (perm_set hi)
theorem g_next (i : Nat) (hi : L[i]? = some (mit enc gm gi m left v0)) (ho : o.op = .next x false) (hx : ev n E x = some (.pointer (some ⟨gi, 0, none⟩))) :
    Gen P w0 K n ds E L o (fun v M => (v = .tuple #[.bool false] ∧ left = [] ∧ M = L) ∨ (∃ j p, left[j]? = some p ∧ v = .tuple #[.bool true, enc p.1, p.2] ∧ M = L.set i (mit enc gm gi m (left.eraseIdx j) (some p)))) := by
  intro a w ha hw
  obtain ⟨es, clock, seen, h1, h2, h3, h4, h5, h6, h7⟩ := own_mem i hi hw
  rcases run_next_at (P := P) w o.type gi gm clock clock seen es clock h5 h1 h4 (Nat.le_refl _) with ⟨hz, hr⟩ | ⟨e, he, w1, hw1, hr⟩
  · have hl : left = [] := by
      have := congrArg List.length h6
      simp only [List.length_map, Array.length_toList, hz] at this
      exact List.eq_nil_of_length_eq_zero this.symm
    refine RunsTo.value (v := .tuple #[.bool false]) (w' := w) (by simp only [execOp, ho, ha.ev hx, Sem.run_bind, hr, Result.andThen_ok, Sem.run_pure]) ⟨L, .inl ⟨rfl, hl, rfl⟩, hw⟩
  · obtain ⟨j, hj⟩ := List.mem_iff_getElem?.1 he
    have hpj : ∃ p, left[j]? = some p ∧ e.key = enc p.1 ∧ e.val = p.2 := by
      have h8 : ((leftOf es seen).toList.map fun e => (e.key, e.val))[j]? = some (e.key, e.val) := by rw [List.getElem?_map, hj]; rfl
      rw [h6, List.getElem?_map, Option.map_eq_some_iff] at h8
      obtain ⟨p, hp, hpe⟩ := h8
      exact ⟨p, hp, (congrArg Prod.fst hpe).symm, (congrArg Prod.snd hpe).symm⟩
    obtain ⟨p, hp, hk, hv⟩ := hpj
    have hees : e ∈ es.toList := by
      unfold leftOf at he
      rw [Array.toList_filter] at he
      exact (List.mem_filter.1 he).1
    refine RunsTo.value (v := .tuple #[.bool true, enc p.1, p.2]) (w' := ChangeMaps.setBlock w1 gi (.mapIter (some gm) clock (seen.push e.born) clock)) (by simp only [execOp, ho, ha.ev hx, Sem.run_bind, hr, Result.andThen_ok, Sem.run_pure, hk, hv]) ⟨_, .inr ⟨j, p, hp, rfl, rfl⟩, ?_⟩
    have hw1' : Own w0 K w1 L := by
      rcases hw1 with rfl | rfl
      · exact hw
      · exact hw.drew
    have hheap : w1.heap = w.heap := by rcases hw1 with rfl | rfl <;> rfl
    have hne : gm ≠ gi := by
      intro e
      rw [e, h5] at h1; cases h1
    have hlm : gm < w1.heap.size := by rw [hheap]; exact (Array.getElem?_eq_some_iff.1 h1).1
    have hli : gi < w1.heap.size := by rw [hheap]; exact (Array.getElem?_eq_some_iff.1 h5).1
    have hO : Own w1 [gm, gi] (ChangeMaps.setBlock w1 gi (.mapIter (some gm) clock (seen.push e.born) clock)) [mit enc gm gi m (left.eraseIdx j) (some p)] := by
      refine ⟨rfl, rfl, rfl, Lo.refl _, by simp [ChangeMaps.setBlock], fun k hk hn => ?_, by simp [mit, hne], fun g hg => .inl (by simpa [mit] using hg), fun g hg => ?_, fun c hc => ?_⟩
      · simp at hn
        show (w1.heap.setIfInBounds gi _)[k]? = _
        rw [Array.getElem?_setIfInBounds_ne (by omega)]
      · simp [mit] at hg
        rcases hg with rfl | rfl <;> simpa [ChangeMaps.setBlock]
      · simp at hc; subst hc
        refine ⟨es, clock, seen.push e.born, ?_, h2, h3, h4, ?_, ?_, fun p' hp' => ?_⟩
        · show (w1.heap.setIfInBounds gi _)[gm]? = _
          rw [Array.getElem?_setIfInBounds_ne (by omega), hheap]; exact h1
        · show (w1.heap.setIfInBounds gi _)[gi]? = _
          simp [hli]
        · have hnd : ((leftOf es seen).toList.map (·.born)).Nodup := by
            unfold leftOf
            rw [Array.toList_filter]
            exact h3.sublist ((List.filter_sublist).map _)
          have e1 : (leftOf es (seen.push e.born)).toList = (leftOf es seen).toList.filter (fun x => x.born != e.born) := by
            unfold leftOf
            rw [Array.toList_filter, Array.toList_filter, List.filter_filter]
            apply List.filter_congr
            intro y _
            by_cases hye : y.born = e.born
            · simp [hye]
            · have hye' : ¬ e.born = y.born := fun h => hye h.symm
              simp [hye, bne]
          rw [e1, filter_erase (·.born) hnd hj, ChangeMaps.map_eraseIdx, h6, ChangeMaps.map_eraseIdx]
        · cases hp'
          exact ⟨e, seen, hees, rfl, hk, hv⟩
    exact (Own.frame (Lc := [mit enc gm gi m left v0]) (hw1'.perm (perm_eraseIdx hi).symm) hO (fun k hk => by simpa [mit] using hk)).perm (perm_set hi)
theorem v_entry {p : κ × Value} (i : Nat) (hi : L[i]? = some (mit enc gm gi m left (some p))) (ho : o.op = .entry x) (hx : ev n E x = some (.pointer (some ⟨gi, 0, none⟩))) : Val P w0 K n ds E L o (.tuple #[enc p.1, p.2]) := by
  intro a w ha hw
  obtain ⟨es, clock, seen, h1, h2, h3, h4, h5, h6, h7⟩ := own_mem i hi hw
  obtain ⟨e, s0, he, rfl, hk, hv⟩ := h7 p rfl
  have := run_entry_at (P := P) w gi gm clock s0 es clock e h5 h1 he h3
  simp only [execOp, ho, ha.ev hx, Sem.run_bind, this, Result.andThen_ok, Sem.run_pure, hk, hv]
end
section
variable {P : Program} {n : Nat} {ds : List Deferred} {E : Env} {o : Oper} {x y : Operand}
theorem p_quo2 {t t' : TypeId} {i q : Int} (ho : o.op = .binOp .quo t x y t') (hx : ev n E x = some (.int .i64 i)) (hy : ev n E y = some (.int .i64 2)) (hi : i = 2 * q) (hq : -9223372036854775808 ≤ q ∧ q ≤ 9223372036854775807) :
    Pur P n ds E o (.int .i64 q) := p_bin (r := 0) ho hx hy fun w => by
  have h1 : i.tdiv 2 = q := by rw [hi]; exact Int.mul_tdiv_cancel_left _ (by omega)
  simp [binOp, Op.intDiv, h1, wrap_of (i := q) ⟨by omega, by omega⟩]
end
end Go.Fl

set_option linter.unusedVariables false
set_option linter.unusedSimpArgs false
set_option maxRecDepth 100000
namespace Go.Fl
open Go Go.Proofs
open Classical
def tl (a b c : Nat) : Value := .agg #[.int .i64 a, .int .i64 b, .int .i64 c]
/-- How many vertices below i bear the label x. -/
def cnV (f : Nat → Int) (i : Nat) (x : Int) : Nat := (List.range i).countP fun j => decide (f j = x)
/-- How many of the first i edges, of the first i faces. -/
def cnE (f : Nat → Int) (es : List Pr) (i : Nat) (x : Int) : Nat := (es.take i).countP fun e => decide (f e.1.toNat = x)
def headU (es : List Pr) (h : Int) : Nat := ((es[(h / 2).toNat]?).getD (0, 0)).1.toNat
def cnF (f : Nat → Int) (es : List Pr) (hs : List Int) (i : Nat) (x : Int) : Nat := (hs.take i).countP fun h => decide (f (headU es h) = x)
def Tal (m : List (Int × Value)) (a b c : Int → Nat) : Prop := (m.map (·.1)).Nodup ∧ ∀ x, lkM m x = if a x = 0 then none else some (tl (a x) (b x) (c x))
theorem cnV_succ (f : Nat → Int) (i : Nat) (x : Int) : cnV f (i + 1) x = cnV f i x + if f i = x then 1 else 0 := by
  unfold cnV
  rw [List.range_succ, List.countP_append]
  by_cases h : f i = x <;> simp [h]
theorem tal_get {m : List (Int × Value)} {a b c : Int → Nat} (h : Tal m a b c) (x : Int) (h0 : a x = 0 → b x = 0 ∧ c x = 0) : (lkM m x).getD (tl 0 0 0) = tl (a x) (b x) (c x) := by
  rw [h.2 x]
  split
  · rename_i e; rw [e, (h0 e).1, (h0 e).2]; rfl
  · rfl
theorem tal_put {m : List (Int × Value)} {a b c a' b' c' : Int → Nat} (h : Tal m a b c) (x : Int) (hx : a' x ≠ 0) (ho : ∀ y, y ≠ x → a' y = a y ∧ b' y = b y ∧ c' y = c y) : Tal (putM x (tl (a' x) (b' x) (c' x)) m) a' b' c' := by
  refine ⟨putM_nodup h.1, fun y => ?_⟩
  rw [lkM_put]
  by_cases hy : y = x
  · subst hy; rw [if_pos rfl, if_neg hx]
  · obtain ⟨h1, h2, h3⟩ := ho y hy
    rw [if_neg hy, h.2 y, h1, h2, h3]
theorem cnE_succ {f : Nat → Int} {es : List Pr} {i : Nat} {e : Pr} (he : es[i]? = some e) (x : Int) : cnE f es (i + 1) x = cnE f es i x + if f e.1.toNat = x then 1 else 0 := by
  unfold cnE
  rw [List.take_add_one, he, List.countP_append]
  by_cases h : f e.1.toNat = x <;> simp [h]
theorem cnV_pos {f : Nat → Int} {n j : Nat} (hj : j < n) : cnV f n (f j) ≠ 0 := by
  unfold cnV
  have : 0 < (List.range n).countP fun q => decide (f q = f j) := List.countP_pos_iff.2 ⟨j, List.mem_range.2 hj, by simp⟩
  omega
theorem cnV_le (f : Nat → Int) (i : Nat) (x : Int) : cnV f i x ≤ i := by
  unfold cnV; have := List.countP_le_length (p := fun j => decide (f j = x)) (l := List.range i); simpa using this
theorem cnE_le (f : Nat → Int) (es : List Pr) (i : Nat) (x : Int) : cnE f es i x ≤ es.length := by
  unfold cnE; have := List.countP_le_length (p := fun e : Pr => decide (f e.1.toNat = x)) (l := es.take i); simp at this; omega
theorem cnF_succ {f : Nat → Int} {es : List Pr} {hs : List Int} {i : Nat} {h : Int} (hh : hs[i]? = some h) (x : Int) : cnF f es hs (i + 1) x = cnF f es hs i x + if f (headU es h) = x then 1 else 0 := by
  unfold cnF
  rw [List.take_add_one, hh, List.countP_append]
  by_cases h : f (headU es h) = x <;> simp [h]
theorem cnF_le (f : Nat → Int) (es : List Pr) (hs : List Int) (i : Nat) (x : Int) : cnF f es hs i x ≤ hs.length := by
  unfold cnF; have := List.countP_le_length (p := fun h : Int => decide (f (headU es h) = x)) (l := hs.take i); simp at this; omega
/-! ### counting by labels -/
theorem count_one {α : Type} {p : α → Bool} : ∀ {l : List α} {a : α}, l.Nodup → a ∈ l → p a = true → (∀ b, b ∈ l → p b = true → b = a) → l.countP p = 1
  | [], a, _, h, _, _ => by cases h
  | x :: r, a, hn, ha, hp, hu => by
    rw [List.nodup_cons] at hn
    rw [List.countP_cons]
    by_cases hx : p x = true
    · have e := hu x (by simp) hx
      subst e
      have : r.countP p = 0 := by
        rw [List.countP_eq_zero]
        intro b hb hpb
        have := hu b (by simp [hb]) hpb
        subst this; exact hn.1 hb
      simp [hx, this]
    · have har : a ∈ r := by
        rcases List.mem_cons.1 ha with rfl | h
        · exact absurd hp hx
        · exact h
      rw [count_one hn.2 har hp fun b hb => hu b (by simp [hb])]
      simp [hx]
theorem count_none {α : Type} {p : α → Bool} {l : List α} (h : ∀ a, a ∈ l → ¬ p a = true) : l.countP p = 0 := List.countP_eq_zero.2 h
theorem sum_ones {ks : List Int} {g : Int → Nat} (h : ∀ x, x ∈ ks → g x = 1) : (ks.map g).sum = ks.length := by
  induction ks with
  | nil => rfl
  | cons x r ih => simp only [List.map_cons, List.sum_cons, List.length_cons]; rw [h x (by simp), ih fun y hy => h y (by simp [hy])]; omega
theorem sum_ind {y : Int} : ∀ {ks : List Int}, ks.Nodup → y ∈ ks → (ks.map fun x => if y = x then 1 else 0).sum = 1
  | [], _, h => by cases h
  | x :: r, hn, h => by
    rw [List.nodup_cons] at hn
    simp only [List.map_cons, List.sum_cons]
    by_cases e : y = x
    · subst e
      have : (r.map fun x => if y = x then 1 else 0).sum = 0 := by
        have : ∀ l : List Int, y ∉ l → (l.map fun x => if y = x then 1 else 0).sum = 0 := by
          intro l
          induction l with
          | nil => intro _; rfl
          | cons a l ih => intro hl; simp at hl; simp [hl.1, ih hl.2]
        exact this r hn.1
      rw [if_pos rfl, this]
    · rw [if_neg e, sum_ind hn.2 (by rcases List.mem_cons.1 h with h | h; exact absurd h e; exact h)]
theorem sum_add {ks : List Int} {g h : Int → Nat} : (ks.map fun x => g x + h x).sum = (ks.map g).sum + (ks.map h).sum := by
  induction ks with
  | nil => rfl
  | cons x r ih => simp only [List.map_cons, List.sum_cons, ih]; omega
theorem sum_zero {ks : List Int} : (ks.map fun _ => 0).sum = 0 := by
  induction ks with
  | nil => rfl
  | cons x r ih => simpa using ih
/-- Things counted by their labels. -/
theorem sum_count {α : Type} {ks : List Int} (hn : ks.Nodup) {g : α → Int} : ∀ {l : List α}, (∀ a, a ∈ l → g a ∈ ks) → (ks.map fun x => l.countP fun a => decide (g a = x)).sum = l.length
  | [], _ => sum_zero
  | a :: r, h => by
    have ih := sum_count hn (l := r) fun b hb => h b (by simp [hb])
    have e : (ks.map fun x => (a :: r).countP fun a => decide (g a = x)) = ks.map fun x => (r.countP fun a => decide (g a = x)) + if g a = x then 1 else 0 := by
      apply List.map_congr_left
      intro x _
      rw [List.countP_cons]
      by_cases h : g a = x <;> simp [h]
    rw [e, sum_add, ih, sum_ind hn (h a (by simp)), List.length_cons]
/-! ### parts -/
/-- How many parts a graph has: its vertices that are the least of theirs. -/
noncomputable def ncomp (n : Nat) (es : List Pr) : Nat := (List.range n).countP fun v => decide (∀ y, y < v → ¬ Conn es y v)
def isoN (n : Nat) (es : List Pr) : Nat := (List.range n).countP fun v => decide (cnt es v = 0)
theorem conn_edge {es : List Pr} {a b : Nat} (h : Conn es a b) : a = b ∨ ((∃ e, e ∈ es ∧ (e.1 = a ∨ e.2 = a)) ∧ ∃ e, e ∈ es ∧ (e.1 = b ∨ e.2 = b)) := by
  induction h with
  | refl a => exact .inl rfl
  | edge u v h => exact .inr ⟨⟨_, h, .inl rfl⟩, ⟨_, h, .inr rfl⟩⟩
  | symm _ ih =>
    rcases ih with rfl | ⟨h1, h2⟩
    · exact .inl rfl
    · exact .inr ⟨h2, h1⟩
  | trans _ _ ih1 ih2 =>
    rcases ih1 with rfl | ⟨h1, h2⟩
    · exact ih2
    · rcases ih2 with rfl | ⟨h3, h4⟩
      · exact .inr ⟨h1, h2⟩
      · exact .inr ⟨h1, h4⟩
theorem cnt_edge {N : Int} {es : List Pr} (hV : Vld N es) (v : Nat) : cnt es v ≠ 0 ↔ ∃ e, e ∈ es ∧ (e.1 = v ∨ e.2 = v) := by
  unfold cnt
  constructor
  · intro h
    obtain ⟨x, hx⟩ : ∃ x, x ∈ outs es v := by
      cases hl : outs es v with
      | nil => rw [hl] at h; simp at h
      | cons x r => exact ⟨x, by simp⟩
    obtain ⟨h0, h1, h2⟩ := (mem_outs hV).1 hx
    obtain ⟨i, e, he, hc⟩ := half_ends h0 h1
    refine ⟨e, List.mem_of_getElem? he, ?_⟩
    rcases hc with ⟨_, h3, _⟩ | ⟨_, h3, _⟩
    · left; omega
    · right; omega
  · rintro ⟨e, he, hc⟩
    obtain ⟨i, hi⟩ := List.mem_iff_getElem?.1 he
    have hm : ∃ h, h ∈ outs es v := by
      rcases hc with hc | hc
      · have := is_half_even hi (u := v) (v := e.2) hc rfl
        exact ⟨_, (mem_outs hV).2 ⟨this.lo, this.hi, this.fr⟩⟩
      · have := is_half_odd hi (u := v) (v := e.1) rfl hc
        exact ⟨_, (mem_outs hV).2 ⟨this.lo, this.hi, this.fr⟩⟩
    obtain ⟨h, hm⟩ := hm
    have := List.length_pos_of_mem hm
    omega
/-- Labels of the parts. -/
def Lab (n : Nat) (es : List Pr) (f : Nat → Int) : Prop := ∀ a b, a < n → b < n → (f a = f b ↔ Conn es a b)
theorem lab_of {n k : Nat} {es : List Pr} {q : Nat → Nat} {f : Nat → Int} (hP : Parts es (rt q)) (hL : Labels (rt q) n k f) : Lab n es f :=
  fun a b ha hb => (hL.2.1 a b ha hb).trans (hP a b)
section
variable {n : Nat} {es : List Pr} {f : Nat → Int}
theorem edge_nat (hV : Vld n es) {e : Pr} (he : e ∈ es) : ∃ u v : Nat, e = ((u : Int), (v : Int)) ∧ u < v ∧ v < n := by
  obtain ⟨i, hi⟩ := List.mem_iff_getElem?.1 he
  have ho := hV.ok i e hi
  have h1 := ho.lo
  have h2 := ho.lt
  have h3 := ho.hi
  exact ⟨e.1.toNat, e.2.toNat, Prod.ext (by simp; omega) (by simp; omega), by omega, by omega⟩
theorem cnE_zero {x : Int} (h : cnE f es es.length x = 0) {e : Pr} (he : e ∈ es) : f e.1.toNat ≠ x := by
  unfold cnE at h
  rw [List.take_length, List.countP_eq_zero] at h
  simpa using h e he
theorem cnE_pos {x : Int} (h : cnE f es es.length x ≠ 0) : ∃ e, e ∈ es ∧ f e.1.toNat = x := by
  unfold cnE at h
  rw [List.take_length] at h
  obtain ⟨e, he, hp⟩ := List.countP_pos_iff.1 (Nat.pos_of_ne_zero h)
  exact ⟨e, he, by simpa using hp⟩
theorem cnV_ex {x : Int} (h : cnV f n x ≠ 0) : ∃ j, j < n ∧ f j = x := by
  unfold cnV at h
  obtain ⟨j, hj, hp⟩ := List.countP_pos_iff.1 (Nat.pos_of_ne_zero h)
  exact ⟨j, List.mem_range.1 hj, by simpa using hp⟩
/-- A vertex with a part's label, of a part without edges, has none; and is alone. -/
theorem alone (hV : Vld n es) (hf : Lab n es f) {x : Int} (h0 : cnE f es es.length x = 0) {j : Nat} (hj : j < n) (hx : f j = x) : cnt es j = 0 ∧ ∀ i, i < n → f i = x → i = j := by
  have hno : ∀ i, i < n → f i = x → ¬ ∃ e, e ∈ es ∧ (e.1 = i ∨ e.2 = i) := by
    rintro i hi hfi ⟨e, he, hc⟩
    obtain ⟨u, v, rfl, huv, hvn⟩ := edge_nat hV he
    have h1 := cnE_zero h0 he
    simp only [Int.toNat_natCast] at h1
    rcases hc with hc | hc
    · have : u = i := by simp at hc; omega
      subst this; exact h1 hfi
    · have : v = i := by simp at hc; omega
      subst this
      exact h1 (((hf u v (by omega) hi).2 (.edge u v he)).trans hfi)
  refine ⟨?_, fun i hi hfi => ?_⟩
  · apply Classical.byContradiction
    intro hc
    exact hno j hj hx ((cnt_edge hV j).1 hc)
  · rcases conn_edge ((hf i j hi hj).1 (hfi.trans hx.symm)) with e | ⟨⟨e, he, hc⟩, _⟩
    · exact e
    · exact absurd ⟨e, he, hc⟩ (hno i hi hfi)
/-- With edges, all its vertices have some. -/
theorem busy (hV : Vld n es) (hf : Lab n es f) {x : Int} (h0 : cnE f es es.length x ≠ 0) {j : Nat} (hj : j < n) (hx : f j = x) : cnt es j ≠ 0 := by
  obtain ⟨e, he, hfe⟩ := cnE_pos h0
  obtain ⟨u, v, rfl, huv, hvn⟩ := edge_nat hV he
  simp only [Int.toNat_natCast] at hfe
  rw [cnt_edge hV]
  rcases conn_edge ((hf j u hj (by omega)).1 (hx.trans hfe.symm)) with e | ⟨h1, _⟩
  · subst e; exact ⟨_, he, .inl rfl⟩
  · exact h1
theorem part_iso (hV : Vld n es) (hf : Lab n es f) {x : Int} (hx : cnV f n x ≠ 0) :
    (cnE f es es.length x = 0 → cnV f n x = 1 ∧ ((List.range n).filter fun v => decide (cnt es v = 0)).countP (fun v => decide (f v = x)) = 1) ∧
    (cnE f es es.length x ≠ 0 → ((List.range n).filter fun v => decide (cnt es v = 0)).countP (fun v => decide (f v = x)) = 0) := by
  constructor
  · intro h0
    obtain ⟨j, hj, hfj⟩ := cnV_ex hx
    obtain ⟨h1, h2⟩ := alone hV hf h0 hj hfj
    refine ⟨?_, ?_⟩
    · unfold cnV
      exact count_one List.nodup_range (List.mem_range.2 hj) (by simpa using hfj) fun b hb hp => h2 b (List.mem_range.1 hb) (by simpa using hp)
    · refine count_one (List.Nodup.sublist List.filter_sublist List.nodup_range) (List.mem_filter.2 ⟨List.mem_range.2 hj, by simpa using h1⟩) (by simpa using hfj) fun b hb hp => ?_
      exact h2 b (List.mem_range.1 (List.mem_filter.1 hb).1) (by simpa using hp)
  · intro h0
    refine count_none fun v hv hp => ?_
    obtain ⟨h1, h2⟩ := List.mem_filter.1 hv
    exact busy hV hf h0 (List.mem_range.1 h1) (by simpa using hp) (by simpa using h2)
theorem part_least (hf : Lab n es f) {x : Int} (hx : cnV f n x ≠ 0) : ((List.range n).filter fun v => decide (∀ y, y < v → ¬ Conn es y v)).countP (fun v => decide (f v = x)) = 1 := by
  -- the least vertex of the part
  have hl : ∃ j, j < n ∧ f j = x ∧ ∀ i, i < n → f i = x → j ≤ i := by
    obtain ⟨j, hj, hfj⟩ := cnV_ex hx
    induction j using Nat.strongRecOn with
    | _ j ih =>
      by_cases hc : ∃ i, i < j ∧ f i = x
      · obtain ⟨i, hi, hfi⟩ := hc
        exact ih i hi (by omega) hfi
      · exact ⟨j, hj, hfj, fun i hi hfi => by
          apply Classical.byContradiction
          intro hlt
          exact hc ⟨i, by omega, hfi⟩⟩
  obtain ⟨j, hj, hfj, hmin⟩ := hl
  refine count_one (List.Nodup.sublist List.filter_sublist List.nodup_range) (List.mem_filter.2 ⟨List.mem_range.2 hj, ?_⟩) (by simpa using hfj) fun b hb hp => ?_
  · simp only [decide_eq_true_eq]
    intro y hy hc
    have := hmin y (by omega) (((hf y j (by omega) hj).2 hc).trans hfj)
    omega
  · obtain ⟨h1, h2⟩ := List.mem_filter.1 hb
    have h1 := List.mem_range.1 h1
    simp only [decide_eq_true_eq] at h2 hp
    have h3 := hmin b h1 hp
    rcases Nat.lt_or_eq_of_le h3 with h4 | h4
    · exact absurd ((hf j b hj h1).1 (hfj.trans hp.symm)) (h2 j h4)
    · exact h4.symm
end
/-! ### the sum -/
def gval (a b c : Nat) : Int := if b ≠ 0 then 2 - a + b - c else 0
def gsum (a b c : Int → Nat) (ks : List Int) : Int := (ks.map fun x => gval (a x) (b x) (c x)).sum
theorem gsum_total {n : Nat} {es : List Pr} {f : Nat → Int} {hs : List Int} {ks : List Int} (hV : Vld n es) (hf : Lab n es f) (hn : ks.Nodup) (hk : ∀ x, x ∈ ks ↔ cnV f n x ≠ 0)
    (hh : ∀ h, h ∈ hs → headU es h < n ∧ cnE f es es.length (f (headU es h)) ≠ 0) :
    gsum (cnV f n) (cnE f es es.length) (cnF f es hs hs.length) ks = 2 * (ncomp n es : Int) - isoN n es - n + es.length - hs.length := by
  have hin : ∀ j, j < n → f j ∈ ks := fun j hj => (hk _).2 (cnV_pos hj)
  have s1 : (ks.map (cnV f n)).sum = n := by
    have := sum_count hn (g := f) (l := List.range n) fun a ha => hin a (List.mem_range.1 ha)
    rw [List.length_range] at this
    exact this
  have s2 : (ks.map (cnE f es es.length)).sum = es.length := by
    have := sum_count hn (g := fun e : Pr => f e.1.toNat) (l := es) fun e he => by
      obtain ⟨u, v, rfl, huv, hvn⟩ := edge_nat hV he
      exact hin _ (by simp; omega)
    unfold cnE
    simpa using this
  have s3 : (ks.map (cnF f es hs hs.length)).sum = hs.length := by
    have := sum_count hn (g := fun h : Int => f (headU es h)) (l := hs) fun h hm => hin _ (hh h hm).1
    unfold cnF
    simpa using this
  have s4 : (ks.map fun x => ((List.range n).filter fun v => decide (cnt es v = 0)).countP fun v => decide (f v = x)).sum = isoN n es := by
    rw [sum_count hn (g := f) fun a ha => hin a (List.mem_range.1 (List.mem_filter.1 ha).1)]
    unfold isoN
    rw [List.countP_eq_length_filter]
  have s5 : ks.length = ncomp n es := by
    have h1 := sum_count hn (g := f) (l := (List.range n).filter fun v => decide (∀ y, y < v → ¬ Conn es y v)) fun a ha => hin a (List.mem_range.1 (List.mem_filter.1 ha).1)
    rw [sum_ones fun x hx => part_least hf ((hk x).1 hx)] at h1
    rw [h1]
    unfold ncomp
    rw [List.countP_eq_length_filter]
  have key : ∀ l : List Int, (∀ x, x ∈ l → cnV f n x ≠ 0) → gsum (cnV f n) (cnE f es es.length) (cnF f es hs hs.length) l =
      2 * (l.length : Int) - ((l.map fun x => ((List.range n).filter fun v => decide (cnt es v = 0)).countP fun v => decide (f v = x)).sum : Nat) - ((l.map (cnV f n)).sum : Nat) + ((l.map (cnE f es es.length)).sum : Nat) - ((l.map (cnF f es hs hs.length)).sum : Nat) := by
    intro l
    induction l with
    | nil => intro _; rfl
    | cons x r ih =>
      intro hx
      have h1 := ih fun y hy => hx y (by simp [hy])
      obtain ⟨p1, p2⟩ := part_iso hV hf (hx x (by simp))
      unfold gsum at h1 ⊢
      simp only [List.map_cons, List.sum_cons, List.length_cons]
      rw [h1]
      unfold gval
      by_cases h0 : cnE f es es.length x = 0
      · obtain ⟨q1, q2⟩ := p1 h0
        have q3 : cnF f es hs hs.length x = 0 := by
          unfold cnF
          rw [List.take_length]
          refine count_none fun h hm hp => ?_
          have := (hh h hm).2
          rw [show f (headU es h) = x by simpa using hp] at this
          exact this h0
        rw [q1, q2, q3, h0, if_neg (by simp)]
        omega
      · rw [p2 h0, if_pos h0]
        omega
  rw [key ks fun x hx => (hk x).1 hx, s1, s2, s3, s4, s5]
end Go.Fl

set_option linter.unusedVariables false
set_option linter.unusedSimpArgs false
set_option maxRecDepth 100000
namespace Go.Fl
open Go Go.Proofs
open Classical
/-- The heads of the faces. -/
noncomputable def headsOf (n : Nat) (fn : Nat → Int) : List Int := ((List.range n).filter fun x => decide (Lead (phi fn) x)).map fun (x : Nat) => (x : Int)
def nxS (fn : Nat → Int) (h : Nat) : Nat := (fn h).toNat
section
variable {n : Nat} {es : List Pr} {rs : List (List Int)} {fn : Nat → Int}
theorem row_next (hok : RotL n es rs) (hnx : NxOk rs rs.length fn) {v : Nat} {l : List Int} {i h : Nat} (hl : rs[v]? = some l) (hi : l[i]? = some (h : Int)) :
    l[(i + 1) % l.length]? = some (fn h) ∧ 0 ≤ fn h ∧ fn h < es.length * 2 ∧ fromV es (fn h) = v := by
  have h1 := hnx v l i h (List.getElem?_eq_some_iff.1 hl).1 hl hi
  rw [Int.toNat_natCast] at h1
  obtain ⟨h2, h3, h4⟩ := (hok.2.2 v l hl).1 _ (List.mem_of_getElem? h1)
  exact ⟨h1, h2, h3, h4⟩
theorem row_itr (hok : RotL n es rs) (hnx : NxOk rs rs.length fn) {v : Nat} {l : List Int} {i h : Nat} (hl : rs[v]? = some l) (hi : l[i]? = some (h : Int)) :
    ∀ k, l[(i + k) % l.length]? = some ((itr (nxS fn) k h : Nat) : Int)
  | 0 => by rw [Nat.add_zero, Nat.mod_eq_of_lt (List.getElem?_eq_some_iff.1 hi).1]; exact hi
  | k + 1 => by
    have ih := row_itr hok hnx hl hi k
    obtain ⟨h1, h2, _⟩ := row_next hok hnx hl ih
    rw [Nat.mod_add_mod] at h1
    rw [show i + (k + 1) = i + k + 1 by omega, h1]
    show some _ = some (((fn (itr (nxS fn) k h)).toNat : Nat) : Int)
    congr 1; omega
theorem twn_twn (h : Nat) : twn (twn h) = h := by unfold twn; split <;> split <;> omega
theorem nxS_perm (hok : RotL n es rs) (hnx : NxOk rs rs.length fn) : Perm (es.length * 2) (nxS fn) := by
  obtain ⟨hp, h0⟩ := nx_perm hok hnx
  have e : ∀ h, nxS fn h = phi fn (twn h) := fun h => by unfold phi nxS; rw [twn_twn]
  have ht : ∀ h, h < es.length * 2 → twn h < es.length * 2 := fun h hh => by unfold twn; split <;> omega
  refine ⟨fun i hi => by rw [e]; exact hp.lt _ (ht i hi), fun i j hi hj he => ?_⟩
  rw [e, e] at he
  have := hp.inj _ _ (ht i hi) (ht j hj) he
  rw [← twn_twn i, this, twn_twn]
theorem row_ex (hok : RotL n es rs) {h v : Nat} {l : List Int} (hh : h < es.length * 2) (hv : fromV es h = v) (hl : rs[v]? = some l) : ∃ i : Nat, l[i]? = some (h : Int) := by
  obtain ⟨v', l', i, hl', hi, hv'⟩ := row_of hok hh
  have : v' = v := by omega
  subst this
  rw [hl] at hl'; cases hl'
  exact ⟨i, hi⟩
theorem lead_uniq (hok : RotL n es rs) (hnx : NxOk rs rs.length fn) {v : Nat} {l : List Int} (hl : rs[v]? = some l) {h k : Nat} (hh : h < es.length * 2) (hk : k < es.length * 2) (h1 : fromV es h = v) (h2 : fromV es k = v)
    (hL : Lead (nxS fn) h) : h ≤ k := by
  obtain ⟨i, hi⟩ := row_ex hok hh h1 hl
  obtain ⟨j, hj⟩ := row_ex hok hk h2 hl
  have hil := (List.getElem?_eq_some_iff.1 hi).1
  have hjl := (List.getElem?_eq_some_iff.1 hj).1
  have h3 := row_itr hok hnx hl hi (j + l.length - i)
  rw [show i + (j + l.length - i) = j + l.length by omega, Nat.add_mod_right, Nat.mod_eq_of_lt hjl, hj] at h3
  have h4 := hL (j + l.length - i)
  have h5 := Option.some.inj h3
  omega
theorem lead_ex (hok : RotL n es rs) (hnx : NxOk rs rs.length fn) {v : Nat} {l : List Int} (hl : rs[v]? = some l) (hne : l ≠ []) : ∃ h : Nat, h < es.length * 2 ∧ fromV es h = v ∧ Lead (nxS fn) h := by
  have hrow := (hok.2.2 v l hl).1
  have hm : ∃ h : Nat, (h : Int) ∈ l ∧ ∀ y, y ∈ l → (h : Int) ≤ y := by
    obtain ⟨x, hx⟩ : ∃ x, x ∈ l := List.exists_mem_of_ne_nil _ hne
    obtain ⟨k, hk⟩ := Int.eq_ofNat_of_zero_le (hrow x hx).1
    subst hk
    induction k using Nat.strongRecOn with
    | _ k ih =>
      by_cases hc : ∃ y, y ∈ l ∧ y < k
      · obtain ⟨y, hy, hlt⟩ := hc
        obtain ⟨q, rfl⟩ := Int.eq_ofNat_of_zero_le (hrow y hy).1
        exact ih q (by omega) hy
      · exact ⟨k, hx, fun y hy => by
          apply Classical.byContradiction
          intro h
          exact hc ⟨y, hy, by omega⟩⟩
  obtain ⟨h, hh, hmin⟩ := hm
  obtain ⟨h0, h1, h2⟩ := hrow _ hh
  refine ⟨h, by omega, h2, fun k => ?_⟩
  obtain ⟨i, hi⟩ := List.mem_iff_getElem?.1 hh
  have := hmin _ (List.mem_of_getElem? (row_itr hok hnx hl hi k))
  omega
theorem from_nat (hV : Vld n es) {h : Nat} (hh : h < es.length * 2) : ∃ v : Nat, fromV es h = v ∧ v < n := by
  obtain ⟨i, e, he, hc⟩ := half_ends (es := es) (h := (h : Int)) (by omega) (by omega)
  have ho := hV.ok i e he
  have h1 := ho.lo
  have h2 := ho.lt
  have h3 := ho.hi
  rcases hc with ⟨_, h4, _⟩ | ⟨_, h4, _⟩
  · exact ⟨e.1.toNat, by omega, by omega⟩
  · exact ⟨e.2.toNat, by omega, by omega⟩
/-- The labels of both ends of an edge. -/
theorem lab_half {f : Nat → Int} (hV : Vld n es) (hf : Lab n es f) {h : Nat} {i : Nat} {e : Pr} (he : es[i]? = some e) (hh : h / 2 = i) : f (fromV es h).toNat = f e.1.toNat := by
  have hl := (List.getElem?_eq_some_iff.1 he).1
  obtain ⟨i', e', he', hc⟩ := half_ends (es := es) (h := (h : Int)) (by omega) (by omega)
  have : i' = i := by rcases hc with ⟨h1, _⟩ | ⟨h1, _⟩ <;> omega
  subst this
  rw [he] at he'; cases he'
  obtain ⟨u, v, rfl, huv, hvn⟩ := edge_nat hV (List.mem_of_getElem? he)
  rcases hc with ⟨_, h4, _⟩ | ⟨_, h4, _⟩
  · rw [h4]
  · rw [h4]
    simp only [Int.toNat_natCast]
    exact (hf v u hvn (by omega)).2 (.symm (.edge u v (List.mem_of_getElem? he)))
theorem countP_range {α : Type} {p : α → Bool} {q : Nat → Bool} : ∀ {l : List α} {k : Nat}, (∀ i e, l[i]? = some e → q (k + i) = p e) → l.countP p = (List.range' k l.length).countP q
  | [], k, _ => rfl
  | a :: r, k, h => by
    rw [List.length_cons, List.range'_succ, List.countP_cons, List.countP_cons, countP_range (l := r) (k := k + 1) (q := q) fun i e he => by
      rw [show k + 1 + i = k + (i + 1) by omega]; exact h (i + 1) e (by simpa using he)]
    have := h 0 a rfl
    rw [Nat.add_zero] at this
    rw [← this]
theorem headU_eq {h : Nat} {e : Pr} (he : es[h / 2]? = some e) : headU es (h : Int) = e.1.toNat := by
  unfold headU
  rw [show ((h : Int) / 2).toNat = h / 2 by omega, he]; rfl
theorem part_even {f : Nat → Int} (hok : RotL n es rs) (hnx : NxOk rs rs.length fn) (hf : Lab n es f) {x : Int} (h0 : cnE f es es.length x ≠ 0) :
    (cnV f n x + cnE f es es.length x + cnF f es (headsOf (es.length * 2) fn) (headsOf (es.length * 2) fn).length x) % 2 = 0 := by
  have hV := hok.1
  have hs := nxS_perm hok hnx
  obtain ⟨c, hc⟩ : ∃ c : Nat → Bool, c = fun (i : Nat) => decide (f (fromV es (i : Int)).toNat = x) := ⟨_, rfl⟩
  have hm2 : es.length * 2 = 2 * es.length := by omega
  have h1 : ∀ i, i < 2 * es.length → c (nxS fn i) = c i := by
    intro i hi
    obtain ⟨v, l, j, hl, hj, hv⟩ := row_of hok (h := i) (by omega)
    obtain ⟨_, g1, g2, g3⟩ := row_next hok hnx hl hj
    have : ((nxS fn i : Nat) : Int) = fn i := by unfold nxS; omega
    rw [hc]; simp only [this, g3, hv]
  have h2 : ∀ i, i < 2 * es.length → c (twn i) = c i := by
    intro i hi
    obtain ⟨e, he⟩ : ∃ e, es[i / 2]? = some e := ⟨_, List.getElem?_eq_getElem (by omega)⟩
    rw [hc]
    simp only
    rw [lab_half hV hf he rfl, lab_half hV hf (h := twn i) he (by unfold twn; split <;> omega)]
  rw [hm2] at hs
  have hpar := face_parity hs h1 h2
  have e1 : (List.range (2 * es.length)).countP (fun i => c i && decide (Lead (fun h => nxS fn (twn h)) i)) = cnF f es (headsOf (es.length * 2) fn) (headsOf (es.length * 2) fn).length x := by
    unfold cnF headsOf
    rw [List.take_length, List.countP_map, List.countP_filter, hm2]
    apply List.countP_congr
    intro i hi
    have hi := List.mem_range.1 hi
    obtain ⟨e, he⟩ : ∃ e, es[i / 2]? = some e := ⟨_, List.getElem?_eq_getElem (by omega)⟩
    have e2 : (fun h => nxS fn (twn h)) = phi fn := rfl
    simp only [Function.comp_def]
    rw [e2, hc]
    simp only
    rw [lab_half hV hf he rfl, headU_eq he]
  have e2 : (List.range es.length).countP (fun e => c (2 * e)) = cnE f es es.length x := by
    unfold cnE
    rw [List.take_length, List.range_eq_range']
    refine (countP_range (k := 0) (q := fun e => c (2 * e)) ?_).symm
    intro i e he
    rw [hc]
    simp only [Nat.zero_add]
    rw [lab_half hV hf (h := 2 * i) he (by omega)]
  have e3 : (List.range (2 * es.length)).countP (fun i => c i && decide (Lead (nxS fn) i)) = cnV f n x := by
    have hk : (((List.range n).filter fun v => decide (f v = x)).map fun (v : Nat) => (v : Int)).Nodup := by
      unfold List.Nodup
      rw [List.pairwise_map]
      exact (List.Nodup.sublist List.filter_sublist List.nodup_range).imp fun h => by omega
    have hsum := sum_count hk (g := fun h : Nat => fromV es h) (l := (List.range (2 * es.length)).filter fun i => c i && decide (Lead (nxS fn) i)) fun h hh => by
      obtain ⟨g1, g2⟩ := List.mem_filter.1 hh
      have g1 := List.mem_range.1 g1
      obtain ⟨v, hv, hvn⟩ := from_nat hV (h := h) (by omega)
      rw [hc] at g2
      simp only [Bool.and_eq_true, decide_eq_true_eq, hv, Int.toNat_natCast] at g2
      exact List.mem_map.2 ⟨v, List.mem_filter.2 ⟨List.mem_range.2 hvn, by simpa using g2.1⟩, hv.symm⟩
    rw [sum_ones] at hsum
    · rw [List.countP_eq_length_filter, ← hsum, List.length_map, ← List.countP_eq_length_filter]; rfl
    · intro y hy
      obtain ⟨v, hv, rfl⟩ := List.mem_map.1 hy
      obtain ⟨hv1, hv2⟩ := List.mem_filter.1 hv
      have hv1 := List.mem_range.1 hv1
      have hv2 : f v = x := by simpa using hv2
      have hlen := hok.2.1
      obtain ⟨l, hl⟩ : ∃ l, rs[v]? = some l := ⟨_, List.getElem?_eq_getElem (by omega)⟩
      have hne : l ≠ [] := by
        intro e
        have h3 := (hok.2.2 v l hl).2.2
        rw [e] at h3
        exact busy hV hf h0 hv1 hv2 (by simpa using h3.symm)
      obtain ⟨h, g1, g2, g3⟩ := lead_ex hok hnx hl hne
      refine count_one (List.Nodup.sublist List.filter_sublist List.nodup_range) (a := h) (List.mem_filter.2 ⟨List.mem_range.2 (by omega), ?_⟩) (by simpa using g2) fun b hb hp => ?_
      · rw [hc]; simp [g2, hv2, g3]
      · obtain ⟨b1, b2⟩ := List.mem_filter.1 hb
        have b1 := List.mem_range.1 b1
        simp only [Bool.and_eq_true, decide_eq_true_eq] at b2 hp
        have q1 := lead_uniq hok hnx hl g1 (by omega) g2 hp g3
        have q2 := lead_uniq hok hnx hl (h := b) (k := h) (by omega) g1 hp g2 b2.2
        omega
  rw [e1, e2, e3] at hpar
  omega
end
end Go.Fl

set_option linter.unusedVariables false
set_option linter.unusedSimpArgs false
set_option maxRecDepth 100000
namespace Go.Fl
open Go Go.Proofs
open Classical
structure GeI where
  i : Nat
  m : List (Int × Value)
def ints0 (i k : Nat) : List Int := (List.range k).map fun (x : Nat) => (x : Int)
structure GeK where
  left : List (Int × Value)
  last : Option (Int × Value)
  S : Int
/-- How many faces. -/
noncomputable def facesN (es : List Pr) (fn : Nat → Int) : Nat := (headsOf (es.length * 2) fn).length
/-- Twice the sum of the genera of the parts. -/
noncomputable def genus2 (n : Nat) (es : List Pr) (fn : Nat → Int) : Int := 2 * (ncomp n es : Int) - isoN n es - n + es.length - facesN es fn
theorem gsum_erase {a b c : Int → Nat} : ∀ {ks : List Int} {j : Nat} {x : Int}, ks[j]? = some x → gsum a b c ks = gval (a x) (b x) (c x) + gsum a b c (ks.eraseIdx j)
  | [], j, x, h => by simp at h
  | y :: r, 0, x, h => by simp at h; subst h; rfl
  | y :: r, j + 1, x, h => by
    have := gsum_erase (a := a) (b := b) (c := c) (ks := r) (j := j) (x := x) (by simpa using h)
    unfold gsum at this ⊢
    rw [List.eraseIdx_cons_succ]
    simp only [List.map_cons, List.sum_cons]
    omega
theorem Genus_calls {n : Nat} {es : List Pr} {rs : List (List Int)} {va v : Value} {w : World} (hg : PrV w va es) (hl : LsV w v rs) (hok : RotL n es rs) :
    Calls Tryz.prog 121 #[.agg #[.int .i64 n, va], v] w (Ret w [] fun r M => M = [] ∧ ∃ fn S, NxOk rs rs.length fn ∧ r = .tuple #[.int .i64 S, .int .i64 0] ∧ 2 * S = genus2 n es fn) := by
  obtain ⟨A, cap, ev, hr, hlc, hcm, hle⟩ := id hg
  subst ev
  have hV := hok.1
  have hfew := hV.few
  have hN1 : n ≤ 1048576 := by have := hV.hi; omega
  refine calls_of (args := [_, _]) (L := []) Tryz.func121 rfl Tryz.ntmps121 rfl (Own.start _ _) ?_
  refine Zs ?_
  refine Seq.new rfl rfl (n_box (cs := #[.int .i64 n, .slice A es.length cap]) rfl rfl rfl) fun g2 => ?_
  refine Za ?_
  refine Za ?_
  refine Zx ?_
  refine Zs ?_
  refine Seq.val rfl rfl (v_loads (vs := [_, _]) rfl rfl ag24 sz24 rfl (hass_blk rfl)) ?_
  refine Zm ?_
  refine Seq.rel rfl rfl (r_call en152 rfl rfl rfl (fun w' hw => FOf_calls (hg.keep0 hw) (hl.keep0 hw) (fun f h1 h2 => nx_perm h1 h2))) ?_
  intro v28 L28 hC28
  obtain ⟨_, vf, fs, fn, rfl, hnx, hD, rfl⟩ := hC28.resolve_right (fun h => h.1 hok)
  refine Seq.own (M := slc vf 44 1 (rowsV fs) :: blk g2 24 #[.int .i64 n, .slice A es.length cap] :: rowsC 3 fs) (fun w hw => hw.perm (List.Perm.cons _ (List.perm_append_comm (l₁ := [_]) (l₂ := rowsC 3 fs)))) ?_
  refine Zm ?_
  refine Ze ?_
  refine Ze ?_
  refine Za ?_
  refine Za ?_
  refine Zx ?_
  refine DC.seq ?_
  refine Zs ?_
  refine Zm ?_
  refine Seq.pur rfl rfl (p_neq rfl rfl rfl) ?_
  refine Zx ?_
  refine DC.cond rfl (fun c2 => ?_) (fun c2 => ?_)
  · refine Zs ?_
    refine Zm ?_
    refine Za ?_
    refine Za ?_
    refine Zx ?_
    refine DC.ret ?_
    refine Fin.ret_then <| ?_
    refine Fin.weak (E' := [(4, _), (5, _)]) ⟨rfl, rfl, trivial⟩ .nil ?_
    refine Fin.end2 (.inl rfl) rfl rfl rfl ?_
    simp at c2
  · refine DC.skip ?_
    refine Fin.then ?_
    refine Zs ?_
    refine Seq.val rfl rfl (v_loads (vs := [_, _]) rfl rfl ag24 sz24 rfl (hass_blk rfl)) ?_
    refine Seq.rel rfl rfl (r_call en153 rfl rfl rfl (fun w' hw => Of_calls (hg.keep0 hw) hV)) ?_
    rintro _ _ ⟨gl, k, f, q, rfl, hq, hPa, hLa, rfl⟩
    simp only [List.cons_append, List.nil_append]
    refine Zm ?_
    refine Ze ?_
    refine Ze ?_
    refine Ze ?_
    refine Za ?_
    refine Za ?_
    refine Za ?_
    refine Zx ?_
    refine Zs ?_
    refine Seq.rel rfl rfl (r_makeMap (enc := encI) rfl) ?_
    rintro _ _ ⟨gm, rfl, rfl⟩
    simp only [List.cons_append, List.nil_append]
    refine Za ?_
    refine Zx ?_
    refine DC.seq ?_
    refine Zs ?_
    refine Zm ?_
    refine Zn Tryz.underlying44 ?_
    refine Zm ?_
    refine Zx ?_
    refine DC.block ?_
    refine DC.loop (ι := GeI) (fun j => j.i ≤ n ∧ Tal j.m (cnV f j.i) (fun _ => 0) (fun _ => 0))
      (fun j => [(2, .pointer (some ⟨g2, 0, none⟩)), (6, vf), (8, .slice (some ⟨gl, 0, none⟩) n n), (11, .map (some gm)), (41, .slice (some ⟨gl, 0, none⟩) n n), (42, .int .i64 n), (43, .int .i64 j.i)])
      (fun j => mpc encI gm j.m :: blk gl 3 (ints (tab n f)).toArray :: slc vf 44 1 (rowsV fs) :: blk g2 24 #[.int .i64 n, .slice A es.length cap] :: rowsC 3 fs) (fun j => n - j.i) ⟨0, []⟩
      ⟨Nat.zero_le _, by simp, fun x => by simp [cnV]⟩ ⟨rfl, rfl, rfl, rfl, rfl, rfl, rfl, trivial⟩ (.cons 0 rfl (.cons 0 rfl (Pick.all _))) ?_
    rintro ⟨i, m⟩ ⟨hi, hm⟩
    dsimp only at hi hm ⊢
    refine Zs ?_
    refine Zc ?_
    refine Zx ?_
    refine DC.seq ?_
    refine DC.cond rfl (fun c7 => ?_) (fun c7 => ?_)
    · have hlt : i < n := by simpa using c7
      have hb1 := cnV_le f i (f i)
      refine DC.skip ?_
      refine Fin.then ?_
      refine DC.seq ?_
      refine DC.block ?_
      refine Zs ?_
      refine Zi Tryz.underlying44 sz3 ?_
      refine Seq.val rfl rfl (v_load rfl rfl ag3 (has_row (row_getT hlt))) ?_
      refine Za ?_
      refine Zx ?_
      refine Zs ?_
      refine Zm ?_
      refine Zm ?_
      refine Seq.val rfl rfl (v_lookup (v := tl (cnV f i (f i)) 0 0) (k := f i) 0 rfl keyInt rfl rfl rfl Tryz.underlying228 ze230 (tal_get hm (f i) (fun _ => ⟨rfl, rfl⟩))) ?_
      refine Seq.new rfl rfl (n_alloc rfl ze230 rfl) fun g14 => ?_
      refine Seq.sto rfl rfl (s_stores (cs' := #[.int .i64 (cnV f i (f i)), .int .i64 0, .int .i64 0]) rfl rfl rfl sz230 rfl (Nat.le_of_ble_eq_true rfl) rfl) ?_
      refine Zx ?_
      refine Zs ?_
      refine Zf fi230_0 ?_
      refine Zl ag3 ?_
      refine Zp ?_
      refine Zf fi230_0 ?_
      refine Seq.sto rfl rfl (s_store (cs' := #[_, _, _]) rfl rfl rfl sz3 rfl (Nat.le_of_ble_eq_true rfl) rfl) ?_
      refine Zx ?_
      refine DC.region ?_
      refine Zm ?_
      refine Zm ?_
      refine Seq.val rfl rfl (v_loads (vs := [_, _, _]) rfl rfl ag230 sz230 rfl (hass_blk (vs := [.int .i64 ((cnV f i (f i) : Nat) + 1), .int .i64 0, .int .i64 0]) rfl)) ?_
      refine Seq.sto rfl rfl (s_mapUpdate (k := f i) 1 rfl keyInt rfl rfl rfl rfl Tryz.underlying228 rfl) ?_
      simp only [List.set_cons_zero, List.set_cons_succ]
      refine Seq.nil ?_
      refine Fin.inBlock ?_
      refine Fin.then ?_
      refine DC.region ?_
      refine Zp ?_
      refine Zm ?_
      refine Seq.nil ?_
      refine Fin.own (fun w hw => hw.sub (List.sublist_cons_self ..)) ?_
      refine Fin.again ⟨i + 1, putM (f i) (tl (cnV f (i + 1) (f i)) 0 0) m⟩ (by dsimp only; omega) ⟨by dsimp only; omega, ?_⟩ ⟨rfl, rfl, rfl, rfl, rfl, rfl, rfl, trivial⟩ (.cons' 0 rfl (by dsimp only; rw [cnV_succ, if_pos rfl]; rfl) (Pick.all _))
      refine tal_put (a' := cnV f (i + 1)) (b' := fun _ => 0) (c' := fun _ => 0) hm (f i) (by rw [cnV_succ, if_pos rfl]; omega) fun y hy => ⟨?_, rfl, rfl⟩
      rw [cnV_succ, if_neg (Ne.symm hy)]; rfl
    · refine DC.exit ?_
      refine Fin.exit_then <| Fin.exit_then <| Fin.exit_here <| ?_
      refine Fin.then ?_
      refine DC.seq ?_
      refine Zs ?_
      refine Zf fi24_1 ?_
      refine Zl ag22 ?_
      refine Zn Tryz.underlying22 ?_
      refine Zm ?_
      refine Zx ?_
      refine DC.block ?_
      have hin : i = n := by simp at c7; omega
      subst hin
      refine DC.loop (ι := GeI) (fun j => j.i ≤ es.length ∧ Tal j.m (cnV f i) (cnE f es j.i) (fun _ => 0))
        (fun j => [(2, .pointer (some ⟨g2, 0, none⟩)), (6, vf), (8, .slice (some ⟨gl, 0, none⟩) i i), (11, .map (some gm)), (59, .slice A es.length cap), (60, .int .i64 es.length), (61, .int .i64 j.i)])
        (fun j => mpc encI gm j.m :: blk gl 3 (ints (tab i f)).toArray :: slc vf 44 1 (rowsV fs) :: blk g2 24 #[.int .i64 i, .slice A es.length cap] :: rowsC 3 fs) (fun j => es.length - j.i) ⟨0, m⟩
        ⟨Nat.zero_le _, hm.1, fun x => by rw [hm.2 x]; simp [cnE]⟩ ⟨rfl, rfl, rfl, rfl, rfl, rfl, rfl, trivial⟩ (Pick.all _) ?_
      rintro ⟨i2, m2⟩ ⟨hi2, hm2⟩
      dsimp only at hi2 hm2 ⊢
      refine Zs ?_
      refine Zc ?_
      refine Zx ?_
      refine DC.seq ?_
      refine DC.cond rfl (fun c14 => ?_) (fun c14 => ?_)
      · have hlt : i2 < es.length := by simpa using c14
        obtain ⟨e, he⟩ : ∃ e, es[i2]? = some e := ⟨_, List.getElem?_eq_getElem hlt⟩
        obtain ⟨ad, rfl, hU, hVe⟩ := hr.pair he
        have ho := hV.ok i2 e he
        obtain ⟨u, hu⟩ := Int.eq_ofNat_of_zero_le ho.lo
        obtain ⟨u2, hu2⟩ := Int.eq_ofNat_of_zero_le (show 0 ≤ e.2 by have := ho.lo; have := ho.lt; omega)
        obtain rfl : e = ((u : Int), (u2 : Int)) := Prod.ext hu hu2
        clear hu hu2
        have hun : u < i := by have h1 := ho.lt; have h2 := ho.hi; simp at h1 h2; omega
        replace hU : w.cell? (ad.add (i2 * 2)) = some (.int .i64 (u : Int)) := hU
        replace hVe : w.cell? (ad.add (i2 * 2 + 1)) = some (.int .i64 (u2 : Int)) := hVe
        have hb2 := cnE_le f es i2 (f u)
        have hb3 := cnV_le f i (f u)
        refine DC.skip ?_
        refine Fin.then ?_
        refine DC.seq ?_
        refine DC.block ?_
        refine Zs ?_
        refine Seq.pur rfl rfl (p_index rfl rfl rfl Tryz.underlying22 sz43 (by omega) (by omega) (by first | exact add_at0 _ _ | exact add_at _ _ _ | rfl)) ?_
        refine Seq.val rfl rfl (v_loads (vs := [_, _]) rfl rfl ag43 sz43 rfl (hass2 hU hVe (by simp))) ?_
        refine Seq.new rfl rfl (n_alloc rfl ze43 rfl) fun g16 => ?_
        refine Seq.sto rfl rfl (s_stores (cs' := #[_, _]) rfl rfl rfl sz43 rfl (Nat.le_of_ble_eq_true rfl) rfl) ?_
        refine Zx ?_
        refine Zs ?_
        refine Zm ?_
        refine Zm ?_
        refine Zf fi43_0 ?_
        refine Zl ag3 ?_
        refine Zi Tryz.underlying44 sz3 ?_
        refine Seq.val rfl rfl (v_load rfl rfl ag3 (has_row (row_getT hun))) ?_
        refine Seq.val rfl rfl (v_lookup (v := tl (cnV f i (f u)) (cnE f es i2 (f u)) 0) (k := f u) 1 rfl keyInt rfl rfl rfl Tryz.underlying228 ze230 (tal_get hm2 (f u) (fun e => absurd e (cnV_pos hun)))) ?_
        refine Seq.new rfl rfl (n_alloc rfl ze230 rfl) fun g17 => ?_
        refine Seq.sto rfl rfl (s_stores (cs' := #[.int .i64 (cnV f i (f u)), .int .i64 (cnE f es i2 (f u)), .int .i64 0]) rfl rfl rfl sz230 rfl (Nat.le_of_ble_eq_true rfl) rfl) ?_
        refine Zx ?_
        refine Zs ?_
        refine Zf fi230_1 ?_
        refine Zl ag3 ?_
        refine Zp ?_
        refine Zf fi230_1 ?_
        refine Seq.sto rfl rfl (s_store (cs' := #[_, _, _]) rfl rfl rfl sz3 rfl (Nat.le_of_ble_eq_true rfl) rfl) ?_
        refine Zx ?_
        refine DC.flow (cl := [.q, .q, .q, .v, .q, .v, .v, .g]) (A := [0, 0, 0, 4, 14, 30, 0, 127]) (order := [0, 1, 2, 3, 4, 5, 6, 7]) [] mixed (by kernel_rfl) (fun w hw => hw.pick .nil) ?_
        refine Ym ?_
        refine Ym ?_
        refine Yf fi43_0 ?_
        refine Yl ag3 ?_
        refine Flow.pur rfl rfl rfl (p_index1 rfl rfl rfl Tryz.underlying44 sz3 (by omega) (by omega) (by first | exact add_at0 _ _ | exact add_at _ _ _ | rfl)) ?_
        refine Flow.valS rfl rfl rfl rfl (v_load rfl rfl ag3 (has_row (row_getT hun))) ?_
        refine Flow.valS rfl rfl rfl rfl (v_loads (vs := [_, _, _]) rfl rfl ag230 sz230 rfl (hass_blk (vs := [.int .i64 (cnV f i (f u)), .int .i64 ((cnE f es i2 (f u) : Nat) + 1), .int .i64 0]) rfl)) ?_
        refine Flow.sto0 rfl rfl rfl rfl (s_mapUpdate (k := f u) 2 rfl keyInt rfl rfl rfl rfl Tryz.underlying228 rfl) (fun w hw => hw.pick (.nil)) ?_
        refine Flow.end rfl ?_
        simp only [List.map_cons, List.map_nil, List.nil_append, List.cons_append, List.append_nil]
        refine Fin.inBlock ?_
        refine Fin.then ?_
        refine DC.region ?_
        refine Zp ?_
        refine Zm ?_
        refine Seq.nil ?_
        have e1 : cnE f es (i2 + 1) (f u) = cnE f es i2 (f u) + 1 := by rw [cnE_succ he]; simp
        refine Fin.own (fun w hw => (hw.sub (List.sublist_cons_self ..)).sub (List.sublist_cons_self ..)) ?_
        refine Fin.again ⟨i2 + 1, putM (f u) (tl (cnV f i (f u)) (cnE f es (i2 + 1) (f u)) 0) m2⟩ (by dsimp only; omega) ⟨by dsimp only; omega, ?_⟩ ⟨rfl, rfl, rfl, rfl, rfl, rfl, rfl, trivial⟩ (.cons' 0 rfl (by dsimp only; rw [e1]; rfl) (Pick.all _))
        refine tal_put (a' := cnV f i) (b' := cnE f es (i2 + 1)) (c' := fun _ => 0) hm2 (f u) (cnV_pos hun) fun y hy => ⟨rfl, ?_, rfl⟩
        have : ¬ f u = y := fun e => hy e.symm
        rw [cnE_succ he]; simp [this]
      · refine DC.exit ?_
        refine Fin.exit_then <| Fin.exit_then <| Fin.exit_here <| ?_
        refine Fin.then ?_
        refine DC.seq ?_
        refine DC.seq ?_
        have hi2e : i2 = es.length := by simp at c14; omega
        subst hi2e
        refine DC.slcv (i := 2) rfl ?_
        rintro Af cf' rfl hAf
        rw [rowsV_length]
        obtain ⟨hs, hhs⟩ : ∃ hs : List Int, hs = fs.map fun p => p.2.headD 0 := ⟨_, rfl⟩
        have hhead : ∀ (j : Nat) (p : Value × List Int), fs[j]? = some p → ∃ x : Nat, x < es.length * 2 ∧ p.2[0]? = some (x : Int) ∧ hs[j]? = some (x : Int) := by
          intro j p hp
          have h1 : (fs.map fun p => p.2.head?)[j]? = some p.2.head? := by rw [List.getElem?_map, hp]; rfl
          rw [hD.heads, List.getElem?_map, Option.map_eq_some_iff] at h1
          obtain ⟨x, hx, hxe⟩ := h1
          have hxm := List.mem_of_getElem? hx
          have hxl : x < es.length * 2 := List.mem_range.1 (List.mem_filter.1 hxm).1
          refine ⟨x, hxl, by rw [← List.head?_eq_getElem?, ← hxe], ?_⟩
          rw [hhs, List.getElem?_map, hp]
          simp [List.headD_eq_head?_getD, ← hxe]
        have hfsl : fs.length ≤ 8388608 := by
          have h1 := congrArg List.length hD.heads
          simp only [List.length_map] at h1
          have h2 := List.length_filter_le (fun x => decide (Lead (phi fn) x)) (List.range (es.length * 2))
          simp at h2; omega
        refine DC.region ?_
        refine Zm ?_
        refine Zn Tryz.underlying25 ?_
        refine Zm ?_
        refine Zx ?_
        refine DC.block ?_
        refine DC.loop (ι := GeI) (fun j => j.i ≤ fs.length ∧ Tal j.m (cnV f i) (cnE f es es.length) (cnF f es hs j.i))
          (fun j => [(2, .pointer (some ⟨g2, 0, none⟩)), (8, .slice (some ⟨gl, 0, none⟩) i i), (11, .map (some gm)), (84, .slice Af fs.length cf'), (85, .int .i64 fs.length), (86, .int .i64 j.i)])
          (fun j => mpc encI gm j.m :: blk gl 3 (ints (tab i f)).toArray :: slc (.slice Af fs.length cf') 44 1 (rowsV fs) :: blk g2 24 #[.int .i64 i, .slice A es.length cap] :: rowsC 3 fs) (fun j => fs.length - j.i) ⟨0, m2⟩
          ⟨Nat.zero_le _, hm2.1, fun x => by rw [hm2.2 x]; simp [cnF]⟩ ⟨rfl, rfl, rfl, rfl, rfl, rfl, trivial⟩ (Pick.all _) ?_
        rintro ⟨i3, m3⟩ ⟨hi3, hm3⟩
        dsimp only at hi3 hm3 ⊢
        refine Zs ?_
        refine Zc ?_
        refine Zx ?_
        refine DC.seq ?_
        refine DC.cond rfl (fun c21 => ?_) (fun c21 => ?_)
        · have hlt3 : i3 < fs.length := by simpa using c21
          obtain ⟨p, hp⟩ : ∃ p, fs[i3]? = some p := ⟨_, List.getElem?_eq_getElem hlt3⟩
          obtain ⟨adf, rfl⟩ := hAf (fun e => by have := congrArg List.length e; simp at this; rw [this] at hlt3; simp at hlt3)
          refine DC.skip ?_
          refine Fin.then ?_
          refine DC.seq ?_
          refine DC.block ?_
          refine Zs ?_
          refine Zi Tryz.underlying25 sz44 ?_
          refine Seq.val rfl rfl (v_load rfl rfl ag44 (has_slcV (i := 2) (q := p.1) rfl (by simp [rowsV, hp]))) ?_
          refine Za ?_
          refine Zx ?_
          refine DC.seq ?_
          obtain ⟨x, hx, hx0, hxh⟩ := hhead i3 p hp
          have hpl := hD.short p (List.mem_of_getElem? hp)
          refine DC.slcs (v := p.1) (i := i3 + 4) (xs := p.2) (t := 3) (by simp [rowsC, hp]) (by omega) ?_
          rintro A3 c3 hp1 hA3
          obtain ⟨ad3, rfl⟩ := hA3 (fun e => by rw [e] at hx0; simp at hx0)
          have hp2 : 0 < p.2.length := (List.getElem?_eq_some_iff.1 hx0).1
          rw [hp1]
          obtain ⟨e, he⟩ : ∃ e, es[x / 2]? = some e := ⟨_, List.getElem?_eq_getElem (by omega)⟩
          obtain ⟨ad, rfl, hU, hVe⟩ := hr.pair he
          have ho := hV.ok (x / 2) e he
          obtain ⟨u, hu⟩ := Int.eq_ofNat_of_zero_le ho.lo
          rw [hu] at hU
          have hun : u < i := by have h1 := ho.lt; have h2 := ho.hi; omega
          have hxd : ((x : Int) / 2).toNat = x / 2 := by omega
          refine DC.flow (cl := [.q, .q, .v, .q, .q, .v, .q, .q, .q, .v, .q, .v, .q]) (A := [0, 0, 2, 0, 8, 24, 56, 126, 254, 510, 1023, 2047, 4095]) (order := [0, 1, 2, 3, 4, 5, 6, 7, 8, 9, 10, 11, 12]) [] mixed (by kernel_rfl) (fun w hw => hw.pick .nil) ?_
          refine Ym ?_
          refine Yf fi24_1 ?_
          refine Yl ag22 ?_
          refine Ym ?_
          refine Flow.pur rfl rfl rfl (p_index1 (ad' := ad3.add 0) rfl rfl rfl Tryz.underlying44 sz3 (by omega) (by omega) rfl) ?_
          refine Flow.valS rfl rfl rfl rfl (v_load rfl rfl ag3 (has_slcI (t := 3) (i := i3 + 4) (l := p.2.length) (c := c3) (by rw [← hp1]; simp [rowsC, hp]) hx0 (by omega))) ?_
          refine Flow.pur rfl rfl rfl (p_quo rfl rfl rfl (by omega) (by omega)) ?_
          refine Flow.pur rfl rfl rfl (p_index (ad' := ad.add (x / 2 * 2)) rfl rfl rfl Tryz.underlying22 sz43 (by omega) (by omega) (by rw [hxd])) ?_
          refine Flow.pur rfl rfl rfl (p_field (ad' := ad.add (x / 2 * 2)) rfl rfl fi43_0 (by simp [Addr.add])) ?_
          refine Flow.valS rfl rfl rfl rfl (v_load rfl rfl ag3 (has_old' hU)) ?_
          refine Flow.pur rfl rfl rfl (p_index1 rfl rfl rfl Tryz.underlying44 sz3 (by omega) (by omega) (by first | exact add_at0 _ _ | exact add_at _ _ _ | rfl)) ?_
          refine Flow.valS rfl rfl rfl rfl (v_load rfl rfl ag3 (has_row (row_getT hun))) ?_
          refine Flow.pur rfl rfl rfl (p_assign rfl rfl) ?_
          refine Flow.end rfl ?_
          simp only [List.map_cons, List.map_nil, List.nil_append, List.cons_append, List.append_nil]
          refine Fin.then ?_
          refine DC.seq ?_
          have hb4 := cnF_le f es hs i3 (f u)
          have hhl : hs.length = fs.length := by rw [hhs]; simp
          have hFs : ∀ y, cnF f es hs (i3 + 1) y = cnF f es hs i3 y + if f u = y then 1 else 0 := fun y => by
            have h1 : headU es x = u := by unfold headU; rw [hxd, he]; simp [hu]
            rw [cnF_succ hxh, h1]
          refine DC.region ?_
          refine Zm ?_
          refine Zm ?_
          refine Seq.val rfl rfl (v_lookup (v := tl (cnV f i (f u)) (cnE f es es.length (f u)) (cnF f es hs i3 (f u))) (k := f u) 0 rfl keyInt rfl rfl rfl Tryz.underlying228 ze230 (tal_get hm3 (f u) (fun e => absurd e (cnV_pos hun)))) ?_
          refine Seq.new rfl rfl (n_alloc rfl ze230 rfl) fun g21 => ?_
          refine Seq.sto rfl rfl (s_stores (cs' := #[.int .i64 (cnV f i (f u)), .int .i64 (cnE f es es.length (f u)), .int .i64 (cnF f es hs i3 (f u))]) rfl rfl rfl sz230 rfl (Nat.le_of_ble_eq_true rfl) rfl) ?_
          refine Zx ?_
          refine Zs ?_
          refine Zf fi230_2 ?_
          refine Zl ag3 ?_
          refine Zp ?_
          refine Zf fi230_2 ?_
          refine Seq.sto rfl rfl (s_store (cs' := #[_, _, _]) rfl rfl rfl sz3 rfl (Nat.le_of_ble_eq_true rfl) rfl) ?_
          refine Zx ?_
          refine DC.region ?_
          refine Zm ?_
          refine Zm ?_
          refine Seq.val rfl rfl (v_loads (vs := [_, _, _]) rfl rfl ag230 sz230 rfl (hass_blk (vs := [.int .i64 (cnV f i (f u)), .int .i64 (cnE f es es.length (f u)), .int .i64 ((cnF f es hs i3 (f u) : Nat) + 1)]) rfl)) ?_
          refine Seq.sto rfl rfl (s_mapUpdate (k := f u) 1 rfl keyInt rfl rfl rfl rfl Tryz.underlying228 rfl) ?_
          simp only [List.set_cons_zero, List.set_cons_succ]
          refine Seq.nil ?_
          refine Fin.inBlock ?_
          refine Fin.then ?_
          refine DC.region ?_
          refine Zp ?_
          refine Zm ?_
          refine Seq.nil ?_
          have e1 : cnF f es hs (i3 + 1) (f u) = cnF f es hs i3 (f u) + 1 := by rw [hFs]; simp
          refine Fin.own (fun w hw => hw.sub (List.sublist_cons_self ..)) ?_
          refine Fin.again ⟨i3 + 1, putM (f u) (tl (cnV f i (f u)) (cnE f es es.length (f u)) (cnF f es hs (i3 + 1) (f u))) m3⟩ (by dsimp only; omega) ⟨by dsimp only; omega, ?_⟩ ⟨rfl, rfl, rfl, rfl, rfl, rfl, trivial⟩ (.cons' 0 rfl (by dsimp only; rw [e1]; rfl) (Pick.all _))
          refine tal_put (a' := cnV f i) (b' := cnE f es es.length) (c' := cnF f es hs (i3 + 1)) hm3 (f u) (cnV_pos hun) fun y hy => ⟨rfl, rfl, ?_⟩
          have : ¬ f u = y := fun e => hy e.symm
          rw [hFs]; simp [this]
        · refine DC.exit ?_
          refine Fin.exit_then <| Fin.exit_then <| Fin.exit_here <| ?_
          refine Fin.then ?_
          refine DC.seq ?_
          have hi3e : i3 = fs.length := by simp at c21; omega
          subst hi3e
          have hhl : hs.length = fs.length := by rw [hhs]; simp
          have hheads : hs = headsOf (es.length * 2) fn := by
            rw [hhs]
            unfold headsOf
            have h1 := hD.heads
            have h2 : fs.map (fun p => p.2.headD 0) = (fs.map fun p => p.2.head?).map fun o => o.getD 0 := by rw [List.map_map]; apply List.map_congr_left; intro p _; simp [List.headD_eq_head?_getD]
            rw [h2, h1, List.map_map]
            rfl
          rw [← hhl] at hm3
          have hL := lab_of hPa hLa
          have hhin : ∀ h, h ∈ hs → headU es h < i ∧ cnE f es es.length (f (headU es h)) ≠ 0 := by
            intro h hh
            rw [hheads] at hh
            obtain ⟨y, hy, rfl⟩ := List.mem_map.1 hh
            have hy2 := List.mem_range.1 (List.mem_filter.1 hy).1
            obtain ⟨e, he⟩ : ∃ e, es[y / 2]? = some e := ⟨_, List.getElem?_eq_getElem (by omega)⟩
            have hem := List.mem_of_getElem? he
            obtain ⟨u, u2, rfl, h1, h2⟩ := edge_nat hV hem
            rw [headU_eq he]
            refine ⟨by simp; omega, fun h0 => cnE_zero h0 hem rfl⟩
          have hkeys : ∀ x, x ∈ m3.map (·.1) ↔ cnV f i x ≠ 0 := by
            intro x
            have h1 := hm3.2 x
            constructor
            · intro hx h0
              rw [if_pos h0] at h1
              exact lkM_none h1 hx
            · intro h0
              rw [if_neg h0] at h1
              exact List.mem_map.2 ⟨_, lkM_mem h1, rfl⟩
          have htot := gsum_total hV hL hm3.1 hkeys hhin
          have hent : ∀ p, p ∈ m3 → p.2 = tl (cnV f i p.1) (cnE f es es.length p.1) (cnF f es hs hs.length p.1) := by
            intro p hp
            have h1 := lkM_of_mem hm3.1 (x := p.1) (v := p.2) hp
            rw [hm3.2] at h1
            rw [if_neg ((hkeys _).1 (List.mem_map.2 ⟨p, hp, rfl⟩))] at h1
            exact (Option.some.inj h1).symm
          have hmlen : m3.length ≤ 1048576 := by
            have h1 := nodup_leI (b := ints0 i k) hm3.1 (fun x hx => ?_)
            · simp [ints0] at h1; have := hLa.2.2.2; omega
            · obtain ⟨j, hj, hfj⟩ := cnV_ex ((hkeys x).1 hx)
              obtain ⟨h2, h3⟩ := hLa.1 j hj
              rw [hfj] at h2 h3
              exact List.mem_map.2 ⟨x.toNat, List.mem_range.2 (by omega), by omega⟩
          refine DC.region ?_
          refine Za ?_
          refine Zx ?_
          refine DC.seq ?_
          refine Zs ?_
          refine Zm ?_
          refine Seq.gen rfl rfl (g_range (enc := encI) (m := m3) 0 rfl rfl rfl Tryz.underlying228) ?_
          rintro _ _ ⟨gi, rfl, rfl⟩
          rw [List.set_cons_zero]
          refine Zx ?_
          refine DC.block ?_
          refine DC.loop (ι := GeK) (fun j => (∀ p, p ∈ j.left → p ∈ m3) ∧ 2 * j.S + gsum (cnV f i) (cnE f es es.length) (cnF f es hs hs.length) (j.left.map (·.1)) = genus2 i es fn ∧ j.left.length ≤ m3.length ∧
              -(16777216 * ((m3.length : Int) - j.left.length)) ≤ j.S ∧ j.S ≤ 16777216 * ((m3.length : Int) - j.left.length))
            (fun j => [(22, .int .i64 j.S), (114, .pointer (some ⟨gi, 0, none⟩))]) (fun j => [mit encI gm gi m3 j.left j.last]) (fun j => j.left.length) ⟨m3, none, 0⟩
            ⟨fun p hp => hp, by dsimp only; rw [htot]; unfold genus2 facesN; rw [← hheads]; omega, Nat.le_refl _, by dsimp only; omega, by dsimp only; omega⟩ ⟨rfl, rfl, trivial⟩ (.cons 0 rfl .nil) ?_
          rintro ⟨left, last, S⟩ ⟨hleft, hS, hll, hS1, hS2⟩
          dsimp only at hleft hS hll hS1 hS2 ⊢
          refine Zs ?_
          refine Seq.gen rfl rfl (g_next (enc := encI) 0 rfl rfl rfl) ?_
          intro v115 L115 hC115
          obtain ⟨b, rest, rfl, hcase⟩ : ∃ b rest, v115 = .tuple ⟨.bool b :: rest⟩ ∧ ((b = false ∧ left = []) ∨ (b = true ∧ ∃ j p, left[j]? = some p ∧ L115 = [mit encI gm gi m3 (left.eraseIdx j) (some p)])) := by
            rcases hC115 with ⟨rfl, h1, _⟩ | ⟨j, p, h1, rfl, h2⟩
            · exact ⟨false, [], rfl, .inl ⟨rfl, h1⟩⟩
            · exact ⟨true, _, rfl, .inr ⟨rfl, j, p, h1, by rw [h2]; rfl⟩⟩
          refine Ze ?_
          refine Zx ?_
          refine DC.seq ?_
          refine DC.cond rfl (fun c30 => ?_) (fun c30 => ?_)
          · obtain ⟨j, p, hp, rfl⟩ : ∃ j p, left[j]? = some p ∧ L115 = [mit encI gm gi m3 (left.eraseIdx j) (some p)] := by
              rcases hcase with ⟨h1, _⟩ | ⟨_, h1⟩
              · rw [h1] at c30; cases c30
              · exact h1
            clear hC115 hcase
            obtain ⟨x, xv⟩ := p
            have hpm := hleft _ (List.mem_of_getElem? hp)
            obtain rfl : xv = tl (cnV f i x) (cnE f es es.length x) (cnF f es hs hs.length x) := hent _ hpm
            have hb1 := cnV_le f i x
            have hb2 := cnE_le f es es.length x
            have hb3 := cnF_le f es hs hs.length x
            have hx0 := (hkeys x).1 (List.mem_map.2 ⟨_, hpm, rfl⟩)
            have her := gsum_erase (a := cnV f i) (b := cnE f es es.length) (c := cnF f es hs hs.length) (ks := left.map (·.1)) (j := j) (x := x) (by rw [List.getElem?_map, hp]; rfl)
            rw [← ChangeMaps.map_eraseIdx] at her
            have hjl := (List.getElem?_eq_some_iff.1 hp).1
            have hel : (left.eraseIdx j).length = left.length - 1 := List.length_eraseIdx_of_lt hjl
            refine DC.skip ?_
            refine Fin.then ?_
            refine DC.block ?_
            refine Zs ?_
            refine Seq.val rfl rfl (v_entry (p := (x, tl (cnV f i x) (cnE f es es.length x) (cnF f es hs hs.length x))) 0 rfl rfl rfl) ?_
            refine Ze ?_
            refine Seq.new rfl rfl (n_alloc rfl ze230 rfl) fun g24 => ?_
            refine Seq.sto rfl rfl (s_stores (cs' := #[.int .i64 (cnV f i x), .int .i64 (cnE f es es.length x), .int .i64 (cnF f es hs hs.length x)]) rfl rfl rfl sz230 rfl (Nat.le_of_ble_eq_true rfl) rfl) ?_
            refine Zx ?_
            refine Zs ?_
            refine Zf fi230_1 ?_
            refine Zl ag3 ?_
            refine Seq.pur rfl rfl (p_gtr rfl rfl rfl) ?_
            refine Zx ?_
            refine DC.cond rfl (fun c32 => ?_) (fun c32 => ?_)
            · have hne : cnE f es es.length x ≠ 0 := by simp at c32; omega
              have heven := part_even hok hnx hL hne
              rw [← hheads] at heven
              obtain ⟨q, hq⟩ : ∃ q : Int, 2 - ((cnV f i x : Nat) : Int) + (cnE f es es.length x : Nat) - (cnF f es hs hs.length x : Nat) = 2 * q := ⟨(2 - ((cnV f i x : Nat) : Int) + (cnE f es es.length x : Nat) - (cnF f es hs hs.length x : Nat)) / 2, by omega⟩
              refine DC.region ?_
              refine Zm ?_
              refine Zf fi230_0 ?_
              refine Zl ag3 ?_
              refine Seq.pur rfl rfl (p_sub rfl rfl rfl (by omega)) ?_
              refine Zf fi230_1 ?_
              refine Zl ag3 ?_
              refine Zp ?_
              refine Zf fi230_2 ?_
              refine Zl ag3 ?_
              refine Seq.pur rfl rfl (p_sub rfl rfl rfl (by omega)) ?_
              refine Seq.pur rfl rfl (p_quo2 (q := q) rfl rfl rfl hq (by omega)) ?_
              refine Zp ?_
              refine Za ?_
              refine Seq.nil ?_
              refine Fin.inBlock ?_
              refine Fin.again ⟨left.eraseIdx j, some (x, tl (cnV f i x) (cnE f es es.length x) (cnF f es hs hs.length x)), S + q⟩ (by dsimp only; omega) ⟨fun p hp => hleft p (List.mem_of_mem_eraseIdx hp), ?_, by dsimp only; omega, by dsimp only; rw [hel]; omega, by dsimp only; rw [hel]; omega⟩ ⟨rfl, rfl, trivial⟩ (.cons 1 rfl .nil)
              dsimp only
              have : gval (cnV f i x) (cnE f es es.length x) (cnF f es hs hs.length x) = 2 * q := by unfold gval; rw [if_pos hne]; exact hq
              omega
            · refine DC.skip ?_
              refine Fin.inBlock ?_
              have hne : cnE f es es.length x = 0 := by simp at c32; omega
              refine Fin.again ⟨left.eraseIdx j, some (x, tl (cnV f i x) (cnE f es es.length x) (cnF f es hs hs.length x)), S⟩ (by dsimp only; omega) ⟨fun p hp => hleft p (List.mem_of_mem_eraseIdx hp), ?_, by dsimp only; omega, by dsimp only; rw [hel]; omega, by dsimp only; rw [hel]; omega⟩ ⟨rfl, rfl, trivial⟩ (.cons 1 rfl .nil)
              dsimp only
              have : gval (cnV f i x) (cnE f es es.length x) (cnF f es hs hs.length x) = 0 := by unfold gval; rw [if_neg (by simp [hne])]
              omega
          · refine DC.exit ?_
            refine Fin.exit_then <| Fin.exit_then <| Fin.exit_here <| ?_
            refine Fin.then ?_
            refine Zs ?_
            refine Zm ?_
            refine Za ?_
            refine Za ?_
            refine Zx ?_
            refine DC.ret ?_
            refine Fin.weak (E' := [(4, _), (5, _)]) ⟨rfl, rfl, trivial⟩ .nil ?_
            refine Fin.end2 (.inl rfl) rfl rfl rfl ?_
            refine ⟨rfl, fn, S, hnx, rfl, ?_⟩
            have h0 : left = [] := by
              rcases hcase with ⟨_, h1⟩ | ⟨h1, _⟩
              · exact h1
              · rw [h1] at c30; simp at c30
            rw [h0] at hS
            simpa [gsum] using hS
end Go.Fl

set_option linter.unusedVariables false
set_option linter.unusedSimpArgs false
set_option maxRecDepth 100000
namespace Go.Fl
open Go Go.Proofs
theorem Flat_calls {n : Nat} {es : List Pr} {rs : List (List Int)} {va v : Value} {w : World} (hg : PrV w va es) (hl : LsV w v rs) (hok : RotL n es rs) :
    Calls Tryz.prog 95 #[.agg #[.int .i64 n, va], v] w (Ret w [] fun r M => M = [] ∧ ∃ fn b, NxOk rs rs.length fn ∧ r = .bool b ∧ (b = true ↔ genus2 n es fn = 0)) := by
  refine calls_of (args := [_, _]) (L := []) Tryz.func95 rfl Tryz.ntmps95 rfl (Own.start _ _) ?_
  refine Zs ?_
  refine Seq.new rfl rfl (n_box rfl rfl rfl) fun g2 => ?_
  refine Za ?_
  refine Zx ?_
  refine Zs ?_
  refine Seq.val rfl rfl (v_loads (vs := [_, _]) rfl rfl ag24 sz24 rfl (hass_blk rfl)) ?_
  refine Zm ?_
  refine Seq.rel0 rfl rfl (r_call en121 rfl rfl rfl (fun w' hw => Genus_calls (hg.keep0 hw) (hl.keep0 hw) hok)) ?_
  rintro _ ⟨fn, S, hnx, rfl, hS⟩
  refine Zm ?_
  refine Ze ?_
  refine Ze ?_
  refine Za ?_
  refine Za ?_
  refine Zx ?_
  refine Zs ?_
  refine Zm ?_
  refine Seq.pur rfl rfl (p_eql rfl rfl rfl) ?_
  refine Zm ?_
  refine Seq.split 15 rfl (fun k2_2 => ?_) (fun k2_2 => ?_)
  · refine Zm ?_
    refine Seq.pur rfl rfl (p_eql rfl rfl rfl) ?_
    refine Zt ?_
    refine Za ?_
    refine Zx ?_
    refine DC.ret ?_
    refine Fin.weak (E' := [(4, _)]) ⟨rfl, trivial⟩ .nil ?_
    refine Fin.end1 (.inl rfl) rfl rfl ?_
    exact ⟨rfl, fn, _, hnx, rfl, by first | (simp; omega) | (simp at k2_2)⟩
  · refine Zk ?_
    refine Zk ?_
    refine Zg ?_
    refine Za ?_
    refine Zx ?_
    refine DC.ret ?_
    refine Fin.weak (E' := [(4, _)]) ⟨rfl, trivial⟩ .nil ?_
    refine Fin.end1 (.inl rfl) rfl rfl ?_
    exact ⟨rfl, fn, _, hnx, rfl, by first | (simp; omega) | (simp at k2_2)⟩
/-- Being flat, said of the lists round the vertices. -/
def FlatR (n : Nat) (es : List Pr) (ls : List (List Int)) (b : Prop) : Prop := ∃ rs fn, RotR es ls rs ∧ NxOk rs rs.length fn ∧ (b ↔ genus2 n es fn = 0)
theorem cflat_calls {pl : Bool} {n : Nat} {es : List Pr} {ls : List (List Int)} {va v u : Value} {w : World} (hg : PrV w va es) (hv : LsV w v ls) (hok : RotOk n es ls) :
    Calls Tryz.prog 57 #[.agg #[.int .i64 n, va], .agg #[.bool pl, v, u]] w (Ret w [] fun r M => M = [] ∧ ∃ b, r = .bool b ∧ FlatR n es ls (b = true)) := by
  have hN := hok.1.hi
  refine calls_of (args := [_, _]) (L := []) Tryz.func57 rfl Tryz.ntmps57 rfl (Own.start _ _) ?_
  refine Zs ?_
  refine Seq.new rfl rfl (n_box rfl rfl rfl) fun g2 => ?_
  refine Seq.new rfl rfl (n_box rfl rfl rfl) fun g3 => ?_
  refine Za ?_
  refine Zx ?_
  refine Zs ?_
  refine Seq.val rfl rfl (v_loads (vs := [_, _]) rfl rfl ag24 sz24 rfl (hass_blk rfl)) ?_
  refine Zf fi27_1 ?_
  refine Zl ag25 ?_
  refine Seq.rel rfl rfl (r_call en94 rfl rfl rfl (fun w' hw => RFrom_calls (hg.keep0 hw) (hv.keep0 hw))) ?_
  intro v12 L12 hC12
  obtain ⟨_, g, rs, rfl, rfl, hR⟩ := hC12.resolve_right (fun h => h.1 hok)
  have hl := rotL_of hok hR
  have hlen : rs.length = n := by have := hl.2.1; simp at this; omega
  rw [Int.toNat_natCast]
  refine Seq.own (M := blk g 44 (rowsV rs).toArray :: blk g3 27 #[.bool pl, v, u] :: blk g2 24 #[.int .i64 n, va] :: rowsC 3 rs) (fun w hw => hw.perm (List.Perm.cons _ (List.perm_append_comm (l₁ := [_, _]) (l₂ := rowsC 3 rs)))) ?_
  have hshort : ∀ p, p ∈ rs → p.2.length ≤ 17592186044416 := fun p hp => by
    obtain ⟨j, hj⟩ := List.mem_iff_getElem?.1 hp
    have h1 := (hl.2.2 j p.2 (by rw [List.getElem?_map, hj]; rfl)).2.2
    have h2 := outs_lenB es 0 (j : Int)
    have h3 := hok.1.few
    unfold cnt outs at h1
    omega
  refine Zm ?_
  refine Ze ?_
  refine Ze ?_
  refine Ze ?_
  refine Za ?_
  refine Za ?_
  refine Za ?_
  refine Zx ?_
  refine Zs ?_
  refine Seq.val rfl rfl (v_loads (vs := [_, _]) rfl rfl ag24 sz24 rfl (hass_blk rfl)) ?_
  refine Zm ?_
  refine Seq.rel0 rfl rfl (r_call en95 rfl rfl rfl (fun w' hw => Flat_calls (hg.keep0 hw) (lsv_own (hw.sub (L' := blk g 44 (rowsV rs).toArray :: rowsC 3 rs) (((List.Sublist.refl _).cons _).cons _ |>.cons_cons _)) hlen (by omega) hshort) hl)) ?_
  rintro _ ⟨fn, b, hnx, rfl, hb⟩
  refine Za ?_
  refine Zx ?_
  refine DC.ret ?_
  refine Fin.weak (E' := [(4, _)]) ⟨rfl, trivial⟩ .nil ?_
  refine Fin.end1 (.inl rfl) rfl rfl ?_
  exact ⟨rfl, b, rfl, _, fn, hR, hnx, hb⟩
end Go.Fl

set_option linter.unusedVariables false
set_option linter.unusedSimpArgs false
namespace Go.Fl
open Go
theorem decDigits_len : ∀ (k u : Nat), u < 10 ^ (k + 1) → (Lib.decDigits u).length ≤ k + 1
  | 0, u, h => by rw [Lib.decDigits, dif_pos (by simpa using h)]; simp
  | k + 1, u, h => by
    rw [Lib.decDigits]
    split
    · simp
    · have := decDigits_len k (u / 10) (by rw [Nat.div_lt_iff_lt_mul (by decide)]; rw [Nat.pow_succ] at h; exact h)
      simp; omega
theorem itoa_len {a : Int} (h : -9223372036854775808 ≤ a ∧ a ≤ 9223372036854775807) : (Lib.itoa a).length ≤ 20 := by
  unfold Lib.itoa
  split
  · have := decDigits_len 18 a.natAbs (by rw [show (10 : Nat) ^ (18 + 1) = 10000000000000000000 by decide]; omega)
    simp; omega
  · have := decDigits_len 18 a.toNat (by rw [show (10 : Nat) ^ (18 + 1) = 10000000000000000000 by decide]; omega)
    omega
def lineB (ns : List Int) : List UInt8 := Lib.join (ns.map Lib.itoa) [32] ++ [10]
theorem join_len {k : Nat} : ∀ (xs : List (List UInt8)), (∀ x, x ∈ xs → x.length ≤ k) → (Lib.join xs [32]).length ≤ (k + 1) * xs.length
  | [], _ => by simp [Lib.join]
  | [x], h => by simp [Lib.join, List.intercalate]; have := h x (by simp); omega
  | x :: y :: r, h => by
    have h1 := h x (by simp)
    have h2 := join_len (y :: r) (fun z hz => h z (List.mem_cons_of_mem _ hz))
    have e : Lib.join (x :: y :: r) [32] = x ++ [32] ++ Lib.join (y :: r) [32] := by simp [Lib.join, List.intercalate, List.intersperse]
    rw [e]
    simp only [List.length_append, List.length_cons, List.length_nil] at h2 ⊢
    rw [Nat.mul_add, Nat.mul_add] at *
    omega
def I64 (a : Int) : Prop := -9223372036854775808 ≤ a ∧ a ≤ 9223372036854775807
theorem lineB_len {ns : List Int} (h : ∀ a, a ∈ ns → I64 a) : (lineB ns).length ≤ 21 * ns.length + 1 := by
  have := join_len (k := 20) (ns.map Lib.itoa) (by simp; intro a ha; exact itoa_len (h a ha))
  simp [lineB] at this ⊢; omega
def strs (xs : List (List UInt8)) : List Value := xs.map str
@[simp] theorem strs_length (xs : List (List UInt8)) : (strs xs).length = xs.length := by simp [strs]
theorem strs_one (a : List (List UInt8)) : ∀ u, u ∈ strs a → u.oneCell' = true := by
  intro u hu; simp [strs] at hu; obtain ⟨x, _, rfl⟩ := hu; rfl
theorem own_grow (w : World) (k : Nat) (os : Array Obj) : Own w [] (Sort.grow (w.drewN k) os) [] := by
  refine ⟨rfl, rfl, rfl, .inr (by simp [Sort.grow, World.drewN]), by simp [Sort.grow, World.drewN], fun i hi _ => ?_, by simp, by simp, by simp, by simp⟩
  have : (w.drewN k).heap = w.heap := rfl
  simp only [Sort.grow, this]
  rw [Array.getElem?_append_left hi]
end Go.Fl

set_option maxRecDepth 100000
namespace Go.Proofs
open Go.Shelf
def Tryz.lays170_ren : Go.Shelf.Ren := ⟨fun | 170 => 44 | n => n, fun | 70 => 93 | 3 => 3 | 0 => 0 | 72 => 95 | 37 => 47 | 5 => 5 | n => n, fun | n => n⟩
theorem Tryz.lays170 : Go.Proofs.Lays.n170 Tryz.prog Tryz.lays170_ren := {
  mixed := by kernel_rfl
  f170 := Tryz.func44.trans (congrArg some (by kernel_rfl))
  t0 := Tryz.underlying0
  a0 := Tryz.isAgg0
  z0 := Tryz.sizeOf0
  v0 := Tryz.zeroValue0
  t3 := Tryz.underlying3
  a3 := Tryz.isAgg3
  z3 := Tryz.sizeOf3
  v3 := Tryz.zeroValue3
  t37 := Tryz.underlying47
  a37 := Tryz.isAgg47
  z37 := Tryz.sizeOf47
  v37 := Tryz.zeroValue47
  t70 := Tryz.underlying93
  a70 := Tryz.isAgg93
  z70 := Tryz.sizeOf93
  v70 := Tryz.zeroValue93
  t72 := Tryz.underlying95
  a72 := Tryz.isAgg95
  z72 := Tryz.sizeOf95
  v72 := Tryz.zeroValue95 }
open Go.RowKit in
theorem Tryz.Builder_Len (B b : Nat) (bs : List Value) (w : World) (h : Lib.IsBuilder 95 5 B b bs w) :
    Calls Tryz.prog 44 #[.pointer (some ⟨b, 0, none⟩)] w fun e w' => e = .returned (.int .i64 bs.length) ∧ w' = w := Any.Builder_Len Tryz.lays170 B b bs w h
def Tryz.lays169_ren : Go.Shelf.Ren := ⟨fun | 169 => 45 | n => n, fun | 70 => 93 | 9 => 9 | 0 => 0 | 72 => 95 | 37 => 47 | 127 => 152 | 3 => 3 | 5 => 5 | n => n, fun | n => n⟩
theorem Tryz.lays169 : Go.Proofs.Lays.n169 Tryz.prog Tryz.lays169_ren := {
  mixed := by kernel_rfl
  f169 := Tryz.func45.trans (congrArg some (by kernel_rfl))
  t0 := Tryz.underlying0
  a0 := Tryz.isAgg0
  z0 := Tryz.sizeOf0
  v0 := Tryz.zeroValue0
  t3 := Tryz.underlying3
  a3 := Tryz.isAgg3
  z3 := Tryz.sizeOf3
  v3 := Tryz.zeroValue3
  t9 := Tryz.underlying9
  a9 := Tryz.isAgg9
  z9 := Tryz.sizeOf9
  v9 := Tryz.zeroValue9
  t37 := Tryz.underlying47
  a37 := Tryz.isAgg47
  z37 := Tryz.sizeOf47
  v37 := Tryz.zeroValue47
  t70 := Tryz.underlying93
  a70 := Tryz.isAgg93
  z70 := Tryz.sizeOf93
  v70 := Tryz.zeroValue93
  t72 := Tryz.underlying95
  a72 := Tryz.isAgg95
  z72 := Tryz.sizeOf95
  v72 := Tryz.zeroValue95
  t127 := Tryz.underlying152
  a127 := Tryz.isAgg152
  z127 := Tryz.sizeOf152
  v127 := Tryz.zeroValue152 }
theorem Tryz.Builder_Extra_169 : Builder.Extra Tryz.prog Tryz.lays169_ren := {
  sizeBuilder := by kernel_rfl
  liesBuilder := by kernel_rfl
  t5 := Tryz.underlying5
  a5 := Tryz.isAgg5
  z5 := Tryz.sizeOf5
  v5 := Tryz.zeroValue5
  infoByte := by kernel_rfl
  cellsByte := by kernel_rfl
  sizeByte := by kernel_rfl
  neB5 := by decide }
open Go.RowKit in
theorem Tryz.Builder_String_any (B b : Nat) (l : List UInt8) (w : World) (h : Lib.IsBuilder 95 5 B b (Lib.byteCells l) w) (hBw : B ≤ w.heap.size) :
    Calls Tryz.prog 45 #[.pointer (some ⟨b, 0, none⟩)] w fun e w' => e = .returned (.string ⟨l.toArray⟩) ∧ Below B w w' := Any.Builder_String_any Tryz.lays169 Tryz.Builder_Extra_169 B b l w h hBw
def Tryz.lays156_ren : Go.Shelf.Ren := ⟨fun | 156 => 84 | 165 => 111 | 166 => 42 | 169 => 45 | 240 => 82 | 241 => 147 | 276 => 109 | 277 => 172 | n => n, fun | 31 => 150 | 9 => 9 | 3 => 3 | 4 => 4 | 0 => 0 | 20 => 20 | 72 => 95 | 76 => 98 | 70 => 93 | 37 => 47 | 75 => 97 | 127 => 152 | 164 => 181 | 5 => 5 | 80 => 102 | n => n, fun | n => n⟩
theorem Tryz.lays156 : Go.Proofs.Lays.n156 Tryz.prog Tryz.lays156_ren := {
  mixed := by kernel_rfl
  f156 := Tryz.func84.trans (congrArg some (by kernel_rfl))
  f165 := Tryz.func111.trans (congrArg some (by kernel_rfl))
  f166 := Tryz.func42.trans (congrArg some (by kernel_rfl))
  f169 := Tryz.func45.trans (congrArg some (by kernel_rfl))
  f240 := Tryz.func82.trans (congrArg some (by kernel_rfl))
  f241 := Tryz.func147.trans (congrArg some (by kernel_rfl))
  f276 := Tryz.func109.trans (congrArg some (by kernel_rfl))
  f277 := Tryz.func172.trans (congrArg some (by kernel_rfl))
  t0 := Tryz.underlying0
  a0 := Tryz.isAgg0
  z0 := Tryz.sizeOf0
  v0 := Tryz.zeroValue0
  t3 := Tryz.underlying3
  a3 := Tryz.isAgg3
  z3 := Tryz.sizeOf3
  v3 := Tryz.zeroValue3
  t4 := Tryz.underlying4
  a4 := Tryz.isAgg4
  z4 := Tryz.sizeOf4
  v4 := Tryz.zeroValue4
  t9 := Tryz.underlying9
  a9 := Tryz.isAgg9
  z9 := Tryz.sizeOf9
  v9 := Tryz.zeroValue9
  t20 := Tryz.underlying20
  a20 := Tryz.isAgg20
  z20 := Tryz.sizeOf20
  v20 := Tryz.zeroValue20
  t31 := Tryz.underlying150
  a31 := Tryz.isAgg150
  z31 := Tryz.sizeOf150
  v31 := Tryz.zeroValue150
  t37 := Tryz.underlying47
  a37 := Tryz.isAgg47
  z37 := Tryz.sizeOf47
  v37 := Tryz.zeroValue47
  t70 := Tryz.underlying93
  a70 := Tryz.isAgg93
  z70 := Tryz.sizeOf93
  v70 := Tryz.zeroValue93
  t72 := Tryz.underlying95
  a72 := Tryz.isAgg95
  z72 := Tryz.sizeOf95
  v72 := Tryz.zeroValue95
  t75 := Tryz.underlying97
  a75 := Tryz.isAgg97
  z75 := Tryz.sizeOf97
  v75 := Tryz.zeroValue97
  t76 := Tryz.underlying98
  a76 := Tryz.isAgg98
  z76 := Tryz.sizeOf98
  v76 := Tryz.zeroValue98
  t127 := Tryz.underlying152
  a127 := Tryz.isAgg152
  z127 := Tryz.sizeOf152
  v127 := Tryz.zeroValue152
  t164 := Tryz.underlying181
  a164 := Tryz.isAgg181
  z164 := Tryz.sizeOf181
  v164 := Tryz.zeroValue181 }
theorem Tryz.Builder_Extra_156 : Builder.Extra Tryz.prog Tryz.lays156_ren := {
  sizeBuilder := by kernel_rfl
  liesBuilder := by kernel_rfl
  t5 := Tryz.underlying5
  a5 := Tryz.isAgg5
  z5 := Tryz.sizeOf5
  v5 := Tryz.zeroValue5
  infoByte := by kernel_rfl
  cellsByte := by kernel_rfl
  sizeByte := by kernel_rfl
  neB5 := by decide }
open Go.RowKit in
theorem Tryz.strings_Join_none (a : Option Addr) (c : Nat) (sep : ByteArray) (w : World) :
    Calls Tryz.prog 84 #[.slice a 0 c, .string sep] w fun e w' => e = .returned (.string ⟨#[]⟩) ∧ w' = w := Any.strings_Join_none Tryz.lays156 Tryz.Builder_Extra_156 a c sep w
open Go.RowKit in
theorem Tryz.strings_Join (bk o c : Nat) (xs : List ByteArray) (sep : ByteArray) (w : World) (hcells : ∀ (j : Nat) x, xs[j]? = some x → w.cell? ⟨bk, o + j, none⟩ = some (.string x)) (hbk : bk < w.heap.size) (hN : xs.length ≤ 140737488355328) (hcap : xs.length ≤ c) (hlen : (Lib.join (xs.map (·.data.toList)) sep.data.toList).length ≤ 140737488355328) :
    Calls Tryz.prog 84 #[.slice (some ⟨bk, o, none⟩) xs.length c, .string sep] w fun e w' => e = .returned (.string ⟨(Lib.join (xs.map (·.data.toList)) sep.data.toList).toArray⟩) ∧ Below w.heap.size w w' := Any.strings_Join Tryz.lays156 Tryz.Builder_Extra_156 bk o c xs sep w hcells hbk hN hcap hlen
def Tryz.laysM171_ren : Go.Shelf.Ren := ⟨fun | 171 => 110 | 243 => 146 | 246 => 171 | 283 => 185 | 284 => 186 | 285 => 187 | 286 => 188 | 129 => 145 | 317 => 196 | 318 => 197 | 319 => 198 | 320 => 199 | 337 => 202 | 338 => 203 | n => n, fun | 3 => 3 | 9 => 9 | 2 => 2 | 4 => 4 | 171 => 256 | 0 => 0 | 53 => 221 | 37 => 47 | 5 => 5 | 173 => 258 | 212 => 265 | 51 => 219 | 20 => 20 | 213 => 266 | 46 => 180 | 232 => 267 | 233 => 268 | n => n, fun | 17 => 1 | 18 => 2 | 19 => 3 | n => n⟩
theorem Tryz.laysM171 : Go.Proofs.LaysM.n171 Tryz.prog Tryz.laysM171_ren := {
  mixed := by kernel_rfl
  f129 := Tryz.func145.trans (congrArg some (by kernel_rfl))
  f171 := Tryz.func110.trans (congrArg some (by kernel_rfl))
  f243 := Tryz.func146.trans (congrArg some (by kernel_rfl))
  f246 := Tryz.func171.trans (congrArg some (by kernel_rfl))
  f283 := Tryz.func185.trans (congrArg some (by kernel_rfl))
  f284 := Tryz.func186.trans (congrArg some (by kernel_rfl))
  f285 := Tryz.func187.trans (congrArg some (by kernel_rfl))
  f286 := Tryz.func188.trans (congrArg some (by kernel_rfl))
  f317 := Tryz.func196.trans (congrArg some (by kernel_rfl))
  f318 := Tryz.func197.trans (congrArg some (by kernel_rfl))
  f319 := Tryz.func198.trans (congrArg some (by kernel_rfl))
  f320 := Tryz.func199.trans (congrArg some (by kernel_rfl))
  f337 := Tryz.func202.trans (congrArg some (by kernel_rfl))
  f338 := Tryz.func203.trans (congrArg some (by kernel_rfl))
  t0 := Tryz.underlying0
  a0 := Tryz.isAgg0
  z0 := Tryz.sizeOf0
  v0 := Tryz.zeroValue0
  t2 := Tryz.underlying2
  a2 := Tryz.isAgg2
  z2 := Tryz.sizeOf2
  v2 := Tryz.zeroValue2
  t3 := Tryz.underlying3
  a3 := Tryz.isAgg3
  z3 := Tryz.sizeOf3
  v3 := Tryz.zeroValue3
  t4 := Tryz.underlying4
  a4 := Tryz.isAgg4
  z4 := Tryz.sizeOf4
  v4 := Tryz.zeroValue4
  t5 := Tryz.underlying5
  a5 := Tryz.isAgg5
  z5 := Tryz.sizeOf5
  v5 := Tryz.zeroValue5
  t9 := Tryz.underlying9
  a9 := Tryz.isAgg9
  z9 := Tryz.sizeOf9
  v9 := Tryz.zeroValue9
  t20 := Tryz.underlying20
  a20 := Tryz.isAgg20
  z20 := Tryz.sizeOf20
  v20 := Tryz.zeroValue20
  t37 := Tryz.underlying47
  a37 := Tryz.isAgg47
  z37 := Tryz.sizeOf47
  v37 := Tryz.zeroValue47
  t46 := Tryz.underlying180
  a46 := Tryz.isAgg180
  z46 := Tryz.sizeOf180
  v46 := Tryz.zeroValue180
  t51 := Tryz.underlying219
  a51 := Tryz.isAgg219
  z51 := Tryz.sizeOf219
  v51 := Tryz.zeroValue219
  t53 := Tryz.underlying221
  a53 := Tryz.isAgg221
  z53 := Tryz.sizeOf221
  v53 := Tryz.zeroValue221
  t171 := Tryz.underlying256
  a171 := Tryz.isAgg256
  z171 := Tryz.sizeOf256
  v171 := Tryz.zeroValue256
  t173 := Tryz.underlying258
  a173 := Tryz.isAgg258
  z173 := Tryz.sizeOf258
  v173 := Tryz.zeroValue258
  t212 := Tryz.underlying265
  a212 := Tryz.isAgg265
  z212 := Tryz.sizeOf265
  v212 := Tryz.zeroValue265
  t213 := Tryz.underlying266
  a213 := Tryz.isAgg266
  z213 := Tryz.sizeOf266
  t232 := Tryz.underlying267
  a232 := Tryz.isAgg267
  z232 := Tryz.sizeOf267
  v232 := Tryz.zeroValue267
  t233 := Tryz.underlying268
  a233 := Tryz.isAgg268
  z233 := Tryz.sizeOf268
  v233 := Tryz.zeroValue268
  g17 := by kernel_rfl
  g18 := by kernel_rfl
  g19 := by kernel_rfl
  i0 := by kernel_rfl
  i2 := by kernel_rfl
  i3 := by kernel_rfl
  i4 := by kernel_rfl
  i5 := by kernel_rfl
  i9 := by kernel_rfl
  i20 := by kernel_rfl
  i37 := by kernel_rfl
  i46 := by kernel_rfl
  i51 := by kernel_rfl
  i53 := by kernel_rfl
  i171 := by kernel_rfl
  i173 := by kernel_rfl
  i212 := by kernel_rfl
  i232 := by kernel_rfl
  i233 := by kernel_rfl
  m17 := by kernel_rfl
  m18 := by kernel_rfl
  m19 := by kernel_rfl }
open Go.RowKit Go.Sort Go.Lib in
theorem Tryz.strconv_Itoa (n : Int) (h0 : -9223372036854775808 ≤ n) (h1 : n ≤ 9223372036854775807) (w : World) (htab : Lib.TabIs Tryz.prog w "internal/strconv.uint64pow10" .u64 Lib.pow10Tab) :
    Calls Tryz.prog 110 #[.int .i64 n] w fun e w' => e = .returned (.string ⟨(Lib.itoa n).toArray⟩) ∧ ∃ k os, w' = grow (w.drewN k) os := Any.strconv_Itoa Tryz.laysM171 n h0 h1 w htab
def Tryz.lays112_ren : Go.Shelf.Ren := ⟨fun | 112 => 53 | n => n, fun | 28 => 44 | 3 => 3 | 4 => 4 | 0 => 0 | n => n, fun | n => n⟩
theorem Tryz.lays112 : Go.Proofs.Lays.n112 Tryz.prog Tryz.lays112_ren := {
  mixed := by kernel_rfl
  f112 := Tryz.func53.trans (congrArg some (by kernel_rfl))
  t0 := Tryz.underlying0
  a0 := Tryz.isAgg0
  z0 := Tryz.sizeOf0
  v0 := Tryz.zeroValue0
  t3 := Tryz.underlying3
  a3 := Tryz.isAgg3
  z3 := Tryz.sizeOf3
  v3 := Tryz.zeroValue3
  t4 := Tryz.underlying4
  a4 := Tryz.isAgg4
  z4 := Tryz.sizeOf4
  v4 := Tryz.zeroValue4
  t28 := Tryz.underlying44
  a28 := Tryz.isAgg44
  z28 := Tryz.sizeOf44
  v28 := Tryz.zeroValue44 }
open Go.RowKit Go.Lib Go.Sort in
theorem Tryz.slices_Reverse_int (blk off cap : Nat) (zs : List Int) (w : World) (hH : Holds (Value.int .i64) w blk off zs.toArray) (hsz : zs.length ≤ 9223372036854775807) :
    Calls Tryz.prog 53 #[.slice (some ⟨blk, off, none⟩) zs.length cap] w fun e w' => e = .returned (.tuple #[]) ∧ ∃ n, w' = putRow (Value.int .i64) (Sort.ahead w n) blk off zs.reverse.toArray := Any.slices_Reverse_int Tryz.lays112 blk off cap zs w hH hsz
open Go.RowKit Go.Lib Go.Sort in
theorem Tryz.slices_Reverse_int_empty (a : Option Addr) (cap : Nat) (w : World) :
    Calls Tryz.prog 53 #[.slice a 0 cap] w fun e w' => e = .returned (.tuple #[]) ∧ w' = w := Any.slices_Reverse_int_empty Tryz.lays112 a cap w
def Tryz.laysNm215_ren : Go.Shelf.Ren := ⟨fun | 15 => 52 | n => n, fun | 22 => 44 | 3 => 3 | 4 => 4 | n => n, fun | n => n⟩
theorem Tryz.laysNm215 : Go.Proofs.Lays2.n15 Tryz.prog Tryz.laysNm215_ren := {
  mixed := by kernel_rfl
  f15 := Tryz.func52.trans (congrArg some (by kernel_rfl))
  t3 := Tryz.underlying3
  a3 := Tryz.isAgg3
  z3 := Tryz.sizeOf3
  v3 := Tryz.zeroValue3
  t4 := Tryz.underlying4
  a4 := Tryz.isAgg4
  z4 := Tryz.sizeOf4
  v4 := Tryz.zeroValue4
  t22 := Tryz.underlying44
  a22 := Tryz.isAgg44
  z22 := Tryz.sizeOf44
  v22 := Tryz.zeroValue44
  i3 := by kernel_rfl }
open Go.RowKit Go.Lib in
theorem Tryz.slices_Clone_int (b off n c : Nat) (zs : List Int) (w : World) (hz : n ≤ zs.length) (hbig : n * 8 ≤ 140737488355328) (hc : ∀ j, j < zs.length → w.cell? ⟨b, off + j, none⟩ = some (.int .i64 (zs.getD j 0))) :
    Calls Tryz.prog 52 #[.slice (some ⟨b, off, none⟩) n c] w fun e w' => ∃ v', e = .returned v' ∧ w'.ownsRow w.heap.size 3 1 v' n ((zs.take n).map (Value.int .i64)) ∧ v' ≠ .slice none 0 0 ∧ Below w.heap.size w w' := Any.slices_Clone_int Tryz.laysNm215 b off n c zs w hz hbig hc
open Go.RowKit Go.Lib in
theorem Tryz.slices_Clone_int_nil (n c : Nat) (w : World) :
    Calls Tryz.prog 52 #[.slice none n c] w fun e w' => e = .returned (.slice none 0 0) ∧ w' = w := Any.slices_Clone_int_nil Tryz.laysNm215 n c w
open Go.RowKit Go.Lib in
theorem Tryz.slices_Clone_int_zero (a : Addr) (c : Nat) (w : World) :
    Calls Tryz.prog 52 #[.slice (some a) 0 c] w fun e w' => ∃ v', e = .returned v' ∧ w'.ownsRow w.heap.size 3 1 v' 0 [] ∧ v' ≠ .slice none 0 0 ∧ Below w.heap.size w w' := Any.slices_Clone_int_zero Tryz.laysNm215 a c w
open Go.RowKit in
theorem Tryz.Builder_WriteString (B b : Nat) (bs : List Value) (s : ByteArray) (w : World) (h : Lib.IsBuilder 95 5 B b bs w) (hlen : bs.length + s.size ≤ 140737488355328) (hBw : B ≤ w.heap.size) :
    Calls Tryz.prog 42 #[.pointer (some ⟨b, 0, none⟩), .string s] w fun e w' => e = .returned (.tuple #[.int .i64 s.size, .nilIface]) ∧ (Lib.BuilderAt 95 5 B b (.pointer (some ⟨b, 0, none⟩)) (bs ++ Lib.strCells s) w' ∧ Below B w w') :=
  Any.Builder_WriteString { Tryz.lays156 with } Tryz.Builder_Extra_156 B b bs s w h hlen hBw
end Go.Proofs

set_option linter.unusedVariables false
set_option linter.unusedSimpArgs false
set_option maxRecDepth 100000
namespace Go.Fl
open Go Go.Proofs
def Pow (w : World) : Prop := Lib.TabIs Tryz.prog w "internal/strconv.uint64pow10" .u64 Lib.pow10Tab
theorem Pow.keep0 {w0 w : World} {L : List Chunk} (h : Pow w0) (hw : Own w0 [] w L) : Pow w := by
  unfold Pow Lib.TabIs World.var? at *
  cases hg : Tryz.prog.globalNamed "internal/strconv.uint64pow10" with
  | none => rw [hg] at h; cases h
  | some g =>
    rw [hg] at h
    simp only [Option.bind_some] at h ⊢
    have hlt : g < w0.heap.size := by
      rcases Nat.lt_or_ge g w0.heap.size with h1 | h1
      · exact h1
      · rw [Array.getElem?_eq_none h1] at h; cases h
    rw [hw.old g hlt (by simp)]; exact h
theorem itoa_calls {a : Int} {w : World} (ha : I64 a) (hp : Pow w) : Calls Tryz.prog 110 #[.int .i64 a] w (Ret w [] fun v L => L = [] ∧ v = str (Lib.itoa a)) := by
  refine (Tryz.strconv_Itoa a ha.1 ha.2 w hp).mono ?_
  rintro e w' ⟨rfl, k, os, rfl⟩
  exact ⟨_, [], rfl, ⟨rfl, rfl⟩, own_grow w k os⟩
theorem text_calls {a : Int} {w : World} (ha : I64 a) (hp : Pow w) : Calls Tryz.prog 83 #[.int .i64 a] w (Ret w [] fun v L => L = [] ∧ v = str (Lib.itoa a)) := by
  refine calls_of (args := [_]) (L := []) Tryz.func83 rfl Tryz.ntmps83 rfl (Own.start _ _) ?_
  refine Zs ?_
  refine Za ?_
  refine Zx ?_
  refine Zs ?_
  refine Zm ?_
  refine Seq.rel0 rfl rfl (r_call en110 rfl rfl rfl (fun w hw => itoa_calls ha (hp.keep0 hw))) ?_
  rintro _ rfl
  refine Za ?_
  refine Zx ?_
  refine DC.ret ?_
  refine Fin.end1 (.inl rfl) rfl rfl ?_
  exact ⟨rfl, rfl⟩
theorem joinN_calls {c : Nat} {w : World} : Calls Tryz.prog 84 #[.slice none 0 c, str [32]] w (Ret w [] fun v L => L = [] ∧ v = str []) := by
  refine (Tryz.strings_Join_none none c _ w).mono ?_
  rintro e w' ⟨rfl, rfl⟩
  exact ⟨_, [], rfl, ⟨rfl, rfl⟩, Own.start _ _⟩
theorem joinS_calls {g c t : Nat} {xs : List (List UInt8)} {sp : List Value} {w : World} (hb : w.heap[g]? = some (.cells (strs xs ++ sp).toArray t (0, 0))) (hN : xs.length ≤ 140737488355328) (hc : xs.length ≤ c) (hl : (Lib.join xs [32]).length ≤ 140737488355328) :
    Calls Tryz.prog 84 #[.slice (some ⟨g, 0, none⟩) xs.length c, str [32]] w (Ret w [] fun v L => L = [] ∧ v = str (Lib.join xs [32])) := by
  have e1 : (xs.map fun l => (⟨l.toArray⟩ : ByteArray)).map (·.data.toList) = xs := by rw [List.map_map]; exact List.map_id'' (fun _ => rfl) xs
  have h := Tryz.strings_Join g 0 c (xs.map fun l => (⟨l.toArray⟩ : ByteArray)) ⟨[32].toArray⟩ w ?_ ?_ (by simpa using hN) (by simpa using hc) (by rw [e1]; exact hl)
  · rw [e1] at h
    simp only [List.length_map] at h
    refine h.mono ?_
    rintro e w' ⟨rfl, hbl⟩
    exact ⟨_, [], rfl, ⟨rfl, rfl⟩, own_below hbl⟩
  · intro j x hj
    simp only [List.getElem?_map, Option.map_eq_some_iff] at hj
    obtain ⟨l, hl, rfl⟩ := hj
    rw [cell_of_row w g _ _ t (0, 0) hb]
    have : j < xs.length := (List.getElem?_eq_some_iff.1 hl).1
    rw [List.getElem?_eq_getElem this] at hl; cases hl
    simp [strs, List.getElem?_append, this, str]
  · exact (Array.getElem?_eq_some_iff.1 hb).1
theorem join_calls {xs : List (List UInt8)} {v : Value} {w0 w : World} {K : List Nat} {F : List Chunk} (hO : Own w0 K w (slc v 9 1 (strs xs) :: F)) (hN : xs.length ≤ 140737488355328) (hl : (Lib.join xs [32]).length ≤ 140737488355328) :
    Calls Tryz.prog 84 #[v, str [32]] w (Ret w [] fun v L => L = [] ∧ v = str (Lib.join xs [32])) := by
  rcases own_open hO with ⟨rfl, e2, _⟩ | ⟨g, len, cap', sp, rfl, e2, e3, e4, e5, hO'⟩
  · have e3 : xs = [] := by simpa [strs] using e2
    subst e3; exact joinN_calls
  · have e6 : len = xs.length := by simpa [strs] using e2.symm
    subst e6
    exact joinS_calls (hO'.holds _ (List.mem_cons_self ..)) hN e3 hl
structure LineI where
  i : Nat
  v : Value
theorem line_calls {ns : List Int} {v : Value} {w : World} (hv : SlV w v ns) (hi : ∀ a, a ∈ ns → I64 a) (hp : Pow w) (hl : ns.length ≤ 2199023255552) :
    Calls Tryz.prog 43 #[v] w (Ret w [] fun v L => L = [] ∧ v = str (lineB ns)) := by
  obtain ⟨A, cap, rfl, hr, hlc, hcm, hle⟩ := hv
  refine calls_of (args := [_]) (L := []) Tryz.func43 rfl Tryz.ntmps43 rfl (Own.start _ _) ?_
  refine Zs ?_
  refine Za ?_
  refine Zx ?_
  refine Zs ?_
  refine Za ?_
  refine Zx ?_
  refine DC.seq ?_
  refine Zs ?_
  refine Zm ?_
  refine Zn Tryz.underlying44 ?_
  refine Zm ?_
  refine Zx ?_
  refine DC.block ?_
  refine DC.own (fun w hw => own_nil (t := 9) (m := 1) hw) ?_
  refine DC.loop (ι := LineI) (fun j => j.i ≤ ns.length)
    (fun j => [(3, j.v), (6, .slice A ns.length cap), (7, .int .i64 ns.length), (8, .int .i64 j.i)])
    (fun j => [slc j.v 9 1 (strs ((ns.take j.i).map Lib.itoa))]) (fun j => ns.length - j.i) ⟨0, .slice none 0 0⟩ (Nat.zero_le _) ⟨rfl, rfl, rfl, rfl, trivial⟩ (.cons 0 rfl .nil) ?_
  rintro ⟨i, v3⟩ hi'
  dsimp only at hi' ⊢
  refine Zs ?_
  refine Zc ?_
  refine Zx ?_
  refine DC.seq ?_
  refine DC.cond rfl (fun c3 => ?_) (fun c3 => ?_)
  · have hlt : i < ns.length := by simpa using c3
    obtain ⟨x, hx⟩ : ∃ x, ns[i]? = some x := ⟨_, List.getElem?_eq_getElem hlt⟩
    obtain ⟨ad, rfl, hcx⟩ := hr.int hx
    have hxi : I64 x := hi x (List.mem_of_getElem? hx)
    refine DC.skip ?_
    refine Fin.then ?_
    refine DC.seq ?_
    refine DC.block ?_
    refine Zs ?_
    refine Zi Tryz.underlying44 sz3 ?_
    refine Seq.val rfl rfl (v_load rfl rfl ag3 (has_old' hcx)) ?_
    refine Za ?_
    refine Zx ?_
    refine DC.region ?_
    refine Zm ?_
    refine Zm ?_
    refine Seq.rel0 rfl rfl (r_call en83 rfl rfl rfl (fun w hw => text_calls hxi (hp.keep0 hw))) ?_
    rintro _ rfl
    refine Seq.new rfl rfl (n_slit (cs := #[_]) rfl rfl Tryz.underlying150 sz9 ze9 rfl (by decide) (by decide) rfl rfl) fun g15 => ?_
    refine Seq.gen rfl rfl (g_append rfl rfl rfl Tryz.underlying150 sz9 by9 ze9 rfl (by decide) (by decide) (fun w hw => hw.pick (.cons 1 rfl .nil)) (.inl ⟨_, _, rfl, hass_blk rfl⟩) rfl (strs_one [Lib.itoa x]) (by simp; omega)) ?_
    rintro v16 _ rfl
    refine Za ?_
    refine Seq.nil ?_
    refine Fin.inBlock ?_
    refine Fin.then ?_
    refine DC.region ?_
    refine Zp ?_
    refine Zm ?_
    refine Seq.nil ?_
    refine Fin.again ⟨i + 1, v16⟩ (by dsimp only; omega) (by dsimp only; omega) ⟨rfl, rfl, rfl, rfl, trivial⟩ (.cons' 0 rfl (by rw [List.take_add_one, hx]; simp [strs]) .nil)
  · refine DC.exit ?_
    refine Fin.exit_then <| Fin.exit_then <| Fin.exit_here <| ?_
    refine Fin.then ?_
    refine DC.seq ?_
    have hin : i = ns.length := by simp at c3; omega
    subst hin
    simp only [List.take_length]
    have hjl := join_len (k := 20) (ns.map Lib.itoa) (by simp; intro a ha; exact itoa_len (hi a ha))
    simp only [List.length_map] at hjl
    refine DC.region ?_
    refine Zm ?_
    refine Seq.rel0 rfl rfl (r_call en84 rfl rfl rfl (fun w hw => join_calls hw (by simp; omega) (by omega))) ?_
    rintro _ rfl
    refine Seq.pur rfl rfl (p_strcat (a := Lib.join (ns.map Lib.itoa) [32]) (b := [10]) rfl rfl rfl (by simp; omega)) ?_
    refine Za ?_
    refine Zx ?_
    refine DC.ret ?_
    refine Fin.weak (E' := [(2, _)]) ⟨rfl, trivial⟩ .nil ?_
    refine Fin.end1 (.inl rfl) rfl rfl ?_
    exact ⟨rfl, rfl⟩
end Go.Fl

set_option linter.unusedVariables false
set_option linter.unusedSimpArgs false
set_option maxRecDepth 100000
namespace Go.Fl
open Go Go.Proofs
/-- A builder in block b, its buffer v, that holds these bytes. -/
def bldr (b : Nat) (v : Value) (bs : List UInt8) : Chunk :=
  ⟨b :: v.ownBlock.toList, fun w => ∃ p, (p = .pointer none ∨ p = .pointer (some ⟨b, 0, none⟩)) ∧ w.heap[b]? = some (.cells #[p, v] 95 (0, 0)) ∧
      w.ownsRow b 5 1 v (Lib.byteCells bs).length (Lib.byteCells bs) ∧ v.ownBlock ≠ some b,
    fun w w' h hh => by
      obtain ⟨p, h1, h2, h3, h4⟩ := hh
      exact ⟨p, h1, (h b (List.mem_cons_self ..)).trans h2, ownsRow_of h3 fun g hg => h g (by rw [hg]; simp), h4⟩⟩
theorem bldr_is {b : Nat} {v : Value} {bs : List UInt8} {w : World} (h : (bldr b v bs).holds w) : Lib.IsBuilder 95 5 b b (Lib.byteCells bs) w := by
  obtain ⟨p, rfl | rfl, h2, h3, h4⟩ := h
  · exact .inl ⟨Nat.le_refl _, v, h2, h3, h4⟩
  · exact .inr ⟨Nat.le_refl _, v, h2, h3, h4⟩
section
variable {w0 w w' : World} {K : List Nat} {n : Nat} {ds : List Deferred} {E : Env} {L F : List Chunk} {o : Oper} {x : Operand} {v : Value} {b : Nat} {bs s : List UInt8}
theorem own_bldr (hw : Own w0 K w (blk b 95 #[.pointer none, .slice none 0 0] :: F)) : Own w0 K w (bldr b (.slice none 0 0) [] :: F) :=
  own_imp (c' := bldr b (.slice none 0 0) []) (by rfl) (fun w hh => ⟨_, .inl rfl, hh, ⟨rfl, .inl ⟨rfl, rfl⟩⟩, by simp [Value.ownBlock]⟩) hw
/-- What a call on a builder leaves: the builder alone. -/
theorem own_after (hw : Own w0 [] w (bldr b v bs :: F)) (hb : RowKit.Below b w w') {v' : Value} (h : (bldr b v' s).holds w') : Own w0 [] w' [bldr b v' s] := by
  have hbf : w0.heap.size ≤ b := by
    rcases hw.fresh b (by simp [bldr]) with h1 | h1
    · simp at h1
    · exact h1
  obtain ⟨p, h1, h2, h3, h4⟩ := h
  refine ⟨hb.os.trans hw.os, hb.tape.trans hw.tape, hb.output.trans hw.output, .inl trivial, Nat.le_trans hw.size hb.size, fun k hk hn => ?_, ?_, fun g hg => .inr ?_, fun g hg => ?_, fun c hc => ?_⟩
  · rw [hb.block k (by omega)]; exact hw.old k hk hn
  · simp only [idsOf_cons, idsOf_nil, List.append_nil, bldr, List.nodup_cons]
    refine ⟨fun hm => h4 (by simpa [eq_comm] using hm), ?_⟩
    cases v'.ownBlock <;> simp
  · simp only [idsOf_cons, idsOf_nil, List.append_nil, bldr, List.mem_cons] at hg
    rcases hg with rfl | hg
    · exact hbf
    · have := (h3.lt g (by simpa [eq_comm] using hg)).1; omega
  · simp only [idsOf_cons, idsOf_nil, List.append_nil, bldr, List.mem_cons] at hg
    rcases hg with rfl | hg
    · exact (Array.getElem?_eq_some_iff.1 h2).1
    · exact (h3.lt g (by simpa [eq_comm] using hg)).2
  · simp at hc; subst hc
    exact ⟨p, h1, h2, h3, h4⟩
theorem own_gone (hw : Own w0 [] w (bldr b v bs :: F)) (hb : RowKit.Below b w w') : Own w0 [] w' [] := by
  have hbf : w0.heap.size ≤ b := by
    rcases hw.fresh b (by simp [bldr]) with h1 | h1
    · simp at h1
    · exact h1
  exact ⟨hb.os.trans hw.os, hb.tape.trans hw.tape, hb.output.trans hw.output, .inl trivial, Nat.le_trans hw.size hb.size, fun k hk hn => (hb.block k (by omega)).trans (hw.old k hk hn), by simp, by simp, by simp, by simp⟩
theorem blen_calls (h : (bldr b v bs).holds w) : Calls Tryz.prog 44 #[.pointer (some ⟨b, 0, none⟩)] w (Ret w [] fun u L => L = [] ∧ u = .int .i64 bs.length) := by
  refine (Tryz.Builder_Len b b _ w (bldr_is h)).mono ?_
  rintro e w' ⟨rfl, rfl⟩
  exact ⟨_, [], rfl, ⟨rfl, by rw [Lib.byteCells_length]⟩, Own.start _ _⟩
theorem g_write {ts : Array Nat} {xs : Array Operand} (ho : o.op = .call ⟨.value x, xs, ts⟩) (hx : ev n E x = some (.func (.func 42) #[] #[]))
    (hxs : evs n E xs.toList = some [.pointer (some ⟨b, 0, none⟩), str s]) (hL : ∀ w, Own w0 [] w L → Own w0 [] w (bldr b v bs :: F)) (hl : bs.length + s.length ≤ 140737488355328) :
    Gen Tryz.prog w0 [] n ds E L o (fun u M => ∃ v', M = [bldr b v' (bs ++ s)]) := by
  intro a w ha hw
  have hw1 := hL w hw
  have hh := hw1.holds _ (List.mem_cons_self ..)
  unfold RunsTo
  rw [run_call en42 ho ha hx hxs]
  have hlt := hw1.lt b (by simp [bldr])
  refine Calls.mono (Tryz.Builder_WriteString b b _ ⟨s.toArray⟩ w (bldr_is hh) (by rw [Lib.byteCells_length]; simpa [ByteArray.size] using hl) (by omega)) ?_
  rintro e w' ⟨rfl, ⟨_, v', h1, h2, h3⟩, hb⟩
  have e1 : Lib.strCells ⟨s.toArray⟩ = Lib.byteCells s := rfl
  rw [e1, ← Lib.byteCells_append] at h2
  exact ⟨_, rfl, _, ⟨v', rfl⟩, own_after hw1 hb ⟨_, .inr rfl, h1, h2, h3⟩⟩
theorem g_string {ts : Array Nat} {xs : Array Operand} (ho : o.op = .call ⟨.value x, xs, ts⟩) (hx : ev n E x = some (.func (.func 45) #[] #[]))
    (hxs : evs n E xs.toList = some [.pointer (some ⟨b, 0, none⟩)]) (hL : ∀ w, Own w0 [] w L → Own w0 [] w (bldr b v bs :: F)) :
    Gen Tryz.prog w0 [] n ds E L o (fun u M => u = str bs ∧ M = []) := by
  intro a w ha hw
  have hw1 := hL w hw
  have hh := hw1.holds _ (List.mem_cons_self ..)
  unfold RunsTo
  rw [run_call en45 ho ha hx hxs]
  have hlt := hw1.lt b (by simp [bldr])
  refine Calls.mono (Tryz.Builder_String_any b b bs w (bldr_is hh) (by omega)) ?_
  rintro e w' ⟨rfl, hb⟩
  exact ⟨_, rfl, _, ⟨rfl, rfl⟩, own_gone hw1 hb⟩
end
end Go.Fl

set_option linter.unusedVariables false
set_option linter.unusedSimpArgs false
set_option maxRecDepth 100000
namespace Go.Fl
open Go Go.Proofs
theorem fits_calls (a : Int) (w : World) : Calls Tryz.prog 85 #[.int .i64 a] w (Ret w [] fun v L => L = [] ∧ ∃ b, v = .bool b ∧ (b = true ↔ Fits a)) := by
  refine calls_of (args := [_]) (L := []) Tryz.func85 rfl Tryz.ntmps85 rfl (Own.start _ _) ?_
  refine Zs ?_
  refine Za ?_
  refine Zx ?_
  refine Zs ?_
  refine Zm ?_
  refine Seq.pur rfl rfl (p_geq rfl rfl rfl) ?_
  refine Zm ?_
  refine Seq.split 5 rfl (fun k1_2 => ?_) (fun k1_2 => ?_)
  · refine Zm ?_
    refine Seq.pur rfl rfl (p_leq rfl rfl rfl) ?_
    refine Zt ?_
    refine Za ?_
    refine Zx ?_
    refine DC.ret ?_
    refine Fin.end1 (.inl rfl) rfl rfl ?_
    refine ⟨rfl, _, rfl, ?_⟩
    unfold Fits
    simp_all
    try omega
  · refine Zk ?_
    refine Zk ?_
    refine Zg ?_
    refine Za ?_
    refine Zx ?_
    refine DC.ret ?_
    refine Fin.end1 (.inl rfl) rfl rfl ?_
    refine ⟨rfl, _, rfl, ?_⟩
    unfold Fits
    simp_all
    try omega
theorem after_calls (a b c d : Int) (w : World) : Calls Tryz.prog 86 #[.agg #[.int .i64 a, .int .i64 b], .agg #[.int .i64 c, .int .i64 d]] w (Ret w [] fun v L => L = [] ∧ ∃ r, v = .bool r ∧ (r = true ↔ Lex (a, b) (c, d))) := by
  refine calls_of (args := [_, _]) (L := []) Tryz.func86 rfl Tryz.ntmps86 rfl (Own.start _ _) ?_
  refine Zs ?_
  refine Seq.new rfl rfl (n_box rfl rfl rfl) fun g2 => ?_
  refine Seq.new rfl rfl (n_box rfl rfl rfl) fun g3 => ?_
  refine Za ?_
  refine Zx ?_
  refine Zs ?_
  refine Zf fi43_0 ?_
  refine Zl ag3 ?_
  refine Zf fi43_0 ?_
  refine Zl ag3 ?_
  refine Seq.pur rfl rfl (p_gtr rfl rfl rfl) ?_
  refine Zm ?_
  refine Seq.split 10 rfl (fun k1_5 => ?_) (fun k1_5 => ?_)
  · refine Zk ?_
    refine Zk ?_
    refine Zk ?_
    refine Zk ?_
    refine Zk ?_
    refine Zk ?_
    refine Zk ?_
    refine Zk ?_
    refine Zk ?_
    refine Zk ?_
    refine Zk ?_
    refine Zk ?_
    refine Zt ?_
    refine Za ?_
    refine Zx ?_
    refine DC.ret ?_
    refine Fin.weak (E' := [(4, _)]) ⟨rfl, trivial⟩ .nil ?_
    refine Fin.end1 (.inl rfl) rfl rfl ?_
    refine ⟨rfl, _, rfl, ?_⟩
    unfold Lex
    simp_all
    try omega
  · refine Zf fi43_0 ?_
    refine Zl ag3 ?_
    refine Zf fi43_0 ?_
    refine Zl ag3 ?_
    refine Seq.pur rfl rfl (p_eql rfl rfl rfl) ?_
    refine Zm ?_
    refine Seq.split 16 rfl (fun k1_11 => ?_) (fun k1_11 => ?_)
    · refine Zf fi43_1 ?_
      refine Zl ag3 ?_
      refine Zf fi43_1 ?_
      refine Zl ag3 ?_
      refine Seq.pur rfl rfl (p_gtr rfl rfl rfl) ?_
      refine Zt ?_
      refine Zg ?_
      refine Za ?_
      refine Zx ?_
      refine DC.ret ?_
      refine Fin.weak (E' := [(4, _)]) ⟨rfl, trivial⟩ .nil ?_
      refine Fin.end1 (.inl rfl) rfl rfl ?_
      refine ⟨rfl, _, rfl, ?_⟩
      unfold Lex
      simp_all
      try omega
    · refine Zk ?_
      refine Zk ?_
      refine Zk ?_
      refine Zk ?_
      refine Zk ?_
      refine Zg ?_
      refine Zg ?_
      refine Za ?_
      refine Zx ?_
      refine DC.ret ?_
      refine Fin.weak (E' := [(4, _)]) ⟨rfl, trivial⟩ .nil ?_
      refine Fin.end1 (.inl rfl) rfl rfl ?_
      refine ⟨rfl, _, rfl, ?_⟩
      unfold Lex
      simp_all
      try omega
theorem llines_calls (A : Option Addr) (len cap : Nat) (w : World) : Calls Tryz.prog 220 #[.slice A len cap] w (Ret w [] fun v L => L = [] ∧ v = .int .i64 len) := by
  refine calls_of (args := [_]) (L := []) Tryz.func220 rfl Tryz.ntmps220 rfl (Own.start _ _) ?_
  refine Zs ?_
  refine Za ?_
  refine Zx ?_
  refine Zs ?_
  refine Zm ?_
  refine Zn Tryz.underlying153 ?_
  refine Za ?_
  refine Zx ?_
  refine DC.ret ?_
  refine Fin.end1 (.inl rfl) rfl rfl ?_
  exact ⟨rfl, rfl⟩
theorem elines_calls (A : Option Addr) (len cap : Nat) (w : World) : Calls Tryz.prog 221 #[.slice A len cap] w (Ret w [] fun v L => L = [] ∧ v = .int .i64 len) := by
  refine calls_of (args := [_]) (L := []) Tryz.func221 rfl Tryz.ntmps221 rfl (Own.start _ _) ?_
  refine Zs ?_
  refine Za ?_
  refine Zx ?_
  refine Zs ?_
  refine Zm ?_
  refine Zn Tryz.underlying154 ?_
  refine Za ?_
  refine Zx ?_
  refine DC.ret ?_
  refine Fin.end1 (.inl rfl) rfl rfl ?_
  exact ⟨rfl, rfl⟩
/-- The form of a certificate. -/
theorem formOf_calls (b : Bool) (A A' : Option Addr) (n m cap cap' : Nat) (w : World) :
    Calls Tryz.prog 46 #[.agg #[.bool b, .slice A n cap, .slice A' m cap']] w (Ret w [] fun v L => L = [] ∧
      v = if b then .tuple #[.iface 153 (.slice A n cap), .bool (decide (m = 0))] else .tuple #[.iface 154 (.slice A' m cap'), .bool (decide (n = 0))]) := by
  refine calls_of (args := [_]) (L := []) Tryz.func46 rfl Tryz.ntmps46 rfl (Own.start _ _) ?_
  refine Zs ?_
  refine Seq.new rfl rfl (n_box rfl rfl rfl) fun g1 => ?_
  refine Za ?_
  refine Za ?_
  refine Zx ?_
  refine DC.seq ?_
  refine Zs ?_
  refine Zf fi27_0 ?_
  refine Zl ag4 ?_
  refine Zx ?_
  refine DC.cond rfl (fun c1 => ?_) (fun c1 => ?_)
  · refine DC.seq ?_
    refine DC.flow (cl := [.q, .v, .q, .q, .v, .q, .q, .q, .q]) (A := [0, 1, 3, 0, 8, 24, 56, 7, 255]) (order := [0, 1, 2, 3, 4, 5, 6, 7, 8]) [] mixed (by kernel_rfl) (fun w hw => hw.pick .nil) ?_
    refine Yf fi27_1 ?_
    refine Yl ag25 ?_
    refine Flow.pur rfl rfl rfl (p_mkif (v := .iface 153 (.slice A n cap)) rfl rfl (fun w => by kernel_rfl)) ?_
    refine Yf fi27_2 ?_
    refine Yl ag22 ?_
    refine Flow.pur rfl rfl rfl (p_len rfl rfl Tryz.underlying22) ?_
    refine Flow.pur rfl rfl rfl (p_eql rfl rfl rfl) ?_
    refine Flow.pur rfl rfl rfl (p_assign rfl rfl) ?_
    refine Flow.pur rfl rfl rfl (p_assign rfl rfl) ?_
    refine Flow.end rfl ?_
    simp only [List.map_cons, List.map_nil, List.nil_append, List.cons_append, List.append_nil]
    refine Fin.then ?_
    refine DC.ret ?_
    refine Fin.ret_then <| ?_
    refine Fin.weak (E' := [(2, _), (3, _)]) ⟨rfl, rfl, trivial⟩ .nil ?_
    refine Fin.end2 (.inl rfl) rfl rfl rfl ?_
    exact ⟨rfl, by subst c1; simp⟩
  · refine DC.skip ?_
    refine Fin.then ?_
    refine DC.seq ?_
    refine DC.flow (cl := [.q, .v, .q, .q, .v, .q, .q, .q, .q]) (A := [0, 1, 3, 0, 8, 24, 56, 7, 255]) (order := [0, 1, 2, 3, 4, 5, 6, 7, 8]) [] mixed (by kernel_rfl) (fun w hw => hw.pick .nil) ?_
    refine Yf fi27_2 ?_
    refine Yl ag22 ?_
    refine Flow.pur rfl rfl rfl (p_mkif (v := .iface 154 (.slice A' m cap')) rfl rfl (fun w => by kernel_rfl)) ?_
    refine Yf fi27_1 ?_
    refine Yl ag25 ?_
    refine Flow.pur rfl rfl rfl (p_len rfl rfl Tryz.underlying25) ?_
    refine Flow.pur rfl rfl rfl (p_eql rfl rfl rfl) ?_
    refine Flow.pur rfl rfl rfl (p_assign rfl rfl) ?_
    refine Flow.pur rfl rfl rfl (p_assign rfl rfl) ?_
    refine Flow.end rfl ?_
    simp only [List.map_cons, List.map_nil, List.nil_append, List.cons_append, List.append_nil]
    refine Fin.then ?_
    refine DC.ret ?_
    refine Fin.weak (E' := [(2, _), (3, _)]) ⟨rfl, rfl, trivial⟩ .nil ?_
    refine Fin.end2 (.inl rfl) rfl rfl rfl ?_
    exact ⟨rfl, by subst c1; simp⟩
theorem headL_calls (ls : List (List Int)) (v : Value) (w : World) (hv : LsV w v ls) :
    Calls Tryz.prog 47 #[.iface 153 v] w (Ret w [] fun r L => L = [] ∧ ∃ b, r = .tuple #[str [112], .int .i64 1048576, .bool b] ∧ (b = true ↔ ListsOk ls)) := by
  obtain ⟨A, cap, rfl, hr, hlc, hcm, hle⟩ := hv
  refine calls_of (args := [_]) (L := []) Tryz.func47 rfl Tryz.ntmps47 rfl (Own.start _ _) ?_
  refine Zs ?_
  refine Za ?_
  refine Za ?_
  refine Za ?_
  refine Zx ?_
  refine DC.seq ?_
  refine Zs ?_
  refine Zm ?_
  refine Zx ?_
  refine DC.block ?_
  refine Zs ?_
  refine Seq.pur rfl rfl (p_assert (v := .tuple #[.slice A ls.length cap, .bool true]) rfl rfl (fun w => by kernel_rfl)) ?_
  refine Ze ?_
  refine Ze ?_
  refine Zx ?_
  refine DC.cond_t rfl ?_
  refine Zs ?_
  refine Za ?_
  refine Zx ?_
  refine DC.seq ?_
  refine Zs ?_
  refine Zm ?_
  refine Zn Tryz.underlying153 ?_
  refine Seq.pur rfl rfl (p_gtr rfl rfl rfl) ?_
  refine Zx ?_
  refine DC.cond rfl (fun c4 => ?_) (fun c4 => ?_)
  · refine Zs ?_
    refine Za ?_
    refine Za ?_
    refine Za ?_
    refine Zx ?_
    refine DC.ret ?_
    refine Fin.ret_then <| Fin.ret_block <| Fin.ret_then <| ?_
    refine Fin.weak (E' := [(2, _), (3, _), (4, _)]) ⟨rfl, rfl, rfl, trivial⟩ .nil ?_
    refine Fin.end3 (.inl rfl) rfl rfl rfl rfl ?_
    exact ⟨rfl, false, rfl, by simp; rintro ⟨h1, _⟩; simp at c4; omega⟩
  · refine DC.skip ?_
    refine Fin.then ?_
    refine DC.seq ?_
    refine Zs ?_
    refine Zm ?_
    refine Zn Tryz.underlying153 ?_
    refine Zm ?_
    refine Zx ?_
    refine DC.block ?_
    refine DC.loop (ι := Nat) (fun i => i ≤ ls.length ∧ ∀ (j : Nat) l, j < i → ls[j]? = some l → ListOk l)
      (fun i => [(20, .slice A ls.length cap), (21, .int .i64 ls.length), (22, .int .i64 i)])
      (fun i => []) (fun i => ls.length - i) 0 ⟨Nat.zero_le _, fun _ _ h => absurd h (Nat.not_lt_zero _)⟩ ⟨rfl, rfl, rfl, trivial⟩ .nil ?_
    rintro i ⟨hi, hok⟩
    refine Zs ?_
    refine Zc ?_
    refine Zx ?_
    refine DC.seq ?_
    refine DC.cond rfl (fun c7 => ?_) (fun c7 => ?_)
    · have hlt : i < ls.length := by simpa using c7
      obtain ⟨l, hl⟩ : ∃ l, ls[i]? = some l := ⟨_, List.getElem?_eq_getElem hlt⟩
      obtain ⟨ad, lv, rfl, hc, Al, capl, rfl, hrl, hl1, hl2, hl3⟩ := hr i l hl
      refine DC.skip ?_
      refine Fin.then ?_
      refine DC.seq ?_
      refine DC.block ?_
      refine Zs ?_
      refine Zi Tryz.underlying153 sz44 ?_
      refine Seq.val rfl rfl (v_load rfl rfl ag44 (has_old' hc)) ?_
      refine Za ?_
      refine Zx ?_
      refine Zs ?_
      refine Zm ?_
      refine Zn Tryz.underlying44 ?_
      refine Zm ?_
      refine Zx ?_
      refine DC.block ?_
      refine DC.loop (ι := Nat) (fun k => k ≤ l.length ∧ ∀ (j : Nat) x a, j < k → l[j]? = some x → l[0]? = some a → Fits x ∧ a ≤ x)
        (fun k => [(7, .slice Al l.length capl), (20, .slice (some ad) ls.length cap), (21, .int .i64 ls.length), (22, .int .i64 i), (26, .slice Al l.length capl), (27, .int .i64 l.length), (28, .int .i64 k)])
        (fun k => []) (fun k => l.length - k) 0 ⟨Nat.zero_le _, fun _ _ _ h => absurd h (Nat.not_lt_zero _)⟩ ⟨rfl, rfl, rfl, rfl, rfl, rfl, rfl, trivial⟩ .nil ?_
      rintro k ⟨hk, hokl⟩
      refine Zs ?_
      refine Zc ?_
      refine Zx ?_
      refine DC.seq ?_
      refine DC.cond rfl (fun c10 => ?_) (fun c10 => ?_)
      · have hlt2 : k < l.length := by simpa using c10
        obtain ⟨x, hx⟩ : ∃ x, l[k]? = some x := ⟨_, List.getElem?_eq_getElem hlt2⟩
        obtain ⟨a, ha⟩ : ∃ a, l[0]? = some a := ⟨_, List.getElem?_eq_getElem (by omega)⟩
        obtain ⟨adl, rfl, hcx⟩ := hrl.int hx
        obtain ⟨adl', e', hca⟩ := hrl.int ha
        cases e'
        refine DC.skip ?_
        refine Fin.then ?_
        refine DC.seq ?_
        refine DC.block ?_
        refine Zs ?_
        refine Zi Tryz.underlying44 sz3 ?_
        refine Seq.val rfl rfl (v_load rfl rfl ag3 (has_old' hcx)) ?_
        refine Za ?_
        refine Zx ?_
        refine Zs ?_
        refine Zm ?_
        refine Seq.rel0 rfl rfl (r_call en85 rfl rfl rfl (fun w hw => fits_calls x w)) ?_
        rintro _ ⟨b1, rfl, hb1⟩
        refine Seq.pur rfl rfl (p_not rfl rfl) ?_
        refine Zm ?_
        refine Seq.split 35 rfl (fun k12_3 => ?_) (fun k12_3 => ?_)
        · refine Zk ?_
          refine Zk ?_
          refine Zk ?_
          refine Zk ?_
          refine Zk ?_
          refine Zt ?_
          refine Zx ?_
          refine DC.cond_t rfl ?_
          refine Zs ?_
          refine Za ?_
          refine Za ?_
          refine Za ?_
          refine Zx ?_
          refine DC.ret ?_
          refine Fin.ret_block <| Fin.ret_then <| Fin.ret_then <| Fin.ret_block <| Fin.ret_block <| Fin.ret_then <| Fin.ret_then <| Fin.ret_block <| Fin.ret_then <| Fin.ret_block <| Fin.ret_then <| ?_
          refine Fin.weak (E' := [(2, _), (3, _), (4, _)]) ⟨rfl, rfl, rfl, trivial⟩ .nil ?_
          refine Fin.end3 (.inl rfl) rfl rfl rfl rfl ?_
          refine ⟨rfl, false, rfl, by simp; rintro ⟨_, h2⟩; have := h2 i l hl k x a hx ha; simp_all⟩
        · refine Zm ?_
          refine Zm ?_
          refine Zi Tryz.underlying44 sz3 ?_
          refine Seq.val rfl rfl (v_load rfl rfl ag3 (has_old' hca)) ?_
          refine Zc ?_
          refine Zg ?_
          refine Zx ?_
          refine DC.cond rfl (fun c12 => ?_) (fun c12 => ?_)
          · refine Zs ?_
            refine Za ?_
            refine Za ?_
            refine Za ?_
            refine Zx ?_
            refine DC.ret ?_
            refine Fin.ret_block <| Fin.ret_then <| Fin.ret_then <| Fin.ret_block <| Fin.ret_block <| Fin.ret_then <| Fin.ret_then <| Fin.ret_block <| Fin.ret_then <| Fin.ret_block <| Fin.ret_then <| ?_
            refine Fin.weak (E' := [(2, _), (3, _), (4, _)]) ⟨rfl, rfl, rfl, trivial⟩ .nil ?_
            refine Fin.end3 (.inl rfl) rfl rfl rfl rfl ?_
            refine ⟨rfl, false, rfl, by simp; rintro ⟨_, h2⟩; have := h2 i l hl k x a hx ha; simp_all; omega⟩
          · refine DC.skip ?_
            refine Fin.inBlock ?_
            refine Fin.then ?_
            refine DC.region ?_
            refine Zp ?_
            refine Zm ?_
            refine Seq.nil ?_
            refine Fin.again (k + 1) (by omega) ⟨by omega, ?_⟩ ⟨rfl, rfl, rfl, rfl, rfl, rfl, rfl, trivial⟩ .nil
            intro j x' a' hj hx' ha'
            rcases Nat.lt_succ_iff_lt_or_eq.1 hj with hj | rfl
            · exact hokl j x' a' hj hx' ha'
            · rw [hx] at hx'; cases hx'; rw [ha] at ha'; cases ha'
              simp at k12_3 c12
              exact ⟨hb1.1 k12_3, by omega⟩
      · refine DC.exit ?_
        refine Fin.exit_then <| Fin.exit_then <| Fin.exit_here <| ?_
        refine Fin.inBlock ?_
        refine Fin.then ?_
        refine DC.region ?_
        refine Zp ?_
        refine Zm ?_
        refine Seq.nil ?_
        have hkl : k = l.length := by simp at c10; omega
        subst hkl
        refine Fin.again (i + 1) (by omega) ⟨by omega, ?_⟩ ⟨rfl, rfl, rfl, trivial⟩ .nil
        intro j l' hj hl'
        rcases Nat.lt_succ_iff_lt_or_eq.1 hj with hj | rfl
        · exact hok j l' hj hl'
        · rw [hl] at hl'; cases hl'
          intro q x' a' hq ha'
          exact hokl q x' a' (List.getElem?_eq_some_iff.1 hq).1 hq ha'
    · refine DC.exit ?_
      refine Fin.exit_then <| Fin.exit_then <| Fin.exit_here <| ?_
      refine Fin.then ?_
      refine Zs ?_
      refine Za ?_
      refine Za ?_
      refine Za ?_
      refine Zx ?_
      refine DC.ret ?_
      refine Fin.ret_block <| Fin.ret_then <| ?_
      refine Fin.weak (E' := [(2, _), (3, _), (4, _)]) ⟨rfl, rfl, rfl, trivial⟩ .nil ?_
      refine Fin.end3 (.inl rfl) rfl rfl rfl rfl ?_
      have hil : i = ls.length := by simp at c7; omega
      subst hil
      refine ⟨rfl, true, rfl, by simp; exact ⟨by simp at c4; omega, fun j l hl => hok j l (List.getElem?_eq_some_iff.1 hl).1 hl⟩⟩
theorem headE_calls (es : List Pr) (v : Value) (w : World) (hv : PrV w v es) :
    Calls Tryz.prog 47 #[.iface 154 v] w (Ret w [] fun r L => L = [] ∧ ∃ b, r = .tuple #[str [110], .int .i64 4194304, .bool b] ∧ (b = true ↔ EdgesOk es)) := by
  obtain ⟨A, cap, rfl, hr, hlc, hcm, hle⟩ := hv
  refine calls_of (args := [_]) (L := []) Tryz.func47 rfl Tryz.ntmps47 rfl (Own.start _ _) ?_
  refine Zs ?_
  refine Za ?_
  refine Za ?_
  refine Za ?_
  refine Zx ?_
  refine DC.seq ?_
  refine Zs ?_
  refine Zm ?_
  refine Zx ?_
  refine DC.block ?_
  refine Zs ?_
  refine Seq.pur rfl rfl (p_assert (v := .tuple #[.slice none 0 0, .bool false]) rfl rfl (fun w => by kernel_rfl)) ?_
  refine Ze ?_
  refine Ze ?_
  refine Zx ?_
  refine DC.cond_f rfl ?_
  refine Zs ?_
  refine Seq.pur rfl rfl (p_assert (v := .tuple #[.slice A es.length cap, .bool true]) rfl rfl (fun w => by kernel_rfl)) ?_
  refine Ze ?_
  refine Ze ?_
  refine Zx ?_
  refine DC.cond_t rfl ?_
  refine Zs ?_
  refine Za ?_
  refine Zx ?_
  refine DC.seq ?_
  refine Zs ?_
  refine Zm ?_
  refine Zn Tryz.underlying154 ?_
  refine Seq.pur rfl rfl (p_gtr rfl rfl rfl) ?_
  refine Zx ?_
  refine DC.cond rfl (fun c19 => ?_) (fun c19 => ?_)
  · refine Zs ?_
    refine Za ?_
    refine Za ?_
    refine Za ?_
    refine Zx ?_
    refine DC.ret ?_
    refine Fin.ret_then <| Fin.ret_block <| Fin.ret_then <| ?_
    refine Fin.weak (E' := [(2, _), (3, _), (4, _)]) ⟨rfl, rfl, rfl, trivial⟩ .nil ?_
    refine Fin.end3 (.inl rfl) rfl rfl rfl rfl ?_
    exact ⟨rfl, false, rfl, by simp; intro h; have := h.few; simp at c19; omega⟩
  · refine DC.skip ?_
    refine Fin.then ?_
    refine DC.seq ?_
    refine Zs ?_
    refine Zm ?_
    refine Zn Tryz.underlying154 ?_
    refine Zm ?_
    refine Zx ?_
    refine DC.block ?_
    refine DC.loop (ι := Nat) (fun i => i ≤ es.length ∧ (∀ (j : Nat) e, j < i → es[j]? = some e → Fits e.1 ∧ Fits e.2 ∧ e.1 < e.2) ∧ ∀ (j : Nat) a b, j + 1 < i → es[j]? = some a → es[j + 1]? = some b → Lex a b)
      (fun i => [(10, .slice A es.length cap), (50, .slice A es.length cap), (51, .int .i64 es.length), (52, .int .i64 i)])
      (fun i => []) (fun i => es.length - i) 0 ⟨Nat.zero_le _, fun _ _ h => absurd h (Nat.not_lt_zero _), fun _ _ _ h => absurd h (Nat.not_lt_zero _)⟩ ⟨rfl, rfl, rfl, rfl, trivial⟩ .nil ?_
    rintro i ⟨hi, hok, hup⟩
    refine Zs ?_
    refine Zc ?_
    refine Zx ?_
    refine DC.seq ?_
    refine DC.cond rfl (fun c22 => ?_) (fun c22 => ?_)
    · have hlt : i < es.length := by simpa using c22
      obtain ⟨e, he⟩ : ∃ e, es[i]? = some e := ⟨_, List.getElem?_eq_getElem hlt⟩
      obtain ⟨ad, rfl, hU, hV⟩ := hr.pair he
      refine DC.skip ?_
      refine Fin.then ?_
      refine DC.seq ?_
      refine DC.block ?_
      refine Zs ?_
      refine Zm ?_
      refine Seq.pur rfl rfl (p_index rfl rfl rfl Tryz.underlying154 sz43 (by omega) (by omega) (by first | exact add_at0 _ _ | exact add_at _ _ _ | rfl)) ?_
      refine Seq.val rfl rfl (v_loads (vs := [_, _]) rfl rfl ag43 sz43 rfl (hass2 hU hV (by simp))) ?_
      refine Seq.new rfl rfl (n_alloc rfl ze43 rfl) fun g12 => ?_
      refine Za ?_
      refine Seq.sto rfl rfl (s_stores (cs' := #[_, _]) rfl rfl rfl sz43 rfl (Nat.le_of_ble_eq_true rfl) rfl) ?_
      refine Zx ?_
      refine DC.seq ?_
      refine DC.flow (cl := [.q, .v, .r, .q, .q, .q, .v, .r, .q, .q, .q, .q, .v, .q, .v, .q, .q, .q, .q, .q, .q, .q, .q, .q, .q, .v, .v, .r, .q, .q, .q]) (A := [0, 1, 3, 7, 15, 31, 63, 127, 255, 511, 1023, 2047, 4095, 2047, 10239, 32767, 65535, 131071, 262143, 524287, 1048575, 2097151, 2097151, 6291455, 16777215, 33554431, 2097151, 134217727, 268435455, 536870911, 1073741823]) (order := [0, 1, 2, 3, 4, 5, 6, 7, 8, 9, 10, 11, 12, 13, 14, 15, 16, 17, 18, 19, 20, 21, 22, 23, 24, 25, 26, 27, 28, 29, 30]) [] mixed (by kernel_rfl) (fun w hw => hw.pick .nil) ?_
      refine Yf fi43_0 ?_
      refine Yl ag3 ?_
      refine Flow.rel0 rfl rfl rfl rfl (r_call en85 rfl rfl rfl (fun w hw => fits_calls e.1 w)) ?_
      rintro _ ⟨b1, rfl, hb1⟩
      refine Flow.pur rfl rfl rfl (p_not rfl rfl) ?_
      refine Ym ?_
      refine Flow.split 61 rfl (fun k24_4 => ?_) (fun k24_4 => ?_)
      · refine Yk ?_
        refine Yk ?_
        refine Yk ?_
        refine Yk ?_
        refine Flow.pur rfl rfl rfl (p_pick_t rfl rfl rfl) ?_
        refine Ym ?_
        refine Yk ?_
        refine Yk ?_
        refine Yk ?_
        refine Yk ?_
        refine Yk ?_
        refine Flow.pur rfl rfl rfl (p_pick_t rfl rfl rfl) ?_
        refine Ym ?_
        refine Yk ?_
        refine Yk ?_
        refine Yk ?_
        refine Yk ?_
        refine Yk ?_
        refine Yk ?_
        refine Yk ?_
        refine Yk ?_
        refine Yk ?_
        refine Yk ?_
        refine Yk ?_
        refine Yk ?_
        refine Flow.pur rfl rfl rfl (p_pick_t rfl rfl rfl) ?_
        refine Flow.end rfl ?_
        simp only [List.map_cons, List.map_nil, List.nil_append, List.cons_append, List.append_nil]
        refine Fin.then ?_
        refine DC.cond_t rfl ?_
        refine Zs ?_
        refine Za ?_
        refine Za ?_
        refine Za ?_
        refine Zx ?_
        refine DC.ret ?_
        refine Fin.ret_block <| Fin.ret_then <| Fin.ret_then <| Fin.ret_block <| Fin.ret_then <| Fin.ret_block <| Fin.ret_then <| ?_
        refine Fin.weak (E' := [(2, _), (3, _), (4, _)]) ⟨rfl, rfl, rfl, trivial⟩ .nil ?_
        refine Fin.end3 (.inl rfl) rfl rfl rfl rfl ?_
        exact ⟨rfl, false, rfl, by simp; intro h; have := h.ok i e he; simp_all⟩
      · refine Yf fi43_1 ?_
        refine Yl ag3 ?_
        refine Flow.rel0 rfl rfl rfl rfl (r_call en85 rfl rfl rfl (fun w hw => fits_calls e.2 w)) ?_
        rintro _ ⟨b2, rfl, hb2⟩
        refine Flow.pur rfl rfl rfl (p_not rfl rfl) ?_
        refine Flow.pur rfl rfl rfl (p_pick_f rfl rfl rfl) ?_
        refine Ym ?_
        refine Flow.split 67 rfl (fun k24_10 => ?_) (fun k24_10 => ?_)
        · refine Yk ?_
          refine Yk ?_
          refine Yk ?_
          refine Yk ?_
          refine Yk ?_
          refine Flow.pur rfl rfl rfl (p_pick_t rfl rfl rfl) ?_
          refine Ym ?_
          refine Yk ?_
          refine Yk ?_
          refine Yk ?_
          refine Yk ?_
          refine Yk ?_
          refine Yk ?_
          refine Yk ?_
          refine Yk ?_
          refine Yk ?_
          refine Yk ?_
          refine Yk ?_
          refine Yk ?_
          refine Flow.pur rfl rfl rfl (p_pick_t rfl rfl rfl) ?_
          refine Flow.end rfl ?_
          simp only [List.map_cons, List.map_nil, List.nil_append, List.cons_append, List.append_nil]
          refine Fin.then ?_
          refine DC.cond_t rfl ?_
          refine Zs ?_
          refine Za ?_
          refine Za ?_
          refine Za ?_
          refine Zx ?_
          refine DC.ret ?_
          refine Fin.ret_block <| Fin.ret_then <| Fin.ret_then <| Fin.ret_block <| Fin.ret_then <| Fin.ret_block <| Fin.ret_then <| ?_
          refine Fin.weak (E' := [(2, _), (3, _), (4, _)]) ⟨rfl, rfl, rfl, trivial⟩ .nil ?_
          refine Fin.end3 (.inl rfl) rfl rfl rfl rfl ?_
          exact ⟨rfl, false, rfl, by simp; intro h; have := h.ok i e he; simp_all⟩
        · refine Yf fi43_0 ?_
          refine Yl ag3 ?_
          refine Yf fi43_1 ?_
          refine Yl ag3 ?_
          refine Flow.pur rfl rfl rfl (p_geq rfl rfl rfl) ?_
          refine Flow.pur rfl rfl rfl (p_pick_f rfl rfl rfl) ?_
          refine Ym ?_
          refine Flow.split 74 rfl (fun k24_17 => ?_) (fun k24_17 => ?_)
          · refine Yk ?_
            refine Yk ?_
            refine Yk ?_
            refine Yk ?_
            refine Yk ?_
            refine Yk ?_
            refine Yk ?_
            refine Yk ?_
            refine Yk ?_
            refine Yk ?_
            refine Yk ?_
            refine Yk ?_
            refine Flow.pur rfl rfl rfl (p_pick_t rfl rfl rfl) ?_
            refine Flow.end rfl ?_
            simp only [List.map_cons, List.map_nil, List.nil_append, List.cons_append, List.append_nil]
            refine Fin.then ?_
            refine DC.cond_t rfl ?_
            refine Zs ?_
            refine Za ?_
            refine Za ?_
            refine Za ?_
            refine Zx ?_
            refine DC.ret ?_
            refine Fin.ret_block <| Fin.ret_then <| Fin.ret_then <| Fin.ret_block <| Fin.ret_then <| Fin.ret_block <| Fin.ret_then <| ?_
            refine Fin.weak (E' := [(2, _), (3, _), (4, _)]) ⟨rfl, rfl, rfl, trivial⟩ .nil ?_
            refine Fin.end3 (.inl rfl) rfl rfl rfl rfl ?_
            exact ⟨rfl, false, rfl, by simp; intro h; have := h.ok i e he; simp_all; omega⟩
          · refine Ym ?_
            refine Flow.pur rfl rfl rfl (p_gtr rfl rfl rfl) ?_
            refine Ym ?_
            refine Flow.split 77 rfl (fun k24_20 => ?_) (fun k24_20 => ?_)
            · have hpos : 0 < i := by simpa using k24_20
              obtain ⟨d, hd⟩ : ∃ d, es[i - 1]? = some d := ⟨_, List.getElem?_eq_getElem (by omega)⟩
              obtain ⟨ad', h', hU', hV'⟩ := hr.pair hd
              cases h'
              have hii : ((i : Int) - 1).toNat = i - 1 := by omega
              refine Ym ?_
              refine Ym ?_
              refine Flow.pur rfl rfl rfl (p_sub rfl rfl rfl (by omega)) ?_
              refine Flow.pur rfl rfl rfl (p_index (ad' := ad.add ((i - 1) * 2)) rfl rfl rfl Tryz.underlying154 sz43 (by omega) (by omega) (by rw [hii])) ?_
              refine Flow.valS rfl rfl rfl rfl (v_loads (vs := [_, _]) rfl rfl ag43 sz43 rfl (hass2 hU' hV' (by simp))) ?_
              refine Flow.valS rfl rfl rfl rfl (v_loads (vs := [_, _]) rfl rfl ag43 sz43 rfl (hass_blk rfl)) ?_
              refine Flow.rel0 rfl rfl rfl rfl (r_call en86 rfl rfl rfl (fun w hw => after_calls d.1 d.2 e.1 e.2 w)) ?_
              rintro _ ⟨b3, rfl, hb3⟩
              refine Flow.pur rfl rfl rfl (p_not rfl rfl) ?_
              refine Flow.pur rfl rfl rfl (p_pick_t rfl rfl rfl) ?_
              refine Flow.pur rfl rfl rfl (p_pick_f rfl rfl rfl) ?_
              refine Flow.end rfl ?_
              simp only [List.map_cons, List.map_nil, List.nil_append, List.cons_append, List.append_nil]
              refine Fin.then ?_
              refine DC.cond rfl (fun c24 => ?_) (fun c24 => ?_)
              · refine Zs ?_
                refine Za ?_
                refine Za ?_
                refine Za ?_
                refine Zx ?_
                refine DC.ret ?_
                refine Fin.ret_block <| Fin.ret_then <| Fin.ret_then <| Fin.ret_block <| Fin.ret_then <| Fin.ret_block <| Fin.ret_then <| ?_
                refine Fin.weak (E' := [(2, _), (3, _), (4, _)]) ⟨rfl, rfl, rfl, trivial⟩ .nil ?_
                refine Fin.end3 (.inl rfl) rfl rfl rfl rfl ?_
                refine ⟨rfl, false, rfl, by simp; intro h; have := h.up (i - 1) d e hd (by rw [show i - 1 + 1 = i by omega]; exact he); simp_all⟩
              · refine DC.skip ?_
                refine Fin.inBlock ?_
                refine Fin.then ?_
                refine DC.region ?_
                refine Zp ?_
                refine Zm ?_
                refine Seq.nil ?_
                refine Fin.again (i + 1) (by omega) ⟨by omega, ?_, ?_⟩ ⟨rfl, rfl, rfl, rfl, trivial⟩ .nil
                · intro j x hj hx
                  rcases Nat.lt_succ_iff_lt_or_eq.1 hj with hj | rfl
                  · exact hok j x hj hx
                  · rw [he] at hx; cases hx
                    simp at k24_4 k24_10 k24_17
                    exact ⟨hb1.1 k24_4, hb2.1 k24_10, by omega⟩
                · intro j a b hj ha hb
                  rcases Nat.lt_succ_iff_lt_or_eq.1 hj with hj | hj
                  · exact hup j a b hj ha hb
                  · obtain rfl : j = i - 1 := by omega
                    rw [hd] at ha; cases ha
                    rw [show i - 1 + 1 = i by omega, he] at hb; cases hb
                    exact hb3.1 (by simpa using c24)
            · refine Yk ?_
              refine Yk ?_
              refine Yk ?_
              refine Yk ?_
              refine Yk ?_
              refine Yk ?_
              refine Yk ?_
              refine Yk ?_
              refine Flow.pur rfl rfl rfl (p_pick_f rfl rfl rfl) ?_
              refine Flow.pur rfl rfl rfl (p_pick_f rfl rfl rfl) ?_
              refine Flow.end rfl ?_
              simp only [List.map_cons, List.map_nil, List.nil_append, List.cons_append, List.append_nil]
              refine Fin.then ?_
              refine DC.cond_f rfl ?_
              refine DC.skip ?_
              refine Fin.inBlock ?_
              refine Fin.then ?_
              refine DC.region ?_
              refine Zp ?_
              refine Zm ?_
              refine Seq.nil ?_
              have h0 : i = 0 := by simp at k24_20; omega
              subst h0
              refine Fin.again 1 (by omega) ⟨by omega, ?_, ?_⟩ ⟨rfl, rfl, rfl, rfl, trivial⟩ .nil
              · intro j x hj hx
                obtain rfl : j = 0 := by omega
                rw [he] at hx; cases hx
                simp at k24_4 k24_10 k24_17
                exact ⟨hb1.1 k24_4, hb2.1 k24_10, by omega⟩
              · intro j a b hj; omega
    · refine DC.exit ?_
      refine Fin.exit_then <| Fin.exit_then <| Fin.exit_here <| ?_
      refine Fin.then ?_
      refine Zs ?_
      refine Za ?_
      refine Za ?_
      refine Za ?_
      refine Zx ?_
      refine DC.ret ?_
      refine Fin.ret_block <| Fin.ret_then <| ?_
      refine Fin.weak (E' := [(2, _), (3, _), (4, _)]) ⟨rfl, rfl, rfl, trivial⟩ .nil ?_
      refine Fin.end3 (.inl rfl) rfl rfl rfl rfl ?_
      have hil : i = es.length := by simp at c22; omega
      subst hil
      refine ⟨rfl, true, rfl, by simp; exact ⟨by simp at c19; omega, fun j e h => hok j e (List.getElem?_eq_some_iff.1 h).1 h, fun j a b ha hb => hup j a b (List.getElem?_eq_some_iff.1 hb).1 ha hb⟩⟩
end Go.Fl

set_option linter.unusedVariables false
set_option linter.unusedSimpArgs false
set_option maxRecDepth 100000
namespace Go.Fl
open Go Go.Proofs
theorem Fits.i64 {a : Int} (h : Fits a) : I64 a := by unfold Fits at h; unfold I64; omega
theorem lineL_calls {ls : List (List Int)} {v : Value} {w : World} {i : Nat} {l : List Int} (hv : LsV w v ls) (hl : ls[i]? = some l) (hi : ∀ a, a ∈ l → I64 a) (hp : Pow w) (hf : l.length ≤ 2199023255552) :
    Calls Tryz.prog 48 #[.iface 153 v, .int .i64 i] w (Ret w [] fun v L => L = [] ∧ v = str (lineB l)) := by
  obtain ⟨A, cap, rfl, hr, hlc, hcm, hle⟩ := hv
  have hlt := (List.getElem?_eq_some_iff.1 hl).1
  obtain ⟨ad, lv, rfl, hc, hs⟩ := hr i l hl
  refine calls_of (args := [_, _]) (L := []) Tryz.func48 rfl Tryz.ntmps48 rfl (Own.start _ _) ?_
  refine Zs ?_
  refine Za ?_
  refine Zx ?_
  refine DC.seq ?_
  refine Zs ?_
  refine Zm ?_
  refine Zx ?_
  refine DC.block ?_
  refine Zs ?_
  refine Seq.pur rfl rfl (p_assert (v := .tuple #[.slice (some ad) ls.length cap, .bool true]) rfl rfl (fun w => by kernel_rfl)) ?_
  refine Ze ?_
  refine Ze ?_
  refine Zx ?_
  refine DC.cond_t rfl ?_
  refine Zs ?_
  refine Za ?_
  refine Zx ?_
  refine Zs ?_
  refine Zm ?_
  refine Zm ?_
  refine Zi Tryz.underlying153 sz44 ?_
  refine Seq.val rfl rfl (v_load rfl rfl ag44 (has_old' hc)) ?_
  refine Seq.rel0 rfl rfl (r_call en43 rfl rfl rfl (fun w hw => line_calls (hs.keep0 hw) hi (hp.keep0 hw) hf)) ?_
  rintro _ rfl
  refine Za ?_
  refine Zx ?_
  refine DC.ret ?_
  refine Fin.ret_block <| Fin.ret_then <| ?_
  refine Fin.end1 (.inl rfl) rfl rfl ?_
  exact ⟨rfl, rfl⟩
theorem lineE_calls {es : List Pr} {v : Value} {w : World} {i : Nat} {e : Pr} (hv : PrV w v es) (he : es[i]? = some e) (h1 : I64 e.1) (h2 : I64 e.2) (hp : Pow w) :
    Calls Tryz.prog 48 #[.iface 154 v, .int .i64 i] w (Ret w [] fun v L => L = [] ∧ v = str (lineB [e.1, e.2])) := by
  obtain ⟨A, cap, rfl, hr, hlc, hcm, hle⟩ := hv
  have hlt := (List.getElem?_eq_some_iff.1 he).1
  obtain ⟨ad, rfl, hU, hV⟩ := hr.pair he
  refine calls_of (args := [_, _]) (L := []) Tryz.func48 rfl Tryz.ntmps48 rfl (Own.start _ _) ?_
  refine Zs ?_
  refine Za ?_
  refine Zx ?_
  refine DC.seq ?_
  refine Zs ?_
  refine Zm ?_
  refine Zx ?_
  refine DC.block ?_
  refine Zs ?_
  refine Seq.pur rfl rfl (p_assert (v := .tuple #[.slice none 0 0, .bool false]) rfl rfl (fun w => by kernel_rfl)) ?_
  refine Ze ?_
  refine Ze ?_
  refine Zx ?_
  refine DC.cond_f rfl ?_
  refine Zs ?_
  refine Seq.pur rfl rfl (p_assert (v := .tuple #[.slice (some ad) es.length cap, .bool true]) rfl rfl (fun w => by kernel_rfl)) ?_
  refine Ze ?_
  refine Ze ?_
  refine Zx ?_
  refine DC.cond_t rfl ?_
  refine Zs ?_
  refine Za ?_
  refine Zx ?_
  refine DC.seq ?_
  refine DC.flow (cl := [.q, .q, .q, .q, .v, .q, .q, .q, .q, .v, .n, .r, .q]) (A := [0, 0, 3, 7, 15, 0, 0, 96, 224, 480, 1023, 2047, 4095]) (order := [0, 1, 2, 3, 4, 5, 6, 7, 8, 9, 10, 11, 12]) [] mixed (by kernel_rfl) (fun w hw => hw.pick .nil) ?_
  refine Ym ?_
  refine Ym ?_
  refine Flow.pur rfl rfl rfl (p_index rfl rfl rfl Tryz.underlying154 sz43 (by omega) (by omega) (by first | exact add_at0 _ _ | exact add_at _ _ _ | rfl)) ?_
  refine Yf fi43_0 ?_
  refine Flow.valS rfl rfl rfl rfl (v_load rfl rfl ag3 (has_old' (by rw [add_0]; exact hU))) ?_
  refine Ym ?_
  refine Ym ?_
  refine Flow.pur rfl rfl rfl (p_index rfl rfl rfl Tryz.underlying154 sz43 (by omega) (by omega) (by first | exact add_at0 _ _ | exact add_at _ _ _ | rfl)) ?_
  refine Yf fi43_1 ?_
  refine Flow.valS rfl rfl rfl rfl (v_load rfl rfl ag3 (has_old' (by rw [add_add _ _ _ (by decide)]; exact hV))) ?_
  refine Flow.new' rfl rfl rfl rfl (n_slit (cs := #[_, _]) rfl rfl Tryz.underlying44 sz3 ze3 rfl (by decide) (by decide) rfl rfl) fun g29 => ?_
  refine Flow.rel0V (V := [blk g29 3 #[.int .i64 e.1, .int .i64 e.2]]) rfl rfl rfl rfl (by kernel_rfl) (r_call en43 rfl rfl rfl (fun w hw => line_calls (ns := [e.1, e.2]) (slv_blk (g := g29) hw rfl rfl (by decide)) (by simp; exact ⟨h1, h2⟩) (hp.keep0 hw) (by simp))) ?_
  rintro _ rfl
  refine Flow.pur rfl rfl rfl (p_assign rfl rfl) ?_
  refine Flow.end rfl ?_
  simp only [List.map_cons, List.map_nil, List.nil_append, List.cons_append, List.append_nil]
  refine Fin.then ?_
  refine DC.ret ?_
  refine Fin.ret_block <| Fin.ret_then <| ?_
  refine Fin.weak (E' := [(4, _)]) ⟨rfl, trivial⟩ .nil ?_
  refine Fin.end1 (.inl rfl) rfl rfl ?_
  exact ⟨rfl, rfl⟩
/-- What a form of a certificate says: its letter, the most lines, whether its text may be written, its lines. -/
structure FormC (w0 : World) (T : Nat) (v : Value) (letter : List UInt8) (lim : Int) (ok : Prop) (lines : List (List UInt8)) : Prop where
  head : ∀ w L, Own w0 [] w L → Calls Tryz.prog 47 #[.iface T v] w (Ret w [] fun r L => L = [] ∧ ∃ b, r = .tuple #[str letter, .int .i64 lim, .bool b] ∧ (b = true ↔ ok))
  meth : ∃ fm, Ent Tryz.prog fm ∧ (∀ w, (method (Tryz.prog.types.size + Made.depth) T v "tangram/cert.lines").run Tryz.prog w = .ok (fm, v) w) ∧ ∀ w, Calls Tryz.prog fm #[v] w (Ret w [] fun r L => L = [] ∧ r = .int .i64 lines.length)
  line : ok → ∀ (i : Nat) l, lines[i]? = some l → ∀ w L, Own w0 [] w L → Calls Tryz.prog 48 #[.iface T v, .int .i64 i] w (Ret w [] fun r L => L = [] ∧ r = str l)
  few : lines.length ≤ 17592186044416
  one : letter.length = 1
  small : ok → ∀ l, l ∈ lines → l.length ≤ 1099511627776
def headB (letter : List UInt8) (n : Nat) : List UInt8 := (letter ++ [32]) ++ lineB [(n : Int)]
def textB (letter : List UInt8) (lines : List (List UInt8)) : List UInt8 := headB letter lines.length ++ lines.flatten
theorem headB_len {letter : List UInt8} {n : Nat} (h1 : letter.length = 1) (hn : n ≤ 17592186044416) : (headB letter n).length ≤ 100 := by
  have := lineB_len (ns := [(n : Int)]) (by simp; unfold I64; omega)
  simp [headB, h1] at this ⊢; omega
theorem flatten_take {l : List (List UInt8)} {i : Nat} {x : List UInt8} (h : l[i]? = some x) : (l.take (i + 1)).flatten = (l.take i).flatten ++ x := by
  rw [List.take_add_one, h]; simp
theorem flatten_le (l : List (List UInt8)) (i : Nat) : (l.take i).flatten.length ≤ l.flatten.length := by
  conv => rhs; rw [← List.take_append_drop i l]
  rw [List.flatten_append, List.length_append]; omega
structure PrintI where
  i : Nat
  v : Value
theorem print_core {c v : Value} {w : World} {T : Nat} {is : Bool} {letter : List UInt8} {lim : Int} {ok : Prop} {lines : List (List UInt8)} {cs : Array Value} (hc : c = .agg cs) (hcs : ∃ x y z, cs = #[x, y, z] ∧ x.oneCell' = true ∧ y.oneCell' = true ∧ z.oneCell' = true)
    (hfo : ∀ w, Calls Tryz.prog 46 #[c] w (Ret w [] fun r L => L = [] ∧ r = .tuple #[.iface T v, .bool is])) (hF : FormC w T v letter lim ok lines) (hp : Pow w) :
    Calls Tryz.prog 24 #[c] w (Ret w [] fun r L => L = [] ∧ ∃ s e, r = .tuple #[str s, .int .i64 e] ∧
      ((e = 0 ∧ is = true ∧ ok ∧ (textB letter lines).length ≤ 33554432 ∧ s = textB letter lines) ∨ (e = 170 ∧ ¬ (is = true ∧ ok) ∧ s = []) ∨ (e = 10 ∧ is = true ∧ ok ∧ 33554432 < (textB letter lines).length ∧ s = []))) := by
  subst hc
  obtain ⟨x, y, z, rfl, x1, y1, z1⟩ := hcs
  obtain ⟨fm, hfm, hme, hln⟩ := hF.meth
  have hfew := hF.few
  have hhl := headB_len hF.one hfew
  refine calls_of (args := [_]) (L := []) Tryz.func24 rfl Tryz.ntmps24 rfl (Own.start _ _) ?_
  refine Zs ?_
  refine Seq.new rfl rfl (n_box (cs := #[x, y, z]) rfl rfl (cells3 x1 y1 z1)) fun g1 => ?_
  refine Za ?_
  refine Za ?_
  refine Zx ?_
  refine Zs ?_
  refine Seq.val rfl rfl (v_loads (vs := [_, _, _]) rfl rfl ag27 sz27 rfl (hass_blk rfl)) ?_
  refine Seq.rel0 rfl rfl (r_call en46 rfl rfl rfl (fun w hw => hfo w)) ?_
  rintro _ rfl
  refine Zm ?_
  refine Ze ?_
  refine Ze ?_
  refine Za ?_
  refine Za ?_
  refine Zx ?_
  refine DC.seq ?_
  refine Zs ?_
  refine Zm ?_
  refine Seq.pur rfl rfl (p_not rfl rfl) ?_
  refine Zx ?_
  refine DC.cond rfl (fun c2 => ?_) (fun c2 => ?_)
  · refine Zs ?_
    refine Za ?_
    refine Za ?_
    refine Zx ?_
    refine DC.ret ?_
    refine Fin.ret_then <| ?_
    refine Fin.weak (E' := [(2, _), (3, _)]) ⟨rfl, rfl, trivial⟩ .nil ?_
    refine Fin.end2 (.inl rfl) rfl rfl rfl ?_
    exact ⟨rfl, [], 170, rfl, .inr (.inl ⟨rfl, by simp at c2; simp [c2], rfl⟩)⟩
  · refine DC.skip ?_
    refine Fin.then ?_
    refine Zs ?_
    refine Zm ?_
    refine Seq.rel0 rfl rfl (r_call en47 rfl rfl rfl (fun w hw => hF.head w _ hw)) ?_
    rintro _ ⟨b, rfl, hb⟩
    refine Zm ?_
    refine Ze ?_
    refine Ze ?_
    refine Ze ?_
    refine Za ?_
    refine Za ?_
    refine Za ?_
    refine Zx ?_
    refine DC.seq ?_
    refine Zs ?_
    refine Zm ?_
    refine Seq.pur rfl rfl (p_not rfl rfl) ?_
    refine Zx ?_
    refine DC.cond rfl (fun c5 => ?_) (fun c5 => ?_)
    · refine Zs ?_
      refine Za ?_
      refine Za ?_
      refine Zx ?_
      refine DC.ret ?_
      refine Fin.ret_then <| ?_
      refine Fin.weak (E' := [(2, _), (3, _)]) ⟨rfl, rfl, trivial⟩ .nil ?_
      refine Fin.end2 (.inl rfl) rfl rfl rfl ?_
      exact ⟨rfl, [], 170, rfl, .inr (.inl ⟨rfl, by simp at c5; simp [← hb, c5], rfl⟩)⟩
    · refine DC.skip ?_
      refine Fin.then ?_
      refine Zs ?_
      refine Seq.new rfl rfl (n_alloc rfl ze95 rfl) fun g9 => ?_
      refine Zx ?_
      refine Zs ?_
      refine Zm ?_
      refine Seq.pur rfl rfl (p_strcat (a := letter) (b := [32]) rfl rfl rfl (by rw [hF.one]; decide)) ?_
      refine Zm ?_
      refine Seq.rel rfl rfl (r_invoke hfm rfl rfl hme (fun w hw => hln w)) ?_
      rintro _ _ ⟨rfl, rfl⟩
      refine Seq.new rfl rfl (n_slit (cs := #[_]) rfl rfl Tryz.underlying44 sz3 ze3 rfl (by decide) (by decide) rfl rfl) fun g30 => ?_
      refine Seq.rel0 rfl rfl (r_call en43 rfl rfl rfl (fun w hw => line_calls (ns := [(lines.length : Int)]) (slv_blk (g := g30) hw rfl rfl (by decide)) (by simp; unfold I64; omega) (hp.keep0 hw) (by simp))) ?_
      rintro _ rfl
      refine Seq.pur rfl rfl (p_strcat (a := letter ++ [32]) (b := lineB [(lines.length : Int)]) rfl rfl rfl (by have := hhl; simp [headB] at this ⊢; omega)) ?_
      refine Seq.gen rfl rfl (g_write rfl rfl rfl (fun w hw => own_bldr (hw.pick (.cons 1 rfl .nil))) (by have := hhl; simp [headB] at this ⊢; omega)) ?_
      rintro _ _ ⟨v9, rfl⟩
      refine Zx ?_
      refine DC.seq ?_
      refine Zs ?_
      refine Zm ?_
      refine Seq.rel rfl rfl (r_invoke hfm rfl rfl hme (fun w hw => hln w)) ?_
      rintro _ _ ⟨rfl, rfl⟩
      refine Zm ?_
      refine Zx ?_
      refine DC.block ?_
      have hc2 : is = true := by simpa using c2
      have hc5 : ok := hb.1 (by simpa using c5)
      refine DC.loop (ι := PrintI) (fun j => j.i ≤ lines.length ∧ (headB letter lines.length ++ (lines.take j.i).flatten).length ≤ 33554432)
        (fun j => [(4, .iface T v), (9, .pointer (some ⟨g9, 0, none⟩)), (35, .int .i64 lines.length), (36, .int .i64 j.i)])
        (fun j => [bldr g9 j.v (headB letter lines.length ++ (lines.take j.i).flatten)]) (fun j => lines.length - j.i) ⟨0, v9⟩ ⟨Nat.zero_le _, by simp; omega⟩ ⟨rfl, rfl, rfl, rfl, trivial⟩ (.cons' 0 rfl (by simp [headB]) .nil) ?_
      rintro ⟨i, vi⟩ ⟨hi, hle⟩
      dsimp only at hi hle ⊢
      refine Zs ?_
      refine Zc ?_
      refine Zx ?_
      refine DC.seq ?_
      refine DC.cond rfl (fun c10 => ?_) (fun c10 => ?_)
      · have hlt : i < lines.length := by simpa using c10
        obtain ⟨l, hl⟩ : ∃ l, lines[i]? = some l := ⟨_, List.getElem?_eq_getElem hlt⟩
        have hsm := hF.small hc5 l (List.mem_of_getElem? hl)
        refine DC.skip ?_
        refine Fin.then ?_
        refine DC.seq ?_
        refine DC.block ?_
        refine Zs ?_
        refine Zm ?_
        refine Za ?_
        refine Zx ?_
        refine Zs ?_
        refine Zm ?_
        refine Zm ?_
        refine Seq.rel0 rfl rfl (r_call en48 rfl rfl rfl (fun w hw => hF.line hc5 i l hl w _ hw)) ?_
        rintro _ rfl
        refine Seq.gen rfl rfl (g_write rfl rfl rfl (fun w hw => hw) (by omega)) ?_
        rintro _ _ ⟨v42, rfl⟩
        refine Zx ?_
        refine Zs ?_
        refine Seq.rel0 rfl rfl (r_call en44 rfl rfl rfl (fun w hw => blen_calls (hw.holds _ (List.mem_cons_self ..)))) ?_
        rintro _ rfl
        refine Seq.pur rfl rfl (p_gtr rfl rfl rfl) ?_
        refine Zx ?_
        refine DC.cond rfl (fun c13 => ?_) (fun c13 => ?_)
        · refine Zs ?_
          refine Za ?_
          refine Za ?_
          refine Zx ?_
          refine DC.ret ?_
          refine Fin.ret_block <| Fin.ret_then <| Fin.ret_then <| Fin.ret_block <| Fin.ret_then <| ?_
          refine Fin.weak (E' := [(2, _), (3, _)]) ⟨rfl, rfl, trivial⟩ .nil ?_
          refine Fin.end2 (.inl rfl) rfl rfl rfl ?_
          refine ⟨rfl, [], 10, rfl, .inr (.inr ⟨rfl, hc2, hc5, ?_, rfl⟩)⟩
          have := flatten_le lines (i + 1)
          rw [flatten_take hl] at this
          simp at c13
          simp [textB] at c13 this ⊢; omega
        · refine DC.skip ?_
          refine Fin.inBlock ?_
          refine Fin.then ?_
          refine DC.region ?_
          refine Zp ?_
          refine Zm ?_
          refine Seq.nil ?_
          refine Fin.again ⟨i + 1, v42⟩ (by dsimp only; omega) ⟨by dsimp only; omega, ?_⟩ ⟨rfl, rfl, rfl, rfl, trivial⟩ (.cons' 0 rfl (by dsimp only; rw [flatten_take hl, List.append_assoc]) .nil)
          dsimp only
          rw [flatten_take hl, ← List.append_assoc]
          simp only [decide_eq_false_iff_not] at c13
          omega
      · refine DC.exit ?_
        refine Fin.exit_then <| Fin.exit_then <| Fin.exit_here <| ?_
        refine Fin.then ?_
        refine DC.seq ?_
        refine DC.seq ?_
        have hin : i = lines.length := by simp at c10; omega
        subst hin
        rw [List.take_length] at hle ⊢
        refine DC.region ?_
        refine Seq.rel0 rfl rfl (r_call en44 rfl rfl rfl (fun w hw => blen_calls (hw.holds _ (List.mem_cons_self ..)))) ?_
        rintro _ rfl
        refine Seq.pur rfl rfl (p_gtr rfl rfl rfl) ?_
        refine Zx ?_
        refine DC.cond rfl (fun c16 => ?_) (fun c16 => ?_)
        · refine Zs ?_
          refine Za ?_
          refine Za ?_
          refine Zx ?_
          refine DC.ret ?_
          refine Fin.ret_then <| ?_
          refine Fin.weak (E' := [(2, _), (3, _)]) ⟨rfl, rfl, trivial⟩ .nil ?_
          refine Fin.end2 (.inl rfl) rfl rfl rfl ?_
          exact ⟨rfl, [], 10, rfl, .inr (.inr ⟨rfl, hc2, hc5, by simp only [decide_eq_true_eq] at c16; unfold textB; omega, rfl⟩)⟩
        · refine DC.skip ?_
          refine Fin.then ?_
          refine Zs ?_
          refine Seq.gen rfl rfl (g_string rfl rfl rfl (fun w hw => hw)) ?_
          rintro _ _ ⟨rfl, rfl⟩
          refine Za ?_
          refine Za ?_
          refine Zx ?_
          refine DC.ret ?_
          refine Fin.weak (E' := [(2, _), (3, _)]) ⟨rfl, rfl, trivial⟩ .nil ?_
          refine Fin.end2 (.inl rfl) rfl rfl rfl ?_
          exact ⟨rfl, _, 0, rfl, .inl ⟨rfl, hc2, hc5, hle, rfl⟩⟩
/-! ### the certificate's text -/
def HasForm (pl : Bool) (ls : List (List Int)) (es : List Pr) : Prop := if pl then es = [] ∧ ListsOk ls else ls = [] ∧ EdgesOk es
def certB (pl : Bool) (ls : List (List Int)) (es : List Pr) : List UInt8 := if pl then textB [112] (ls.map lineB) else textB [110] (es.map fun e => lineB [e.1, e.2])
theorem ListsOk.fits {ls : List (List Int)} (h : ListsOk ls) {l : List Int} (hl : l ∈ ls) {a : Int} (ha : a ∈ l) : Fits a := by
  obtain ⟨i, hi⟩ := List.mem_iff_getElem?.1 hl
  obtain ⟨j, hj⟩ := List.mem_iff_getElem?.1 ha
  obtain ⟨b, hb⟩ : ∃ b, l[0]? = some b := ⟨_, List.getElem?_eq_getElem (by have := (List.getElem?_eq_some_iff.1 hj).1; omega)⟩
  exact (h.2 i l hi j a b hj hb).1
theorem formL {ls : List (List Int)} {v : Value} {w : World} (hv : LsV w v ls) (hp : Pow w) (hs : ∀ l, l ∈ ls → l.length ≤ 2097152) : FormC w 153 v [112] 1048576 (ListsOk ls) (ls.map lineB) := by
  refine ⟨fun w' L hw => headL_calls ls v w' (hv.keep0 hw), ?_, ?_, ?_, rfl, ?_⟩
  · obtain ⟨A, cap, rfl, _, _, _, hle⟩ := hv
    refine ⟨220, en220, fun w => by kernel_rfl, fun w => ?_⟩
    rw [List.length_map]
    exact llines_calls A _ cap w
  · intro hok i l hl w' L hw
    simp only [List.getElem?_map, Option.map_eq_some_iff] at hl
    obtain ⟨l', hl', rfl⟩ := hl
    have hm := List.mem_of_getElem? hl'
    exact lineL_calls (hv.keep0 hw) hl' (fun a ha => (hok.fits hm ha).i64) (hp.keep0 hw) (by have := hs l' hm; omega)
  · obtain ⟨A, cap, rfl, _, _, _, hle⟩ := hv
    simpa using hle
  · intro hok l hl
    simp only [List.mem_map] at hl
    obtain ⟨l', hm, rfl⟩ := hl
    have := lineB_len (ns := l') (fun a ha => (hok.fits hm ha).i64)
    have := hs l' hm
    omega
theorem formE {es : List Pr} {v : Value} {w : World} (hv : PrV w v es) (hp : Pow w) : FormC w 154 v [110] 4194304 (EdgesOk es) (es.map fun e => lineB [e.1, e.2]) := by
  have i64 : ∀ {e : Pr}, EdgesOk es → e ∈ es → I64 e.1 ∧ I64 e.2 := fun hok hm => by
    obtain ⟨i, hi⟩ := List.mem_iff_getElem?.1 hm
    have := hok.ok i _ hi
    exact ⟨this.1.i64, this.2.1.i64⟩
  refine ⟨fun w' L hw => headE_calls es v w' (hv.keep0 hw), ?_, ?_, ?_, rfl, ?_⟩
  · obtain ⟨A, cap, rfl, _, _, _, hle⟩ := hv
    refine ⟨221, en221, fun w => by kernel_rfl, fun w => ?_⟩
    rw [List.length_map]
    exact elines_calls A _ cap w
  · intro hok i l hl w' L hw
    simp only [List.getElem?_map, Option.map_eq_some_iff] at hl
    obtain ⟨e, he, rfl⟩ := hl
    have hm := i64 hok (List.mem_of_getElem? he)
    exact lineE_calls (hv.keep0 hw) he hm.1 hm.2 (hp.keep0 hw)
  · obtain ⟨A, cap, rfl, _, _, _, hle⟩ := hv
    simp; omega
  · intro hok l hl
    simp only [List.mem_map] at hl
    obtain ⟨e, hm, rfl⟩ := hl
    have h2 := i64 hok hm
    have := lineB_len (ns := [e.1, e.2]) (by simp; exact h2)
    simp at this; omega
/-- cert.Print. -/
theorem Print_calls {pl : Bool} {ls : List (List Int)} {es : List Pr} {v u : Value} {w : World} (hv : LsV w v ls) (hu : PrV w u es) (hp : Pow w) (hs : ∀ l, l ∈ ls → l.length ≤ 2097152) :
    Calls Tryz.prog 24 #[.agg #[.bool pl, v, u]] w (Ret w [] fun r L => L = [] ∧ ∃ s e, r = .tuple #[str s, .int .i64 e] ∧
      ((e = 0 ∧ HasForm pl ls es ∧ (certB pl ls es).length ≤ 33554432 ∧ s = certB pl ls es) ∨ (e = 170 ∧ ¬ HasForm pl ls es ∧ s = []) ∨ (e = 10 ∧ HasForm pl ls es ∧ 33554432 < (certB pl ls es).length ∧ s = []))) := by
  obtain ⟨A, cap, ev, _⟩ := id hv
  obtain ⟨B, cap', eu, _⟩ := id hu
  have hfo := fun w => formOf_calls pl A B ls.length es.length cap cap' w
  rw [← ev, ← eu] at hfo
  have hcs : ∃ x y z, #[Value.bool pl, v, u] = #[x, y, z] ∧ x.oneCell' = true ∧ y.oneCell' = true ∧ z.oneCell' = true := ⟨_, _, _, rfl, rfl, by rw [ev]; rfl, by rw [eu]; rfl⟩
  unfold HasForm certB
  cases pl with
  | true =>
    simp only [if_true] at hfo ⊢
    have := print_core rfl hcs hfo (formL hv hp hs) hp
    simpa [List.length_eq_zero_iff, and_assoc] using this
  | false =>
    simp only [Bool.false_eq_true, if_false] at hfo ⊢
    have := print_core rfl hcs hfo (formE hu hp) hp
    simpa [List.length_eq_zero_iff, and_assoc] using this
end Go.Fl

set_option linter.unusedVariables false
set_option linter.unusedSimpArgs false
set_option maxRecDepth 100000
namespace Go.Fl
open Go Go.Proofs
/-- A certificate that has a text. -/
def TextOk (pl : Bool) (ls : List (List Int)) (cs : List Pr) : Prop := HasForm pl ls cs ∧ (certB pl ls cs).length ≤ 33554432
theorem mayBe_calls {pl : Bool} {N : Int} {ls : List (List Int)} {cs : List Pr} {va v u : Value} {w : World} (hv : LsV w v ls) (hu : PrV w u cs) (hp : Pow w) (hs : ∀ l, l ∈ ls → l.length ≤ 2097152) :
    Calls Tryz.prog 55 #[.agg #[.int .i64 N, va], .agg #[.bool pl, v, u]] w (Ret w [] fun r L => L = [] ∧ ∃ b, r = .bool b ∧ (b = true ↔ TextOk pl ls cs)) := by
  refine calls_of (args := [_, _]) (L := []) Tryz.func55 rfl Tryz.ntmps55 rfl (Own.start _ _) ?_
  refine Zs ?_
  refine Seq.new rfl rfl (n_box rfl rfl rfl) fun g2 => ?_
  refine Seq.new rfl rfl (n_box rfl rfl rfl) fun g3 => ?_
  refine Za ?_
  refine Zx ?_
  refine Zs ?_
  refine Seq.val rfl rfl (v_loads (vs := [_, _, _]) rfl rfl ag27 sz27 rfl (hass_blk rfl)) ?_
  refine Seq.rel0 rfl rfl (r_call en24 rfl rfl rfl (fun w' hw => Print_calls (hv.keep0 hw) (hu.keep0 hw) (hp.keep0 hw) hs)) ?_
  rintro _ ⟨s, e, rfl, hse⟩
  refine Zm ?_
  refine Ze ?_
  refine Ze ?_
  refine Za ?_
  refine Za ?_
  refine Zx ?_
  refine Zs ?_
  refine Zm ?_
  refine Seq.pur rfl rfl (p_eql rfl rfl rfl) ?_
  refine Za ?_
  refine Zx ?_
  refine DC.ret ?_
  refine Fin.weak (E' := [(4, _)]) ⟨rfl, trivial⟩ .nil ?_
  refine Fin.end1 (.inl rfl) rfl rfl ?_
  refine ⟨rfl, _, rfl, ?_⟩
  unfold TextOk
  rcases hse with ⟨rfl, h1, h2, _⟩ | ⟨rfl, h1, _⟩ | ⟨rfl, h1, h2, _⟩
  · simp [h1, h2]
  · simp [h1]
  · simp [h1]; omega
theorem turns_calls {pl : Bool} {N : Int} {es : List Pr} {ls : List (List Int)} {va v u : Value} {w : World} (hg : PrV w va es) (hv : LsV w v ls) :
    Calls Tryz.prog 56 #[.agg #[.int .i64 N, va], .agg #[.bool pl, v, u]] w (Ret w [] fun r L => L = [] ∧ ∃ b, r = .bool b ∧ (b = true ↔ RotOk N es ls)) := by
  refine calls_of (args := [_, _]) (L := []) Tryz.func56 rfl Tryz.ntmps56 rfl (Own.start _ _) ?_
  refine Zs ?_
  refine Seq.new rfl rfl (n_box rfl rfl rfl) fun g2 => ?_
  refine Seq.new rfl rfl (n_box rfl rfl rfl) fun g3 => ?_
  refine Za ?_
  refine Zx ?_
  refine Zs ?_
  refine Seq.val rfl rfl (v_loads (vs := [_, _]) rfl rfl ag24 sz24 rfl (hass_blk rfl)) ?_
  refine Zf fi27_1 ?_
  refine Zl ag25 ?_
  refine Seq.rel rfl rfl (r_call en94 rfl rfl rfl (fun w' hw => RFrom_calls (hg.keep0 hw) (hv.keep0 hw))) ?_
  intro v12 L12 hC12
  obtain ⟨x0, x1, e, rfl, he⟩ : ∃ x0 x1 e, v12 = .tuple #[x0, x1, .int .i64 e] ∧ (e = 0 ↔ RotOk N es ls) := by
    rcases hC12 with ⟨hok, g, rs, rfl, _⟩ | ⟨hno, _, x, e, rfl, hne⟩
    · exact ⟨_, _, _, rfl, by simp [hok]⟩
    · exact ⟨_, _, _, rfl, by simp [hno, hne]⟩
  clear hC12
  refine Zm ?_
  refine Ze ?_
  refine Ze ?_
  refine Ze ?_
  refine Za ?_
  refine Za ?_
  refine Za ?_
  refine Zx ?_
  refine Zs ?_
  refine Zm ?_
  refine Seq.pur rfl rfl (p_eql rfl rfl rfl) ?_
  refine Za ?_
  refine Zx ?_
  refine DC.ret ?_
  refine Fin.weak (E' := [(4, _)]) ⟨rfl, trivial⟩ .nil ?_
  refine Fin.end1 (.inl rfl) rfl rfl ?_
  exact ⟨rfl, _, rfl, by simpa using he⟩
/-- The numbers of a certificate's edges in a graph. -/
def NumR (es cs : List Pr) (ns : List Int) : Prop := ns.length = cs.length ∧ ∀ (j : Nat) c m, cs[j]? = some c → ns[j]? = some m → (m = -1 ∧ c ∉ es) ∨ ∃ i : Nat, m = i ∧ es[i]? = some c
def NumM (es : List Pr) (i : Nat) (f : Pr → Option Value) : Prop := ∀ p, (f p = none ∧ p ∉ es.take i) ∨ ∃ k : Nat, k < i ∧ es[k]? = some p ∧ f p = some (.int .i64 ((k : Int) + 1))
structure NumbI where
  i : Nat
  m : List (Pr × Value)
structure NumbJ where
  i : Nat
  ns : List Int
theorem numbers2_calls {pl : Bool} {N : Int} {es cs : List Pr} {va v u : Value} {w : World} (hg : PrV w va es) (hu : PrV w u cs) :
    Calls Tryz.prog 96 #[.agg #[.int .i64 N, va], .agg #[.bool pl, v, u]] w (Ret w [] fun r M => ∃ g ns, r = .slice (some ⟨g, 0, none⟩) cs.length cs.length ∧ NumR es cs ns ∧ M = [blk g 3 (ints ns).toArray]) := by
  obtain ⟨A, cap, rfl, hr, hlc, hcm, hle⟩ := hg
  obtain ⟨B, capb, rfl, hrb, hlb, hcb, hleb⟩ := hu
  refine calls_of (args := [_, _]) (L := []) Tryz.func96 rfl Tryz.ntmps96 rfl (Own.start _ _) ?_
  refine Zs ?_
  refine Seq.new rfl rfl (n_box rfl rfl rfl) fun g2 => ?_
  refine Seq.new rfl rfl (n_box rfl rfl rfl) fun g3 => ?_
  refine Za ?_
  refine Zx ?_
  refine Zs ?_
  refine Seq.rel rfl rfl (r_makeMap (enc := encP) rfl) ?_
  rintro _ _ ⟨gm, rfl, rfl⟩
  simp only [List.cons_append, List.nil_append]
  refine Za ?_
  refine Zx ?_
  refine DC.seq ?_
  refine Zs ?_
  refine Zf fi24_1 ?_
  refine Zl ag22 ?_
  refine Zn Tryz.underlying22 ?_
  refine Zm ?_
  refine Zx ?_
  refine DC.block ?_
  refine DC.loop (ι := NumbI) (fun j => j.i ≤ es.length ∧ NumM es j.i (lkM j.m))
    (fun j => [(3, .pointer (some ⟨g3, 0, none⟩)), (5, .map (some gm)), (13, .slice A es.length cap), (14, .int .i64 es.length), (15, .int .i64 j.i)])
    (fun j => [mpc encP gm j.m, blk g3 27 #[.bool pl, v, .slice B cs.length capb]]) (fun j => es.length - j.i) ⟨0, []⟩ ⟨Nat.zero_le _, fun p => .inl ⟨rfl, by simp⟩⟩ ⟨rfl, rfl, rfl, rfl, rfl, trivial⟩ (.cons 0 rfl (.cons 0 rfl .nil)) ?_
  rintro ⟨i, m⟩ ⟨hi, hm⟩
  dsimp only at hi hm ⊢
  refine Zs ?_
  refine Zc ?_
  refine Zx ?_
  refine DC.seq ?_
  refine DC.cond rfl (fun c3 => ?_) (fun c3 => ?_)
  · have hlt : i < es.length := by simpa using c3
    obtain ⟨e, he⟩ : ∃ e, es[i]? = some e := ⟨_, List.getElem?_eq_getElem hlt⟩
    obtain ⟨ad, rfl, hU, hVe⟩ := hr.pair he
    refine DC.skip ?_
    refine Fin.then ?_
    refine DC.seq ?_
    refine DC.block ?_
    refine Zs ?_
    refine Zm ?_
    refine Seq.pur rfl rfl (p_index rfl rfl rfl Tryz.underlying22 sz43 (by omega) (by omega) (by first | exact add_at0 _ _ | exact add_at _ _ _ | rfl)) ?_
    refine Seq.val rfl rfl (v_loads (vs := [_, _]) rfl rfl ag43 sz43 rfl (hass2 hU hVe (by simp))) ?_
    refine Seq.new rfl rfl (n_alloc rfl ze43 rfl) fun g7 => ?_
    refine Za ?_
    refine Seq.sto rfl rfl (s_stores (cs' := #[_, _]) rfl rfl rfl sz43 rfl (Nat.le_of_ble_eq_true rfl) rfl) ?_
    refine Zx ?_
    refine DC.region ?_
    refine Zm ?_
    refine Seq.val rfl rfl (v_loads (vs := [_, _]) rfl rfl ag43 sz43 rfl (hass_blk rfl)) ?_
    refine Zm ?_
    refine Zp ?_
    refine Seq.sto rfl rfl (s_mapUpdate (k := e) 1 rfl keyEdge rfl rfl rfl rfl Tryz.underlying196 rfl) ?_
    refine Seq.nil ?_
    refine Fin.inBlock ?_
    refine Fin.then ?_
    refine DC.region ?_
    refine Zp ?_
    refine Zm ?_
    refine Seq.nil ?_
    refine Fin.again ⟨i + 1, putM e (.int .i64 ((i : Int) + 1)) m⟩ (by dsimp only; omega) ⟨by dsimp only; omega, ?_⟩ ⟨rfl, rfl, rfl, rfl, rfl, trivial⟩ (.cons 1 rfl (.cons 1 rfl .nil))
    intro p
    dsimp only
    rw [lkM_put]
    by_cases hp : p = e
    · subst hp
      rw [if_pos rfl]
      exact .inr ⟨i, by omega, he, rfl⟩
    · rw [if_neg hp]
      rcases hm p with ⟨h1, h2⟩ | ⟨k, h1, h2, h3⟩
      · refine .inl ⟨h1, ?_⟩
        rw [List.take_add_one, he, List.mem_append]
        simp [h2, hp]
      · exact .inr ⟨k, by omega, h2, h3⟩
  · refine DC.exit ?_
    refine Fin.exit_then <| Fin.exit_then <| Fin.exit_here <| ?_
    refine Fin.then ?_
    refine DC.seq ?_
    have hie : i = es.length := by simp at c3; omega
    subst hie
    refine DC.region ?_
    refine Zf fi27_2 ?_
    refine Zl ag22 ?_
    refine Zn Tryz.underlying22 ?_
    refine Seq.new rfl rfl (n_make (k := cs.length) (cs := (ints (List.replicate cs.length 0)).toArray) rfl rfl rfl Tryz.underlying44 sz3 by3 ze3 rfl (by omega) (by omega) (made_ints _)) fun g28 => ?_
    refine Za ?_
    refine Zx ?_
    refine DC.seq ?_
    refine Zs ?_
    refine Zf fi27_2 ?_
    refine Zl ag22 ?_
    refine Zn Tryz.underlying22 ?_
    refine Zm ?_
    refine Zx ?_
    refine DC.block ?_
    refine DC.loop (ι := NumbJ) (fun j => j.i ≤ cs.length ∧ j.ns.length = cs.length ∧ ∀ (q : Nat) c x, q < j.i → cs[q]? = some c → j.ns[q]? = some x → (x = -1 ∧ c ∉ es) ∨ ∃ i : Nat, x = i ∧ es[i]? = some c)
      (fun j => [(5, .map (some gm)), (8, .slice (some ⟨g28, 0, none⟩) cs.length cs.length), (30, .slice B cs.length capb), (31, .int .i64 cs.length), (32, .int .i64 j.i)])
      (fun j => [mpc encP gm m, blk g28 3 (ints j.ns).toArray]) (fun j => cs.length - j.i) ⟨0, List.replicate cs.length 0⟩ ⟨Nat.zero_le _, by simp, fun _ _ _ h => absurd h (Nat.not_lt_zero _)⟩ ⟨rfl, rfl, rfl, rfl, rfl, trivial⟩ (.cons 1 rfl (.cons 0 rfl .nil)) ?_
    rintro ⟨i, ns⟩ ⟨hi2, hns, hn⟩
    dsimp only at hi2 hns hn ⊢
    refine Zs ?_
    refine Zc ?_
    refine Zx ?_
    refine DC.seq ?_
    refine DC.cond rfl (fun c9 => ?_) (fun c9 => ?_)
    · have hlt : i < cs.length := by simpa using c9
      obtain ⟨c, hc⟩ : ∃ c, cs[i]? = some c := ⟨_, List.getElem?_eq_getElem hlt⟩
      obtain ⟨adb, rfl, hU, hVe⟩ := hrb.pair hc
      refine DC.skip ?_
      refine Fin.then ?_
      refine DC.seq ?_
      refine DC.block ?_
      refine Zs ?_
      refine Zm ?_
      refine Seq.pur rfl rfl (p_index rfl rfl rfl Tryz.underlying22 sz43 (by omega) (by omega) (by first | exact add_at0 _ _ | exact add_at _ _ _ | rfl)) ?_
      refine Seq.val rfl rfl (v_loads (vs := [_, _]) rfl rfl ag43 sz43 rfl (hass2 hU hVe (by simp))) ?_
      refine Seq.new rfl rfl (n_alloc rfl ze43 rfl) fun g10 => ?_
      refine Za ?_
      refine Seq.sto rfl rfl (s_stores (cs' := #[_, _]) rfl rfl rfl sz43 rfl (Nat.le_of_ble_eq_true rfl) rfl) ?_
      refine Zx ?_
      refine DC.region ?_
      refine Zm ?_
      refine Zm ?_
      refine Zm ?_
      refine Seq.val rfl rfl (v_loads (vs := [_, _]) rfl rfl ag43 sz43 rfl (hass_blk rfl)) ?_
      obtain ⟨x, hx, hx0, hx1, hxr⟩ : ∃ x : Int, (if false then (.tuple #[(lkM m c).getD (.int .i64 0), .bool (lkM m c).isSome] : Value) else (lkM m c).getD (.int .i64 0)) = .int .i64 x ∧ 0 ≤ x ∧ x ≤ es.length ∧ ((x - 1 = -1 ∧ c ∉ es) ∨ ∃ i : Nat, x - 1 = i ∧ es[i]? = some c) := by
        rcases hm c with ⟨h1, h2⟩ | ⟨k, h1, h2, h3⟩
        · exact ⟨0, by rw [h1]; rfl, by omega, by omega, .inl ⟨rfl, by simpa using h2⟩⟩
        · exact ⟨(k : Int) + 1, by rw [h3]; rfl, by omega, by omega, .inr ⟨k, by omega, h2⟩⟩
      refine Seq.val rfl rfl (v_lookup (k := c) 1 rfl keyEdge rfl rfl rfl Tryz.underlying196 ze3 hx) ?_
      refine Seq.pur rfl rfl (p_sub rfl rfl rfl (by omega)) ?_
      refine Zi Tryz.underlying44 sz3 ?_
      refine Seq.sto rfl rfl (s_store (cs' := (ints (ns.set i (x - 1))).toArray) rfl rfl rfl sz3 rfl (by simp; omega) row_set0) ?_
      refine Seq.nil ?_
      refine Fin.inBlock ?_
      refine Fin.then ?_
      refine DC.region ?_
      refine Zp ?_
      refine Zm ?_
      refine Seq.nil ?_
      refine Fin.again ⟨i + 1, ns.set i (x - 1)⟩ (by dsimp only; omega) ⟨by dsimp only; omega, by simp [hns], ?_⟩ ⟨rfl, rfl, rfl, rfl, rfl, trivial⟩ (.cons 1 rfl (.cons 1 rfl .nil))
      intro q c' x' hq hc' hx'
      dsimp only at hq hx'
      rw [List.getElem?_set] at hx'
      split at hx'
      · rename_i e; subst e
        rw [if_pos (by omega)] at hx'; cases hx'
        rw [hc] at hc'; cases hc'
        exact hxr
      · exact hn q c' x' (by omega) hc' hx'
    · refine DC.exit ?_
      refine Fin.exit_then <| Fin.exit_then <| Fin.exit_here <| ?_
      refine Fin.then ?_
      refine Zs ?_
      refine Zm ?_
      refine Za ?_
      refine Zx ?_
      refine DC.ret ?_
      have hie : i = cs.length := by simp at c9; omega
      subst hie
      refine Fin.weak (E' := [(4, _)]) ⟨rfl, trivial⟩ (.cons 1 rfl .nil) ?_
      refine Fin.end1 (.inl rfl) rfl rfl ?_
      exact ⟨g28, ns, rfl, ⟨hns, fun j c x hj hx => hn j c x (List.getElem?_eq_some_iff.1 hj).1 hj hx⟩, rfl⟩
end Go.Fl

set_option linter.unusedVariables false
set_option linter.unusedSimpArgs false
set_option maxRecDepth 100000
namespace Go.Fl
open Go Go.Proofs
theorem within_calls {pl : Bool} {N : Int} {es cs : List Pr} {va v u : Value} {w : World} (hg : PrV w va es) (hu : PrV w u cs) :
    Calls Tryz.prog 58 #[.agg #[.int .i64 N, va], .agg #[.bool pl, v, u]] w (Ret w [] fun r M => M = [] ∧ ∃ b, r = .bool b ∧ (b = true ↔ ∀ c, c ∈ cs → c ∈ es)) := by
  obtain ⟨B, capb, eu, _, _, _, hleb⟩ := id hu
  refine calls_of (args := [_, _]) (L := []) Tryz.func58 rfl Tryz.ntmps58 rfl (Own.start _ _) ?_
  refine Zs ?_
  refine Seq.new rfl rfl (n_box rfl rfl rfl) fun g2 => ?_
  refine Seq.new rfl rfl (n_box rfl rfl rfl) fun g3 => ?_
  refine Za ?_
  refine Zx ?_
  refine DC.seq ?_
  refine Zs ?_
  refine Seq.val rfl rfl (v_loads (vs := [_, _]) rfl rfl ag24 sz24 rfl (hass_blk rfl)) ?_
  refine Seq.val rfl rfl (v_loads (vs := [_, _, _]) rfl rfl ag27 sz27 rfl (hass_blk rfl)) ?_
  refine Seq.rel rfl rfl (r_call en96 rfl rfl rfl (fun w' hw => numbers2_calls (hg.keep0 hw) (hu.keep0 hw))) ?_
  rintro _ _ ⟨g, ns, rfl, ⟨hns, hn⟩, rfl⟩
  simp only [List.cons_append, List.nil_append]
  refine Zn Tryz.underlying44 ?_
  refine Zm ?_
  refine Zx ?_
  refine DC.block ?_
  refine DC.loop (ι := Nat) (fun i => i ≤ cs.length ∧ ∀ (j : Nat) c, j < i → cs[j]? = some c → c ∈ es)
    (fun i => [(9, .slice (some ⟨g, 0, none⟩) cs.length cs.length), (10, .int .i64 cs.length), (11, .int .i64 i)])
    (fun i => [blk g 3 (ints ns).toArray]) (fun i => cs.length - i) 0 ⟨Nat.zero_le _, fun _ _ h => absurd h (Nat.not_lt_zero _)⟩ ⟨rfl, rfl, rfl, trivial⟩ (.cons 0 rfl .nil) ?_
  rintro i ⟨hi, hin⟩
  refine Zs ?_
  refine Zc ?_
  refine Zx ?_
  refine DC.seq ?_
  refine DC.cond rfl (fun c2 => ?_) (fun c2 => ?_)
  · have hlt : i < cs.length := by simpa using c2
    obtain ⟨c, hc⟩ : ∃ c, cs[i]? = some c := ⟨_, List.getElem?_eq_getElem hlt⟩
    obtain ⟨x, hx⟩ : ∃ x, ns[i]? = some x := ⟨_, List.getElem?_eq_getElem (by omega)⟩
    have hcase := hn i c x hc hx
    refine DC.skip ?_
    refine Fin.then ?_
    refine DC.seq ?_
    refine DC.block ?_
    refine Zs ?_
    refine Zi Tryz.underlying44 sz3 ?_
    refine Seq.val rfl rfl (v_load rfl rfl ag3 (has_row (ints_arr hx))) ?_
    refine Za ?_
    refine Zx ?_
    refine Zs ?_
    refine Zm ?_
    refine Zc ?_
    refine Zx ?_
    refine DC.cond rfl (fun c4 => ?_) (fun c4 => ?_)
    · refine Zs ?_
      refine Za ?_
      refine Zx ?_
      refine DC.ret ?_
      refine Fin.ret_block <| Fin.ret_then <| Fin.ret_then <| Fin.ret_block <| Fin.ret_then <| ?_
      refine Fin.weak (E' := [(4, _)]) ⟨rfl, trivial⟩ .nil ?_
      refine Fin.end1 (.inl rfl) rfl rfl ?_
      refine ⟨rfl, false, rfl, ?_⟩
      simp only [Bool.false_eq_true, false_iff]
      intro h
      rcases hcase with ⟨_, h1⟩ | ⟨k, h1, _⟩
      · exact h1 (h c (List.mem_of_getElem? hc))
      · simp at c4; omega
    · refine DC.skip ?_
      refine Fin.inBlock ?_
      refine Fin.then ?_
      refine DC.region ?_
      refine Zp ?_
      refine Zm ?_
      refine Seq.nil ?_
      refine Fin.again (i + 1) (by omega) ⟨by omega, ?_⟩ ⟨rfl, rfl, rfl, trivial⟩ (.cons 0 rfl .nil)
      intro j c' hj hc'
      rcases Nat.lt_succ_iff_lt_or_eq.1 hj with hj | rfl
      · exact hin j c' hj hc'
      · rw [hc] at hc'; cases hc'
        rcases hcase with ⟨h1, _⟩ | ⟨k, _, h2⟩
        · subst h1; simp at c4
        · exact List.mem_of_getElem? h2
  · refine DC.exit ?_
    refine Fin.exit_then <| Fin.exit_then <| Fin.exit_here <| ?_
    refine Fin.then ?_
    refine Zs ?_
    refine Za ?_
    refine Zx ?_
    refine DC.ret ?_
    refine Fin.weak (E' := [(4, _)]) ⟨rfl, trivial⟩ .nil ?_
    refine Fin.end1 (.inl rfl) rfl rfl ?_
    have hie : i = cs.length := by simp at c2; omega
    subst hie
    refine ⟨rfl, true, rfl, ?_⟩
    simp only [true_iff]
    intro c hc
    obtain ⟨j, hj⟩ := List.mem_iff_getElem?.1 hc
    exact hin j c (List.getElem?_eq_some_iff.1 hj).1 hj
end Go.Fl

set_option linter.unusedVariables false
set_option linter.unusedSimpArgs false
set_option linter.unusedSectionVars false
namespace Go.Fl
open Go
open Classical
def VH (es : List Pr) (h : Int) : Prop := 0 ≤ h ∧ h < es.length * 2
def degV (es : List Pr) (v : Int) : Nat := (outs es v).length
/-- The half-edge by which one goes on behind h. -/
def nxtH (es : List Pr) (h : Int) : Int :=
  if ((outs es (toV es h))[0]?).getD (-1) = tw h then ((outs es (toV es h))[1]?).getD (-1) else ((outs es (toV es h))[0]?).getD (-1)
def contH (es : List Pr) (b h : Int) : Prop := degV es (toV es h) = 2 ∧ toV es h ≠ b
def wI (es : List Pr) (h : Int) : Nat → Int
  | 0 => h
  | k + 1 => nxtH es (wI es h k)
structure Way (es : List Pr) (h : Int) (t : Nat) : Prop where
  vh : VH es h
  cont : ∀ i, i < t → contH es (fromV es h) (wI es h i)
def wayL (es : List Pr) (h : Int) (t : Nat) : List Int := (List.range (t + 1)).map (wI es h)
structure Stops (es : List Pr) (h : Int) (t : Nat) : Prop where
  way : Way es h t
  stop : ¬ contH es (fromV es h) (wI es h t)
section
variable {N : Int} {es : List Pr} {h k : Int}
theorem nodup_leZ : ∀ {a b : List Int}, a.Nodup → (∀ x, x ∈ a → x ∈ b) → a.length ≤ b.length
  | [], b, _, _ => by simp
  | x :: r, b, hn, hs => by
    rw [List.nodup_cons] at hn
    have hx : x ∈ b := hs x (by simp)
    have ih := nodup_leZ (a := r) (b := b.erase x) hn.2 (fun y hy => (List.mem_erase_of_ne (fun e => hn.1 (by rw [← e]; exact hy))).2 (hs y (by simp [hy])))
    have := List.length_erase_of_mem hx
    have := List.length_pos_of_mem hx
    simp only [List.length_cons]; omega
theorem VH.tw (hh : VH es h) : VH es (tw h) := tw_range hh.1 hh.2
theorem tw_ne (h : Int) : tw h ≠ h := by unfold tw; split <;> omega
theorem tw_inj {h k : Int} (e : tw h = tw k) : h = k := by rw [← tw_tw h, e, tw_tw]
theorem from_tw (hh : VH es h) : fromV es (tw h) = toV es h := by unfold toV; rw [if_pos hh.1]
theorem to_tw (hh : VH es h) : toV es (tw h) = fromV es h := by unfold toV; rw [if_pos hh.tw.1, tw_tw]
theorem outs_nodup (v : Int) : (outs es v).Nodup := by
  have := (outsF_sorted es 0 v).1
  exact this.imp fun h => by omega
theorem nxt_spec (hV : Vld N es) (hh : VH es h) (hd : degV es (toV es h) = 2) :
    VH es (nxtH es h) ∧ fromV es (nxtH es h) = toV es h ∧ nxtH es h ≠ tw h ∧ nxtH es h ∈ outs es (toV es h) ∧ ∀ y, y ∈ outs es (toV es h) → y = nxtH es h ∨ y = tw h := by
  have hm : tw h ∈ outs es (toV es h) := (mem_outs hV).2 ⟨hh.tw.1, hh.tw.2, from_tw hh⟩
  have hn := outs_nodup (es := es) (toV es h)
  unfold degV at hd
  match ho : outs es (toV es h), hd with
  | [a, b], _ =>
    rw [ho] at hm hn
    have hab : a ≠ b := by
      rw [List.nodup_cons] at hn
      intro e; exact hn.1 (by simp [e])
    have key : nxtH es h = if a = tw h then b else a := by unfold nxtH; rw [ho]; rfl
    have hmem : ∀ x, x ∈ [a, b] → VH es x ∧ fromV es x = toV es h := fun x hx => by
      rw [← ho] at hx
      obtain ⟨h1, h2, h3⟩ := (mem_outs hV).1 hx
      exact ⟨⟨h1, h2⟩, h3⟩
    rw [key]
    by_cases e : a = tw h
    · rw [if_pos e]
      obtain ⟨q1, q2⟩ := hmem b (by simp)
      refine ⟨q1, q2, by rw [← e]; exact hab.symm, by simp, fun y hy => ?_⟩
      simp at hy
      rcases hy with rfl | rfl
      · exact .inr e
      · exact .inl rfl
    · rw [if_neg e]
      obtain ⟨q1, q2⟩ := hmem a (by simp)
      have hb : b = tw h := by
        simp at hm
        rcases hm with rfl | rfl
        · exact absurd rfl e
        · rfl
      refine ⟨q1, q2, e, by simp, fun y hy => ?_⟩
      simp at hy
      rcases hy with rfl | rfl
      · exact .inl rfl
      · exact .inr hb
theorem nxt_inj (hV : Vld N es) (hh : VH es h) (hk : VH es k) (hd : degV es (toV es h) = 2) (hd' : degV es (toV es k) = 2) (e : nxtH es h = nxtH es k) : h = k := by
  obtain ⟨a1, a2, a3, a4, a5⟩ := nxt_spec hV hh hd
  obtain ⟨b1, b2, b3, b4, b5⟩ := nxt_spec hV hk hd'
  have hto : toV es h = toV es k := by rw [← a2, e, b2]
  have hm : tw h ∈ outs es (toV es k) := by rw [← hto]; exact (mem_outs hV).2 ⟨hh.tw.1, hh.tw.2, from_tw hh⟩
  rcases b5 _ hm with h1 | h1
  · exact absurd (e.trans h1.symm) a3
  · exact tw_inj h1
section
variable {t : Nat}
theorem Way.le {s : Nat} (hw : Way es h t) (hs : s ≤ t) : Way es h s := ⟨hw.vh, fun i hi => hw.cont i (by omega)⟩
theorem Way.all (hV : Vld N es) (hw : Way es h t) : ∀ i, i ≤ t → VH es (wI es h i)
  | 0, _ => hw.vh
  | i + 1, hi => (nxt_spec hV (hw.all hV i (by omega)) (hw.cont i (by omega)).1).1
theorem Way.link (hV : Vld N es) (hw : Way es h t) {i : Nat} (hi : i < t) : fromV es (wI es h (i + 1)) = toV es (wI es h i) :=
  (nxt_spec hV (hw.all hV i (by omega)) (hw.cont i hi).1).2.1
theorem Way.ne (hV : Vld N es) (hw : Way es h t) : ∀ i j, i < j → j ≤ t → wI es h i ≠ wI es h j
  | 0, j + 1, _, hj => fun e => by
    have h1 := hw.link hV (i := j) (by omega)
    rw [← e] at h1
    exact (hw.cont j (by omega)).2 h1.symm
  | i + 1, j + 1, hij, hj => fun e =>
    hw.ne hV i j (by omega) (by omega) (nxt_inj hV (hw.all hV i (by omega)) (hw.all hV j (by omega)) (hw.cont i (by omega)).1 (hw.cont j (by omega)).1 e)
theorem Way.lt (hV : Vld N es) (hw : Way es h t) : t < es.length * 2 := by
  have hnd : (wayL es h t).Nodup := by
    unfold wayL List.Nodup
    rw [List.pairwise_map, List.pairwise_iff_getElem]
    intro i j hi hj hij
    simp only [List.length_range] at hi hj
    simp only [List.getElem_range]
    exact hw.ne hV i j hij (by omega)
  have := nodup_leZ (b := (List.range (es.length * 2)).map fun (x : Nat) => (x : Int)) hnd fun x hx => by
    obtain ⟨i, hi, rfl⟩ := List.mem_map.1 hx
    have h1 := hw.all hV i (by have := List.mem_range.1 hi; omega)
    obtain ⟨h2, h3⟩ := h1
    exact List.mem_map.2 ⟨(wI es h i).toNat, List.mem_range.2 (by omega), by omega⟩
  simp [wayL] at this; omega
theorem Way.ne_tw' (hV : Vld N es) (hw : Way es h t) : ∀ d a, a + d ≤ t → wI es h (a + d) ≠ tw (wI es h a)
  | 0, a, _ => fun e => tw_ne _ e.symm
  | 1, a, hb => (nxt_spec hV (hw.all hV a (by omega)) (hw.cont a (by omega)).1).2.2.1
  | d + 2, a, hb => fun e => by
    have ha := hw.all hV a (by omega)
    have hb' := hw.all hV (a + d + 1) (by omega)
    obtain ⟨a1, a2, a3, a4, a5⟩ := nxt_spec hV ha (hw.cont a (by omega)).1
    have h1 := hw.link hV (i := a + d + 1) (by omega)
    rw [show a + d + 1 + 1 = a + (d + 2) by omega, e, from_tw ha] at h1
    have hm : tw (wI es h (a + d + 1)) ∈ outs es (toV es (wI es h a)) := by rw [h1]; exact (mem_outs hV).2 ⟨hb'.tw.1, hb'.tw.2, from_tw hb'⟩
    rcases a5 _ hm with h2 | h2
    · refine hw.ne_tw' hV d (a + 1) (by omega) ?_
      rw [show a + 1 + d = a + d + 1 by omega]
      show _ = tw (nxtH es (wI es h a))
      rw [← h2, tw_tw]
    · exact hw.ne hV a (a + d + 1) (by omega) (by omega) (tw_inj h2).symm
theorem Way.ne_tw (hV : Vld N es) (hw : Way es h t) {a b : Nat} (ha : a ≤ t) (hb : b ≤ t) : wI es h a ≠ tw (wI es h b) := by
  rcases Nat.le_total b a with h1 | h1
  · have := hw.ne_tw' hV (a - b) b (by omega)
    rw [show b + (a - b) = a by omega] at this; exact this
  · intro e
    have := hw.ne_tw' hV (b - a) a (by omega)
    rw [show a + (b - a) = b by omega] at this
    exact this (by rw [e, tw_tw])
theorem Stops.uniq {s : Nat} (h1 : Stops es h t) (h2 : Stops es h s) : t = s := by
  rcases Nat.lt_trichotomy t s with c | c | c
  · exact absurd (h2.way.cont t c) h1.stop
  · exact c
  · exact absurd (h1.way.cont s c) h2.stop
theorem stops_ex (hV : Vld N es) (hh : VH es h) : ∃ t, Stops es h t := by
  apply Classical.byContradiction
  intro hno
  have : ∀ t, Way es h t := by
    intro t
    induction t with
    | zero => exact ⟨hh, fun i hi => absurd hi (Nat.not_lt_zero _)⟩
    | succ t ih =>
      refine ⟨hh, fun i hi => ?_⟩
      rcases Nat.lt_succ_iff_lt_or_eq.1 hi with h1 | rfl
      · exact ih.cont i h1
      · apply Classical.byContradiction
        intro hc
        exact hno ⟨i, ih, hc⟩
  have := (this (es.length * 2)).lt hV
  omega
end
/-- How far the way from a half-edge goes. -/
noncomputable def wayT (es : List Pr) (h : Int) : Nat := if e : ∃ t, Stops es h t then e.choose else 0
noncomputable def wayOf (es : List Pr) (h : Int) : List Int := wayL es h (wayT es h)
theorem wayT_stops (hV : Vld N es) (hh : VH es h) : Stops es h (wayT es h) := by
  have e := stops_ex hV hh
  unfold wayT
  rw [dif_pos e]
  exact e.choose_spec
theorem wayT_is {t : Nat} (hs : Stops es h t) : wayT es h = t := by
  have e : ∃ t, Stops es h t := ⟨t, hs⟩
  unfold wayT
  rw [dif_pos e]
  exact e.choose_spec.uniq hs
/-! ### lists of half-edges that hang together -/
def Link (es : List Pr) (l : List Int) : Prop := ∀ (i : Nat) x y, l[i]? = some x → l[i + 1]? = some y → fromV es y = toV es x
def AllH (es : List Pr) (l : List Int) : Prop := ∀ x, x ∈ l → VH es x
def aboutL (l : List Int) : List Int := l.reverse.map tw
def hdH (l : List Int) : Int := l.headD 0
def laH (l : List Int) : Int := l.getLastD 0
theorem wayL_len (h : Int) (t : Nat) : (wayL es h t).length = t + 1 := by simp [wayL]
theorem wayL_get {t i : Nat} (hi : i ≤ t) : (wayL es h t)[i]? = some (wI es h i) := by simp [wayL, show i < t + 1 by omega]
theorem wayL_succ (h : Int) (t : Nat) : wayL es h (t + 1) = wayL es h t ++ [nxtH es (wI es h t)] := by unfold wayL; rw [List.range_succ, List.map_append]; rfl
theorem way_link (hV : Vld N es) {t : Nat} (hw : Way es h t) : Link es (wayL es h t) := by
  intro i x y hx hy
  have hi : i + 1 < t + 1 := by have := (List.getElem?_eq_some_iff.1 hy).1; rwa [wayL_len] at this
  rw [wayL_get (by omega)] at hx hy
  cases hx; cases hy
  exact hw.link hV (by omega)
theorem way_all (hV : Vld N es) {t : Nat} (hw : Way es h t) : AllH es (wayL es h t) := by
  intro x hx
  obtain ⟨i, hi, rfl⟩ := List.mem_map.1 hx
  exact hw.all hV i (by have := List.mem_range.1 hi; omega)
theorem about_all {l : List Int} (hl : AllH es l) : AllH es (aboutL l) := by
  intro x hx
  obtain ⟨y, hy, rfl⟩ := List.mem_map.1 hx
  exact (hl y (List.mem_reverse.1 hy)).tw
theorem about_len (l : List Int) : (aboutL l).length = l.length := by simp [aboutL]
theorem about_get {l : List Int} {i : Nat} (hi : i < l.length) : (aboutL l)[i]? = (l[l.length - 1 - i]?).map tw := by
  unfold aboutL
  rw [List.getElem?_map, List.getElem?_reverse hi]
theorem about_link {l : List Int} (ha : AllH es l) (hl : Link es l) : Link es (aboutL l) := by
  intro i x y hx hy
  have hi : i + 1 < l.length := by have := (List.getElem?_eq_some_iff.1 hy).1; rwa [about_len] at this
  rw [about_get (by omega)] at hx
  rw [about_get hi] at hy
  obtain ⟨x', hx', rfl⟩ := Option.map_eq_some_iff.1 hx
  obtain ⟨y', hy', rfl⟩ := Option.map_eq_some_iff.1 hy
  have := hl (l.length - 1 - (i + 1)) y' x' hy' (by rw [← hx']; congr 1; omega)
  rw [from_tw (ha _ (List.mem_of_getElem? hy')), to_tw (ha _ (List.mem_of_getElem? hx')), this]
theorem link_append {a b : List Int} (ha : Link es a) (hb : Link es b) (hj : ∀ x y, a.getLast? = some x → b.head? = some y → fromV es y = toV es x) : Link es (a ++ b) := by
  intro i x y hx hy
  by_cases h1 : i + 1 < a.length
  · rw [List.getElem?_append_left (by omega)] at hx
    rw [List.getElem?_append_left h1] at hy
    exact ha i x y hx hy
  · by_cases h2 : i < a.length
    · rw [List.getElem?_append_left h2] at hx
      rw [List.getElem?_append_right (by omega), show i + 1 - a.length = 0 by omega] at hy
      refine hj x y ?_ (by rw [List.head?_eq_getElem?]; exact hy)
      rw [List.getLast?_eq_getElem?, show a.length - 1 = i by omega]; exact hx
    · rw [List.getElem?_append_right (by omega)] at hx hy
      rw [show i + 1 - a.length = i - a.length + 1 by omega] at hy
      exact hb _ x y hx hy
theorem link_drop {a : List Int} (ha : Link es a) (k : Nat) : Link es (a.drop k) := by
  intro i x y hx hy
  rw [List.getElem?_drop] at hx hy
  exact ha (k + i) x y hx (by rw [← hy]; congr 1)
theorem link_take {a : List Int} (ha : Link es a) (k : Nat) : Link es (a.take k) := by
  intro i x y hx hy
  rw [List.getElem?_take] at hx hy
  split at hy
  · rw [if_pos (by omega)] at hx
    exact ha i x y hx hy
  · cases hy
/-! ### chains -/
/-- The way round from an edge comes back to it, through vertices of degree 2 alone. -/
def FreeC (es : List Pr) (e : Nat) : Prop := toV es (wI es (2 * e) (wayT es (2 * e))) = fromV es (2 * (e : Int)) ∧ degV es (fromV es (2 * (e : Int))) = 2
noncomputable def chainOf (es : List Pr) (e : Nat) : List Int :=
  if FreeC es e then wayOf es (2 * e) else aboutL (wayOf es (2 * e + 1)).tail ++ wayOf es (2 * e)
theorem vh_even {e : Nat} (he : e < es.length) : VH es (2 * (e : Int)) := ⟨by omega, by omega⟩
theorem vh_odd {e : Nat} (he : e < es.length) : VH es (2 * (e : Int) + 1) := ⟨by omega, by omega⟩
theorem tw_even (e : Nat) : tw (2 * (e : Int)) = 2 * (e : Int) + 1 := by unfold tw; rw [if_pos (by omega)]
theorem wayOf_ne (h : Int) : wayOf es h ≠ [] := by
  intro e
  have := congrArg List.length e
  simp [wayOf, wayL_len] at this
theorem wayOf_head (h : Int) : (wayOf es h)[0]? = some h := by unfold wayOf; rw [wayL_get (by omega)]; rfl
theorem wayOf_last (h : Int) : (wayOf es h).getLast? = some (wI es h (wayT es h)) := by
  rw [List.getLast?_eq_getElem?]
  unfold wayOf
  rw [wayL_len, wayL_get (by omega)]; rfl
theorem chain_all (hV : Vld N es) {e : Nat} (he : e < es.length) : AllH es (chainOf es e) := by
  have h1 := way_all hV (wayT_stops hV (vh_even he)).way
  have h2 := way_all hV (wayT_stops hV (vh_odd he)).way
  unfold chainOf
  split
  · exact h1
  · intro x hx
    rcases List.mem_append.1 hx with hx | hx
    · exact about_all (fun y hy => h2 y (List.mem_of_mem_tail hy)) x hx
    · exact h1 x hx
theorem chain_link (hV : Vld N es) {e : Nat} (he : e < es.length) : Link es (chainOf es e) := by
  have h1 := way_link hV (wayT_stops hV (vh_even he)).way
  have h2 := way_link hV (wayT_stops hV (vh_odd he)).way
  have a2 := way_all hV (wayT_stops hV (vh_odd he)).way
  unfold chainOf
  split
  · exact h1
  · have a3 : AllH es (wayOf es (2 * e + 1)).tail := fun y hy => a2 y (List.mem_of_mem_tail hy)
    have h3 : Link es (wayOf es (2 * e + 1)).tail := by rw [← List.drop_one]; exact link_drop h2 1
    refine link_append (about_link a3 h3) h1 fun x y hx hy => ?_
    rw [List.head?_eq_getElem?, wayOf_head] at hy
    cases hy
    rw [List.getLast?_eq_getElem?, about_len] at hx
    have hpos : 0 < (wayOf es (2 * e + 1)).tail.length := by
      apply Nat.pos_of_ne_zero
      intro h0
      rw [h0] at hx
      have := (List.getElem?_eq_some_iff.1 hx).1
      rw [about_len, h0] at this
      omega
    rw [about_get (by omega), show (wayOf es (2 * e + 1)).tail.length - 1 - ((wayOf es (2 * e + 1)).tail.length - 1) = 0 by omega] at hx
    obtain ⟨z, hz, rfl⟩ := Option.map_eq_some_iff.1 hx
    rw [to_tw (a3 _ (List.mem_of_getElem? hz))]
    have hz' : (wayOf es (2 * e + 1))[1]? = some z := by rw [List.getElem?_tail] at hz; exact hz
    have := h2 0 _ z (wayOf_head _) hz'
    rw [this, ← tw_even, to_tw (vh_even he)]
theorem chain_ne (e : Nat) : chainOf es e ≠ [] := by
  unfold chainOf
  split
  · exact wayOf_ne _
  · intro h; exact wayOf_ne _ (List.append_eq_nil_iff.1 h).2
theorem chain_last (e : Nat) : (chainOf es e).getLast? = some (wI es (2 * e) (wayT es (2 * e))) := by
  unfold chainOf
  split
  · exact wayOf_last _
  · rw [List.getLast?_append, wayOf_last]; rfl
/-- The ends of the chain on which an edge lies. -/
noncomputable def endA (es : List Pr) (e : Nat) : Int := fromV es (((chainOf es e)[0]?).getD (-1))
noncomputable def endB (es : List Pr) (e : Nat) : Int := toV es (wI es (2 * e) (wayT es (2 * e)))
theorem way_len_le (hV : Vld N es) (hh : VH es h) : (wayOf es h).length ≤ es.length * 2 := by
  have := (wayT_stops hV hh).way.lt hV
  unfold wayOf
  rw [wayL_len]; omega
theorem chain_len (hV : Vld N es) {e : Nat} (he : e < es.length) : (chainOf es e).length ≤ es.length * 4 := by
  have h1 := way_len_le hV (vh_even he)
  have h2 := way_len_le hV (vh_odd he)
  unfold chainOf
  split
  · omega
  · rw [List.length_append, about_len, List.length_tail]; omega
theorem endA_free {e : Nat} (hf : FreeC es e) : endA es e = endB es e := by
  unfold endA endB chainOf
  rw [if_pos hf, wayOf_head]
  exact hf.1.symm
theorem endA_open (hV : Vld N es) {e : Nat} (he : e < es.length) (hf : ¬ FreeC es e) : endA es e = toV es (wI es (2 * e + 1) (wayT es (2 * e + 1))) := by
  unfold endA chainOf
  rw [if_neg hf]
  have hst := wayT_stops hV (vh_odd he)
  have ha := way_all hV hst.way
  have hlen : (wayOf es (2 * e + 1)).length = wayT es (2 * e + 1) + 1 := wayL_len _ _
  by_cases h0 : wayT es (2 * e + 1) = 0
  · have : (wayOf es (2 * e + 1)).tail = [] := by
      apply List.eq_nil_of_length_eq_zero
      rw [List.length_tail, hlen, h0]
    rw [this]
    show fromV es ((([] : List Int) ++ wayOf es (2 * e))[0]?.getD (-1)) = _
    rw [List.nil_append, wayOf_head, h0]
    show fromV es (2 * (e : Int)) = toV es (2 * (e : Int) + 1)
    rw [← tw_even, to_tw (vh_even he)]
  · rw [List.getElem?_append_left (by rw [about_len, List.length_tail, hlen]; omega), about_get (by rw [List.length_tail, hlen]; omega), List.length_tail, hlen, List.getElem?_tail]
    have : (wayOf es (2 * e + 1))[wayT es (2 * e + 1) + 1 - 1 - 1 - 0 + 1]? = some (wI es (2 * e + 1) (wayT es (2 * e + 1))) := by
      rw [show wayT es (2 * e + 1) + 1 - 1 - 1 - 0 + 1 = wayT es (2 * e + 1) by omega]
      exact wayL_get (by omega)
    rw [this]
    exact from_tw (hst.way.all hV _ (by omega))
/-- Which edges the chains are taken from: those that lie on no chain yet. -/
noncomputable def selU (es : List Pr) : Nat → List Nat
  | 0 => []
  | k + 1 => if ∃ e, e ∈ selU es k ∧ ∃ x, x ∈ chainOf es e ∧ x / 2 = k then selU es k else selU es k ++ [k]
theorem selU_lt : ∀ {k : Nat} {e : Nat}, e ∈ selU es k → e < k
  | 0, e, h => by cases h
  | k + 1, e, h => by
    unfold selU at h
    split at h
    · have := selU_lt h; omega
    · rcases List.mem_append.1 h with h | h
      · have := selU_lt h; omega
      · simp at h; omega
theorem selU_len : ∀ (k : Nat), (selU es k).length ≤ k
  | 0 => by simp [selU]
  | k + 1 => by
    have := selU_len k
    unfold selU
    split
    · omega
    · simp; omega
end
end Go.Fl

set_option linter.unusedVariables false
set_option linter.unusedSimpArgs false
set_option linter.unusedSectionVars false
namespace Go.Fl
open Go
open Classical
def srt (a b : Int) : Pr := (min a b, max a b)
theorem srt_comm (a b : Int) : srt a b = srt b a := by unfold srt; rw [Int.min_comm, Int.max_comm]
/-- The ends of the chains. -/
noncomputable def endsU (es : List Pr) (k : Nat) : List Pr := (selU es k).map fun e => srt (endA es e) (endB es e)
def brV (es : List Pr) (n : Nat) : List Int := ((List.range n).filter fun (v : Nat) => decide (degV es (v : Int) ≠ 0 ∧ degV es (v : Int) ≠ 2)).map fun (v : Nat) => (v : Int)
def pairsOf : List Int → List Pr
  | [] => []
  | x :: r => r.map (srt x) ++ pairsOf r
def crossOf (S : List Int) : List Pr := (S.take 3).flatMap fun x => (S.drop 3).map (srt x)
/-- The least and those that are not joined to it, then the others. -/
def sidesOf (E : List Pr) (B : List Int) : List Int := (B.filter fun v => decide (srt (B.headD 0) v ∉ E)) ++ B.filter fun v => decide (srt (B.headD 0) v ∈ E)
/-- The reference's: the least itself is ahead. -/
def sidesR (E : List Pr) (B : List Int) : List Int := (B.filter fun v => decide (v = B.headD 0 ∨ srt (B.headD 0) v ∉ E)) ++ B.filter fun v => decide (v ≠ B.headD 0 ∧ srt (B.headD 0) v ∈ E)
def GoodE (E : List Pr) : Prop := E.Nodup ∧ ∀ p, p ∈ E → p.1 ≠ p.2
theorem mem_pairsOf : ∀ {B : List Int} {q : Pr}, q ∈ pairsOf B ↔ ∃ (i j : Nat) (x y : Int), i < j ∧ B[i]? = some x ∧ B[j]? = some y ∧ q = srt x y
  | [], q => by simp [pairsOf]
  | x :: r, q => by
    unfold pairsOf
    rw [List.mem_append, mem_pairsOf, List.mem_map]
    constructor
    · rintro (⟨y, hy, rfl⟩ | ⟨i, j, a, b, hij, ha, hb, rfl⟩)
      · obtain ⟨j, hj⟩ := List.mem_iff_getElem?.1 hy
        exact ⟨0, j + 1, x, y, by omega, rfl, by simpa using hj, rfl⟩
      · exact ⟨i + 1, j + 1, a, b, by omega, by simpa using ha, by simpa using hb, rfl⟩
    · rintro ⟨i, j, a, b, hij, ha, hb, rfl⟩
      match i, j with
      | 0, j + 1 =>
        left
        simp at ha hb
        subst ha
        exact ⟨b, List.mem_of_getElem? hb, rfl⟩
      | i + 1, j + 1 =>
        right
        exact ⟨i, j, a, b, by omega, by simpa using ha, by simpa using hb, rfl⟩
theorem mem_crossOf {S : List Int} {q : Pr} : q ∈ crossOf S ↔ ∃ (i j : Nat) (x y : Int), i < 3 ∧ 3 ≤ j ∧ S[i]? = some x ∧ S[j]? = some y ∧ q = srt x y := by
  unfold crossOf
  rw [List.mem_flatMap]
  constructor
  · rintro ⟨x, hx, hq⟩
    obtain ⟨y, hy, rfl⟩ := List.mem_map.1 hq
    obtain ⟨i, hi⟩ := List.mem_iff_getElem?.1 hx
    obtain ⟨j, hj⟩ := List.mem_iff_getElem?.1 hy
    rw [List.getElem?_take] at hi
    rw [List.getElem?_drop] at hj
    split at hi
    · exact ⟨i, 3 + j, x, y, by omega, by omega, hi, hj, rfl⟩
    · cases hi
  · rintro ⟨i, j, x, y, hi, hj, hx, hy, rfl⟩
    refine ⟨x, List.mem_iff_getElem?.2 ⟨i, by rw [List.getElem?_take, if_pos hi]; exact hx⟩, List.mem_map.2 ⟨y, List.mem_iff_getElem?.2 ⟨j - 3, ?_⟩, rfl⟩⟩
    rw [List.getElem?_drop, show 3 + (j - 3) = j by omega]; exact hy
theorem srt_inj {a b c d : Int} (h : srt a b = srt c d) : (a = c ∧ b = d) ∨ (a = d ∧ b = c) := by
  unfold srt at h
  have h1 := congrArg Prod.fst h
  have h2 := congrArg Prod.snd h
  simp only at h1 h2
  omega
theorem nodup5 {a b c d e : Int} (hn : [a, b, c, d, e].Nodup) : (pairsOf [a, b, c, d, e]).Nodup ∧ (pairsOf [a, b, c, d, e]).length = 10 ∧ ∀ p, p ∈ pairsOf [a, b, c, d, e] → p.1 ≠ p.2 := by
  simp only [List.nodup_cons, List.mem_cons, List.not_mem_nil, or_false, not_or] at hn
  refine ⟨?_, rfl, ?_⟩
  · simp only [pairsOf, List.map_cons, List.map_nil, List.nil_append, List.cons_append, List.append_nil, List.nodup_cons, List.mem_cons, List.not_mem_nil, or_false, not_or]
    have key : ∀ {x y z w : Int}, ¬ (x = z ∧ y = w) → ¬ (x = w ∧ y = z) → ¬ srt x y = srt z w := fun h1 h2 h3 => by
      rcases srt_inj h3 with h | h
      · exact h1 h
      · exact h2 h
    refine ⟨⟨?_, ?_, ?_, ?_, ?_, ?_, ?_, ?_, ?_⟩, ⟨?_, ?_, ?_, ?_, ?_, ?_, ?_, ?_⟩, ⟨?_, ?_, ?_, ?_, ?_, ?_, ?_⟩, ⟨?_, ?_, ?_, ?_, ?_, ?_⟩, ⟨?_, ?_, ?_, ?_, ?_⟩, ⟨?_, ?_, ?_, ?_⟩, ⟨?_, ?_, ?_⟩, ⟨?_, ?_⟩, ?_, ?_, List.nodup_nil⟩ <;> first | exact key (by omega) (by omega) | exact not_false
  · intro p hp
    simp only [pairsOf, List.map_cons, List.map_nil, List.nil_append, List.cons_append, List.append_nil, List.mem_cons, List.not_mem_nil, or_false] at hp
    rcases hp with rfl | rfl | rfl | rfl | rfl | rfl | rfl | rfl | rfl | rfl <;> (unfold srt; simp only; omega)
theorem nodup33 {a b c d e f : Int} (hn : [a, b, c, d, e, f].Nodup) : (crossOf [a, b, c, d, e, f]).Nodup ∧ (crossOf [a, b, c, d, e, f]).length = 9 ∧ ∀ p, p ∈ crossOf [a, b, c, d, e, f] → p.1 ≠ p.2 := by
  simp only [List.nodup_cons, List.mem_cons, List.not_mem_nil, or_false, not_or] at hn
  refine ⟨?_, rfl, ?_⟩
  · simp only [crossOf, List.take_succ_cons, List.take_zero, List.drop_succ_cons, List.drop_zero, List.flatMap_cons, List.flatMap_nil, List.map_cons, List.map_nil, List.nil_append, List.cons_append, List.append_nil, List.nodup_cons, List.mem_cons, List.not_mem_nil, or_false, not_or]
    have key : ∀ {x y z w : Int}, ¬ (x = z ∧ y = w) → ¬ (x = w ∧ y = z) → ¬ srt x y = srt z w := fun h1 h2 h3 => by
      rcases srt_inj h3 with h | h
      · exact h1 h
      · exact h2 h
    refine ⟨⟨?_, ?_, ?_, ?_, ?_, ?_, ?_, ?_⟩, ⟨?_, ?_, ?_, ?_, ?_, ?_, ?_⟩, ⟨?_, ?_, ?_, ?_, ?_, ?_⟩, ⟨?_, ?_, ?_, ?_, ?_⟩, ⟨?_, ?_, ?_, ?_⟩, ⟨?_, ?_, ?_⟩, ⟨?_, ?_⟩, ?_, ?_, List.nodup_nil⟩ <;> first | exact key (by omega) (by omega) | exact not_false
  · intro p hp
    simp only [crossOf, List.take_succ_cons, List.take_zero, List.drop_succ_cons, List.drop_zero, List.flatMap_cons, List.flatMap_nil, List.map_cons, List.map_nil, List.nil_append, List.cons_append, List.append_nil, List.mem_cons, List.not_mem_nil, or_false] at hp
    rcases hp with rfl | rfl | rfl | rfl | rfl | rfl | rfl | rfl | rfl <;> (unfold srt; simp only; omega)
theorem list5 {B : List Int} (h : B.length = 5) : ∃ a b c d e, B = [a, b, c, d, e] := by
  match B, h with
  | [a, b, c, d, e], _ => exact ⟨a, b, c, d, e, rfl⟩
theorem list6 {B : List Int} (h : B.length = 6) : ∃ a b c d e f, B = [a, b, c, d, e, f] := by
  match B, h with
  | [a, b, c, d, e, f], _ => exact ⟨a, b, c, d, e, f, rfl⟩
theorem perm_of_sub : ∀ {Q E : List Pr}, Q.Nodup → (∀ q, q ∈ Q → q ∈ E) → E.length = Q.length → E.Perm Q
  | [], E, _, _, hl => by
    have : E = [] := List.eq_nil_of_length_eq_zero (by simpa using hl)
    rw [this]
  | q :: Q, E, hn, hs, hl => by
    rw [List.nodup_cons] at hn
    have hq := hs q (by simp)
    have h1 := List.length_erase_of_mem hq
    have h2 := perm_of_sub (E := E.erase q) hn.2 (fun x hx => (List.mem_erase_of_ne (fun e => hn.1 (by rw [← e]; exact hx))).2 (hs x (by simp [hx]))) (by rw [h1, hl]; simp)
    exact (List.perm_cons_erase hq).trans (h2.cons q)
/-- The two ways to ask it. -/
theorem good_iff {Q E : List Pr} (hn : Q.Nodup) (hne : ∀ p, p ∈ Q → p.1 ≠ p.2) :
    (GoodE E ∧ (∀ q, q ∈ Q → q ∈ E) ∧ E.length = Q.length) ↔ (E.length = Q.length ∧ ∀ q, q ∈ Q → E.count q = 1) := by
  constructor
  · rintro ⟨⟨h1, _⟩, h3, h4⟩
    exact ⟨h4, fun q hq => h1.count (a := q) ▸ (by simp [h3 q hq])⟩
  · rintro ⟨h1, h2⟩
    have hs : ∀ q, q ∈ Q → q ∈ E := fun q hq => List.count_pos_iff.1 (by rw [h2 q hq]; omega)
    have hp := perm_of_sub hn hs h1
    exact ⟨⟨hp.nodup_iff.2 hn, fun p hpm => hne p (hp.mem_iff.1 hpm)⟩, hs, h1⟩
theorem brV_nodup (es : List Pr) (n : Nat) : (brV es n).Nodup := by
  unfold brV List.Nodup
  rw [List.pairwise_map]
  exact (List.Nodup.sublist List.filter_sublist List.nodup_range).imp fun h => by omega
theorem filter_perm {α : Type} (p q : α → Bool) (hq : ∀ x, q x = !p x) (l : List α) : (l.filter p ++ l.filter q).Perm l := by
  have : q = fun x => !p x := funext hq
  rw [this]
  exact List.filter_append_perm p l
theorem sides_perm (E : List Pr) (B : List Int) : (sidesOf E B).Perm B := filter_perm _ _ (fun x => by by_cases h : srt (B.headD 0) x ∈ E <;> simp [h]) B
theorem sidesR_perm (E : List Pr) (B : List Int) : (sidesR E B).Perm B := by
  refine filter_perm _ _ (fun x => ?_) B
  by_cases h : srt (B.headD 0) x ∈ E <;> by_cases h2 : x = B.headD 0 <;> simp [h, h2]
theorem sides_same {E : List Pr} (hg : GoodE E) (B : List Int) : sidesR E B = sidesOf E B := by
  have hno : srt (B.headD 0) (B.headD 0) ∉ E := fun h => hg.2 _ h (by unfold srt; simp only; omega)
  unfold sidesR sidesOf
  generalize B.headD 0 = b at hno ⊢
  have e1 : (B.filter fun v => decide (v = b ∨ srt (b) v ∉ E)) = B.filter fun v => decide (srt (b) v ∉ E) := by
    apply List.filter_congr
    intro v _
    by_cases h : v = b
    · subst h; simp [hno]
    · simp [h]
  have e2 : (B.filter fun v => decide (v ≠ b ∧ srt (b) v ∈ E)) = B.filter fun v => decide (srt (b) v ∈ E) := by
    apply List.filter_congr
    intro v _
    by_cases h : v = b
    · subst h; simp [hno]
    · simp [h]
  rw [e1, e2]
/-- How the program asks. -/
def KP (E : List Pr) (B : List Int) (d : Nat) : Prop :=
  GoodE E ∧ ((B.length = 5 ∧ d = 4 ∧ (∀ q, q ∈ pairsOf B → q ∈ E) ∧ E.length = 10) ∨ (B.length = 6 ∧ d = 3 ∧ (∀ q, q ∈ crossOf (sidesOf E B) → q ∈ E) ∧ E.length = 9))
/-- How the reference asks. -/
def KR (E : List Pr) (B : List Int) (d : Nat) : Prop :=
  (B.length = 5 ∧ d = 4 ∧ E.length = 10 ∧ ∀ q, q ∈ pairsOf B → E.count q = 1) ∨ (B.length = 6 ∧ d = 3 ∧ E.length = 9 ∧ ∀ q, q ∈ crossOf (sidesR E B) → E.count q = 1)
theorem kp_iff {E : List Pr} {B : List Int} {d : Nat} (hB : B.Nodup) : KP E B d ↔ KR E B d := by
  unfold KP KR
  constructor
  · rintro ⟨hg, ⟨h1, h2, h3, h4⟩ | ⟨h1, h2, h3, h4⟩⟩
    · obtain ⟨a, b, c, d', e, rfl⟩ := list5 h1
      obtain ⟨k1, k2, k3⟩ := nodup5 hB
      have := (good_iff k1 k3).1 ⟨hg, h3, by rw [h4, k2]⟩
      exact .inl ⟨h1, h2, h4, this.2⟩
    · have hp := sides_perm E B
      rw [← sides_same hg] at hp h3
      obtain ⟨a, b, c, d', e, f, hs⟩ := list6 (hp.length_eq.trans h1)
      have hn : (sidesR E B).Nodup := hp.nodup_iff.2 hB
      rw [hs] at hn h3 ⊢
      obtain ⟨k1, k2, k3⟩ := nodup33 hn
      have := (good_iff k1 k3).1 ⟨hg, h3, by rw [h4, k2]⟩
      exact .inr ⟨h1, h2, h4, this.2⟩
  · rintro (⟨h1, h2, h3, h4⟩ | ⟨h1, h2, h3, h4⟩)
    · obtain ⟨a, b, c, d', e, rfl⟩ := list5 h1
      obtain ⟨k1, k2, k3⟩ := nodup5 hB
      have := (good_iff k1 k3).2 ⟨by rw [h3, k2], h4⟩
      exact ⟨this.1, .inl ⟨h1, h2, this.2.1, h3⟩⟩
    · have hp := sidesR_perm E B
      obtain ⟨a, b, c, d', e, f, hs⟩ := list6 (hp.length_eq.trans h1)
      have hn : (sidesR E B).Nodup := hp.nodup_iff.2 hB
      have h4' := h4
      rw [hs] at hn h4'
      obtain ⟨k1, k2, k3⟩ := nodup33 hn
      have := (good_iff k1 k3).2 ⟨by rw [h3, k2], h4'⟩
      refine ⟨this.1, .inr ⟨h1, h2, ?_, h3⟩⟩
      rw [← sides_same this.1, hs]
      exact this.2.1
/-- A subdivision of K5 or K3,3, but for vertices without edges. -/
def KuraOk (n : Nat) (es : List Pr) : Prop := ∃ d, (∀ v, v ∈ brV es n → degV es v = d) ∧ KP (endsU es es.length) (brV es n) d
end Go.Fl

set_option linter.unusedVariables false
set_option linter.unusedSimpArgs false
set_option maxRecDepth 100000
namespace Go.Fl
open Go Go.Proofs
theorem nxt_first {es : List Pr} {h : Int} : nxtH es h = if ((outs es (toV es h))[0]?).getD (-1) = tw h then ((outs es (toV es h))[1]?).getD (-1) else ((outs es (toV es h))[0]?).getD (-1) := rfl
structure WyI where
  t : Nat
  v : Value
theorem way_calls {N : Int} {es : List Pr} {M : AdjM} {p : Option Addr} {w : World} {h : Int} (hA : AV w N es M p) (hh : VH es h) :
    Calls Tryz.prog 180 #[.pointer p, .int .i64 h] w (Ret w [] fun r L => L = [slc r 3 1 (ints (wayOf es h))]) := by
  have hV := hA.vld
  have hfew := hV.few
  have hst := wayT_stops hV hh
  refine calls_of (args := [_, _]) (L := []) Tryz.func180 rfl Tryz.ntmps180 rfl (Own.start _ _) ?_
  refine Zs ?_
  refine Za ?_
  refine Zx ?_
  refine Zs ?_
  refine Zm ?_
  refine Zm ?_
  refine Seq.rel0 rfl rfl (r_call en182 rfl rfl rfl (fun w' hw => From_calls (hA.keep hw) h)) ?_
  rintro _ rfl
  refine Za ?_
  refine Zx ?_
  refine Zs ?_
  refine Zm ?_
  refine Seq.new rfl rfl (n_slit (cs := #[_]) rfl rfl Tryz.underlying44 sz3 ze3 rfl (by decide) (by decide) rfl rfl) fun g13 => ?_
  refine Za ?_
  refine Zx ?_
  refine DC.seq ?_
  refine Zs ?_
  refine Zm ?_
  refine Zm ?_
  refine Seq.rel0 rfl rfl (r_call en181 rfl rfl rfl (fun w' hw => To_calls (hA.keep hw) h)) ?_
  rintro _ rfl
  refine Za ?_
  refine Zx ?_
  refine DC.block ?_
  refine DC.own (M := [slc (.slice (some ⟨g13, 0, none⟩) 1 1) 3 1 (ints (wayL es h 0))]) (fun w hw => own_slc (len := 1) (cap := 1) rfl (by decide) (by omega) (by omega) rfl rfl hw) ?_
  refine DC.loop (ι := WyI) (fun j => Way es h j.t)
    (fun j => [(0, .pointer p), (1, .int .i64 (wI es h j.t)), (5, .int .i64 (fromV es h)), (6, j.v), (7, .int .i64 (toV es (wI es h j.t)))])
    (fun j => [slc j.v 3 1 (ints (wayL es h j.t))]) (fun j => es.length * 2 - j.t) ⟨0, _⟩ ⟨hh, fun i hi => absurd hi (Nat.not_lt_zero _)⟩ ⟨rfl, rfl, rfl, rfl, rfl, trivial⟩ (.cons 0 rfl .nil) ?_
  rintro ⟨t, v⟩ hw
  dsimp only at hw ⊢
  have hlt := hw.lt hV
  have hvh := hw.all hV t (Nat.le_refl _)
  obtain ⟨hv0, hv1⟩ := hvh
  refine DC.seq ?_
  refine Zs ?_
  refine Zm ?_
  refine Zm ?_
  refine Seq.rel0 rfl rfl (r_call en159 rfl rfl rfl (fun w' hw => Degree_calls (hA.keep hw) _)) ?_
  rintro _ rfl
  refine Seq.pur rfl rfl (p_eql rfl rfl rfl) ?_
  refine Zm ?_
  refine Seq.split 21 rfl (fun k4_4 => ?_) (fun k4_4 => ?_)
  · refine Zm ?_
    refine Zm ?_
    refine Seq.pur rfl rfl (p_neq rfl rfl rfl) ?_
    refine Zt ?_
    refine Zx ?_
    refine DC.cond rfl (fun c4 => ?_) (fun c4 => ?_)
    · have hc : contH es (fromV es h) (wI es h t) := ⟨by simp at k4_4; unfold degV; omega, by simpa using c4⟩
      have hw1 : Way es h (t + 1) := ⟨hh, fun i hi => by
        rcases Nat.lt_succ_iff_lt_or_eq.1 hi with h1 | rfl
        · exact hw.cont i h1
        · exact hc⟩
      have hlt1 := hw1.lt hV
      have hvh := hw.all hV t (Nat.le_refl _)
      obtain ⟨s1, s2, s3, s4, s5⟩ := nxt_spec hV hvh hc.1
      refine DC.skip ?_
      refine Fin.then ?_
      refine DC.seq ?_
      refine DC.block ?_
      refine Zs ?_
      refine Zm ?_
      refine Seq.pur rfl rfl (p_xor1 rfl rfl rfl (by omega)) ?_
      refine Za ?_
      refine Zx ?_
      refine Zs ?_
      refine Zm ?_
      refine Zm ?_
      refine Seq.rel0 rfl rfl (r_call en193 rfl rfl rfl (fun w' hw => First_calls (hA.keep hw) _)) ?_
      rintro _ rfl
      refine Za ?_
      refine Zx ?_
      refine DC.seq ?_
      refine Zs ?_
      refine Zm ?_
      refine Zm ?_
      refine Seq.pur rfl rfl (p_eql rfl rfl rfl) ?_
      refine Zx ?_
      refine DC.cond rfl (fun c8 => ?_) (fun c8 => ?_)
      · refine DC.region ?_
        refine Zm ?_
        refine Zm ?_
        refine Seq.rel0 rfl rfl (r_call en194 rfl rfl rfl (fun w' hw => After_calls (hA.keep hw) _)) ?_
        rintro _ ⟨r, rfl, hr, _⟩
        have hout0 : (outs es (toV es (wI es h t)))[0]? = some (tw (wI es h t)) := by
          have h1 : ((outs es (toV es (wI es h t)))[0]?).getD (-1) = tw (wI es h t) := by
            unfold tw
            simpa using c8
          cases hq : (outs es (toV es (wI es h t)))[0]? with
          | none => rw [hq] at h1; have := hvh.tw.1; simp at h1; omega
          | some x => rw [hq] at h1; simpa using h1
        have hrr : r = wI es h (t + 1) := by
          show r = nxtH es (wI es h t)
          rw [nxt_first, hout0]
          simp only [Option.getD_some, if_true]
          exact hr _ 0 (by rw [hout0]; rfl)
        subst hrr
        refine Za ?_
        refine Zx ?_
        refine DC.region ?_
        refine Zm ?_
        refine Zm ?_
        refine Seq.new rfl rfl (n_slit (cs := #[_]) rfl rfl Tryz.underlying44 sz3 ze3 rfl (by decide) (by decide) rfl rfl) fun g42 => ?_
        refine Seq.gen rfl rfl (g_append rfl rfl rfl Tryz.underlying44 sz3 by3 ze3 rfl (by decide) (by decide) (fun w hw => hw.pick (.cons 1 rfl .nil)) (.inl ⟨_, _, rfl, hass_blk rfl⟩) rfl (ints_one [_] []) (by simp [wayL_len]; omega)) ?_
        rintro v43 _ rfl
        refine Za ?_
        refine Seq.nil ?_
        refine Fin.inBlock ?_
        refine Fin.then ?_
        refine DC.region ?_
        refine Zm ?_
        refine Zm ?_
        try (
          have hout0 : ((outs es (toV es (wI es h t)))[0]?).getD (-1) = wI es h (t + 1) := by
            show _ = nxtH es (wI es h t)
            rw [nxt_first, if_neg (by unfold tw; simpa using c8)]
          rw [hout0])
        refine Seq.rel0 rfl rfl (r_call en181 rfl rfl rfl (fun w' hw => To_calls (hA.keep hw) _)) ?_
        rintro _ rfl
        refine Za ?_
        refine Seq.nil ?_
        refine Fin.again ⟨t + 1, v43⟩ (by dsimp only; omega) hw1 ⟨rfl, rfl, rfl, rfl, rfl, trivial⟩ (.cons' 0 rfl (by dsimp only; rw [wayL_succ, ints_append]; rfl) .nil)
      · refine DC.skip ?_
        refine Fin.then ?_
        refine DC.region ?_
        refine Zm ?_
        refine Zm ?_
        refine Seq.new rfl rfl (n_slit (cs := #[_]) rfl rfl Tryz.underlying44 sz3 ze3 rfl (by decide) (by decide) rfl rfl) fun g42 => ?_
        refine Seq.gen rfl rfl (g_append rfl rfl rfl Tryz.underlying44 sz3 by3 ze3 rfl (by decide) (by decide) (fun w hw => hw.pick (.cons 1 rfl .nil)) (.inl ⟨_, _, rfl, hass_blk rfl⟩) rfl (ints_one [_] []) (by simp [wayL_len]; omega)) ?_
        rintro v43 _ rfl
        refine Za ?_
        refine Seq.nil ?_
        refine Fin.inBlock ?_
        refine Fin.then ?_
        refine DC.region ?_
        refine Zm ?_
        refine Zm ?_
        try (
          have hout0 : ((outs es (toV es (wI es h t)))[0]?).getD (-1) = wI es h (t + 1) := by
            show _ = nxtH es (wI es h t)
            rw [nxt_first, if_neg (by unfold tw; simpa using c8)]
          rw [hout0])
        refine Seq.rel0 rfl rfl (r_call en181 rfl rfl rfl (fun w' hw => To_calls (hA.keep hw) _)) ?_
        rintro _ rfl
        refine Za ?_
        refine Seq.nil ?_
        refine Fin.again ⟨t + 1, v43⟩ (by dsimp only; omega) hw1 ⟨rfl, rfl, rfl, rfl, rfl, trivial⟩ (.cons' 0 rfl (by dsimp only; rw [wayL_succ, ints_append]; rfl) .nil)
    · refine DC.exit ?_
      refine Fin.exit_then <| Fin.exit_then <| Fin.exit_here <| ?_
      refine Fin.then ?_
      refine Zs ?_
      refine Zm ?_
      refine Za ?_
      refine Zx ?_
      refine DC.ret ?_
      have hT : wayT es h = t := wayT_is ⟨hw, fun ⟨h1, h2⟩ => by first | (simp at c4; exact h2 c4) | (unfold degV at h1; simp at k4_4; omega)⟩
      refine Fin.weak (E' := [(4, _)]) (L' := [slc v 3 1 (ints (wayL es h t))]) ⟨rfl, trivial⟩ (.cons 0 rfl .nil) ?_
      refine Fin.end1 (.inl rfl) rfl rfl ?_
      unfold wayOf
      rw [hT]
  · refine Zk ?_
    refine Zk ?_
    refine Zk ?_
    refine Zg ?_
    refine Zx ?_
    refine DC.cond_f rfl ?_
    refine DC.exit ?_
    refine Fin.exit_then <| Fin.exit_then <| Fin.exit_here <| ?_
    refine Fin.then ?_
    refine Zs ?_
    refine Zm ?_
    refine Za ?_
    refine Zx ?_
    refine DC.ret ?_
    have hT : wayT es h = t := wayT_is ⟨hw, fun ⟨h1, h2⟩ => by first | (simp at c4; exact h2 c4) | (unfold degV at h1; simp at k4_4; omega)⟩
    refine Fin.weak (E' := [(4, _)]) (L' := [slc v 3 1 (ints (wayL es h t))]) ⟨rfl, trivial⟩ (.cons 0 rfl .nil) ?_
    refine Fin.end1 (.inl rfl) rfl rfl ?_
    unfold wayOf
    rw [hT]
end Go.Fl

set_option linter.unusedVariables false
set_option linter.unusedSimpArgs false
set_option linter.unusedSectionVars false
set_option maxRecDepth 100000
namespace Go.Fl
open Go Go.Proofs
/-- A slice of integers, its place written out. -/
def SlB (w : World) (v : Value) (xs : List Int) : Prop :=
  (∃ A c, v = .slice A 0 c ∧ xs = []) ∨ ∃ g off c, v = .slice (some ⟨g, off, none⟩) xs.length c ∧ xs.length ≤ c ∧ c ≤ 9223372036854775807 ∧ ∀ (j : Nat) x, xs[j]? = some x → w.cell? ⟨g, off + j, none⟩ = some (.int .i64 x)
section
variable {w0 w w' : World} {K : List Nat} {L F : List Chunk} {v : Value} {xs : List Int} {t : Nat}
theorem SlB.keep0 (h : SlB w0 v xs) (hw : Own w0 [] w L) : SlB w v xs := by
  rcases h with h | ⟨g, off, c, rfl, h1, h2, h3⟩
  · exact .inl h
  · refine .inr ⟨g, off, c, rfl, h1, h2, fun j x hx => ?_⟩
    have hc := h3 j x hx
    rw [hw.oldCell (World.block_lt_of_cell? w0 _ hc) (by simp)]; exact hc
theorem slb_own (hw : Own w0 K w (slc v t 1 (ints xs) :: F)) : SlB w v xs := by
  rcases own_open hw with ⟨rfl, h, _⟩ | ⟨g, len, cap, sp, rfl, h1, h2, h3, h4, hO⟩
  · exact .inl ⟨_, _, rfl, by cases xs; rfl; simp [ints] at h⟩
  · simp at h1
    subst h1
    refine .inr ⟨g, 0, cap, rfl, h2, h3, fun j x hx => ?_⟩
    have := hO.holds _ (List.mem_cons_self ..)
    rw [cell_of_row w g _ _ t (0, 0) this]
    have hj := (List.getElem?_eq_some_iff.1 hx).1
    rw [List.getElem?_toArray, Nat.zero_add, List.getElem?_append_left (by simpa using hj), ints_get hx]
/-- A part of it. -/
theorem SlB.drop {A : Option Addr} {len c k : Nat} (h : SlB w (.slice A len c) xs) (hk : k ≤ len) : SlB w (.slice (if c = k then A else A.map (·.add (k * 1))) (len - k) (c - k)) (xs.drop k) := by
  rcases h with ⟨A', c', e, rfl⟩ | ⟨g, off, c', e, h1, h2, h3⟩
  · cases e
    obtain rfl : k = 0 := by omega
    exact .inl ⟨_, _, rfl, by simp⟩
  · injection e with e1 e2 e3
    subst e1 e2 e3
    by_cases hl : k = xs.length
    · exact .inl ⟨_, _, by rw [hl, Nat.sub_self], by rw [hl, List.drop_length]⟩
    · rw [if_neg (by omega)]
      refine .inr ⟨g, off + k, c - k, ?_, by rw [List.length_drop]; omega, by omega, fun j x hx => ?_⟩
      · rw [List.length_drop]
        congr 1
        simp only [Option.map_some, Addr.add, Nat.mul_one]
        by_cases h0 : k = 0
        · subst h0; simp
        · rw [if_neg h0]
      · rw [List.getElem?_drop] at hx
        rw [Nat.add_assoc]; exact h3 _ _ hx
theorem SlB.take {A : Option Addr} {len c k : Nat} (h : SlB w (.slice A len c) xs) (hl : len = xs.length) (hk : k ≤ len) : SlB w (.slice A k c) (xs.take k) := by
  rcases h with ⟨A', c', e, rfl⟩ | ⟨g, off, c', e, h1, h2, h3⟩
  · cases e
    obtain rfl : k = 0 := by omega
    exact .inl ⟨_, _, rfl, by simp⟩
  · injection e with e1 e2 e3
    subst e1 e2 e3
    refine .inr ⟨g, off, c, by rw [List.length_take, Nat.min_eq_left hk], by rw [List.length_take]; omega, h2, fun j x hx => ?_⟩
    rw [List.getElem?_take] at hx
    split at hx
    · exact h3 j x hx
    · cases hx
theorem SlB.slv (h : SlB w v xs) (hf : xs.length ≤ 17592186044416) : ∃ A c, v = .slice A xs.length c ∧ Rd w A (ints xs) := by
  rcases h with ⟨A, c, rfl, rfl⟩ | ⟨g, off, c, rfl, h1, h2, h3⟩
  · exact ⟨A, c, rfl, fun j u h => by simp [ints] at h⟩
  · refine ⟨_, c, rfl, fun j u hj => ⟨_, rfl, ?_⟩⟩
    unfold ints at hj
    rw [List.getElem?_map, Option.map_eq_some_iff] at hj
    obtain ⟨x, hx, rfl⟩ := hj
    have : (⟨g, off, none⟩ : Addr).add j = ⟨g, off + j, none⟩ := by
      unfold Addr.add
      by_cases h0 : j = 0
      · subst h0; simp
      · rw [if_neg h0]
    rw [this]; exact h3 j x hx
theorem own_row {vs : List Value} {n : Nat} (h : w'.ownsRow w.heap.size t 1 v n vs) (hl : vs.length = n) (hb : RowKit.Below w.heap.size w w') : Own w [] w' [slc v t 1 vs] := by
  subst hl
  have hB : ∀ g, g ∈ v.ownBlock.toList → w.heap.size ≤ g ∧ g < w'.heap.size := by
    intro g hg
    rcases h.2 with ⟨rfl, _⟩ | ⟨g', cap, cur, rfl, h1, h2, _⟩
    · simp [Value.ownBlock] at hg
    · simp [Value.ownBlock] at hg
      subst hg
      exact ⟨h1, (Array.getElem?_eq_some_iff.1 h2).1⟩
  refine ⟨hb.os, hb.tape, hb.output, .inl trivial, hb.size, fun k hk _ => hb.block k hk, ?_, fun g hg => .inr (hB g (by simpa [slc] using hg)).1, fun g hg => (hB g (by simpa [slc] using hg)).2, fun c hc => ?_⟩
  · simp only [idsOf_cons, idsOf_nil, List.append_nil, slc]
    cases v.ownBlock <;> simp
  · simp at hc; subst hc
    show w'.ownsRow 0 t 1 v (vs.length / 1) vs
    rw [Nat.div_one]
    refine ⟨h.1, ?_⟩
    rcases h.2 with h2 | ⟨g', cap, cur, e, h1, r⟩
    · exact .inl h2
    · exact .inr ⟨g', cap, cur, e, Nat.zero_le _, r⟩
theorem below_nil (h : w' = w) : Own w [] w' [] := by subst h; exact Own.start _ _
theorem clone_calls (hv : SlB w v xs) (hl : xs.length ≤ 17592186044416) :
    Calls Tryz.prog 52 #[v] w (Ret w [] fun r L => L = [slc r 3 1 (ints xs)]) := by
  rcases hv with ⟨A, c, rfl, rfl⟩ | ⟨g, off, c, rfl, h1, h2, h3⟩
  · cases A with
    | none =>
      refine (Tryz.slices_Clone_int_nil 0 c w).mono ?_
      rintro e w' ⟨rfl, rfl⟩
      exact ⟨_, _, rfl, rfl, own_nil (Own.start _ _)⟩
    | some a =>
      refine (Tryz.slices_Clone_int_zero a c w).mono ?_
      rintro e w' ⟨v', rfl, h1, _, h2⟩
      exact ⟨_, _, rfl, rfl, own_row h1 rfl h2⟩
  · refine (Tryz.slices_Clone_int g off xs.length c xs w (Nat.le_refl _) (by omega) (fun j hj => ?_)).mono ?_
    · rw [List.getD_eq_getElem?_getD, List.getElem?_eq_getElem hj]
      exact h3 j _ (List.getElem?_eq_getElem hj)
    · rintro e w' ⟨v', rfl, h4, _, h5⟩
      rw [List.take_length] at h4
      exact ⟨_, _, rfl, rfl, own_row h4 (by simp) h5⟩
theorem own_map {g : Nat} {cs : Array Value} (hg : w.heap[g]? = some (.cells cs t (0, 0))) (f : Array Value → Array Value) (k : Nat) : Own w [g] (Sort.mapBlock (Sort.ahead w k) g f) [blk g t (f cs)] := by
  have hlt : g < w.heap.size := (Array.getElem?_eq_some_iff.1 hg).1
  refine ⟨rfl, rfl, rfl, .inl trivial, by simp [Sort.mapBlock, Sort.ahead], fun k hk hn => ?_, by simp [blk], fun x hx => ?_, fun x hx => ?_, fun c hc => ?_⟩
  · simp at hn
    simp only [Sort.mapBlock, Sort.ahead, Array.getElem?_modify]
    rw [if_neg (by omega)]
  · simp [blk] at hx; subst hx; exact .inl (by simp)
  · simp [blk] at hx; subst hx; simpa [Sort.mapBlock, Sort.ahead] using hlt
  · simp at hc; subst hc
    simp [blk, Sort.mapBlock, Sort.ahead, Array.getElem?_modify, hg, Sort.onCells]
theorem put_ints {a b : List Int} {sp : List Value} (h : b.length = a.length) : Sort.putCells (Value.int .i64) 0 b.toArray (ints a ++ sp).toArray = (ints b ++ sp).toArray := by
  apply Array.ext_getElem?
  intro k
  unfold Sort.putCells
  rw [Array.getElem?_mapIdx]
  simp only [List.getElem?_toArray, List.size_toArray, Nat.zero_le, true_and, Nat.zero_add, Nat.sub_zero]
  by_cases hk : k < b.length
  · rw [List.getElem?_append_left (by simp; omega), List.getElem?_append_left (by simp; omega)]
    simp [ints, hk, show k < a.length by omega]
  · rw [List.getElem?_append_right (by simp; omega), List.getElem?_append_right (by simp; omega)]
    have hk' : ¬ k < a.length := by omega
    simp only [h, hk', if_false, Option.map_id_fun', id, ints_length]
theorem rev_calls (hO : Own w (idsOf [slc v 3 1 (ints xs)]) w [slc v 3 1 (ints xs)]) :
    Calls Tryz.prog 53 #[v] w (Ret w (idsOf [slc v 3 1 (ints xs)]) fun r M => M = [slc v 3 1 (ints xs.reverse)]) := by
  rcases own_open hO with ⟨rfl, h, _⟩ | ⟨g, len, cap, sp, rfl, h1, h2, h3, h4, hb⟩
  · obtain rfl : xs = [] := by cases xs; rfl; simp [ints] at h
    refine (Tryz.slices_Reverse_int_empty none 0 w).mono ?_
    rintro e w' ⟨rfl, rfl⟩
    exact ⟨_, _, rfl, rfl, hO⟩
  · simp at h1
    subst h1
    have hg := hb.holds _ (List.mem_cons_self ..)
    refine (Tryz.slices_Reverse_int g 0 cap xs w (fun j hj => ?_) (by omega)).mono ?_
    · have hj' : j < xs.length := by simpa using hj
      constructor
      · rw [cell_of_row w g _ _ _ (0, 0) hg]
        rw [List.getElem?_toArray, Nat.zero_add, List.getElem?_append_left (by simpa using hj')]
        simp [ints, hj']
      · have hg' : w.heap[g]? = some (.cells (ints xs ++ sp).toArray 3 (0, 0)) := hg
        simp [World.frozen?, hg']
    · rintro e w' ⟨rfl, k, rfl⟩
      refine ⟨_, _, rfl, rfl, ?_⟩
      have := own_map hg (Sort.putCells (Value.int .i64) 0 xs.reverse.toArray) k
      rw [put_ints (by simp)] at this
      refine own_slc (by simp) (by decide) h2 h3 (by simp at h4 ⊢; omega) ?_ this
      simp
end
end Go.Fl

set_option linter.unusedVariables false
set_option linter.unusedSimpArgs false
set_option maxRecDepth 100000
namespace Go.Fl
open Go Go.Proofs
structure AbI where
  i : Nat
  zs : List Int
theorem about_calls {w : World} {v : Value} {xs : List Int} (hv : SlB w v xs) (hl : xs.length ≤ 17592186044416) (hx : ∀ x, x ∈ xs → 0 ≤ x ∧ x ≤ 9223372036854775807) :
    Calls Tryz.prog 183 #[v] w (Ret w [] fun r L => L = [slc r 3 1 (ints (aboutL xs))]) := by
  refine calls_of (args := [_]) (L := []) Tryz.func183 rfl Tryz.ntmps183 rfl (Own.start _ _) ?_
  refine Zs ?_
  refine Za ?_
  refine Zx ?_
  refine Zs ?_
  refine Zm ?_
  refine Seq.rel rfl rfl (r_call en52 rfl rfl rfl (fun w' hw => clone_calls (hv.keep0 hw) hl)) ?_
  rintro vc _ rfl
  refine Za ?_
  refine Zx ?_
  refine Zs ?_
  refine Zm ?_
  refine Seq.gen rfl rfl (g_call en53 rfl rfl rfl (Lc := [slc vc 3 1 (ints xs)]) (F := []) (.refl _) (fun k hk => hk) (fun w' hw => rev_calls hw.self)) ?_
  rintro v8 _ ⟨_, rfl, rfl⟩
  refine Zx ?_
  refine DC.seq ?_
  refine DC.seq ?_
  have hrl : xs.reverse.length = xs.length := List.length_reverse
  refine DC.slcs (i := 0) (xs := xs.reverse) rfl (by omega) ?_
  rintro A c rfl hA
  rw [hrl]
  refine DC.region ?_
  refine Zm ?_
  refine Zn Tryz.underlying44 ?_
  refine Zm ?_
  refine Zx ?_
  refine DC.block ?_
  refine DC.loop (ι := AbI) (fun j => j.i ≤ xs.length ∧ j.zs.length = xs.length ∧ ∀ (q : Nat), j.zs[q]? = if q < j.i then (xs.reverse[q]?).map tw else xs.reverse[q]?)
    (fun j => [(3, .slice A xs.length c), (10, .int .i64 xs.length), (11, .int .i64 j.i)])
    (fun j => [slc (.slice A xs.length c) 3 1 (ints j.zs)]) (fun j => xs.length - j.i) ⟨0, xs.reverse⟩ ⟨Nat.zero_le _, hrl, fun q => by rw [if_neg (Nat.not_lt_zero _)]⟩ ⟨rfl, rfl, rfl, trivial⟩ (.cons 0 rfl .nil) ?_
  rintro ⟨i, zs⟩ ⟨hi, hz, hq⟩
  dsimp only at hi hz hq ⊢
  refine Zs ?_
  refine Zc ?_
  refine Zx ?_
  refine DC.seq ?_
  refine DC.cond rfl (fun c4 => ?_) (fun c4 => ?_)
  · have hlt : i < xs.length := by simpa using c4
    obtain ⟨ad, rfl⟩ := hA (fun e => by rw [e] at hrl; simp at hrl; omega)
    obtain ⟨y, hy⟩ : ∃ y, xs.reverse[i]? = some y := ⟨_, List.getElem?_eq_getElem (by omega)⟩
    have hzy : zs[i]? = some y := by rw [hq, if_neg (Nat.lt_irrefl _)]; exact hy
    obtain ⟨hy0, hy1⟩ := hx y (List.mem_reverse.1 (List.mem_of_getElem? hy))
    refine DC.skip ?_
    refine Fin.then ?_
    refine DC.seq ?_
    refine DC.block ?_
    refine Zs ?_
    refine Zm ?_
    refine Za ?_
    refine Zx ?_
    refine DC.region ?_
    refine Zm ?_
    refine Zm ?_
    refine Seq.pur rfl rfl (p_index1 (ad' := ad.add i) rfl rfl rfl Tryz.underlying44 sz3 (by omega) (by omega) rfl) ?_
    refine Seq.val rfl rfl (v_load rfl rfl ag3 (has_slcI (i := 0) rfl hzy (by omega))) ?_
    refine Seq.pur rfl rfl (p_xor1 rfl rfl rfl (by omega)) ?_
    refine Seq.pur rfl rfl (p_index1 (ad' := ad.add i) rfl rfl rfl Tryz.underlying44 sz3 (by omega) (by omega) rfl) ?_
    refine Seq.sto rfl rfl (s_slcI (i := 0) (j := i) rfl rfl rfl rfl sz3 (by omega)) ?_
    refine Seq.nil ?_
    refine Fin.inBlock ?_
    refine Fin.then ?_
    refine DC.region ?_
    refine Zp ?_
    refine Zm ?_
    refine Seq.nil ?_
    refine Fin.again ⟨i + 1, zs.set i (tw y)⟩ (by dsimp only; omega) ⟨by dsimp only; omega, by simp [hz], fun q => ?_⟩ ⟨rfl, rfl, rfl, trivial⟩ (.cons 0 rfl .nil)
    dsimp only
    rw [List.getElem?_set]
    by_cases hqi : i = q
    · subst hqi
      rw [if_pos rfl, if_pos (by omega), if_pos (by omega), hy]; rfl
    · rw [if_neg hqi, hq]
      by_cases h1 : q < i
      · rw [if_pos h1, if_pos (by omega)]
      · rw [if_neg h1, if_neg (by omega)]
  · refine DC.exit ?_
    refine Fin.exit_then <| Fin.exit_then <| Fin.exit_here <| ?_
    refine Fin.then ?_
    refine Zs ?_
    refine Zm ?_
    refine Za ?_
    refine Zx ?_
    refine DC.ret ?_
    have hie : i = xs.length := by simp at c4; omega
    subst hie
    have hze : zs = aboutL xs := by
      apply List.ext_getElem?
      intro q
      rw [hq]
      unfold aboutL
      rw [List.getElem?_map]
      by_cases h1 : q < xs.length
      · rw [if_pos h1]
      · rw [if_neg h1, List.getElem?_eq_none (by omega)]; rfl
    refine Fin.weak (E' := [(2, _)]) (L' := [slc (.slice A xs.length c) 3 1 (ints zs)]) ⟨rfl, trivial⟩ (.cons 0 rfl .nil) ?_
    refine Fin.end1 (.inl rfl) rfl rfl ?_
    rw [hze]
end Go.Fl
