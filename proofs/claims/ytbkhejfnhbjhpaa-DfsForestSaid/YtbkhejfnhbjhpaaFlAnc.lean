/- Forests whose vertices stand in an order: ancestors, stretches. -/
import Derived.Test.YtbkhejfnhbjhpaaFlVr
set_option linter.unusedVariables false
set_option linter.unusedSimpArgs false
namespace Go.Fl
open Go

structure Pos (N : Nat) (pr : Int → Int) (o : Nat → Int) (a : Int → Int) : Prop where
  o0 : ∀ k, k < N → 0 ≤ o k ∧ o k < N
  oa : ∀ k, k < N → a (o k) = k
  ao : ∀ v : Int, 0 ≤ v → v < N → 0 ≤ a v ∧ a v < N ∧ o (a v).toNat = v
  prl : ∀ v : Int, 0 ≤ v → v < N → pr v < N

/-- u is reached from w by steps to the parent, each from a place not below k. -/
inductive AncK (pr a : Int → Int) (k : Int) (u : Int) : Int → Prop
  | refl : AncK pr a k u u
  | step {w : Int} (hk : k ≤ a w) (hp : 0 ≤ pr w) (h : AncK pr a k u (pr w)) : AncK pr a k u w

section
variable {N : Nat} {pr a : Int → Int} {o : Nat → Int} {k : Int} {u v w x y : Int}
theorem AncK.split (h : AncK pr a k u w) : u = w ∨ (k ≤ a w ∧ 0 ≤ pr w ∧ AncK pr a k u (pr w)) := by
  cases h with
  | refl => exact .inl rfl
  | step h1 h2 h3 => exact .inr ⟨h1, h2, h3⟩
theorem AncK.mono {k' : Int} (h : AncK pr a k u w) (hk : k' ≤ k) : AncK pr a k' u w := by
  induction h with
  | refl => exact .refl
  | step h1 h2 _ ih => exact .step (by omega) h2 ih
theorem AncK.trans (h : AncK pr a k v w) (h' : AncK pr a k u v) : AncK pr a k u w := by
  induction h with
  | refl => exact h'
  | step h1 h2 _ ih => exact .step h1 h2 ih
theorem AncK.stop (h : AncK pr a k u w) (hw : a w < k) : u = w := by
  cases h with
  | refl => rfl
  | step h1 _ _ => omega
theorem AncK.uniq (h : AncK pr a k x w) (h' : AncK pr a k y w) (hx : a x < k) (hy : a y < k) : x = y := by
  induction h with
  | refl => exact (h'.stop hx).symm
  | step h1 h2 _ ih =>
    cases h' with
    | refl => omega
    | step _ _ h3 => exact ih h3
theorem AncK.range (hP : Pos N pr o a) (h : AncK pr a k u w) (hw0 : 0 ≤ w) (hw1 : w < N) : 0 ≤ u ∧ u < N := by
  induction h with
  | refl => exact ⟨hw0, hw1⟩
  | step h1 h2 _ ih => exact ih h2 (hP.prl _ hw0 hw1)
/-- One step more: the one from v0, at place k. -/
theorem AncK.more {v0 : Int} (hP : Pos N pr o a) (hu : ∀ w : Int, a w = k → 0 ≤ w → w < N → w = v0) (h0 : a v0 = k) (hp : 0 ≤ pr v0) (hpk : a (pr v0) < k) (hw0 : 0 ≤ w) (hw1 : w < N) :
    AncK pr a k x w ↔ AncK pr a (k + 1) x w ∨ (x = pr v0 ∧ AncK pr a (k + 1) v0 w) := by
  constructor
  · intro h
    induction h with
    | refl => exact .inl .refl
    | @step w h1 h2 _ ih =>
      have hw : a w = k ∨ k + 1 ≤ a w := by omega
      rcases ih h2 (hP.prl _ hw0 hw1) with jh | ⟨hx, jh⟩
      · rcases hw with hw | hw
        · have e := hu w hw hw0 hw1
          rw [e] at jh ⊢
          exact .inr ⟨jh.stop (by omega), .refl⟩
        · exact .inl (.step hw h2 jh)
      · rcases hw with hw | hw
        · have e := hu w hw hw0 hw1
          rw [e] at jh
          have := jh.stop (by omega)
          rw [← this] at hpk; omega
        · exact .inr ⟨hx, .step hw h2 jh⟩
  · rintro (h | ⟨rfl, h⟩)
    · exact h.mono (by omega)
    · exact (h.mono (by omega)).trans (.step (by omega) hp .refl)
theorem AncK.same {v0 : Int} (hP : Pos N pr o a) (hu : ∀ w : Int, a w = k → 0 ≤ w → w < N → w = v0) (hp : pr v0 < 0) (hw0 : 0 ≤ w) (hw1 : w < N) : AncK pr a k x w ↔ AncK pr a (k + 1) x w := by
  constructor
  · intro h
    induction h with
    | refl => exact .refl
    | @step w h1 h2 _ ih =>
      have hw : a w = k ∨ k + 1 ≤ a w := by omega
      rcases hw with hw | hw
      · obtain rfl := hu w hw hw0 hw1; omega
      · exact .step hw h2 (ih h2 (hP.prl _ hw0 hw1))
  · exact fun h => h.mono (by omega)
/-- Parents stand earlier. -/
def Early (N : Nat) (pr a : Int → Int) : Prop := ∀ w : Int, 0 ≤ w → w < N → 0 ≤ pr w → a (pr w) < a w
theorem AncK.low (h : AncK pr a k u w) (hu : a u < k) : a u ≤ a w := by
  cases h with
  | refl => exact Int.le_refl _
  | step h1 _ _ => omega
theorem AncK.early (hP : Pos N pr o a) (hE : Early N pr a) (h : AncK pr a k u w) (h0 : 0 ≤ w) (h1 : w < N) : a u ≤ a w := by
  induction h with
  | refl => exact Int.le_refl _
  | step q1 q2 _ ih =>
    have := hE _ h0 h1 q2
    have := ih q2 (hP.prl _ h0 h1)
    omega
/-- Where parents stand earlier, a chain's steps are from places above its end. -/
theorem AncK.above (hP : Pos N pr o a) (hE : Early N pr a) (h : AncK pr a k u w) (h0 : 0 ≤ w) (h1 : w < N) : AncK pr a (a u + 1) u w := by
  induction h with
  | refl => exact .refl
  | step q1 q2 q3 ih =>
    have e1 := hE _ h0 h1 q2
    have e2 := q3.early hP hE q2 (hP.prl _ h0 h1)
    exact .step (by omega) q2 (ih q2 (hP.prl _ h0 h1))
/-- Each stands below the one ahead of it, or below one that this stands below. -/
def Next (N : Nat) (pr a : Int → Int) (o : Nat → Int) : Prop := ∀ i : Nat, i < N → 0 ≤ pr (o i) → 0 < i ∧ AncK pr a 0 (pr (o i)) (o (i - 1))
/-- What stands below one vertex stands side by side. -/
def Convex (N : Nat) (pr a : Int → Int) (o : Nat → Int) : Prop := ∀ i j j' : Nat, i ≤ j → j ≤ j' → j' < N → AncK pr a 0 (o i) (o j') → AncK pr a 0 (o i) (o j)
theorem next_early (hP : Pos N pr o a) (hN : Next N pr a o) : Early N pr a := by
  have key : ∀ n : Nat, ∀ w : Int, 0 ≤ w → w < N → a w = n → 0 ≤ pr w → a (pr w) < a w := by
    intro n
    induction n using Nat.strongRecOn with
    | ind n ih =>
      intro w h0 h1 hn hp
      obtain ⟨a0, a1, ao⟩ := hP.ao w h0 h1
      have ho : o n = w := by rw [hn] at ao; exact ao
      have hnN : n < N := by omega
      obtain ⟨hpos, hanc⟩ := hN n hnN (by rw [ho]; exact hp)
      rw [ho] at hanc
      have hx := hP.o0 (n - 1) (by omega)
      have hax := hP.oa (n - 1) (by omega)
      have low : ∀ {x : Int}, AncK pr a 0 (pr w) x → 0 ≤ x → x < N → a x < n → a (pr w) ≤ a x := by
        intro x hx
        induction hx with
        | refl => intro _ _ _; exact Int.le_refl _
        | @step x q1 q2 q3 jh =>
          intro x0 x1 xn
          obtain ⟨b0, b1, bo⟩ := hP.ao x x0 x1
          have := ih (a x).toNat (by omega) x x0 x1 (by omega) q2
          have := jh q2 (hP.prl _ x0 x1) (by omega)
          omega
      have := low hanc hx.1 hx.2 (by omega)
      omega
  intro w h0 h1 hp
  obtain ⟨a0, _⟩ := hP.ao w h0 h1
  exact key (a w).toNat w h0 h1 (by omega) hp
theorem next_convex (hP : Pos N pr o a) (hN : Next N pr a o) : Convex N pr a o := by
  intro i j j' hij hjj hj' h
  have hE := next_early hP hN
  obtain ⟨d, rfl⟩ : ∃ d, j' = j + d := ⟨j' - j, by omega⟩
  clear hjj
  induction d with
  | zero => exact h
  | succ d ih =>
    refine ih (by omega) ?_
    have hx := hP.o0 (j + (d + 1)) hj'
    have hne : o i ≠ o (j + (d + 1)) := by
      intro e
      have e1 := hP.oa i (by omega)
      have e2 := hP.oa (j + (d + 1)) hj'
      rw [e, e2] at e1; omega
    rcases h.split with h | ⟨q1, q2, q3⟩
    · exact absurd h hne
    · obtain ⟨_, h5⟩ := hN (j + (d + 1)) hj' q2
      exact h5.trans q3
theorem convex_next (hP : Pos N pr o a) (hE : Early N pr a) (hC : Convex N pr a o) : Next N pr a o := by
  intro i hi hp
  have hx := hP.o0 i hi
  have hpe := hE _ hx.1 hx.2 hp
  rw [hP.oa i hi] at hpe
  obtain ⟨b0, b1, bo⟩ := hP.ao _ hp (hP.prl _ hx.1 hx.2)
  refine ⟨by omega, ?_⟩
  have := hC (a (pr (o i))).toNat (i - 1) i (by omega) (by omega) hi (by rw [bo]; exact .step (by have := hP.oa i hi; omega) hp .refl)
  rwa [bo] at this
end

/-! ### counting a stretch -/
theorem cnt_le {p q : Nat → Bool} (l : List Nat) (h : ∀ j ∈ l, p j = true → q j = true) : l.countP p ≤ l.countP q := List.countP_mono_left h
theorem cnt_iv (i m N : Nat) (hm : m < N) (him : i ≤ m) : (List.range N).countP (fun j => decide (i ≤ j ∧ j ≤ m)) = m - i + 1 := by
  have key : ∀ n, (List.range n).countP (fun j => decide (i ≤ j ∧ j ≤ m)) = (min n (m + 1)) - i := by
    intro n
    induction n with
    | zero => simp
    | succ n ih =>
      rw [List.range_succ, List.countP_append, ih]
      by_cases h : i ≤ n ∧ n ≤ m
      · simp [h]; omega
      · simp [h]; omega
  rw [key]; omega
theorem cnt_full {p : Nat → Bool} {i m N : Nat} (hm : m < N) (him : i ≤ m) (hp : ∀ j, j < N → p j = true → i ≤ j ∧ j ≤ m) :
    (List.range N).countP p ≤ m - i + 1 ∧ ((List.range N).countP p = m - i + 1 ↔ ∀ j, i ≤ j → j ≤ m → p j = true) := by
  have hq := cnt_iv i m N hm him
  have hle : (List.range N).countP p ≤ (List.range N).countP (fun j => decide (i ≤ j ∧ j ≤ m)) := cnt_le _ fun j hj h => by simpa using hp j (List.mem_range.1 hj) h
  refine ⟨by omega, fun he j h1 h2 => ?_, fun h => ?_⟩
  · by_cases hpj : p j = true
    · exact hpj
    · exfalso
      have h3 : (List.range N).countP p + 1 ≤ (List.range N).countP (fun j => decide (i ≤ j ∧ j ≤ m)) := by
        have hsplit : List.range N = List.range j ++ (j :: (List.range (N - j - 1)).map (· + (j + 1))) := by
          have e1 : N = j + (N - j) := by omega
          rw [e1, List.range_add]
          congr 1
          have e2 : j + (N - j) - j - 1 = N - j - 1 := by omega
          rw [e2]
          obtain ⟨d, hd⟩ : ∃ d, N - j = d + 1 := ⟨N - j - 1, by omega⟩
          rw [hd, List.range_succ_eq_map]
          simp only [List.map_cons, List.map_map, Nat.add_zero, Nat.add_sub_cancel]
          congr 1
          apply List.map_congr_left
          intro x _
          simp; omega
        have hle1 : (List.range j).countP p ≤ (List.range j).countP (fun j => decide (i ≤ j ∧ j ≤ m)) := cnt_le _ fun x hx h => by simpa using hp x (by have := List.mem_range.1 hx; omega) h
        have hle2 : ((List.range (N - j - 1)).map (· + (j + 1))).countP p ≤ ((List.range (N - j - 1)).map (· + (j + 1))).countP (fun j => decide (i ≤ j ∧ j ≤ m)) := cnt_le _ fun x hx h => by
          simp only [List.mem_map, List.mem_range] at hx
          obtain ⟨y, hy, rfl⟩ := hx
          simpa using hp _ (by omega) h
        have hj : decide (i ≤ j ∧ j ≤ m) = true := by simp; omega
        have hpj' : p j = false := by simpa using hpj
        rw [hsplit, List.countP_append, List.countP_append, List.countP_cons, List.countP_cons, hj, hpj']
        simp only [if_true]
        have : (if false = true then 1 else 0) = 0 := rfl
        rw [this]
        omega
      omega
  · have : (List.range N).countP (fun j => decide (i ≤ j ∧ j ≤ m)) ≤ (List.range N).countP p := cnt_le _ fun j hj h1 => by
      simp only [decide_eq_true_eq] at h1
      exact h j h1.1 h1.2
    omega
theorem cnt_or {p q r : Nat → Bool} : ∀ (l : List Nat), (∀ j ∈ l, r j = (p j || q j)) → (∀ j ∈ l, ¬ (p j = true ∧ q j = true)) → l.countP r = l.countP p + l.countP q
  | [], _, _ => rfl
  | x :: l, h1, h2 => by
    have ih := cnt_or l (fun j hj => h1 j (List.mem_cons_of_mem _ hj)) (fun j hj => h2 j (List.mem_cons_of_mem _ hj))
    have e1 := h1 x (List.mem_cons_self ..)
    have e2 := h2 x (List.mem_cons_self ..)
    rw [List.countP_cons, List.countP_cons, List.countP_cons, ih, e1]
    cases hp : p x <;> cases hq : q x <;> simp_all <;> omega

noncomputable def ab (pr a : Int → Int) (k u w : Int) : Bool := @decide (AncK pr a k u w) (Classical.propDecidable _)
theorem ab_iff {pr a : Int → Int} {k u w : Int} : ab pr a k u w = true ↔ AncK pr a k u w := by
  unfold ab
  constructor
  · intro h; exact @of_decide_eq_true _ (Classical.propDecidable _) h
  · intro h; exact @decide_eq_true _ (Classical.propDecidable _) h
/-- What size and last hold once the places from k on are done. -/
structure Sz (N : Nat) (pr a : Int → Int) (o : Nat → Int) (k : Nat) (sz la : List Int) : Prop where
  ls : sz.length = N
  ll : la.length = N
  s : ∀ x : Int, 0 ≤ x → x < N → a x < k → getI sz x = ((List.range N).countP fun j => ab pr a k x (o j))
  l0 : ∀ x : Int, 0 ≤ x → x < N → ∃ m : Nat, getI la x = m ∧ m < N ∧ AncK pr a k x (o m) ∧ ∀ j : Nat, j < N → AncK pr a k x (o j) → j ≤ m
/-- What stands below the vertex at place i, by steps from behind it, stands side by side. -/
def Full (N : Nat) (pr a : Int → Int) (o : Nat → Int) (i : Nat) : Prop := ∀ j j' : Nat, i ≤ j → j ≤ j' → j' < N → AncK pr a (i + 1 : Nat) (o i) (o j') → AncK pr a (i + 1 : Nat) (o i) (o j)

section
variable {N : Nat} {pr a : Int → Int} {o : Nat → Int} {k : Nat} {sz la : List Int}
theorem Sz.check (hP : Pos N pr o a) (hN : N ≤ 1048576) (h : Sz N pr a o (k + 1) sz la) (hk : k < N) :
    getI la (o k) = wr (wr (a (o k) + getI sz (o k)) - 1) ↔ Full N pr a o k := by
  have ho := hP.o0 k hk
  have hao := hP.oa k hk
  obtain ⟨m, hm, hmN, hmA, hmax⟩ := h.l0 _ ho.1 ho.2
  have hs := h.s _ ho.1 ho.2 (by omega)
  have hge : ∀ j : Nat, j < N → AncK pr a (k + 1 : Nat) (o k) (o j) → k ≤ j := by
    intro j hj hA
    have := hA.low (by omega)
    rw [hP.oa j hj] at this; omega
  have hkm := hge m hmN hmA
  obtain ⟨c1, c2⟩ := cnt_full (p := fun j => ab pr a (k + 1 : Nat) (o k) (o j)) (N := N) hmN hkm (fun j hj hp => by
    have hp := ab_iff.1 hp
    exact ⟨hge j hj hp, hmax j hj hp⟩)
  rw [hm, hs, hao]
  generalize (List.range N).countP (fun j => ab pr a (k + 1 : Nat) (o k) (o j)) = C at c1 c2 ⊢
  have e1 : wr ((k : Int) + C) = (k : Int) + C := wrap_of (by omega)
  rw [e1]
  have e2 : wr ((k : Int) + C - 1) = (k : Int) + C - 1 := wrap_of (by omega)
  rw [e2]
  constructor
  · intro he
    have hall := c2.1 (by omega)
    intro j j' h1 h2 h3 h4
    exact ab_iff.1 (hall j h1 (by have := hmax j' h3 h4; omega))
  · intro hF
    have := c2.2 fun j h1 h2 => ab_iff.2 (hF j m h1 h2 hmN hmA)
    omega
theorem Pos.uniq (hP : Pos N pr o a) (hk : k < N) : ∀ w : Int, a w = k → 0 ≤ w → w < N → w = o k := by
  intro w h0 h1 h2
  have := (hP.ao w h1 h2).2.2
  rw [h0] at this; simpa using this.symm
theorem cnt_congr {p q : Nat → Bool} (l : List Nat) (h : ∀ j ∈ l, p j = q j) : l.countP p = l.countP q :=
  Nat.le_antisymm (cnt_le l fun j hj hp => by rw [← h j hj]; exact hp) (cnt_le l fun j hj hp => by rw [h j hj]; exact hp)
theorem ab_congr {k' : Int} {u w x y : Int} (h : AncK pr a k u w ↔ AncK pr a k' x y) : ab pr a k u w = ab pr a k' x y := by
  cases h1 : ab pr a k u w with
  | true => exact (ab_iff.2 (h.1 (ab_iff.1 h1))).symm
  | false =>
    cases h2 : ab pr a k' x y with
    | false => rfl
    | true => rw [ab_iff.2 (h.2 (ab_iff.1 h2))] at h1; cases h1
theorem Sz.stay (hP : Pos N pr o a) (h : Sz N pr a o (k + 1) sz la) (hk : k < N) (hp : pr (o k) < 0) : Sz N pr a o k sz la := by
  have hsame : ∀ (x w : Int), 0 ≤ w → w < N → (AncK pr a k x w ↔ AncK pr a (k + 1 : Nat) x w) := fun x w w0 w1 => AncK.same hP (hP.uniq hk) hp w0 w1
  refine ⟨h.ls, h.ll, fun x h0 h1 h2 => ?_, fun x h0 h1 => ?_⟩
  · rw [h.s x h0 h1 (by omega)]
    congr 1
    exact (cnt_congr _ fun j hj => ab_congr (hsame x (o j) (hP.o0 j (List.mem_range.1 hj)).1 (hP.o0 j (List.mem_range.1 hj)).2)).symm
  · obtain ⟨m, h3, h4, h5, h6⟩ := h.l0 x h0 h1
    exact ⟨m, h3, h4, (hsame x _ (hP.o0 m h4).1 (hP.o0 m h4).2).2 h5, fun j hj hA => h6 j hj ((hsame x _ (hP.o0 j hj).1 (hP.o0 j hj).2).1 hA)⟩
theorem Sz.join (hP : Pos N pr o a) (hN : N ≤ 1048576) (h : Sz N pr a o (k + 1) sz la) (hk : k < N) (hp : 0 ≤ pr (o k)) (hpk : a (pr (o k)) < k) :
    Sz N pr a o k (sz.set (pr (o k)).toNat (wr (getI sz (pr (o k)) + getI sz (o k)))) (la.set (pr (o k)).toNat (max (getI la (pr (o k))) (getI la (o k)))) := by
  have ho := hP.o0 k hk
  have hao := hP.oa k hk
  have hpN := hP.prl _ ho.1 ho.2
  have hmore : ∀ (x w : Int), 0 ≤ w → w < N → (AncK pr a k x w ↔ AncK pr a (k + 1 : Nat) x w ∨ (x = pr (o k) ∧ AncK pr a (k + 1 : Nat) (o k) w)) := fun x w w0 w1 => AncK.more hP (hP.uniq hk) hao hp hpk w0 w1
  have hne : pr (o k) ≠ o k := fun e => by rw [e, hao] at hpk; omega
  have hother : ∀ (x w : Int), x ≠ pr (o k) → 0 ≤ w → w < N → (AncK pr a k x w ↔ AncK pr a (k + 1 : Nat) x w) := fun x w hx w0 w1 =>
    ⟨fun hA => ((hmore x w w0 w1).1 hA).elim id (fun q => absurd q.1 hx), fun hA => (hmore x w w0 w1).2 (.inl hA)⟩
  refine ⟨by simp [h.ls], by simp [h.ll], fun x h0 h1 h2 => ?_, fun x h0 h1 => ?_⟩
  · rw [getI_set hp (by rw [h.ls]; omega) h0]
    by_cases hx : x = pr (o k)
    · rw [if_pos hx]
      have s1 := h.s _ hp hpN (by omega)
      have s2 := h.s _ ho.1 ho.2 (by omega)
      have hor := cnt_or (p := fun j => ab pr a (k + 1 : Nat) (pr (o k)) (o j)) (q := fun j => ab pr a (k + 1 : Nat) (o k) (o j)) (r := fun j => ab pr a k x (o j)) (List.range N) (fun j hj => by
          have hj := List.mem_range.1 hj
          have hh := hmore x (o j) (hP.o0 j hj).1 (hP.o0 j hj).2
          rw [Bool.eq_iff_iff, Bool.or_eq_true, ab_iff, ab_iff, ab_iff, hh, hx]
          simp) (fun j hj hb => by
          have h3 := ab_iff.1 hb.1
          have h4 := ab_iff.1 hb.2
          exact hne (h3.uniq h4 (by omega) (by omega)))
      have b1 : (List.range N).countP (fun j => ab pr a k x (o j)) ≤ N := by have := List.countP_le_length (p := fun j => ab pr a k x (o j)) (l := List.range N); simpa using this
      rw [s1, s2, hor]
      rw [hor] at b1
      rw [wr, wrap_of (by omega)]
      omega
    · rw [if_neg hx, h.s x h0 h1 (by omega)]
      congr 1
      exact (cnt_congr _ fun j hj => ab_congr (hother x (o j) hx (hP.o0 j (List.mem_range.1 hj)).1 (hP.o0 j (List.mem_range.1 hj)).2)).symm
  · rw [getI_set hp (by rw [h.ll]; omega) h0]
    obtain ⟨m, h3, h4, h5, h6⟩ := h.l0 x h0 h1
    by_cases hx : x = pr (o k)
    · rw [if_pos hx]
      obtain ⟨m2, g3, g4, g5, g6⟩ := h.l0 _ ho.1 ho.2
      rw [← hx, h3, g3]
      refine ⟨max m m2, by omega, by omega, ?_, fun j hj hA => ?_⟩
      · rcases Nat.le_total m m2 with hle | hle
        · rw [Nat.max_eq_right hle]
          exact (hmore x _ (hP.o0 m2 g4).1 (hP.o0 m2 g4).2).2 (.inr ⟨hx, g5⟩)
        · rw [Nat.max_eq_left hle]
          exact (hmore x _ (hP.o0 m h4).1 (hP.o0 m h4).2).2 (.inl h5)
      · rcases (hmore x _ (hP.o0 j hj).1 (hP.o0 j hj).2).1 hA with q | ⟨_, q⟩
        · have := h6 j hj q; omega
        · have := g6 j hj q; omega
    · rw [if_neg hx]
      exact ⟨m, h3, h4, (hother x _ hx (hP.o0 m h4).1 (hP.o0 m h4).2).2 h5, fun j hj hA => h6 j hj ((hother x _ hx (hP.o0 j hj).1 (hP.o0 j hj).2).1 hA)⟩
end
end Go.Fl
