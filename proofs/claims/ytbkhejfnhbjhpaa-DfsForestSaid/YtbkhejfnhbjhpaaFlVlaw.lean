/- dfs.Valid says what the document's Valid says: on lists. -/
import Derived.Test.YtbkhejfnhbjhpaaFlAnc
set_option linter.unusedVariables false
set_option linter.unusedSimpArgs false
namespace Go.Fl
open Go

theorem unset_zero {l : List Int} (h : unset l = 0) : ∀ x ∈ l, 0 ≤ x := by
  intro x hx
  unfold unset at h
  have := List.countP_eq_zero.1 h x hx
  simp at this; exact this

/-! ### places -/
structure PlInv (N : Nat) (od : List Int) (i : Nat) (at' : List Int) : Prop where
  l : at'.length = N
  ile : i ≤ N
  b : ∀ v : Int, 0 ≤ v → v < N → 0 ≤ getI at' v → getI at' v < i ∧ getI od (getI at' v) = v
  f : ∀ k : Nat, k < i → 0 ≤ getI od k ∧ getI od k < N ∧ getI at' (getI od k) = k
  u : unset at' + i = N
theorem placesF_pos {N : Nat} {od : List Int} (hl : od.length = N) : ∀ (d i : Nat) {at' b : List Int}, i + d = N → PlInv N od i at' → placesF N (od.drop i) i at' = some b → PlInv N od N b := by
  intro d
  induction d with
  | zero =>
    intro i at' b hi hI h
    obtain rfl : i = N := by omega
    rw [← hl, List.drop_length] at h
    cases h
    exact hI
  | succ d ih =>
    intro i at' b hi hI h
    have hlt : i < od.length := by omega
    have hd : od.drop i = getI od i :: od.drop (i + 1) := by rw [List.drop_eq_getElem_cons hlt, getI_nat, List.getElem?_eq_getElem hlt]; rfl
    rw [hd, placesF_cons] at h
    split at h
    · cases h
    · rename_i hn
      obtain ⟨v, hv⟩ : ∃ v, v = getI od i := ⟨_, rfl⟩
      rw [← hv] at h hn
      have hv0 : 0 ≤ v := by omega
      have hv1 : v < N := by omega
      have hneg : getI at' v < 0 := by omega
      refine ih (i + 1) (by omega) ?_ h
      have hset := fun (x : Int) (hx : 0 ≤ x) => getI_set (x := (i : Int)) hv0 (by rw [hI.l]; omega) hx
      refine ⟨by simp [hI.l], by omega, fun x x0 x1 hx => ?_, fun k hk => ?_, ?_⟩
      · rw [hset x x0] at hx ⊢
        by_cases he : x = v
        · rw [if_pos he]; exact ⟨by omega, by rw [he]; exact hv.symm⟩
        · rw [if_neg he] at hx ⊢
          have := hI.b x x0 x1 hx
          exact ⟨by omega, this.2⟩
      · rcases Nat.lt_succ_iff_lt_or_eq.1 hk with hk | rfl
        · obtain ⟨f1, f2, f3⟩ := hI.f k hk
          refine ⟨f1, f2, ?_⟩
          rw [hset _ f1]
          by_cases he : getI od k = v
          · rw [he] at f3; omega
          · rw [if_neg he]; exact f3
        · rw [← hv]
          exact ⟨hv0, hv1, by rw [hset v hv0, if_pos rfl]⟩
      · have := unset_set (l := at') (i := v.toNat) (x := (i : Int)) hneg (by omega)
        have := hI.u
        omega
theorem plInv0 (N : Nat) (od : List Int) : PlInv N od 0 (List.replicate N (-1)) := by
  refine ⟨by simp, Nat.zero_le _, fun v h0 h1 h2 => ?_, fun k hk => by omega, ?_⟩
  · unfold getI at h2
    rw [List.getElem?_replicate, if_pos (by omega)] at h2
    simp at h2
  · unfold unset; rw [List.countP_replicate]; simp
theorem placesF_Pos {N : Nat} {od at' : List Int} {pr : Int → Int} (hl : od.length = N) (hpr : ∀ v : Int, 0 ≤ v → v < N → pr v < N) (h : placesF N od 0 (List.replicate N (-1)) = some at') :
    at'.length = N ∧ Pos N pr (fun k => getI od k) (getI at') := by
  have hI := placesF_pos hl N 0 (by omega) (plInv0 N od) (by simpa using h)
  refine ⟨hI.l, fun k hk => ⟨(hI.f k hk).1, (hI.f k hk).2.1⟩, fun k hk => (hI.f k hk).2.2, fun v h0 h1 => ?_, hpr⟩
  have hu : unset at' = 0 := by have := hI.u; omega
  have hge : 0 ≤ getI at' v := unset_zero hu _ (List.mem_of_getElem? (getI_some (l := at') (i := v) (by rw [hI.l]; omega)))
  obtain ⟨b1, b2⟩ := hI.b v h0 h1 hge
  exact ⟨hge, b1, by rw [Int.toNat_of_nonneg hge]; exact b2⟩
theorem ordF_places {es : List Pr} {pa : List Int} {N : Nat} : ∀ (r : List Int) (i : Int) (at' : List Int) (sb : List Bool) (way : List Int), at'.length = N → sb.length = N → 0 ≤ i →
    (∀ v : Int, 0 ≤ v → v < N → ((sb[v.toNat]?).getD false = true ↔ 0 ≤ getI at' v)) → ordF es pa N r sb way = true → ∃ b, placesF N r i at' = some b
  | [], i, at', sb, way, _, _, _, _, _ => ⟨_, rfl⟩
  | v :: r, i, at', sb, way, hl, hs, hi, hsame, h => by
    rw [ordF_cons] at h
    rw [placesF_cons]
    split at h
    · cases h
    · rename_i hn
      have hv0 : 0 ≤ v := by omega
      have hv1 : v < N := by omega
      have hb : ¬ 0 ≤ getI at' v := fun q => hn (.inr (.inr ((hsame v hv0 hv1).2 q)))
      rw [if_neg (by omega)]
      have hsame' : ∀ x : Int, 0 ≤ x → x < N → (((sb.set v.toNat true)[x.toNat]?).getD false = true ↔ 0 ≤ getI (at'.set v.toNat i) x) := by
        intro x x0 x1
        rw [getI_set hv0 (by omega) x0]
        by_cases he : x = v
        · rw [he, List.getElem?_set_self (by omega), if_pos rfl]; simp [hi]
        · rw [List.getElem?_set_ne (by omega), if_neg he]; exact hsame x x0 x1
      split at h
      · exact ordF_places r (i + 1) _ _ _ (by simp [hl]) (by simp [hs]) (by omega) hsame' h
      · split at h
        · cases h
        · exact ordF_places r (i + 1) _ _ _ (by simp [hl]) (by simp [hs]) (by omega) hsame' h

/-! ### the way -/
inductive Ch (pr : Int → Int) : List Int → Prop
  | root {x : Int} (h : pr x < 0) : Ch pr [x]
  | cons {x : Int} {l : List Int} (h : 0 ≤ pr x) (r : Ch pr (pr x :: l)) : Ch pr (x :: pr x :: l)
section
variable {N : Nat} {pr a : Int → Int} {o : Nat → Int}
theorem ch_mem {l : List Int} (hc : Ch pr l) (ha : ∀ x ∈ l, 0 ≤ a x) : ∀ {x : Int} {r : List Int}, l = x :: r → ∀ p : Int, (p ∈ l ↔ AncK pr a 0 p x) := by
  induction hc with
  | root h =>
    intro x r e p
    cases e
    constructor
    · intro hp; simp at hp; rw [hp]; exact .refl
    · intro hA
      rcases hA.split with e | ⟨_, q, _⟩
      · simp [e]
      · omega
  | @cons y l h r ih =>
    intro x r' e p
    cases e
    have ih := ih (fun z hz => ha z (List.mem_cons_of_mem _ hz)) rfl p
    constructor
    · intro hp
      rcases List.mem_cons.1 hp with e | hp
      · rw [e]; exact .refl
      · exact .step (ha y (List.mem_cons_self ..)) h (ih.1 hp)
    · intro hA
      rcases hA.split with e | ⟨_, _, q⟩
      · rw [e]; exact List.mem_cons_self ..
      · exact List.mem_cons_of_mem _ (ih.2 q)
theorem ch_drop {l : List Int} (hc : Ch pr l) {p : Int} (hp : p ∈ l) : ∃ r, l.dropWhile (fun x => decide (x ≠ p)) = p :: r ∧ Ch pr (p :: r) ∧ ∀ x ∈ p :: r, x ∈ l := by
  induction hc with
  | @root x h =>
    simp at hp; subst hp
    exact ⟨[], by rw [List.dropWhile_cons_of_neg (by simp)], .root h, fun x hx => hx⟩
  | @cons y l h r ih =>
    by_cases he : y = p
    · subst he
      exact ⟨_, by rw [List.dropWhile_cons_of_neg (by simp)], .cons h r, fun x hx => hx⟩
    · rcases List.mem_cons.1 hp with e | hp
      · exact absurd e.symm he
      · obtain ⟨s, h1, h2, h3⟩ := ih hp
        exact ⟨s, by rw [List.dropWhile_cons_of_pos (by simpa using he)]; exact h1, h2, fun x hx => List.mem_cons_of_mem _ (h3 x hx)⟩
theorem drop_none {l : List Int} {p : Int} (hp : ¬ p ∈ l) : l.dropWhile (fun x => decide (x ≠ p)) = [] := by
  induction l with
  | nil => rfl
  | cons x r ih =>
    rw [List.dropWhile_cons_of_pos (by simp; intro e; exact hp (by rw [e]; exact List.mem_cons_self ..))]
    exact ih fun h => hp (List.mem_cons_of_mem _ h)
end
def NextAt (pr a : Int → Int) (o : Nat → Int) (i : Nat) : Prop := 0 ≤ pr (o i) → 0 < i ∧ AncK pr a 0 (pr (o i)) (o (i - 1))
theorem ordF_iff {es : List Pr} {pa od at' : List Int} {N : Nat} (hl : od.length = N) (hP : Pos N (par es pa) (fun k => getI od k) (getI at')) :
    ∀ (d i : Nat) (sb : List Bool) (way : List Int), i + d = N → sb.length = N → (∀ v : Int, 0 ≤ v → v < N → ((sb[v.toNat]?).getD false = true ↔ getI at' v < i)) → (i = 0 → way = []) → (∀ x ∈ way, 0 ≤ x ∧ x < N) →
      (0 < i → Ch (par es pa) way ∧ ∃ r, way = getI od (i - 1 : Nat) :: r) → (ordF es pa N (od.drop i) sb way = true ↔ ∀ j, i ≤ j → j < N → NextAt (par es pa) (getI at') (fun k => getI od k) j) := by
  intro d
  induction d with
  | zero =>
    intro i sb way hi _ _ _ _ _
    obtain rfl : i = N := by omega
    rw [← hl, List.drop_length]
    exact ⟨fun _ j h1 h2 => by omega, fun _ => rfl⟩
  | succ d ih =>
    intro i sb way hi hsb hsame h0 hrange hch
    have hlt : i < od.length := by omega
    have hd : od.drop i = getI od i :: od.drop (i + 1) := by rw [List.drop_eq_getElem_cons hlt, getI_nat, List.getElem?_eq_getElem hlt]; rfl
    obtain ⟨v, hv⟩ : ∃ v, v = getI od i := ⟨_, rfl⟩
    obtain ⟨o1, o2⟩ := hP.o0 i (by omega)
    have oa := hP.oa i (by omega)
    rw [← hv] at o1 o2 oa
    rw [hd, ordF_cons, ← hv]
    have hseen : ¬ (sb[v.toNat]?).getD false = true := fun q => by have := (hsame v o1 o2).1 q; omega
    have hno : ¬ (v < 0 ∨ (N : Int) ≤ v ∨ (sb[v.toNat]?).getD false = true) := by
      rintro (h | h | h)
      · omega
      · omega
      · exact hseen h
    rw [if_neg hno]
    have hsame' : ∀ x : Int, 0 ≤ x → x < N → (((sb.set v.toNat true)[x.toNat]?).getD false = true ↔ getI at' x < (i + 1 : Nat)) := by
      intro x x0 x1
      by_cases he : x = v
      · rw [he, List.getElem?_set_self (by omega), oa]; simp; omega
      · rw [List.getElem?_set_ne (by omega), hsame x x0 x1]
        constructor
        · intro q; omega
        · intro q
          have hne : getI at' x ≠ i := fun e => he (by rw [hv]; exact hP.uniq (by omega) x e x0 x1)
          omega
    have split : (∀ j, i ≤ j → j < N → NextAt (par es pa) (getI at') (fun k => getI od k) j) ↔ NextAt (par es pa) (getI at') (fun k => getI od k) i ∧ ∀ j, i + 1 ≤ j → j < N → NextAt (par es pa) (getI at') (fun k => getI od k) j := by
      constructor
      · intro h; exact ⟨h i (Nat.le_refl _) (by omega), fun j h1 h2 => h j (by omega) h2⟩
      · rintro ⟨h1, h2⟩ j h3 h4
        rcases Nat.lt_or_eq_of_le h3 with h5 | h5
        · exact h2 j h5 h4
        · rw [← h5]; exact h1
    by_cases hp : par es pa v < 0
    · rw [if_pos hp, split]
      have hn : NextAt (par es pa) (getI at') (fun k => getI od k) i := fun q => by dsimp only at q; rw [← hv] at q; omega
      rw [ih (i + 1) _ [v] (by omega) (by simp [hsb]) hsame' (by omega) (fun x hx => by simp at hx; rw [hx]; exact ⟨o1, o2⟩) (fun _ => ⟨.root hp, [], by simp [hv]⟩)]
      exact ⟨fun h => ⟨hn, h⟩, fun h => h.2⟩
    · rw [if_neg hp, split]
      have hiff : (par es pa v) ∈ way ↔ NextAt (par es pa) (getI at') (fun k => getI od k) i := by
        unfold NextAt
        dsimp only
        rw [← hv]
        by_cases hi0 : 0 < i
        · obtain ⟨c1, r, c2⟩ := hch hi0
          have := ch_mem (a := getI at') c1 (fun x hx => (hP.ao x (hrange x hx).1 (hrange x hx).2).1) c2 (par es pa v)
          rw [this]
          exact ⟨fun h _ => ⟨hi0, h⟩, fun h => (h (by omega)).2⟩
        · rw [h0 (by omega)]
          constructor
          · intro h; simp at h
          · intro h; have := (h (by omega)).1; omega
      by_cases hm : par es pa v ∈ way
      · have hi0 : 0 < i := by
          rcases Nat.eq_zero_or_pos i with e | e
          · rw [h0 e] at hm; simp at hm
          · exact e
        obtain ⟨c1, _⟩ := hch hi0
        obtain ⟨r, e1, e2, e3⟩ := ch_drop c1 hm
        rw [e1, if_neg (by simp), ih (i + 1) _ (v :: par es pa v :: r) (by omega) (by simp [hsb]) hsame' (by omega) (fun x hx => by
          rcases List.mem_cons.1 hx with e | hx
          · rw [e]; exact ⟨o1, o2⟩
          · exact hrange x (e3 x hx)) (fun _ => ⟨.cons (by omega) e2, _, by simp [hv]; rfl⟩)]
        exact ⟨fun h => ⟨hiff.1 hm, h⟩, fun h => h.2⟩
      · rw [drop_none hm, if_pos rfl]
        constructor
        · intro h; cases h
        · intro h; exact absurd (hiff.2 h.1) hm

/-! ### size and last -/
theorem szF_iff {es : List Pr} {pa od at' : List Int} {N : Nat} (hN : N ≤ 1048576) (hP : Pos N (par es pa) (fun k => getI od k) (getI at')) (hq : ∀ v : Int, 0 ≤ v → v < N → (par es pa v < 0 ↔ getI pa v < 0)) :
    ∀ (k : Nat) (sz la : List Int), k ≤ N → Sz N (par es pa) (getI at') (fun k => getI od k) k sz la →
      ((∃ r, szF es pa od at' k sz la = some r) ↔ ∀ i, i < k → Full N (par es pa) (getI at') (fun k => getI od k) i ∧ (0 ≤ par es pa (getI od i) → getI at' (par es pa (getI od i)) < i)) ∧
      ∀ r, szF es pa od at' k sz la = some r → Sz N (par es pa) (getI at') (fun k => getI od k) 0 r.1 r.2 := by
  intro k
  induction k with
  | zero =>
    intro sz la _ hS
    exact ⟨⟨fun _ i hi => by omega, fun _ => ⟨_, rfl⟩⟩, fun r hr => by cases hr; exact hS⟩
  | succ k ih =>
    intro sz la hk hS
    have ho := hP.o0 k (by omega)
    have hck := hS.check hP hN (by omega)
    rw [szF_succ]
    by_cases hF : Full N (par es pa) (getI at') (fun k => getI od k) k
    · rw [if_neg (by rw [Classical.not_not]; exact hck.2 hF)]
      by_cases hp : getI pa (getI od k) < 0
      · rw [if_pos hp]
        have hp' := (hq _ ho.1 ho.2).2 hp
        obtain ⟨i1, i2⟩ := ih sz la (by omega) (hS.stay hP (by omega) hp')
        refine ⟨i1.trans ⟨fun h i hi => ?_, fun h i hi => h i (by omega)⟩, i2⟩
        rcases Nat.lt_succ_iff_lt_or_eq.1 hi with hi | rfl
        · exact h i hi
        · exact ⟨hF, fun q => by omega⟩
      · rw [if_neg hp]
        have hpe : fromV es (getI pa (getI od k)) = par es pa (getI od k) := by unfold par; rw [if_neg hp]
        have hp' : 0 ≤ par es pa (getI od k) := by
          have := hq _ ho.1 ho.2
          by_cases h0 : par es pa (getI od k) < 0
          · exact absurd (this.1 h0) hp
          · omega
        rw [hpe]
        by_cases hE : getI at' (par es pa (getI od k)) < k
        · rw [if_neg (by omega)]
          obtain ⟨i1, i2⟩ := ih _ _ (by omega) (hS.join hP hN (by omega) hp' hE)
          refine ⟨i1.trans ⟨fun h i hi => ?_, fun h i hi => h i (by omega)⟩, i2⟩
          rcases Nat.lt_succ_iff_lt_or_eq.1 hi with hi | rfl
          · exact h i hi
          · exact ⟨hF, fun _ => hE⟩
        · rw [if_pos (by omega)]
          refine ⟨⟨fun ⟨r, hr⟩ => (by cases hr), fun h => absurd ((h k (by omega)).2 hp') hE⟩, fun r hr => by cases hr⟩
    · rw [if_pos (fun e => hF (hck.1 e))]
      exact ⟨⟨fun ⟨r, hr⟩ => (by cases hr), fun h => absurd (h k (by omega)).1 hF⟩, fun r hr => by cases hr⟩
theorem sz0 {N : Nat} {pr : Int → Int} {od at' : List Int} (hl : at'.length = N) (hP : Pos N pr (fun k => getI od k) (getI at')) : Sz N pr (getI at') (fun k => getI od k) N (List.replicate N 1) at' := by
  have only : ∀ (x : Int) (j : Nat), j < N → AncK pr (getI at') N x (getI od j) → x = getI od j := fun x j hj hA => hA.stop (by have := hP.oa j hj; omega)
  refine ⟨by simp, hl, fun x h0 h1 h2 => ?_, fun x h0 h1 => ?_⟩
  · have e1 : getI (List.replicate N 1) x = 1 := by unfold getI; rw [List.getElem?_replicate, if_pos (by omega)]; rfl
    rw [e1]
    obtain ⟨a0, a1, ao⟩ := hP.ao x h0 h1
    obtain ⟨c1, c2⟩ := cnt_full (p := fun j => ab pr (getI at') N x (getI od j)) (i := (getI at' x).toNat) (m := (getI at' x).toNat) (N := N) (by omega) (Nat.le_refl _) (fun j hj hp => by
      have := only x j hj (ab_iff.1 hp)
      have := hP.oa j hj
      rw [← ‹x = getI od j›] at this
      omega)
    have := c2.2 (fun j h3 h4 => ab_iff.2 (by rw [show j = (getI at' x).toNat by omega, ao]; exact .refl))
    rw [this]; simp
  · obtain ⟨a0, a1, ao⟩ := hP.ao x h0 h1
    refine ⟨(getI at' x).toNat, by omega, by omega, ?_, fun j hj hA => ?_⟩
    · rw [ao]; exact .refl
    · have := only x j hj hA
      have h5 := hP.oa j hj
      rw [← this] at h5
      omega
theorem full_iff {N : Nat} {pr a : Int → Int} {o : Nat → Int} (hP : Pos N pr o a) : (∀ i, i < N → Full N pr a o i ∧ (0 ≤ pr (o i) → a (pr (o i)) < i)) ↔ Early N pr a ∧ Convex N pr a o := by
  have full_anc : Early N pr a → ∀ (i j : Nat), i < N → j < N → (AncK pr a (i + 1 : Nat) (o i) (o j) ↔ AncK pr a 0 (o i) (o j)) := by
    intro hE i j hi hj
    have hj' := hP.o0 j hj
    constructor
    · intro h; exact h.mono (by omega)
    · intro h
      have := h.above hP hE hj'.1 hj'.2
      rw [hP.oa i hi] at this
      exact this
  constructor
  · intro h
    have hE : Early N pr a := by
      intro w w0 w1 hp
      obtain ⟨a0, a1, ao⟩ := hP.ao w w0 w1
      have := (h (a w).toNat (by omega)).2 (by rw [ao]; exact hp)
      rw [ao] at this; omega
    refine ⟨hE, fun i j j' h1 h2 h3 h4 => ?_⟩
    have := (h i (by omega)).1 j j' h1 h2 h3 ((full_anc hE i j' (by omega) h3).2 h4)
    exact (full_anc hE i j (by omega) (by omega)).1 this
  · rintro ⟨hE, hC⟩ i hi
    refine ⟨fun j j' h1 h2 h3 h4 => ?_, fun hp => ?_⟩
    · exact (full_anc hE i j hi (by omega)).2 (hC i j j' h1 h2 h3 ((full_anc hE i j' hi h3).1 h4))
    · have ho := hP.o0 i hi
      have := hE _ ho.1 ho.2 hp
      rw [hP.oa i hi] at this; exact this

/-! ### the edges -/
theorem leadF_iff {es : List Pr} {pa at' la : List Int} : ∀ {oi : List Int} {e : Int}, leadF es pa at' la e oi = true ↔ ∀ (j : Nat) h, oi[j]? = some h → (h = 2 * (e + j) ∨ h = 2 * (e + j) + 1) ∧
    (getI pa (toV es h) = h ∨ (getI at' (toV es h) < getI at' (fromV es h) ∧ getI at' (fromV es h) ≤ getI la (toV es h)))
  | [], e => by simp [leadF]
  | x :: r, e => by
    rw [leadF_cons]
    constructor
    · intro hl j h hj
      split at hl
      · cases hl
      · split at hl
        · cases hl
        · match j, hj with
          | 0, hj => simp at hj; subst hj; omega
          | j + 1, hj =>
            simp at hj
            have := leadF_iff.1 hl j h hj
            refine ⟨by omega, this.2⟩
    · intro hl
      have h0 := hl 0 x rfl
      rw [if_neg (by omega), if_neg (by omega)]
      refine leadF_iff.2 fun j h hj => ?_
      have := hl (j + 1) h (by simpa using hj)
      exact ⟨by omega, this.2⟩
theorem sideF_iff : ∀ {oi : List Int} {e : Int}, sideF e oi = true ↔ ∀ (j : Nat) h, oi[j]? = some h → h = 2 * (e + j) ∨ h = 2 * (e + j) + 1
  | [], e => by simp [sideF]
  | x :: r, e => by
    show (if x ≠ 2 * e ∧ x ≠ 2 * e + 1 then false else sideF (e + 1) r) = true ↔ _
    constructor
    · intro hl j h hj
      split at hl
      · cases hl
      · match j, hj with
        | 0, hj => simp at hj; subst hj; omega
        | j + 1, hj =>
          simp at hj
          have := sideF_iff.1 hl j h hj
          omega
    · intro hl
      have h0 := hl 0 x rfl
      rw [if_neg (by omega)]
      refine sideF_iff.2 fun j h hj => ?_
      have := hl (j + 1) h (by simpa using hj)
      omega
theorem rleadF_iff {es : List Pr} {pa he : List Int} {N : Nat} : ∀ {oi : List Int}, rleadF es pa he N oi = true ↔ ∀ h ∈ oi, getI pa (toV es h) = h ∨ (getI he (toV es h) < getI he (fromV es h) ∧ aboveF es pa (N + 1) (toV es h) (fromV es h) = true)
  | [] => by simp [rleadF]
  | x :: r => by
    have ih := rleadF_iff (es := es) (pa := pa) (he := he) (N := N) (oi := r)
    show (if getI pa (toV es x) = x then rleadF es pa he N r else if getI he (fromV es x) ≤ getI he (toV es x) then false else
      if aboveF es pa (N + 1) (toV es x) (fromV es x) = true then rleadF es pa he N r else false) = true ↔ _
    rw [List.forall_mem_cons]
    by_cases h1 : getI pa (toV es x) = x
    · rw [if_pos h1, ih]; exact ⟨fun h => ⟨.inl h1, h⟩, fun h => h.2⟩
    · rw [if_neg h1]
      by_cases h2 : getI he (fromV es x) ≤ getI he (toV es x)
      · rw [if_pos h2]
        constructor
        · intro h; cases h
        · rintro ⟨h | h, _⟩
          · exact absurd h h1
          · omega
      · rw [if_neg h2]
        by_cases h3 : aboveF es pa (N + 1) (toV es x) (fromV es x) = true
        · rw [if_pos h3, ih]; exact ⟨fun h => ⟨.inr ⟨by omega, h3⟩, h⟩, fun h => h.2⟩
        · rw [if_neg h3]
          constructor
          · intro h; cases h
          · rintro ⟨h | h, _⟩
            · exact absurd h h1
            · exact absurd h.2 h3
/-- What 'height' says in a forest that hangs, whose parents stand earlier. -/
theorem heights {es : List Pr} {pa he oi : List Int} {N : Nat} {a : Int → Int} {o : Nat → Int} (hV : Vld N es) (hH : Hangs es pa he oi N) (hP : Pos N (par es pa) o a) (hE : Early N (par es pa) a) :
    ∀ (n : Nat) (v : Int), 0 ≤ v → v < N → a v = n → 0 ≤ getI he v ∧ getI he v ≤ n ∧ (getI he v = 0 ↔ getI pa v = -1) ∧ (0 ≤ par es pa v → getI he v = getI he (par es pa v) + 1) := by
  intro n
  have hN := hV.hi
  induction n using Nat.strongRecOn with
  | ind n ih =>
    intro v v0 v1 hn
    have hh := hH v v0 v1
    obtain ⟨q1, q2, q3, q4⟩ := hang_par hV hh
    unfold hangB at hh
    by_cases hr : getI pa v = -1
    · rw [if_pos hr] at hh
      have h0 : getI he v = 0 := by simpa using hh
      exact ⟨by omega, by omega, ⟨fun _ => hr, fun _ => h0⟩, fun h => by have := q4.2 (by omega); omega⟩
    · rw [if_neg hr] at hh
      split at hh
      · cases hh
      · rename_i hcond
        simp only [decide_eq_true_eq] at hh
        have hpa : ¬ getI pa v < 0 := by omega
        have hpe : par es pa v = fromV es (getI pa v) := by unfold par; rw [if_neg hpa]
        have hp0 : 0 ≤ par es pa v := by
          by_cases h0 : par es pa v < 0
          · exact absurd (q4.1 h0) hpa
          · omega
        have he := hE v v0 v1 hp0
        obtain ⟨b0, b1, bo⟩ := hP.ao _ hp0 q3
        obtain ⟨r1, r2, r3, r4⟩ := ih (a (par es pa v)).toNat (by omega) _ hp0 q3 (by omega)
        have h5 := hh.2
        rw [← hpe, wr, wrap_of (by omega)] at h5
        exact ⟨by omega, by omega, ⟨fun h => by omega, fun h => absurd h hr⟩, fun _ => h5⟩
theorem aboveF_iff {es : List Pr} {pa he : List Int} {N : Nat} {a : Int → Int} {o : Nat → Int} (hP : Pos N (par es pa) o a) (hr : ∀ v : Int, 0 ≤ v → v < N → 0 ≤ getI he v ∧ (0 ≤ par es pa v → getI he v = getI he (par es pa v) + 1)) (u : Int) (hu : 0 ≤ u) :
    ∀ (k : Nat) (v : Int), v < N → (0 ≤ v → getI he v < k) → (aboveF es pa (k + 1) u v = true ↔ 0 ≤ v ∧ AncK (par es pa) a 0 u v) := by
  intro k
  induction k with
  | zero =>
    intro v v1 hk
    have : v < 0 := by
      by_cases h : v < 0
      · exact h
      · have := hk (by omega); have := (hr v (by omega) v1).1; omega
    show (if v < 0 then false else if u = v then true else aboveF es pa 0 u (par es pa v)) = true ↔ _
    rw [if_pos this]
    constructor
    · intro h; cases h
    · rintro ⟨h, _⟩; omega
  | succ k ih =>
    intro v v1 hk
    show (if v < 0 then false else if u = v then true else aboveF es pa (k + 1) u (par es pa v)) = true ↔ _
    by_cases h0 : v < 0
    · rw [if_pos h0]
      constructor
      · intro h; cases h
      · rintro ⟨h, _⟩; omega
    · rw [if_neg h0]
      by_cases he : u = v
      · rw [if_pos he]
        exact ⟨fun _ => ⟨by omega, by rw [he]; exact .refl⟩, fun _ => rfl⟩
      · rw [if_neg he]
        have h1 := hr v (by omega) v1
        have h2 := hk (by omega)
        rw [ih (par es pa v) (hP.prl v (by omega) v1) (fun h => by have := h1.2 h; omega)]
        constructor
        · rintro ⟨h3, h4⟩
          exact ⟨by omega, .step (hP.ao v (by omega) v1).1 h3 h4⟩
        · rintro ⟨_, h4⟩
          rcases h4.split with h5 | ⟨_, h6, h7⟩
          · exact absurd h5 he
          · exact ⟨h6, h7⟩

/-- The two say the same. -/
theorem valid_same (N : Int) (es : List Pr) (pa he od oi : List Int) : validF N es pa he od oi = rvalidF N es pa he od oi := by
  by_cases hVL : Vld N es ∧ Len N es.length pa he od oi
  rotate_left 1
  · unfold validF rvalidF; rw [if_neg hVL, if_neg hVL]
  obtain ⟨hV, hL⟩ := hVL
  have hN0 := hV.lo
  have hN1 := hV.hi
  obtain ⟨Nn, rfl⟩ := Int.eq_ofNat_of_zero_le hN0
  have l2 : od.length = Nn := by have := hL.od; omega
  have l3 := hL.oi
  have e1 : validF Nn es pa he od oi = match placesF Nn od 0 (List.replicate Nn (-1)) with
    | none => false
    | some at' => hangsF es pa he oi Nn &&
      match szF es pa od at' Nn (List.replicate Nn 1) at' with
      | none => false
      | some (_, la) => leadF es pa at' la 0 oi := by unfold validF; rw [if_pos ⟨hV, hL⟩]; rfl
  have e2 : rvalidF Nn es pa he od oi = (hangsF es pa he oi Nn && (rootF pa he Nn && (ordF es pa Nn od (List.replicate Nn false) [] && (sideF 0 oi && rleadF es pa he Nn oi)))) := by unfold rvalidF; rw [if_pos ⟨hV, hL⟩]; rfl
  rw [e1, e2]
  clear e1 e2
  by_cases hH : hangsF es pa he oi Nn = true
  rotate_left 1
  · have hH : hangsF es pa he oi Nn = false := by simpa using hH
    rw [hH]
    cases placesF Nn od 0 (List.replicate Nn (-1)) <;> simp
  have hHg := hangsF_iff.1 hH
  rw [hH, Bool.true_and]
  have hq : ∀ v : Int, 0 ≤ v → v < Nn → (par es pa v < 0 ↔ getI pa v < 0) := fun v v0 v1 => (hang_par hV (hHg v v0 v1)).2.2.2
  have hprl : ∀ v : Int, 0 ≤ v → v < Nn → par es pa v < Nn := fun v v0 v1 => (hang_par hV (hHg v v0 v1)).2.2.1
  cases hpl : placesF Nn od 0 (List.replicate Nn (-1)) with
  | none =>
    have : ordF es pa Nn od (List.replicate Nn false) [] = false := by
      cases ho : ordF es pa Nn od (List.replicate Nn false) [] with
      | false => rfl
      | true =>
        obtain ⟨b, hb⟩ := ordF_places od 0 (List.replicate Nn (-1)) (List.replicate Nn false) [] (by simp) (by simp) (by omega) (fun v v0 v1 => by
          unfold getI
          rw [List.getElem?_replicate, List.getElem?_replicate, if_pos (by omega), if_pos (by omega)]
          simp) ho
        rw [hpl] at hb; cases hb
    rw [this]; simp
  | some at' =>
    dsimp only
    rw [Bool.true_and]
    obtain ⟨lat, hP⟩ := placesF_Pos l2 hprl hpl
    obtain ⟨z1, z2⟩ := szF_iff (by omega) hP hq Nn (List.replicate Nn 1) at' (Nat.le_refl _) (sz0 lat hP)
    have hord := ordF_iff l2 hP Nn 0 (List.replicate Nn false) [] (by omega) (by simp) (fun v v0 v1 => by
      have := (hP.ao v v0 v1).1
      rw [List.getElem?_replicate, if_pos (by omega)]
      simp; omega) (fun _ => rfl) (fun x hx => by simp at hx) (fun h => by omega)
    rw [List.drop_zero] at hord
    have hnext : (ordF es pa Nn od (List.replicate Nn false) [] = true) ↔ Next Nn (par es pa) (getI at') (fun k => getI od k) := by
      rw [hord]
      exact ⟨fun h i hi => h i (Nat.zero_le _) hi, fun h i _ hi => h i hi⟩
    have hfull := full_iff hP
    cases hsz : szF es pa od at' Nn (List.replicate Nn 1) at' with
    | none =>
      have : ordF es pa Nn od (List.replicate Nn false) [] = false := by
        cases ho : ordF es pa Nn od (List.replicate Nn false) [] with
        | false => rfl
        | true =>
          have hNx := hnext.1 ho
          obtain ⟨r, hr⟩ := z1.2 (hfull.2 ⟨next_early hP hNx, next_convex hP hNx⟩)
          rw [hsz] at hr; cases hr
      rw [this]; simp
    | some r =>
      obtain ⟨sz', la⟩ := r
      dsimp only
      have hS := z2 _ hsz
      obtain ⟨hE, hC⟩ := hfull.1 (z1.1 ⟨_, hsz⟩)
      have ho := hnext.2 (convex_next hP hE hC)
      have hht := heights hV hHg hP hE
      have hht2 : ∀ v : Int, 0 ≤ v → v < Nn → 0 ≤ getI he v ∧ getI he v ≤ getI at' v ∧ (getI he v = 0 ↔ getI pa v = -1) ∧ (0 ≤ par es pa v → getI he v = getI he (par es pa v) + 1) := by
        intro v v0 v1
        have ha := hP.ao v v0 v1
        have := hht (getI at' v).toNat v v0 v1 (by omega)
        refine ⟨this.1, by omega, this.2.2⟩
      have hroot : rootF pa he Nn = true := by
        rw [rootF_iff]
        intro v v0 v1
        have h1 := hht2 v v0 v1
        have ha := hP.ao v v0 v1
        simp only [rootB, decide_eq_true_eq]
        exact ⟨h1.1, by omega, h1.2.2.1⟩
      rw [hroot, ho, Bool.true_and, Bool.true_and]
      rw [Bool.eq_iff_iff, Bool.and_eq_true, leadF_iff, sideF_iff, rleadF_iff]
      have hab : ∀ u v : Int, 0 ≤ u → 0 ≤ v → v < Nn → (aboveF es pa (Nn + 1) u v = true ↔ AncK (par es pa) (getI at') 0 u v) := by
        intro u v u0 v0 v1
        rw [aboveF_iff hP (fun v v0 v1 => ⟨(hht2 v v0 v1).1, (hht2 v v0 v1).2.2.2⟩) u u0 Nn v v1 (fun _ => by
          have h1 := hht2 v v0 v1
          have ha := hP.ao v v0 v1
          omega)]
        exact ⟨fun h => h.2, fun h => ⟨v0, h⟩⟩
      have hlow : ∀ {u v : Int}, AncK (par es pa) (getI at') 0 u v → 0 ≤ v → v < Nn → u ≠ v → getI he u < getI he v := by
        intro u v hA
        have key : ∀ {v : Int}, AncK (par es pa) (getI at') 0 u v → 0 ≤ v → v < Nn → getI he u ≤ getI he v := by
          intro v hA
          induction hA with
          | refl => intro _ _; exact Int.le_refl _
          | @step w _ h2 _ ih =>
            intro w0 w1
            have := ih h2 (hprl w w0 w1)
            have := (hht2 w w0 w1).2.2.2 h2
            omega
        intro v0 v1 hne
        rcases hA.split with h | ⟨_, h2, h3⟩
        · exact absurd h hne
        · have := key h3 h2 (hprl v v0 v1)
          have := (hht2 v v0 v1).2.2.2 h2
          omega
      have hedge : ∀ h : Int, 0 ≤ h → h < es.length * 2 →
          ((getI at' (toV es h) < getI at' (fromV es h) ∧ getI at' (fromV es h) ≤ getI la (toV es h)) ↔ (getI he (toV es h) < getI he (fromV es h) ∧ aboveF es pa (Nn + 1) (toV es h) (fromV es h) = true)) := by
        intro h h0 h1
        have hf := fromV_range hV h0 h1
        have ht := toV_range hV h0 h1
        rw [hab _ _ ht.1 hf.1 hf.2]
        obtain ⟨m, m1, m2, m3, m4⟩ := hS.l0 _ ht.1 ht.2
        dsimp only at m1 m3 m4
        have at1 := hP.ao _ ht.1 ht.2
        have af1 := hP.ao _ hf.1 hf.2
        rw [m1]
        constructor
        · rintro ⟨g1, g2⟩
          have hA : AncK (par es pa) (getI at') 0 (toV es h) (fromV es h) := by
            have := hC (getI at' (toV es h)).toNat (getI at' (fromV es h)).toNat m (by omega) (by omega) m2 (by dsimp only; rw [at1.2.2]; exact m3)
            dsimp only at this
            rw [at1.2.2, af1.2.2] at this
            exact this
          refine ⟨hlow hA hf.1 hf.2 (fun e => ?_), hA⟩
          rw [e] at g1; omega
        · rintro ⟨g1, g2⟩
          have hne : toV es h ≠ fromV es h := fun e => by rw [e] at g1; omega
          have hle : getI at' (toV es h) ≤ getI at' (fromV es h) := g2.early hP hE hf.1 hf.2
          have hne2 : getI at' (toV es h) ≠ getI at' (fromV es h) := fun e => hne (by rw [← at1.2.2, ← af1.2.2, e])
          have := m4 (getI at' (fromV es h)).toNat (by omega) (by rw [af1.2.2]; exact g2)
          omega
      constructor
      · intro h
        refine ⟨fun j x hj => (h j x hj).1, fun x hx => ?_⟩
        obtain ⟨j, hj⟩ := List.getElem?_of_mem hx
        have h1 := h j x hj
        have hjl := (List.getElem?_eq_some_iff.1 hj).1
        rcases h1.2 with h2 | h2
        · exact .inl h2
        · exact .inr ((hedge x (by omega) (by omega)).1 h2)
      · rintro ⟨h1, h2⟩ j x hj
        have hjl := (List.getElem?_eq_some_iff.1 hj).1
        have h3 := h1 j x hj
        refine ⟨h3, ?_⟩
        rcases h2 x (List.mem_of_getElem? hj) with h4 | h4
        · exact .inl h4
        · exact .inr ((hedge x (by omega) (by omega)).2 h4)

theorem valid_facts {N : Int} {es : List Pr} {pa he od oi : List Int} (h : validF N es pa he od oi = true) : Vld N es ∧ Len N es.length pa he od oi ∧ Hangs es pa he oi N.toNat ∧ Rooted pa he N.toNat := by
  rw [valid_same] at h
  unfold rvalidF at h
  split at h
  · rename_i hc
    simp only [Bool.and_eq_true] at h
    exact ⟨hc.1, hc.2, hangsF_iff.1 h.1, rootF_iff.1 h.2.1⟩
  · cases h
noncomputable def dabF (N : Int) (es : List Pr) (pa he od oi : List Int) (u v : Int) : Bool :=
  if validF N es pa he od oi = true ∧ 0 ≤ u ∧ u < N ∧ 0 ≤ v ∧ v < N then aboveF es pa (N.toNat + 1) u v else false
theorem above_end (es : List Pr) (pa : List Int) (k : Nat) (u v : Int) (hv : v < 0) : aboveF es pa k u v = false := by
  cases k with
  | zero => rfl
  | succ k => show (if v < 0 then false else _) = _; rw [if_pos hv]
theorem par_height {es : List Pr} {pa he oi : List Int} {N : Nat} {v : Int} (hV : Vld N es) (hH : Hangs es pa he oi N) (hR : Rooted pa he N) (v0 : 0 ≤ v) (v1 : v < N) (hp : 0 ≤ par es pa v) : getI he (par es pa v) + 1 = getI he v := by
  have hhang := hH v v0 v1
  obtain ⟨q1, q2, q3, q4⟩ := hang_par hV hhang
  have hpa : ¬ getI pa v < 0 := fun h => by have := q4.2 h; omega
  have hpe : par es pa v = fromV es (getI pa v) := by unfold par; rw [if_neg hpa]
  unfold hangB at hhang
  rw [if_neg (by omega)] at hhang
  split at hhang
  · cases hhang
  · simp only [decide_eq_true_eq] at hhang
    obtain ⟨_, h5⟩ := hhang
    rw [← hpe] at h5
    have hr2 := hR (par es pa v) hp q3
    simp only [rootB, decide_eq_true_eq] at hr2
    have hN := hV.hi
    rw [h5, wr, wrap_of (by omega)]
end Go.Fl
