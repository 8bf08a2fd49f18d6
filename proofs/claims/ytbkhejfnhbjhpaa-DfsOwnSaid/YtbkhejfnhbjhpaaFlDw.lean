/- The depth-first walk as a relation: what both the program's and the document's walk compute. -/
import Derived.Test.YtbkhejfnhbjhpaaFlFo
set_option linter.unusedVariables false
set_option linter.unusedSimpArgs false
namespace Go.Fl
open Go

def getI (l : List Int) (i : Int) : Int := (l[i.toNat]?).getD 0
structure St where
  pa : List Int
  he : List Int
  od : List Int
  oi : List Int
def St.ori (s : St) (h : Int) : St := { s with oi := s.oi.set (h / 2).toNat h }
def St.enter (s : St) (v h d : Int) : St := { s with pa := s.pa.set v.toNat h, he := s.he.set v.toNat d, od := s.od ++ [v] }
def unset (l : List Int) : Nat := l.countP fun x => decide (x < 0)
inductive Dfs (es : List Pr) : Int → List Int → St → St → Prop
  | nil {v : Int} {s : St} : Dfs es v [] s s
  | seen {v h : Int} {l : List Int} {s s' : St} (ho : 0 ≤ getI s.oi (h / 2)) (r : Dfs es v l s s') : Dfs es v (h :: l) s s'
  | back {v h : Int} {l : List Int} {s s' : St} (ho : getI s.oi (h / 2) < 0) (hw : 0 ≤ getI s.he (toV es h)) (r : Dfs es v l (s.ori h) s') : Dfs es v (h :: l) s s'
  | tree {v h : Int} {l : List Int} {s s1 s' : St} (ho : getI s.oi (h / 2) < 0) (hw : getI s.he (toV es h) < 0)
      (r1 : Dfs es (toV es h) (outs es (toV es h)) ((s.ori h).enter (toV es h) h (getI s.he v + 1)) s1) (r : Dfs es v l s1 s') : Dfs es v (h :: l) s s'
/-- What is still to be done, the top first. -/
inductive Stk (es : List Pr) : List (Int × List Int) → St → St → Prop
  | nil {s : St} : Stk es [] s s
  | cons {v : Int} {l : List Int} {k : List (Int × List Int)} {s s1 s' : St} (r1 : Dfs es v l s s1) (r : Stk es k s1 s') : Stk es ((v, l) :: k) s s'
/-- From root v on. -/
inductive Rts (es : List Pr) (N : Int) : Int → St → St → Prop
  | done {v : Int} {s : St} (h : N ≤ v) : Rts es N v s s
  | skip {v : Int} {s s' : St} (h : v < N) (hh : 0 ≤ getI s.he v) (r : Rts es N (v + 1) s s') : Rts es N v s s'
  | root {v : Int} {s s1 s' : St} (h : v < N) (hh : getI s.he v < 0) (r1 : Dfs es v (outs es v) (s.enter v (-1) 0) s1) (r : Rts es N (v + 1) s1 s') : Rts es N v s s'

structure Inv (N : Int) (m : Nat) (c : Nat) (s : St) : Prop where
  pal : s.pa.length = N.toNat
  hel : s.he.length = N.toNat
  oil : s.oi.length = m
  lo : ∀ (i : Nat) x, s.he[i]? = some x → -1 ≤ x
  hi : ∀ (i : Nat) x, s.he[i]? = some x → x + unset s.oi ≤ m
  few : s.od.length + unset s.oi ≤ c

section
variable {N : Int} {es : List Pr} {m c : Nat} {s s' s1 : St} {v h : Int} {l : List Int}
theorem getI_nat (l : List Int) (i : Nat) : getI l (i : Int) = (l[i]?).getD 0 := rfl
theorem getI_of {l : List Int} {i x : Int} (h : l[i.toNat]? = some x) : getI l i = x := by unfold getI; rw [h]; rfl
theorem getI_some {l : List Int} {i : Int} (h : i.toNat < l.length) : l[i.toNat]? = some (getI l i) := by
  unfold getI; rw [List.getElem?_eq_getElem h]; rfl
theorem unset_set {l : List Int} {i : Nat} {x : Int} (hl : (l[i]?).getD 0 < 0) (hx : 0 ≤ x) : unset (l.set i x) + 1 = unset l := by
  have hi : i < l.length := by
    by_cases hi : i < l.length
    · exact hi
    · rw [List.getElem?_eq_none (by omega)] at hl; simp at hl
  rw [List.getElem?_eq_getElem hi] at hl
  simp only [Option.getD_some] at hl
  unfold unset
  rw [List.countP_set hi]
  have h1 : decide (l[i] < 0) = true := by simpa using hl
  have h2 : decide (x < 0) = false := by simp; omega
  have h3 : 0 < l.countP fun x => decide (x < 0) := List.countP_pos_iff.2 ⟨l[i], List.getElem_mem hi, h1⟩
  simp only [h1, h2]
  simp
  omega
theorem Inv.ori (hI : Inv N m c s) (h0 : 0 ≤ h) (ho : getI s.oi (h / 2) < 0) : Inv N m c (s.ori h) ∧ unset (s.ori h).oi + 1 = unset s.oi := by
  have hu := unset_set (l := s.oi) (i := (h / 2).toNat) (x := h) ho h0
  refine ⟨⟨hI.pal, hI.hel, by simp [St.ori, hI.oil], hI.lo, fun i x hx => ?_, ?_⟩, hu⟩
  · have := hI.hi i x hx; show x + (unset (s.oi.set _ _) : Int) ≤ m; omega
  · have := hI.few; show s.od.length + unset (s.oi.set _ _) ≤ c; omega
theorem Inv.enter {d p : Int} (hI : Inv N m c s) (h0 : -1 ≤ d) (hd : d + unset s.oi ≤ m) (hc : s.od.length + 1 + unset s.oi ≤ c) : Inv N m c (s.enter v p d) := by
  refine ⟨by simp [St.enter, hI.pal], by simp [St.enter, hI.hel], hI.oil, fun i x hx => ?_, fun i x hx => ?_, ?_⟩
  · by_cases hi : v.toNat = i
    · subst hi
      have hl : v.toNat < s.he.length := by have := (List.getElem?_eq_some_iff.1 hx).1; simpa [St.enter] using this
      simp only [St.enter, List.getElem?_set_self hl] at hx
      have := Option.some.inj hx; omega
    · simp only [St.enter, List.getElem?_set_ne hi] at hx; exact hI.lo i x hx
  · by_cases hi : v.toNat = i
    · subst hi
      have hl : v.toNat < s.he.length := by have := (List.getElem?_eq_some_iff.1 hx).1; simpa [St.enter] using this
      simp only [St.enter, List.getElem?_set_self hl] at hx
      have := Option.some.inj hx
      show x + (unset s.oi : Int) ≤ m
      omega
    · simp only [St.enter, List.getElem?_set_ne hi] at hx; exact hI.hi i x hx
  · simp [St.enter]; omega
theorem toV_range (hv : Vld N es) (h0 : 0 ≤ h) (h1 : h < es.length * 2) : 0 ≤ toV es h ∧ toV es h < N := by
  have ht := tw_range h0 h1
  obtain ⟨x, hx, hf⟩ := fromV_at es ht.1 ht.2
  have e1 : toV es h = x := by unfold toV; rw [if_pos h0]; exact hf
  rw [e1]
  obtain ⟨e, he, hx2⟩ := frs_at (es := es) (h := (tw h).toNat) (by omega)
  rw [hx] at hx2
  have hx2 := Option.some.inj hx2
  have ho := hv.ok _ _ he
  have := ho.lo; have := ho.lt; have := ho.hi
  split at hx2 <;> omega

theorem Inv.at (hI : Inv N m c s) (h0 : 0 ≤ v) (h1 : v < N) : s.he[v.toNat]? = some (getI s.he v) ∧ -1 ≤ getI s.he v ∧ getI s.he v + unset s.oi ≤ m := by
  have hx := getI_some (l := s.he) (i := v) (by rw [hI.hel]; omega)
  exact ⟨hx, hI.lo _ _ hx, hI.hi _ _ hx⟩

theorem dfs_total (hv : Vld N es) : ∀ (u n : Nat) (v : Int) (l : List Int) (s : St), l.length ≤ n → unset s.oi ≤ u → Inv N es.length c s → (∀ h, h ∈ l → 0 ≤ h ∧ h < es.length * 2) → 0 ≤ v → v < N →
    ∃ s', Dfs es v l s s' ∧ Inv N es.length c s' ∧ unset s'.oi ≤ unset s.oi := by
  intro u
  induction u using Nat.strongRecOn with
  | ind u ihu =>
    intro n
    induction n with
    | zero =>
      intro v l s hn hu hI hl h0 h1
      obtain rfl := List.eq_nil_of_length_eq_zero (Nat.le_zero.1 hn)
      exact ⟨s, .nil, hI, Nat.le_refl _⟩
    | succ n ih =>
      intro v l s hn hu hI hl h0 h1
      cases l with
      | nil => exact ⟨s, .nil, hI, Nat.le_refl _⟩
      | cons h l =>
        have hh := hl h (List.mem_cons_self ..)
        have hl' : ∀ h, h ∈ l → 0 ≤ h ∧ h < es.length * 2 := fun x hx => hl x (List.mem_cons_of_mem _ hx)
        have hn' : l.length ≤ n := by simpa using hn
        by_cases ho : 0 ≤ getI s.oi (h / 2)
        · obtain ⟨s', r, hI', hu'⟩ := ih v l s hn' hu hI hl' h0 h1
          exact ⟨s', .seen ho r, hI', hu'⟩
        · have ho : getI s.oi (h / 2) < 0 := by omega
          obtain ⟨hI1, hu1⟩ := hI.ori hh.1 ho
          have htv := toV_range hv hh.1 hh.2
          by_cases hw : 0 ≤ getI s.he (toV es h)
          · obtain ⟨s', r, hI', hu'⟩ := ih v l (s.ori h) hn' (by omega) hI1 hl' h0 h1
            exact ⟨s', .back ho hw r, hI', by omega⟩
          · have hw : getI s.he (toV es h) < 0 := by omega
            have hat := hI.at h0 h1
            have hI2 : Inv N es.length c ((s.ori h).enter (toV es h) h (getI s.he v + 1)) := hI1.enter (by omega) (by omega) (by have := hI.few; show s.od.length + 1 + unset (s.ori h).oi ≤ c; omega)
            have hu2 : unset ((s.ori h).enter (toV es h) h (getI s.he v + 1)).oi = unset (s.ori h).oi := rfl
            obtain ⟨s1, r1, hI3, hu3⟩ := ihu (unset (s.ori h).oi) (by omega) _ (toV es h) (outs es (toV es h)) _ (Nat.le_refl _) (by rw [hu2]; exact Nat.le_refl _) hI2 (fun x hx => by have := (mem_outs hv).1 hx; exact ⟨this.1, this.2.1⟩) htv.1 htv.2
            obtain ⟨s', r, hI', hu'⟩ := ih v l s1 hn' (by omega) hI3 hl' h0 h1
            exact ⟨s', .tree ho hw r1 r, hI', by omega⟩
/-- With one root more. -/
theorem Inv.more (hI : Inv N m c s) (k : Nat) : Inv N m (c + k) s := ⟨hI.pal, hI.hel, hI.oil, hI.lo, hI.hi, by have := hI.few; omega⟩
theorem rts_total (hv : Vld N es) : ∀ (n : Nat) (v : Int) (s : St) (c : Nat), (N - v).toNat = n → Inv N es.length c s → 0 ≤ v → ∃ s', Rts es N v s s' ∧ Inv N es.length (c + n) s' := by
  intro n
  induction n with
  | zero => intro v s c hn hI h0; exact ⟨s, .done (by omega), hI.more 0⟩
  | succ n ih =>
    intro v s c hn hI h0
    by_cases hh : 0 ≤ getI s.he v
    · obtain ⟨s', r, hI'⟩ := ih (v + 1) s c (by omega) hI (by omega)
      exact ⟨s', .skip (by omega) hh r, by have := hI'.more 1; rwa [Nat.add_assoc] at this⟩
    · have hu : unset s.oi ≤ s.oi.length := List.countP_le_length
      have hI1 : Inv N es.length (c + 1) (s.enter v (-1) 0) := (hI.more 1).enter (by omega) (by rw [hI.oil] at hu; omega) (by have := hI.few; omega)
      obtain ⟨s1, r1, hI2, hu2⟩ := dfs_total (c := c + 1) hv (unset s.oi) _ v (outs es v) (s.enter v (-1) 0) (Nat.le_refl _) (Nat.le_refl _) hI1 (fun x hx => by have := (mem_outs hv).1 hx; exact ⟨this.1, this.2.1⟩) h0 (by omega)
      obtain ⟨s', r, hI'⟩ := ih (v + 1) s1 (c + 1) (by omega) hI2 (by omega)
      exact ⟨s', .root (by omega) (by omega) r1 r, by rwa [Nat.add_assoc, Nat.add_comm 1 n] at hI'⟩
def start (N : Int) (m : Nat) : St := ⟨List.replicate N.toNat (-1), List.replicate N.toNat (-1), [], List.replicate m (-1)⟩
theorem inv_start : Inv N m m (start N m) := by
  have hu : unset (List.replicate m (-1)) = m := by unfold unset; rw [List.countP_replicate]; rfl
  refine ⟨by simp [start], by simp [start], by simp [start], fun i x hx => ?_, fun i x hx => ?_, ?_⟩
  · simp only [start, List.getElem?_replicate] at hx; split at hx <;> cases hx; omega
  · simp only [start, List.getElem?_replicate] at hx; split at hx
    · have hx := Option.some.inj hx
      show x + (unset (List.replicate m (-1)) : Int) ≤ m; omega
    · cases hx
  · show 0 + unset (List.replicate m (-1)) ≤ m; omega
theorem walk_total (hv : Vld N es) : ∃ s, Rts es N 0 (start N es.length) s ∧ Inv N es.length (es.length + N.toNat) s := by
  obtain ⟨s, r, hI⟩ := rts_total hv N.toNat 0 (start N es.length) es.length (by omega) inv_start (by omega)
  exact ⟨s, r, hI⟩
theorem dfs_det {v : Int} {l : List Int} {s a : St} (h : Dfs es v l s a) : ∀ {b : St}, Dfs es v l s b → a = b := by
  induction h with
  | nil => intro b h; cases h; rfl
  | seen ho r ih =>
    intro b h
    cases h with
    | seen _ r' => exact ih r'
    | back ho' _ _ => omega
    | tree ho' _ _ _ => omega
  | back ho hw r ih =>
    intro b h
    cases h with
    | seen ho' _ => omega
    | back _ _ r' => exact ih r'
    | tree _ hw' _ _ => omega
  | tree ho hw r1 r ih1 ih =>
    intro b h
    cases h with
    | seen ho' _ => omega
    | back _ hw' _ => omega
    | tree _ _ r1' r' => have := ih1 r1'; subst this; exact ih r'
theorem rts_det {v : Int} {s a : St} (h : Rts es N v s a) : ∀ {b : St}, Rts es N v s b → a = b := by
  induction h with
  | done h =>
    intro b hb
    cases hb with
    | done _ => rfl
    | skip h' _ _ => omega
    | root h' _ _ _ => omega
  | skip h hh r ih =>
    intro b hb
    cases hb with
    | done h' => omega
    | skip _ _ r' => exact ih r'
    | root _ hh' _ _ => omega
  | root h hh r1 r ih =>
    intro b hb
    cases hb with
    | done h' => omega
    | skip _ hh' _ => omega
    | root _ _ r1' r' => have := dfs_det r1 r1'; subst this; exact ih r'
end

/-! ### the walk, computed -/
def dfsF (es : List Pr) : Nat → Int → List Int → St → Option St
  | 0, _, _, _ => none
  | f + 1, v, [], s => some s
  | f + 1, v, h :: l, s =>
    if 0 ≤ getI s.oi (h / 2) then dfsF es f v l s else
    if 0 ≤ getI s.he (toV es h) then dfsF es f v l (s.ori h) else
    match dfsF es f (toV es h) (outs es (toV es h)) ((s.ori h).enter (toV es h) h (getI s.he v + 1)) with
    | none => none
    | some s1 => dfsF es f v l s1
theorem dfsF_ok (es : List Pr) : ∀ (f : Nat) (v : Int) (l : List Int) (s s' : St), dfsF es f v l s = some s' → Dfs es v l s s'
  | 0, _, _, _, _, h => by cases h
  | f + 1, v, [], s, s', h => by cases h; exact .nil
  | f + 1, v, x :: l, s, s', h => by
    unfold dfsF at h
    split at h
    · exact .seen ‹_› (dfsF_ok es f _ _ _ _ h)
    · split at h
      · exact .back (by omega) ‹_› (dfsF_ok es f _ _ _ _ h)
      · split at h
        · cases h
        · rename_i s1 h1
          exact .tree (by omega) (by omega) (dfsF_ok es f _ _ _ _ h1) (dfsF_ok es f _ _ _ _ h)
def rtsF (es : List Pr) (N : Int) : Nat → Int → St → Option St
  | 0, v, s => none
  | f + 1, v, s =>
    if N ≤ v then some s else
    if 0 ≤ getI s.he v then rtsF es N f (v + 1) s else
    match dfsF es f v (outs es v) (s.enter v (-1) 0) with
    | none => none
    | some s1 => rtsF es N f (v + 1) s1
theorem rtsF_ok (es : List Pr) (N : Int) : ∀ (f : Nat) (v : Int) (s s' : St), rtsF es N f v s = some s' → Rts es N v s s'
  | 0, _, _, _, h => by cases h
  | f + 1, v, s, s', h => by
    unfold rtsF at h
    split at h
    · cases h; exact .done ‹_›
    · split at h
      · exact .skip (by omega) ‹_› (rtsF_ok es N f _ _ _ h)
      · split at h
        · cases h
        · rename_i s1 h1
          exact .root (by omega) (by omega) (dfsF_ok es f _ _ _ _ h1) (rtsF_ok es N f _ _ _ h)
def exE : List Pr := [(0, 1), (0, 2), (1, 2), (1, 3)]
theorem ex_walk {s : St} (h : Rts exE 5 0 (start 5 4) s) : s = ⟨[-1, 0, 4, 6, -1], [0, 1, 2, 2, 0], [0, 1, 2, 3, 4], [0, 3, 4, 6]⟩ :=
  rts_det h (rtsF_ok exE 5 30 0 _ _ (by rfl))
theorem ex_vld : Vld 5 exE := by
  refine ⟨by omega, by omega, by decide, fun i e h => ?_, fun i a b ha hb => ?_⟩
  · match i, h with
    | 0, h => cases h; exact ⟨by decide, by decide, by decide⟩
    | 1, h => cases h; exact ⟨by decide, by decide, by decide⟩
    | 2, h => cases h; exact ⟨by decide, by decide, by decide⟩
    | 3, h => cases h; exact ⟨by decide, by decide, by decide⟩
    | i + 4, h => simp [exE] at h
  · match i, ha, hb with
    | 0, ha, hb => cases ha; cases hb; unfold Lex; omega
    | 1, ha, hb => cases ha; cases hb; unfold Lex; omega
    | 2, ha, hb => cases ha; cases hb; unfold Lex; omega
    | 3, ha, hb => simp [exE] at hb
    | i + 4, ha, hb => simp [exE] at ha
end Go.Fl
