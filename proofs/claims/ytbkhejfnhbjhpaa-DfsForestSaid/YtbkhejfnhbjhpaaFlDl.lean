/- What the depth-first walk brings about: a depth-first forest. -/
import Derived.Test.YtbkhejfnhbjhpaaFlVlaw
set_option linter.unusedVariables false
set_option linter.unusedSimpArgs false
namespace Go.Fl
open Go

abbrev Anc (es : List Pr) (s : St) (u w : Int) : Prop := AncK (par es s.pa) (fun _ => 0) 0 u w
def Seen (s : St) (x : Int) : Prop := 0 ≤ getI s.he x
structure G (N : Int) (es : List Pr) (s : St) : Prop where
  pal : s.pa.length = N.toNat
  hel : s.he.length = N.toNat
  oil : s.oi.length = es.length
  od : ∀ x : Int, x ∈ s.od ↔ 0 ≤ x ∧ x < N ∧ Seen s x
  nd : s.od.Nodup
  unv : ∀ x : Int, 0 ≤ x → x < N → ¬ Seen s x → getI s.pa x = -1
  hang : ∀ x : Int, 0 ≤ x → x < N → Seen s x → (getI s.pa x = -1 ∧ getI s.he x = 0) ∨
    (0 ≤ getI s.pa x ∧ getI s.pa x < es.length * 2 ∧ toV es (getI s.pa x) = x ∧ getI s.oi (getI s.pa x / 2) = getI s.pa x ∧ Seen s (fromV es (getI s.pa x)) ∧ getI s.he x = getI s.he (fromV es (getI s.pa x)) + 1)
  ori : ∀ e : Int, 0 ≤ e → e < es.length → getI s.oi e < 0 ∨ ((getI s.oi e = 2 * e ∨ getI s.oi e = 2 * e + 1) ∧ Seen s (fromV es (getI s.oi e)) ∧ Seen s (toV es (getI s.oi e)) ∧
    (getI s.pa (toV es (getI s.oi e)) = getI s.oi e ∨ (getI s.he (toV es (getI s.oi e)) < getI s.he (fromV es (getI s.oi e)) ∧ Anc es s (toV es (getI s.oi e)) (fromV es (getI s.oi e)))))
  fst : ∀ x, s.od[0]? = some x → par es s.pa x < 0
  nxt : ∀ (i : Nat) x y, s.od[i]? = some y → s.od[i + 1]? = some x → 0 ≤ par es s.pa x → Anc es s (par es s.pa x) y
/-- s' knows all that s knows. -/
structure Ext (N : Int) (es : List Pr) (s s' : St) : Prop where
  seen : ∀ x : Int, 0 ≤ x → x < N → Seen s x → Seen s' x
  pa : ∀ x : Int, 0 ≤ x → x < N → Seen s x → getI s'.pa x = getI s.pa x
  he : ∀ x : Int, 0 ≤ x → x < N → Seen s x → getI s'.he x = getI s.he x
  oi : ∀ e : Int, 0 ≤ e → e < es.length → 0 ≤ getI s.oi e → getI s'.oi e = getI s.oi e

section
variable {N : Int} {es : List Pr} {s s' s1 : St} {u v w x : Int}
theorem Ext.refl (s : St) : Ext N es s s := ⟨fun _ _ _ h => h, fun _ _ _ _ => rfl, fun _ _ _ _ => rfl, fun _ _ _ _ => rfl⟩
theorem Ext.trans (h : Ext N es s s1) (h' : Ext N es s1 s') : Ext N es s s' :=
  ⟨fun x h0 h1 hs => h'.seen x h0 h1 (h.seen x h0 h1 hs), fun x h0 h1 hs => (h'.pa x h0 h1 (h.seen x h0 h1 hs)).trans (h.pa x h0 h1 hs), fun x h0 h1 hs => (h'.he x h0 h1 (h.seen x h0 h1 hs)).trans (h.he x h0 h1 hs),
    fun e h0 h1 hs => (h'.oi e h0 h1 (by rw [h.oi e h0 h1 hs]; exact hs)).trans (h.oi e h0 h1 hs)⟩
theorem par_eq (h : getI s'.pa x = getI s.pa x) : par es s'.pa x = par es s.pa x := by unfold par; rw [h]
/-- The parent of a vertex that has been seen. -/
theorem G.par_seen (hV : Vld N es) (hG : G N es s) (h0 : 0 ≤ x) (h1 : x < N) (hs : Seen s x) (hp : 0 ≤ par es s.pa x) : 0 ≤ getI s.pa x ∧ par es s.pa x = fromV es (getI s.pa x) ∧ par es s.pa x < N ∧ Seen s (par es s.pa x) ∧ getI s.he x = getI s.he (par es s.pa x) + 1 := by
  have hpa : ¬ getI s.pa x < 0 := fun h => by unfold par at hp; rw [if_pos h] at hp; omega
  have hpe : par es s.pa x = fromV es (getI s.pa x) := by unfold par; rw [if_neg hpa]
  rcases hG.hang x h0 h1 hs with ⟨h2, _⟩ | ⟨h2, h3, h4, h5, h6, h7⟩
  · omega
  · have := fromV_range hV h2 h3
    rw [hpe]
    exact ⟨h2, rfl, this.2, h6, h7⟩
theorem Anc.ext (hV : Vld N es) (hG : G N es s) (hE : Ext N es s s') (h0 : 0 ≤ w) (h1 : w < N) (hs : Seen s w) : Anc es s u w ↔ Anc es s' u w := by
  constructor
  · intro h
    unfold Anc at *
    induction h with
    | refl => exact .refl
    | @step w q1 q2 q3 ih =>
      obtain ⟨_, _, p3, p4, _⟩ := hG.par_seen hV h0 h1 hs q2
      have e := par_eq (es := es) (hE.pa w h0 h1 hs)
      exact .step q1 (by rw [e]; exact q2) (by rw [e]; exact ih q2 p3 p4)
  · intro h
    unfold Anc at *
    induction h with
    | refl => exact .refl
    | @step w q1 q2 q3 ih =>
      have e := par_eq (es := es) (hE.pa w h0 h1 hs)
      rw [e] at q2
      obtain ⟨_, _, p3, p4, _⟩ := hG.par_seen hV h0 h1 hs q2
      exact .step q1 q2 (by have := ih (by rw [e]; exact q2) (by rw [e]; exact p3) (by rw [e]; exact p4); rwa [e] at this)
theorem Anc.seen (hV : Vld N es) (hG : G N es s) (h : Anc es s u w) (h0 : 0 ≤ w) (h1 : w < N) (hs : Seen s w) : 0 ≤ u ∧ u < N ∧ Seen s u ∧ getI s.he u ≤ getI s.he w := by
  unfold Anc at h
  induction h with
  | refl => exact ⟨h0, h1, hs, Int.le_refl _⟩
  | @step w q1 q2 q3 ih =>
    obtain ⟨_, _, p3, p4, p5⟩ := hG.par_seen hV h0 h1 hs q2
    obtain ⟨i1, i2, i3, i4⟩ := ih q2 p3 p4
    exact ⟨i1, i2, i3, by omega⟩

def Finished (es : List Pr) (s : St) (x : Int) : Prop := ∀ h ∈ outs es x, 0 ≤ getI s.oi (h / 2)
theorem Finished.ext (hV : Vld N es) (hE : Ext N es s s') (h : Finished es s x) : Finished es s' x := by
  intro k hk
  have hm := (mem_outs hV).1 hk
  have := h k hk
  rw [hE.oi _ (by omega) (by omega) this]; exact this
theorem Anc.lt (hV : Vld N es) (hG : G N es s) (h : Anc es s u w) (h0 : 0 ≤ w) (h1 : w < N) (hs : Seen s w) (hne : u ≠ w) : getI s.he u < getI s.he w := by
  rcases h.split with e | ⟨_, q2, q3⟩
  · exact absurd e hne
  · obtain ⟨_, _, p3, p4, p5⟩ := hG.par_seen hV h0 h1 hs q2
    have := (Anc.seen hV hG q3 q2 p3 p4).2.2.2
    omega
/-- An edge that leads back is walked. -/
theorem G.back (hV : Vld N es) (hG : G N es s) {h : Int} (hm0 : 0 ≤ h) (hm1 : h < es.length * 2) (ho : getI s.oi (h / 2) < 0) (hsf : Seen s (fromV es h)) (hst : Seen s (toV es h))
    (hA : Anc es s (toV es h) (fromV es h)) (hlt : getI s.he (toV es h) < getI s.he (fromV es h)) : G N es (s.ori h) ∧ Ext N es s (s.ori h) := by
  have hset := fun (e : Int) (h0 : 0 ≤ e) => getI_set (l := s.oi) (i := h / 2) (j := e) (x := h) (by omega) (by rw [hG.oil]; omega) h0
  refine ⟨⟨hG.pal, hG.hel, by simp [St.ori, hG.oil], hG.od, hG.nd, hG.unv, fun x h0 h1 hs => ?_, fun e h0 h1 => ?_, hG.fst, hG.nxt⟩, ⟨fun _ _ _ h => h, fun _ _ _ _ => rfl, fun _ _ _ _ => rfl, fun e h0 h1 hs => ?_⟩⟩
  · rcases hG.hang x h0 h1 hs with h2 | ⟨h2, h3, h4, h5, h6⟩
    · exact .inl h2
    · refine .inr ⟨h2, h3, h4, ?_, h6⟩
      show getI (s.oi.set (h / 2).toNat h) (getI s.pa x / 2) = getI s.pa x
      rw [hset _ (by omega)]
      by_cases he : getI s.pa x / 2 = h / 2
      · exfalso
        have : getI s.oi (h / 2) = getI s.pa x := by rw [← h5]; congr 1; exact he.symm
        omega
      · rw [if_neg he]; exact h5
  · show getI (s.oi.set (h / 2).toNat h) e < 0 ∨ _
    have e1 : getI (s.ori h).oi e = if e = h / 2 then h else getI s.oi e := hset e h0
    by_cases he : e = h / 2
    · rw [if_pos he] at e1
      rw [e1]
      exact .inr ⟨by omega, hsf, hst, .inr ⟨hlt, hA⟩⟩
    · rw [if_neg he] at e1
      rw [e1]
      have e2 : getI (s.oi.set (h / 2).toNat h) e = getI s.oi e := e1
      rw [e2]
      exact hG.ori e h0 h1
  · show getI (s.oi.set (h / 2).toNat h) e = _
    rw [hset e h0]
    by_cases he : e = h / 2
    · rw [he] at hs; omega
    · rw [if_neg he]

/-- A vertex is met: s2 is s with w entered. -/
theorem G.enter (hV : Vld N es) (hG : G N es s) {p d : Int} {s2 : St} (hw0 : 0 ≤ w) (hw1 : w < N) (hu : ¬ Seen s w) (hd : 0 ≤ d)
    (pl : s2.pa.length = N.toNat) (hl : s2.he.length = N.toNat) (ol : s2.oi.length = es.length)
    (hpa : ∀ x : Int, 0 ≤ x → x < N → getI s2.pa x = if x = w then p else getI s.pa x) (hhe : ∀ x : Int, 0 ≤ x → x < N → getI s2.he x = if x = w then d else getI s.he x) (hod : s2.od = s.od ++ [w])
    (hoi : ∀ e : Int, 0 ≤ e → e < es.length → getI s2.oi e = getI s.oi e ∨ (getI s.oi e < 0 ∧ getI s2.oi e = p ∧ 0 ≤ p ∧ e = p / 2))
    (hp : (p = -1 ∧ d = 0) ∨ (0 ≤ p ∧ p < es.length * 2 ∧ toV es p = w ∧ getI s2.oi (p / 2) = p ∧ Seen s (fromV es p) ∧ d = getI s.he (fromV es p) + 1 ∧ ∃ y, s.od.getLast? = some y ∧ Anc es s (fromV es p) y)) :
    G N es s2 ∧ Ext N es s s2 := by
  have hseen : ∀ x : Int, 0 ≤ x → x < N → (Seen s2 x ↔ x = w ∨ Seen s x) := by
    intro x x0 x1
    unfold Seen
    rw [hhe x x0 x1]
    by_cases he : x = w
    · rw [if_pos he]; simp [he, hd]
    · rw [if_neg he]; simp [he]
  have hne : ∀ x : Int, Seen s x → x ≠ w := fun x hs e => hu (e ▸ hs)
  have hE : Ext N es s s2 := ⟨fun x x0 x1 hs => (hseen x x0 x1).2 (.inr hs), fun x x0 x1 hs => by rw [hpa x x0 x1, if_neg (hne x hs)], fun x x0 x1 hs => by rw [hhe x x0 x1, if_neg (hne x hs)], fun e e0 e1 hs => by
    rcases hoi e e0 e1 with h | ⟨h, _⟩
    · exact h
    · omega⟩
  refine ⟨⟨pl, hl, ol, fun x => ?_, ?_, fun x x0 x1 hs => ?_, fun x x0 x1 hs => ?_, fun e e0 e1 => ?_, fun x hx => ?_, fun i x y hy hx hpp => ?_⟩, hE⟩
  · rw [hod, List.mem_append, hG.od x]
    constructor
    · rintro (⟨h0, h1, h2⟩ | h)
      · exact ⟨h0, h1, (hseen x h0 h1).2 (.inr h2)⟩
      · simp at h; rw [h]; exact ⟨hw0, hw1, (hseen w hw0 hw1).2 (.inl rfl)⟩
    · rintro ⟨h0, h1, h2⟩
      rcases (hseen x h0 h1).1 h2 with h | h
      · exact .inr (by simp [h])
      · exact .inl ⟨h0, h1, h⟩
  · rw [hod, List.nodup_append]
    refine ⟨hG.nd, by simp, fun a ha b hb e => ?_⟩
    simp at hb
    rw [e, hb] at ha
    exact hu ((hG.od w).1 ha).2.2
  · have h1 : ¬ (x = w ∨ Seen s x) := fun h => hs ((hseen x x0 x1).2 h)
    rw [hpa x x0 x1, if_neg fun h => h1 (.inl h)]
    exact hG.unv x x0 x1 fun h => h1 (.inr h)
  · by_cases he : x = w
    · subst he
      rw [hpa x x0 x1, hhe x x0 x1, if_pos rfl, if_pos rfl]
      rcases hp with h | ⟨h1, h2, h3, h4, h5, h6, _⟩
      · exact .inl h
      · have hf := fromV_range hV h1 h2
        exact .inr ⟨h1, h2, h3, h4, (hseen _ hf.1 hf.2).2 (.inr h5), by rw [hhe _ hf.1 hf.2, if_neg (hne _ h5)]; exact h6⟩
    · have hs' : Seen s x := ((hseen x x0 x1).1 hs).resolve_left he
      rw [hpa x x0 x1, hhe x x0 x1, if_neg he, if_neg he]
      rcases hG.hang x x0 x1 hs' with h | ⟨h1, h2, h3, h4, h5, h6⟩
      · exact .inl h
      · have hf := fromV_range hV h1 h2
        refine .inr ⟨h1, h2, h3, ?_, (hseen _ hf.1 hf.2).2 (.inr h5), by rw [hhe _ hf.1 hf.2, if_neg (hne _ h5)]; exact h6⟩
        rcases hoi (getI s.pa x / 2) (by omega) (by omega) with h | ⟨h, _⟩
        · rw [h]; exact h4
        · omega
  · rcases hoi e e0 e1 with h | ⟨h, h2, h3, h4⟩
    · rw [h]
      rcases hG.ori e e0 e1 with g | ⟨g1, g2, g3, g4⟩
      · exact .inl g
      · have ht := toV_range hV (h := getI s.oi e) (by omega) (by omega)
        have hf := fromV_range hV (h := getI s.oi e) (by omega) (by omega)
        refine .inr ⟨g1, (hseen _ hf.1 hf.2).2 (.inr g2), (hseen _ ht.1 ht.2).2 (.inr g3), ?_⟩
        rw [hpa _ ht.1 ht.2, if_neg (hne _ g3), hhe _ ht.1 ht.2, if_neg (hne _ g3), hhe _ hf.1 hf.2, if_neg (hne _ g2)]
        exact g4.imp id fun q => ⟨q.1, (Anc.ext hV hG hE hf.1 hf.2 g2).1 q.2⟩
    · rcases hp with ⟨q, _⟩ | ⟨q1, q2, q3, q4, q5, q6, _⟩
      · omega
      · have hf := fromV_range hV q1 q2
        right
        rw [h2, q3]
        refine ⟨by omega, (hseen _ hf.1 hf.2).2 (.inr q5), (hseen _ hw0 hw1).2 (.inl rfl), .inl ?_⟩
        rw [hpa _ hw0 hw1, if_pos rfl]
  · rw [hod] at hx
    rcases Nat.eq_zero_or_pos s.od.length with h0 | h0
    · have : s.od = [] := List.eq_nil_of_length_eq_zero h0
      rw [this] at hx
      simp at hx
      rcases hp with ⟨q, _⟩ | ⟨_, _, _, _, _, _, y, hy, _⟩
      · rw [← hx]; unfold par; rw [hpa _ hw0 hw1, if_pos rfl, if_pos (by omega)]; omega
      · rw [this] at hy; cases hy
    · rw [List.getElem?_append_left h0] at hx
      have hm := (hG.od x).1 (List.mem_of_getElem? hx)
      rw [par_eq (hE.pa x hm.1 hm.2.1 hm.2.2)]
      exact hG.fst x hx
  · rw [hod] at hx hy
    by_cases hlt : i + 1 < s.od.length
    · rw [List.getElem?_append_left hlt] at hx
      rw [List.getElem?_append_left (by omega)] at hy
      have hm := (hG.od x).1 (List.mem_of_getElem? hx)
      have hmy := (hG.od y).1 (List.mem_of_getElem? hy)
      have e := par_eq (es := es) (hE.pa x hm.1 hm.2.1 hm.2.2)
      rw [e] at hpp ⊢
      exact (Anc.ext hV hG hE hmy.1 hmy.2.1 hmy.2.2).1 (hG.nxt i x y hy hx hpp)
    · have hlen := (List.getElem?_eq_some_iff.1 hx).1
      simp at hlen
      have hi : i + 1 = s.od.length := by omega
      rw [List.getElem?_append_right (by omega), hi, Nat.sub_self] at hx
      simp at hx
      rw [List.getElem?_append_left (by omega)] at hy
      have hmy := (hG.od y).1 (List.mem_of_getElem? hy)
      have hpw : par es s2.pa w = if p < 0 then -1 else fromV es p := by unfold par; rw [hpa _ hw0 hw1, if_pos rfl]
      rw [← hx, hpw] at hpp ⊢
      rcases hp with ⟨q, _⟩ | ⟨q1, q2, q3, q4, q5, q6, y', hy', hA⟩
      · rw [if_pos (by omega)] at hpp; omega
      · rw [if_neg (by omega)]
        have : y' = y := by
          rw [List.getLast?_eq_getElem?, show s.od.length - 1 = i by omega, hy] at hy'
          exact (Option.some.inj hy').symm
        rw [← this]
        rw [← this] at hmy
        exact (Anc.ext hV hG hE hmy.1 hmy.2.1 hmy.2.2).1 hA

theorem tw_half (h : Int) : tw h / 2 = h / 2 := by unfold tw; split <;> omega
theorem ends_ne (hV : Vld N es) {h : Int} (h0 : 0 ≤ h) (h1 : h < es.length * 2) : fromV es h ≠ toV es h := by
  obtain ⟨hn, rfl⟩ := Int.eq_ofNat_of_zero_le h0
  obtain ⟨e, he, hf⟩ := frs_at (es := es) (h := hn) (by omega)
  have ho := (hV.ok _ e he).lt
  obtain ⟨f1, f2⟩ := frs_get he
  have hfv : fromV es hn = if hn % 2 = 0 then e.1 else e.2 := by unfold fromV; rw [if_pos h0, Int.toNat_natCast, hf]; rfl
  have htv : toV es hn = if hn % 2 = 0 then e.2 else e.1 := by
    unfold toV tw
    rw [if_pos h0]
    by_cases hp : hn % 2 = 0
    · rw [if_pos hp, if_pos (by omega)]
      unfold fromV
      rw [if_pos (by omega), show ((hn : Int) + 1).toNat = 2 * (hn / 2) + 1 by omega, f2]; rfl
    · rw [if_neg hp, if_neg (by omega)]
      unfold fromV
      rw [if_pos (by omega), show ((hn : Int) - 1).toNat = 2 * (hn / 2) by omega, f1]; rfl
  rw [hfv, htv]
  split <;> omega
theorem tw_mem (hV : Vld N es) {h : Int} (h0 : 0 ≤ h) (h1 : h < es.length * 2) : tw h ∈ outs es (toV es h) := by
  have ht := tw_range h0 h1
  refine (mem_outs hV).2 ⟨ht.1, ht.2, ?_⟩
  unfold toV; rw [if_pos h0]
theorem dfs_forest (hV : Vld N es) {l : List Int} (hD : Dfs es v l s s') : G N es s → 0 ≤ v → v < N → Seen s v → (∃ q, outs es v = q ++ l ∧ ∀ h ∈ q, 0 ≤ getI s.oi (h / 2)) →
    (∀ x : Int, 0 ≤ x → x < N → Seen s x → ¬ Anc es s x v → Finished es s x) → (∃ y, s.od.getLast? = some y ∧ Anc es s v y) →
    G N es s' ∧ Ext N es s s' ∧ (∀ x : Int, 0 ≤ x → x < N → Seen s' x → (x = v ∨ ¬ Anc es s' x v) → Finished es s' x) ∧ ∃ y, s'.od.getLast? = some y ∧ Anc es s' v y := by
  induction hD with
  | nil =>
    rintro hG v0 v1 hs ⟨q, hq, hqo⟩ hfin hlast
    refine ⟨hG, Ext.refl _, fun x x0 x1 hx hc => ?_, hlast⟩
    rcases hc with rfl | hc
    · intro h hh
      rw [hq, List.append_nil] at hh
      exact hqo h hh
    · exact hfin x x0 x1 hx hc
  | @seen v h l s s' ho r ih =>
    rintro hG v0 v1 hs ⟨q, hq, hqo⟩ hfin hlast
    exact ih hG v0 v1 hs ⟨q ++ [h], by simp [hq], fun k hk => by
      rcases List.mem_append.1 hk with hk | hk
      · exact hqo k hk
      · simp at hk; rw [hk]; exact ho⟩ hfin hlast
  | @back v h l s s' ho hw r ih =>
    rintro hG v0 v1 hs ⟨q, hq, hqo⟩ hfin hlast
    obtain ⟨hm0, hm1, hm2⟩ := (mem_outs hV (v := v) (h := h)).1 (by rw [hq]; simp)
    have ht := toV_range hV hm0 hm1
    have hne := ends_ne hV hm0 hm1
    rw [hm2] at hne
    have hA : Anc es s (toV es h) v := by
      apply Classical.byContradiction
      intro hn
      have := hfin _ ht.1 ht.2 hw hn (tw h) (tw_mem hV hm0 hm1)
      rw [tw_half] at this; omega
    have hlt := Anc.lt hV hG hA v0 v1 hs (Ne.symm hne)
    obtain ⟨hG1, hE1⟩ := hG.back hV hm0 hm1 ho (by rw [hm2]; exact hs) hw (by rw [hm2]; exact hA) (by rw [hm2]; exact hlt)
    have hoih : getI (s.ori h).oi (h / 2) = h := by
      show getI (s.oi.set (h / 2).toNat h) (h / 2) = h
      rw [getI_set (by omega) (by rw [hG.oil]; omega) (by omega), if_pos rfl]
    obtain ⟨r1, r2, r3, r4⟩ := ih hG1 v0 v1 hs ⟨q ++ [h], by simp [hq], fun k hk => by
      rcases List.mem_append.1 hk with hk | hk
      · have hmk := (mem_outs hV (v := v) (h := k)).1 (by rw [hq]; exact List.mem_append_left _ hk)
        have := hqo k hk
        rw [hE1.oi _ (by omega) (by omega) this]; exact this
      · simp at hk; rw [hk, hoih]; exact hm0⟩ (fun x x0 x1 hx hn => (hfin x x0 x1 hx hn).ext hV hE1) hlast
    exact ⟨r1, hE1.trans r2, r3, r4⟩
  | @tree v h l s s1 s' ho hw r1 r ih1 ih =>
    rintro hG v0 v1 hs ⟨q, hq, hqo⟩ hfin hlast
    obtain ⟨hm0, hm1, hm2⟩ := (mem_outs hV (v := v) (h := h)).1 (by rw [hq]; simp)
    have ht := toV_range hV hm0 hm1
    have hd : 0 ≤ getI s.he v + 1 := by unfold Seen at hs; omega
    have hun : ¬ Seen s (toV es h) := by unfold Seen; omega
    have hoi2 := fun (e : Int) (e0 : 0 ≤ e) => getI_set (l := s.oi) (i := h / 2) (j := e) (x := h) (by omega) (by rw [hG.oil]; omega) e0
    obtain ⟨hG2, hE2⟩ := hG.enter (w := toV es h) (p := h) (d := getI s.he v + 1) (s2 := (s.ori h).enter (toV es h) h (getI s.he v + 1)) hV ht.1 ht.2 hun hd
      (by simp [St.enter, St.ori, hG.pal]) (by simp [St.enter, St.ori, hG.hel]) (by simp [St.enter, St.ori, hG.oil])
      (fun x x0 x1 => getI_set ht.1 (by have := hG.pal; show _ < s.pa.length; omega) x0) (fun x x0 x1 => getI_set ht.1 (by have := hG.hel; show _ < s.he.length; omega) x0) rfl
      (fun e e0 e1 => by
        have e2 : getI ((s.ori h).enter (toV es h) h (getI s.he v + 1)).oi e = if e = h / 2 then h else getI s.oi e := hoi2 e e0
        by_cases he : e = h / 2
        · right; rw [e2, if_pos he, he]; exact ⟨ho, rfl, hm0, rfl⟩
        · left; rw [e2, if_neg he])
      (.inr ⟨hm0, hm1, rfl, by
        have e2 : getI ((s.ori h).enter (toV es h) h (getI s.he v + 1)).oi (h / 2) = if h / 2 = h / 2 then h else getI s.oi (h / 2) := hoi2 (h / 2) (by omega)
        rw [e2, if_pos rfl], by rw [hm2]; exact hs, by rw [hm2], by rw [hm2]; exact hlast⟩)
    have e_pa : getI ((s.ori h).enter (toV es h) h (getI s.he v + 1)).pa (toV es h) = h := by
      have := getI_set (l := s.pa) (i := toV es h) (j := toV es h) (x := h) ht.1 (by rw [hG.pal]; omega) ht.1
      rw [if_pos rfl] at this; exact this
    have e_oi : getI ((s.ori h).enter (toV es h) h (getI s.he v + 1)).oi (h / 2) = h := by
      have e2 : getI ((s.ori h).enter (toV es h) h (getI s.he v + 1)).oi (h / 2) = if h / 2 = h / 2 then h else getI s.oi (h / 2) := hoi2 (h / 2) (by omega)
      rw [e2, if_pos rfl]
    have e_he : ∀ x : Int, 0 ≤ x → x < N → getI ((s.ori h).enter (toV es h) h (getI s.he v + 1)).he x = if x = toV es h then getI s.he v + 1 else getI s.he x := fun x x0 x1 => getI_set ht.1 (by have := hG.hel; show _ < s.he.length; omega) x0
    have e_od : ((s.ori h).enter (toV es h) h (getI s.he v + 1)).od = s.od ++ [toV es h] := rfl
    generalize (s.ori h).enter (toV es h) h (getI s.he v + 1) = s2 at *
    have hsw : Seen s2 (toV es h) := by unfold Seen; rw [e_he _ ht.1 ht.2, if_pos rfl]; exact hd
    have hse : ∀ x : Int, 0 ≤ x → x < N → Seen s2 x → x ≠ toV es h → Seen s x := by
      intro x x0 x1 hx hne
      unfold Seen at hx ⊢
      rw [e_he x x0 x1, if_neg hne] at hx; exact hx
    have hpw : par es s2.pa (toV es h) = v := by unfold par; rw [e_pa, if_neg (by omega), hm2]
    obtain ⟨a1, a2, a3, y, a4, a5⟩ := ih1 hG2 ht.1 ht.2 hsw ⟨[], rfl, fun _ hk => by simp at hk⟩ (fun x x0 x1 hx hn => by
      have hne : x ≠ toV es h := fun e => hn (by rw [e]; exact .refl)
      have hxs := hse x x0 x1 hx hne
      refine (hfin x x0 x1 hxs fun hA => hn ?_).ext hV hE2
      exact .step (Int.le_refl _) (by rw [hpw]; exact v0) (by rw [hpw]; exact (Anc.ext hV hG hE2 v0 v1 hs).1 hA)) ⟨toV es h, by rw [e_od]; simp, .refl⟩
    have hE1 := hE2.trans a2
    have hpw1 : par es s1.pa (toV es h) = v := by rw [par_eq (a2.pa _ ht.1 ht.2 hsw)]; exact hpw
    obtain ⟨r1, r2, r3, r4⟩ := ih a1 v0 v1 (hE1.seen v v0 v1 hs) ⟨q ++ [h], by simp [hq], fun k hk => by
      rcases List.mem_append.1 hk with hk | hk
      · have hmk := (mem_outs hV (v := v) (h := k)).1 (by rw [hq]; exact List.mem_append_left _ hk)
        have := hqo k hk
        rw [hE1.oi _ (by omega) (by omega) this]; exact this
      · simp at hk
        rw [hk, a2.oi _ (by omega) (by omega) (by rw [e_oi]; exact hm0), e_oi]; exact hm0⟩ (fun x x0 x1 hx hn => by
      refine a3 x x0 x1 hx ?_
      by_cases he : x = toV es h
      · exact .inl he
      · refine .inr fun hA => ?_
        rcases hA.split with e | ⟨_, _, q3⟩
        · exact he e
        · rw [hpw1] at q3; exact hn q3) ⟨y, a4, a5.trans (.step (Int.le_refl _) (by rw [hpw1]; exact v0) (by rw [hpw1]; exact .refl))⟩
    exact ⟨r1, hE1.trans r2, r3, r4⟩

theorem rts_forest (hV : Vld N es) (hR : Rts es N v s s') : G N es s → 0 ≤ v → v ≤ N → (∀ x : Int, 0 ≤ x → x < v → Seen s x) → (∀ x : Int, 0 ≤ x → x < N → Seen s x → Finished es s x) →
    G N es s' ∧ (∀ x : Int, 0 ≤ x → x < N → Seen s' x) ∧ (∀ x : Int, 0 ≤ x → x < N → Finished es s' x) := by
  induction hR with
  | done h =>
    intro hG v0 v1 hs hf
    exact ⟨hG, fun x x0 x1 => hs x x0 (by omega), fun x x0 x1 => hf x x0 x1 (hs x x0 (by omega))⟩
  | @skip v s s' h hh r ih =>
    intro hG v0 v1 hs hf
    refine ih hG (by omega) (by omega) (fun x x0 x1 => ?_) hf
    by_cases he : x = v
    · rw [he]; exact hh
    · exact hs x x0 (by omega)
  | @root v s s1 s' h hh r1 r ih =>
    intro hG v0 v1 hs hf
    have hun : ¬ Seen s v := by unfold Seen; omega
    obtain ⟨hG2, hE2⟩ := hG.enter (w := v) (p := -1) (d := 0) (s2 := s.enter v (-1) 0) hV v0 h hun (by omega) (by simp [St.enter, hG.pal]) (by simp [St.enter, hG.hel]) (by simp [St.enter, hG.oil])
      (fun x x0 x1 => getI_set v0 (by have := hG.pal; omega) x0) (fun x x0 x1 => getI_set v0 (by have := hG.hel; omega) x0) rfl (fun e _ _ => .inl rfl) (.inl ⟨rfl, rfl⟩)
    have e_pa : getI (s.enter v (-1) 0).pa v = -1 := by
      have := getI_set (l := s.pa) (i := v) (j := v) (x := -1) v0 (by rw [hG.pal]; omega) v0
      rw [if_pos rfl] at this; exact this
    have e_he : ∀ x : Int, 0 ≤ x → x < N → getI (s.enter v (-1) 0).he x = if x = v then 0 else getI s.he x := fun x x0 x1 => getI_set v0 (by have := hG.hel; omega) x0
    have e_od : (s.enter v (-1) 0).od = s.od ++ [v] := rfl
    generalize s.enter v (-1) 0 = s2 at *
    have hsw : Seen s2 v := by unfold Seen; rw [e_he _ v0 h, if_pos rfl]; exact Int.le_refl _
    obtain ⟨a1, a2, a3, _⟩ := dfs_forest hV r1 hG2 v0 h hsw ⟨[], rfl, fun _ hk => by simp at hk⟩ (fun x x0 x1 hx hn => by
      have hne : x ≠ v := fun e => hn (by rw [e]; exact .refl)
      have hxs : Seen s x := by unfold Seen at hx ⊢; rw [e_he x x0 x1, if_neg hne] at hx; exact hx
      exact (hf x x0 x1 hxs).ext hV hE2) ⟨v, by rw [e_od]; simp, .refl⟩
    have hpar : par es s1.pa v = -1 := by rw [par_eq (a2.pa _ v0 h hsw)]; unfold par; rw [e_pa, if_pos (by omega)]
    refine ih a1 (by omega) (by omega) (fun x x0 x1 => ?_) (fun x x0 x1 hx => ?_)
    · by_cases he : x = v
      · rw [he]; exact a2.seen v v0 h hsw
      · exact (hE2.trans a2).seen x x0 (by omega) (hs x x0 (by omega))
    · refine a3 x x0 x1 hx ?_
      by_cases he : x = v
      · exact .inl he
      · refine .inr fun hA => ?_
        rcases hA.split with e | ⟨_, q2, _⟩
        · exact he e
        · omega
theorem g_start (hV : Vld N es) : G N es (start N es.length) := by
  have hns : ∀ x : Int, 0 ≤ x → x < N → getI (start N es.length).he x = -1 := fun x x0 x1 => by unfold getI start; simp only [List.getElem?_replicate]; rw [if_pos (by omega)]; rfl
  refine ⟨by simp [start], by simp [start], by simp [start], fun x => ⟨fun h => by simp [start] at h, fun ⟨h0, h1, h2⟩ => by unfold Seen at h2; rw [hns x h0 h1] at h2; omega⟩, by simp [start], fun x x0 x1 _ => ?_, fun x x0 x1 hs => by unfold Seen at hs; rw [hns x x0 x1] at hs; omega, fun e e0 e1 => ?_, fun x hx => by simp [start] at hx, fun i x y hy => by simp [start] at hy⟩
  · unfold getI start; simp only [List.getElem?_replicate]; rw [if_pos (by omega)]; rfl
  · left; unfold getI start; simp only [List.getElem?_replicate]; rw [if_pos (by omega)]; simp

theorem anc_conv {pr a : Int → Int} {n : Nat} (hpr : ∀ x : Int, 0 ≤ x → x < n → pr x < n) (ha : ∀ x : Int, 0 ≤ x → x < n → 0 ≤ a x) (h : AncK pr (fun _ => 0) 0 u w) : 0 ≤ w → w < n → AncK pr a 0 u w := by
  induction h with
  | refl => intro _ _; exact .refl
  | @step w _ q2 _ ih => intro w0 w1; exact .step (ha w w0 w1) q2 (ih q2 (hpr w w0 w1))
def plc (n : Nat) (od : List Int) : List Int := (List.range n).map fun (v : Nat) => (od.idxOf (v : Int) : Int)
/-- The walk's forest is one. -/
theorem walk_valid {n : Nat} (hV : Vld n es) (hI : Inv n es.length (es.length + n) s) (hR : Rts es n 0 (start n es.length) s) : validF n es s.pa s.he s.od s.oi = true := by
  have hN1 := hV.hi
  have hfew := hV.few
  obtain ⟨hG, hS, hF⟩ := rts_forest hV hR (g_start hV) (by omega) (by omega) (fun x x0 x1 => by omega) (fun x x0 x1 hs => by
    exfalso
    unfold Seen getI start at hs
    simp only [List.getElem?_replicate] at hs
    rw [if_pos (by omega)] at hs
    simp at hs)
  have hperm : s.od.Perm ((List.range n).map fun (v : Nat) => (v : Int)) := by
    refine (List.perm_ext_iff_of_nodup hG.nd ?_).2 fun x => ?_
    · exact List.Pairwise.map _ (fun a b h e => h (by omega)) List.nodup_range
    · rw [hG.od x]
      simp only [List.mem_map, List.mem_range]
      constructor
      · rintro ⟨h0, h1, _⟩; exact ⟨x.toNat, by omega, by omega⟩
      · rintro ⟨y, hy, rfl⟩; exact ⟨by omega, by omega, hS _ (by omega) (by omega)⟩
  have hodl : s.od.length = n := by rw [hperm.length_eq]; simp
  have hL : Len n es.length s.pa s.he s.od s.oi := ⟨by have := hG.pal; omega, by have := hG.hel; omega, by omega, hG.oil⟩
  have hpar : ∀ x : Int, 0 ≤ x → x < n → par es s.pa x < n ∧ (0 ≤ par es s.pa x ↔ 0 ≤ getI s.pa x) ∧ (getI s.pa x < 0 → getI s.pa x = -1) := by
    intro x x0 x1
    rcases hG.hang x x0 x1 (hS x x0 x1) with ⟨h1, _⟩ | ⟨h1, h2, _⟩
    · unfold par; rw [h1, if_pos (by omega)]; omega
    · have := fromV_range hV h1 h2
      unfold par; rw [if_neg (by omega)]; omega
  have hH : Hangs es s.pa s.he s.oi n := by
    intro x x0 x1
    have hat := (hI.at x0 x1).2
    unfold hangB
    rcases hG.hang x x0 x1 (hS x x0 x1) with ⟨h1, h2⟩ | ⟨h1, h2, h3, h4, h5, h6⟩
    · rw [if_pos h1]; exact decide_eq_true h2
    · have hf := fromV_range hV h1 h2
      rw [if_neg (by omega), if_neg (by rintro (h | h | h); omega; omega; exact h h4)]
      refine decide_eq_true ⟨h3, ?_⟩
      unfold Seen at h5
      rw [wr, wrap_of (by omega)]; exact h6
  have hget : ∀ v : Int, 0 ≤ v → v < n → getI (plc n s.od) v = (s.od.idxOf v : Int) := by
    intro v v0 v1
    unfold getI plc
    rw [List.getElem?_map, List.getElem?_range (by omega)]
    show ((s.od.idxOf ((v.toNat : Nat) : Int) : Nat) : Int) = _
    rw [Int.toNat_of_nonneg v0]
  have hP : Pos n (par es s.pa) (fun k => getI s.od k) (getI (plc n s.od)) := by
    refine ⟨fun k hk => ?_, fun k hk => ?_, fun v v0 v1 => ?_, fun v v0 v1 => (hpar v v0 v1).1⟩
    · have hm := getI_some (l := s.od) (i := (k : Int)) (by omega)
      have := (hG.od _).1 (List.mem_of_getElem? hm)
      exact ⟨this.1, this.2.1⟩
    · have hk' : k < s.od.length := by omega
      have hm := getI_some (l := s.od) (i := (k : Int)) (by omega)
      have hr := (hG.od _).1 (List.mem_of_getElem? hm)
      rw [hget _ hr.1 hr.2.1]
      have e : getI s.od k = s.od[k] := by rw [getI_nat, List.getElem?_eq_getElem hk']; rfl
      rw [e, hG.nd.idxOf_getElem k hk']
    · have hm : v ∈ s.od := (hG.od v).2 ⟨v0, v1, hS v v0 v1⟩
      have hlt := List.idxOf_lt_length_iff.2 hm
      rw [hget v v0 v1]
      refine ⟨by omega, by omega, ?_⟩
      show getI s.od ((s.od.idxOf v : Nat) : Int) = v
      rw [getI_nat, List.getElem?_eq_getElem hlt, List.getElem_idxOf hlt]; rfl
  have ha : ∀ x : Int, 0 ≤ x → x < n → 0 ≤ getI (plc n s.od) x := fun x x0 x1 => (hP.ao x x0 x1).1
  have hNx : Next n (par es s.pa) (getI (plc n s.od)) (fun k => getI s.od k) := by
    intro i hi hp
    dsimp only at hp ⊢
    have hx := getI_some (l := s.od) (i := (i : Int)) (by omega)
    rw [Int.toNat_natCast] at hx
    match i, hi, hp, hx with
    | 0, hi, hp, hx => have := hG.fst _ hx; omega
    | j + 1, hi, hp, hx =>
      have hy := getI_some (l := s.od) (i := (j : Int)) (by omega)
      rw [Int.toNat_natCast] at hy
      have hr := (hG.od _).1 (List.mem_of_getElem? hy)
      refine ⟨by omega, ?_⟩
      exact anc_conv (fun x x0 x1 => (hpar x x0 x1).1) ha (hG.nxt j _ _ hy hx hp) hr.1 hr.2.1
  have hE := next_early hP hNx
  have hht := heights hV hH hP hE
  have hht2 : ∀ v : Int, 0 ≤ v → v < n → 0 ≤ getI s.he v ∧ getI s.he v < n ∧ (getI s.he v = 0 ↔ getI s.pa v = -1) ∧ (0 ≤ par es s.pa v → getI s.he v = getI s.he (par es s.pa v) + 1) := by
    intro v v0 v1
    have h1 := hP.ao v v0 v1
    have := hht (getI (plc n s.od) v).toNat v v0 v1 (by omega)
    exact ⟨this.1, by omega, this.2.2⟩
  rw [valid_same]
  unfold rvalidF
  rw [if_pos ⟨hV, hL⟩, Int.toNat_natCast]
  have hori : ∀ (j : Nat) h, s.oi[j]? = some h → (h = 2 * ((0 : Int) + j) ∨ h = 2 * (0 + (j : Int)) + 1) ∧ (getI s.pa (toV es h) = h ∨ (getI s.he (toV es h) < getI s.he (fromV es h) ∧ Anc es s (toV es h) (fromV es h))) := by
    intro j h hj
    have hjl := (List.getElem?_eq_some_iff.1 hj).1
    rw [hG.oil] at hjl
    have e : getI s.oi (j : Int) = h := by rw [getI_nat, hj]; rfl
    have hfin : 0 ≤ getI s.oi (j : Int) := by
      have hf := fromV_range hV (h := 2 * (j : Int)) (by omega) (by omega)
      have := hF _ hf.1 hf.2 (2 * (j : Int)) ((mem_outs hV).2 ⟨by omega, by omega, rfl⟩)
      rwa [show 2 * (j : Int) / 2 = j by omega] at this
    rcases hG.ori (j : Int) (by omega) (by omega) with h1 | ⟨h1, _, _, h4⟩
    · omega
    · rw [e] at h1 h4
      exact ⟨by omega, h4⟩
  simp only [Bool.and_eq_true]
  refine ⟨hangsF_iff.2 hH, rootF_iff.2 fun v v0 v1 => ?_, ?_, sideF_iff.2 fun j h hj => (hori j h hj).1, rleadF_iff.2 fun h hh => ?_⟩
  · have := hht2 v v0 v1
    simp only [rootB, decide_eq_true_eq]
    exact ⟨this.1, this.2.1, this.2.2.1⟩
  · have := (ordF_iff hodl hP n 0 (List.replicate n false) [] (by omega) (by simp) (fun v v0 v1 => by
      have := ha v v0 v1
      rw [List.getElem?_replicate, if_pos (by omega)]
      simp; omega) (fun _ => rfl) (fun x hx => by simp at hx) (fun h => by omega)).2 fun j _ hj => hNx j hj
    rwa [List.drop_zero] at this
  · obtain ⟨j, hj⟩ := List.getElem?_of_mem hh
    have hjl := (List.getElem?_eq_some_iff.1 hj).1
    rw [hG.oil] at hjl
    have h1 := hori j h hj
    have hf := fromV_range hV (h := h) (by omega) (by omega)
    have ht := toV_range hV (h := h) (by omega) (by omega)
    rcases h1.2 with h2 | ⟨h2, h3⟩
    · exact .inl h2
    · refine .inr ⟨h2, (aboveF_iff hP (fun v v0 v1 => ⟨(hht2 v v0 v1).1, (hht2 v v0 v1).2.2.2⟩) _ ht.1 n _ hf.2 (fun _ => (hht2 _ hf.1 hf.2).2.1)).2 ⟨hf.1, ?_⟩⟩
      exact anc_conv (fun x x0 x1 => (hpar x x0 x1).1) ha h3 hf.1 hf.2
end

def backN (pa oi : List Int) (e : Nat) : Bool := decide (¬ (oi[e]?).getD 0 ∈ pa)
/-- As many edges lead down as vertices hang on another. -/
theorem tree_count {es : List Pr} {n : Nat} {pa he oi : List Int} (lp : pa.length = n) (lo : oi.length = es.length) (hH : Hangs es pa he oi n) (hside : ∀ (j : Nat) h, oi[j]? = some h → h = 2 * (j : Int) ∨ h = 2 * (j : Int) + 1) :
    (List.range es.length).countP (fun e => !backN pa oi e) = (List.range n).countP (fun (v : Nat) => decide (0 ≤ getI pa v)) := by
  have hk : ∀ v : Nat, v < n → 0 ≤ getI pa v → getI pa v < es.length * 2 ∧ getI oi (getI pa v / 2) = getI pa v ∧ toV es (getI pa v) = v := by
    intro v hv hp
    have hh := hH v (by omega) (by omega)
    unfold hangB at hh
    rw [if_neg (by omega)] at hh
    split at hh
    · cases hh
    · rename_i hc
      simp only [decide_eq_true_eq] at hh
      have h5 : getI oi (getI pa v / 2) = getI pa v := by
        apply Classical.byContradiction
        intro h; exact hc (.inr (.inr h))
      exact ⟨by omega, h5, hh.1⟩
  have key : ((List.range n).filter fun (v : Nat) => decide (0 ≤ getI pa v)).map (fun (v : Nat) => (getI pa v / 2).toNat) |>.Perm ((List.range es.length).filter fun e => !backN pa oi e) := by
    refine (List.perm_ext_iff_of_nodup ?_ (List.Pairwise.filter _ List.nodup_range)).2 fun e => ?_
    · have hnd : ((List.range n).filter fun (v : Nat) => decide (0 ≤ getI pa v)).Nodup := List.Pairwise.filter _ List.nodup_range
      unfold List.Nodup at hnd ⊢
      rw [List.pairwise_map]
      refine hnd.imp_of_mem fun {a b} ha hb hab he => hab ?_
      simp only [List.mem_filter, List.mem_range, decide_eq_true_eq] at ha hb
      have h1 := hk a ha.1 ha.2
      have h2 := hk b hb.1 hb.2
      have : getI pa a / 2 = getI pa b / 2 := by omega
      have e : getI pa (a : Int) = getI pa (b : Int) := by rw [← h1.2.1, ← h2.2.1, this]
      have t1 := h1.2.2
      have t2 := h2.2.2
      rw [e] at t1
      omega
    · simp only [List.mem_map, List.mem_filter, List.mem_range, decide_eq_true_eq, Bool.not_eq_true', backN, decide_eq_false_iff_not, Classical.not_not]
      constructor
      · rintro ⟨v, ⟨hv, hp⟩, rfl⟩
        have h1 := hk v hv hp
        refine ⟨by omega, ?_⟩
        have : (oi[(getI pa v / 2).toNat]?).getD 0 = getI pa v := h1.2.1
        rw [this]
        exact List.mem_of_getElem? (getI_some (l := pa) (i := (v : Int)) (by omega))
      · rintro ⟨he, hm⟩
        obtain ⟨v, hv⟩ := List.getElem?_of_mem hm
        have hvl := (List.getElem?_eq_some_iff.1 hv).1
        have e1 : getI pa (v : Int) = (oi[e]?).getD 0 := by rw [getI_nat, hv]; rfl
        have ho : oi[e]? = some oi[e] := List.getElem?_eq_getElem (by omega)
        have hs := hside e _ ho
        rw [ho] at e1
        simp only [Option.getD_some] at e1
        exact ⟨v, ⟨by omega, by omega⟩, by omega⟩
  have := key.length_eq
  rw [List.length_map, ← List.countP_eq_length_filter, ← List.countP_eq_length_filter] at this
  exact this.symm

theorem aboveF_low {es : List Pr} {pa he oi : List Int} {n : Nat} (hV : Vld n es) (hH : Hangs es pa he oi n) (hR : Rooted pa he n) {u : Int} : ∀ (k : Nat) (v : Int), v < n → aboveF es pa k u v = true → u = v ∨ getI he u < getI he v := by
  intro k
  induction k with
  | zero => intro v _ h; cases h
  | succ k ih =>
    intro v v1 h
    have h' : (if v < 0 then false else if u = v then true else aboveF es pa k u (par es pa v)) = true := h
    split at h'
    · cases h'
    · split at h'
      · exact .inl ‹_›
      · right
        have hv0 : 0 ≤ v := by omega
        obtain ⟨q1, q2, q3, q4⟩ := hang_par hV (hH v hv0 v1)
        by_cases hp : par es pa v < 0
        · rw [above_end es pa k u _ hp] at h'; cases h'
        · have hd := par_height hV hH hR hv0 v1 (by omega)
          rcases ih _ q3 h' with e | e
          · rw [e]; omega
          · omega
/-- The ends of an edge stand one above the other. -/
theorem edge_one {es : List Pr} {pa he od oi : List Int} {n : Nat} (hval : validF n es pa he od oi = true) {e : Nat} {p : Pr} (hp : es[e]? = some p) : dabF n es pa he od oi p.1 p.2 ≠ dabF n es pa he od oi p.2 p.1 := by
  obtain ⟨hV, hL, hH, hR⟩ := valid_facts hval
  rw [Int.toNat_natCast] at hH hR
  have hval' := hval
  rw [valid_same] at hval'
  unfold rvalidF at hval'
  rw [if_pos ⟨hV, hL⟩] at hval'
  simp only [Bool.and_eq_true] at hval'
  obtain ⟨_, _, _, hside, hlead⟩ := hval'
  have hok := hV.ok e p hp
  have o1 := hok.lo
  have o2 := hok.lt
  have o3 := hok.hi
  have hel := (List.getElem?_eq_some_iff.1 hp).1
  have hol := hL.oi
  obtain ⟨h, hh⟩ : ∃ h, oi[e]? = some h := ⟨_, List.getElem?_eq_getElem (by omega)⟩
  have hs := sideF_iff.1 hside e h hh
  have hl := rleadF_iff.1 hlead h (List.mem_of_getElem? hh)
  rw [Int.toNat_natCast] at hl
  have hm0 : 0 ≤ h := by omega
  have hm1 : h < es.length * 2 := by omega
  have hf := fromV_range hV hm0 hm1
  have ht := toV_range hV hm0 hm1
  have hne := ends_ne hV hm0 hm1
  have hft : aboveF es pa (n + 1) (fromV es h) (toV es h) ≠ aboveF es pa (n + 1) (toV es h) (fromV es h) := by
    intro heq
    rcases hl with h1 | ⟨h1, h2⟩
    · have hpar : par es pa (toV es h) = fromV es h := by unfold par; rw [h1, if_neg (by omega)]
      have hd := par_height hV hH hR ht.1 ht.2 (by rw [hpar]; exact hf.1)
      rw [hpar] at hd
      obtain ⟨k, rfl⟩ : ∃ k, n = k + 1 := ⟨n - 1, by omega⟩
      have ht1 : aboveF es pa (k + 1 + 1) (fromV es h) (toV es h) = true := by
        show (if toV es h < 0 then false else if fromV es h = toV es h then true else aboveF es pa (k + 1) (fromV es h) (par es pa (toV es h))) = true
        rw [if_neg (by omega), if_neg hne, hpar]
        show (if fromV es h < 0 then false else if fromV es h = fromV es h then true else _) = true
        rw [if_neg (by omega), if_pos rfl]
      rw [ht1] at heq
      rcases aboveF_low hV hH hR _ _ hf.2 heq.symm with e | e
      · exact hne e.symm
      · omega
    · rw [h2] at heq
      rcases aboveF_low hV hH hR _ _ ht.2 heq with e | e
      · exact hne e
      · omega
  have hends : (fromV es h = p.1 ∧ toV es h = p.2) ∨ (fromV es h = p.2 ∧ toV es h = p.1) := by
    obtain ⟨f1, f2⟩ := frs_get hp
    have g1 : fromV es (2 * (e : Int)) = p.1 := by unfold fromV; rw [if_pos (by omega), show (2 * (e : Int)).toNat = 2 * e by omega, f1]; rfl
    have g2 : fromV es (2 * (e : Int) + 1) = p.2 := by unfold fromV; rw [if_pos (by omega), show (2 * (e : Int) + 1).toNat = 2 * e + 1 by omega, f2]; rfl
    rcases hs with e1 | e1
    · left
      have : h = 2 * (e : Int) := by omega
      rw [this]
      refine ⟨g1, ?_⟩
      unfold toV tw
      rw [if_pos (by omega), if_pos (by omega)]; exact g2
    · right
      have : h = 2 * (e : Int) + 1 := by omega
      rw [this]
      refine ⟨g2, ?_⟩
      unfold toV tw
      rw [if_pos (by omega), if_neg (by omega), show 2 * (e : Int) + 1 - 1 = 2 * (e : Int) by omega]; exact g1
  unfold dabF
  rw [if_pos ⟨hval, by omega, by omega, by omega, by omega⟩, if_pos ⟨hval, by omega, by omega, by omega, by omega⟩, Int.toNat_natCast]
  rcases hends with ⟨a, b⟩ | ⟨a, b⟩
  · rw [a, b] at hft; exact hft
  · rw [a, b] at hft; exact fun q => hft q.symm
end Go.Fl
