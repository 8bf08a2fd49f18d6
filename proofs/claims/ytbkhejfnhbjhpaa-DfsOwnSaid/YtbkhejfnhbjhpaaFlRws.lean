/- Lists of lists of ours. -/
import Derived.Test.YtbkhejfnhbjhpaaFlDw
set_option linter.unusedVariables false
set_option linter.unusedSimpArgs false
namespace Go.Fl
open Go

abbrev RL := List (Value × List Int)
def rowsC (t : Nat) (rs : RL) : List Chunk := rs.map fun p => slc p.1 t 1 (ints p.2)
def rowsV (rs : RL) : List Value := rs.map (·.1)
section
variable {P : Program} {w0 w : World} {K : List Nat} {n : Nat} {ds : List Deferred} {E : Env} {L F : List Chunk} {o : Oper} {x y z : Operand} {v u : Value} {t : Nat}
@[simp] theorem rowsV_length (rs : RL) : (rowsV rs).length = rs.length := by simp [rowsV]
theorem rowsV_set (rs : RL) (i : Nat) (p : Value × List Int) : (rowsV rs).toArray.setIfInBounds i p.1 = (rowsV (rs.set i p)).toArray := by
  apply Array.ext'; simp [rowsV, List.map_set]
theorem rowsV_get {rs : RL} {i : Nat} {p : Value × List Int} (h : rs[i]? = some p) : (rowsV rs).toArray[i]? = some p.1 := by simp [rowsV, h]
theorem erase_map {α β : Type} (f : α → β) : ∀ (l : List α) (i : Nat), (l.map f).eraseIdx i = (l.eraseIdx i).map f
  | [], i => by simp
  | x :: r, 0 => by simp
  | x :: r, i + 1 => by simp [erase_map f r i]
theorem rows_at {rs : RL} {i : Nat} {p : Value × List Int} (h : rs[i]? = some p) (F : List Chunk) : (F ++ rowsC t rs).Perm (slc p.1 t 1 (ints p.2) :: (F ++ rowsC t (rs.eraseIdx i))) := by
  have h1 : (rowsC t rs)[i]? = some (slc p.1 t 1 (ints p.2)) := by simp [rowsC, h]
  have h2 := perm_eraseIdx h1
  have h3 : (rowsC t rs).eraseIdx i = rowsC t (rs.eraseIdx i) := erase_map _ _ _
  rw [h3] at h2
  exact ((List.Perm.refl F).append h2).trans List.perm_middle
theorem rows_set {rs : RL} {i : Nat} (p : Value × List Int) (h : i < rs.length) (F : List Chunk) : (slc p.1 t 1 (ints p.2) :: (F ++ rowsC t (rs.eraseIdx i))).Perm (F ++ rowsC t (rs.set i p)) := by
  have h1 : (rs.set i p)[i]? = some p := by rw [List.getElem?_set_self h]
  have h2 := rows_at (t := t) h1 F
  have h3 : (rs.set i p).eraseIdx i = rs.eraseIdx i := by rw [List.eraseIdx_set_eq]
  rw [h3] at h2
  exact h2.symm
theorem own_nils (k : Nat) (hw : Own w0 K w F) : Own w0 K w (F ++ rowsC t (List.replicate k (.slice none 0 0, []))) := by
  induction k generalizing F with
  | zero => simpa [rowsC] using hw
  | succ k ih =>
    have h1 := own_nil (t := t) (m := 1) (ih hw)
    refine h1.perm ?_
    simp only [List.replicate_succ, rowsC, List.map_cons, ints, List.map_nil]
    exact List.perm_middle
/-- A row reads so. -/
theorem slv_rows {rs : RL} {i : Nat} {p : Value × List Int} (hw : Own w0 K w (F ++ rowsC t rs)) (h : rs[i]? = some p) (hf : p.2.length ≤ 17592186044416) : SlV w p.1 p.2 :=
  slv_own (hw.perm (rows_at h F).symm) 0 rfl hf
theorem own_rowshape {rs : RL} {i : Nat} {p : Value × List Int} (hw : Own w0 K w (F ++ rowsC t rs)) (h : rs[i]? = some p) : ∃ A l c, p.1 = .slice A l c :=
  own_shape (hw.perm (rows_at h F).symm)
theorem has_rowelt {rs : RL} {i j l c : Nat} {p : Value × List Int} {h : Int} {ad : Addr} (hp : rs[i]? = some p) (hv : p.1 = .slice (some ad) l c) (hj : p.2[j]? = some h) (hf : p.2.length ≤ 17592186044416) :
    Has w0 K (F ++ rowsC t rs) (ad.add j) (.int .i64 h) := by
  intro w hw
  obtain ⟨A, cap, he, hr, _⟩ := slv_rows hw hp hf
  rw [hv] at he
  cases he
  obtain ⟨ad', ha, hc⟩ := hr.int hj
  cases ha
  exact hc

/-! ### old memory that stays, though some is written -/
def Off (va : Value) (es : List Pr) (K : List Nat) : Prop := es ≠ [] → ∀ ad l c, va = .slice (some ad) l c → ad.block ∉ K
theorem PrV.keepK {va : Value} {es : List Pr} (h : PrV w0 va es) (ho : Off va es K) (hw : Own w0 K w L) : PrV w va es := by
  obtain ⟨A, cap, rfl, hr, h1, h2, h3⟩ := h
  refine ⟨A, cap, rfl, ?_, h1, h2, h3⟩
  by_cases he : es = []
  · subst he; intro j u hj; simp [prs] at hj
  · exact hr.keep (fun ad hA => ho he ad _ _ (by rw [hA])) hw
theorem Off.step {va : Value} {es : List Pr} (h : PrV w0 va es) (ho : Off va es K) (hw : Own w0 K w L) : Off va es (idsOf L) := by
  intro he ad l c hva hin
  obtain ⟨A, cap, rfl, hr, h1, h2, h3⟩ := h
  cases hva
  obtain ⟨e, he0⟩ : ∃ e, es[0]? = some e := ⟨_, List.getElem?_eq_getElem (List.length_pos_iff.2 he)⟩
  obtain ⟨ad', ha, hc, _⟩ := hr.pair he0
  cases ha
  have hlt := World.block_lt_of_cell? w0 _ hc
  have hb : (ad.add (0 * 2)).block = ad.block := by unfold Addr.add; split <;> rfl
  rw [hb] at hlt
  rcases hw.fresh _ hin with h5 | h5
  · exact ho he ad _ _ rfl h5
  · omega
end

/-! ### the document's forms of the walk's state -/
def refH (he : List Int) : List Int := he.map fun x => if x < 0 then 0 else x
def seenB (he : List Int) : List Value := he.map fun x => .bool (decide (0 ≤ x))
@[simp] theorem refH_length (he : List Int) : (refH he).length = he.length := by simp [refH]
@[simp] theorem seenB_length (he : List Int) : (seenB he).length = he.length := by simp [seenB]
theorem refH_get {he : List Int} {i : Nat} {x : Int} (h : he[i]? = some x) (hx : 0 ≤ x) : (refH he)[i]? = some x := by
  have : ¬ x < 0 := by omega
  simp [refH, h, this]
theorem refH_set {he : List Int} {i : Nat} {x : Int} (hx : 0 ≤ x) : (refH he).set i x = refH (he.set i x) := by
  have : ¬ x < 0 := by omega
  simp [refH, List.map_set, this]
theorem refH_all {he : List Int} (h : ∀ (i : Nat) x, he[i]? = some x → 0 ≤ x) : refH he = he := by
  unfold refH
  apply List.ext_getElem?
  intro i
  rw [List.getElem?_map]
  cases hi : he[i]? with
  | none => rfl
  | some x => have := h i x hi; simp; omega
theorem seen_set {he : List Int} {i : Nat} {d : Int} (hd : 0 ≤ d) : ((seenB (he.set i d)).set i (.bool false)).toArray.setIfInBounds i (.bool true) = (seenB (he.set i d)).toArray := by
  apply Array.ext'
  simp [seenB, List.map_set, hd]
theorem seen_back {he : List Int} {i : Nat} {x d : Int} (hi : he[i]? = some x) (hx : x < 0) : (seenB (he.set i d)).set i (.bool false) = seenB he := by
  have h1 : ¬ 0 ≤ x := by omega
  simp only [seenB, List.map_set, List.set_set]
  apply List.ext_getElem?
  intro j
  by_cases hj : i = j
  · subst hj
    have hl := (List.getElem?_eq_some_iff.1 hi).1
    rw [List.getElem?_set_self (by simpa using hl), List.getElem?_map, hi]
    simp [h1]
  · rw [List.getElem?_set_ne hj]
theorem set_self {l : List Int} {i : Nat} {x : Int} (h : l[i]? = some x) : l.set i x = l := by
  apply List.ext_getElem?
  intro j
  by_cases hj : i = j
  · subst hj
    have hl := (List.getElem?_eq_some_iff.1 h).1
    rw [List.getElem?_set_self hl, h]
  · rw [List.getElem?_set_ne hj]

/-! ### what the walk keeps -/
def Un (s : St) : Prop := ∀ (i : Nat) x, s.he[i]? = some x → x < 0 → s.pa[i]? = some (-1)
structure Kept (N : Int) (m c : Nat) (s s' : St) : Prop where
  inv : Inv N m c s'
  low : unset s'.oi ≤ unset s.oi
  up : ∀ x : Int, 0 ≤ x → x < N → 0 ≤ getI s.he x → getI s'.he x = getI s.he x
  un : Un s → Un s'
theorem un_ori {s : St} {h : Int} (hu : Un s) : Un (s.ori h) := hu
theorem un_enter {s : St} {v h d : Int} (hd : 0 ≤ d) (hl : s.pa.length = s.he.length) (hu : Un s) : Un (s.enter v h d) := by
  intro i x hx hneg
  by_cases hi : v.toNat = i
  · subst hi
    have hlt : v.toNat < s.he.length := by have := (List.getElem?_eq_some_iff.1 hx).1; simpa [St.enter] using this
    simp only [St.enter, List.getElem?_set_self hlt] at hx
    have := Option.some.inj hx; omega
  · simp only [St.enter, List.getElem?_set_ne hi] at hx ⊢
    exact hu i x hx hneg
theorem up_enter {s : St} {N v h d x : Int} (hw : getI s.he v < 0) (h0 : 0 ≤ v) (hx : 0 ≤ x) (hp : 0 ≤ getI s.he x) : getI (s.enter v h d).he x = getI s.he x := by
  have hne : v.toNat ≠ x.toNat := fun e => by
    have : v = x := by omega
    subst this; omega
  unfold getI
  simp only [St.enter]
  rw [List.getElem?_set_ne hne]
theorem dfs_kept {N : Int} {es : List Pr} (hv : Vld N es) {c : Nat} {v : Int} {l : List Int} {s s' : St} (hD : Dfs es v l s s') : Inv N es.length c s → (∀ h, h ∈ l → 0 ≤ h ∧ h < es.length * 2) → 0 ≤ v → v < N → Kept N es.length c s s' := by
  induction hD with
  | nil => intro hI _ _ _; exact ⟨hI, Nat.le_refl _, fun _ _ _ _ => rfl, id⟩
  | seen ho r ih => intro hI hl h0 h1; exact ih hI (fun x hx => hl x (List.mem_cons_of_mem _ hx)) h0 h1
  | back ho hw r ih =>
    intro hI hl h0 h1
    obtain ⟨hI1, hu1⟩ := hI.ori (hl _ (List.mem_cons_self ..)).1 ho
    obtain ⟨k1, k2, k3, k4⟩ := ih hI1 (fun x hx => hl x (List.mem_cons_of_mem _ hx)) h0 h1
    exact ⟨k1, by omega, k3, k4⟩
  | tree ho hw r1 r ih1 ih =>
    rename_i v h l s s1 s'
    intro hI hl h0 h1
    have hh := hl _ (List.mem_cons_self ..)
    obtain ⟨hI1, hu1⟩ := hI.ori hh.1 ho
    have htv := toV_range hv hh.1 hh.2
    have hat := hI.at h0 h1
    have hI2 : Inv N es.length c ((s.ori h).enter (toV es h) h (getI s.he v + 1)) := hI1.enter (by omega) (by omega) (by have := hI.few; show s.od.length + 1 + unset (s.ori h).oi ≤ c; omega)
    have hu2 : unset ((s.ori h).enter (toV es h) h (getI s.he v + 1)).oi = unset (s.ori h).oi := rfl
    obtain ⟨a1, a2, a3, a4⟩ := ih1 hI2 (fun x hx => by have := (mem_outs hv).1 hx; exact ⟨this.1, this.2.1⟩) htv.1 htv.2
    obtain ⟨b1, b2, b3, b4⟩ := ih a1 (fun x hx => hl x (List.mem_cons_of_mem _ hx)) h0 h1
    refine ⟨b1, by omega, fun x x0 x1 hx => ?_, fun hu => b4 (a4 (un_enter (by omega) (by rw [hI1.pal, hI1.hel]) hu))⟩
    have e1 := up_enter (N := N) (s := s.ori h) (h := h) (d := getI s.he v + 1) hw htv.1 x0 hx
    have e2 := a3 x x0 x1 (by rw [e1]; exact hx)
    have e3 := b3 x x0 x1 (by rw [e2, e1]; exact hx)
    rw [e3, e2, e1]; rfl
/-- At the end each vertex has been met. -/
theorem rts_kept {N : Int} {es : List Pr} (hv : Vld N es) {v : Int} {s s' : St} (hR : Rts es N v s s') : ∀ {c : Nat}, Inv N es.length c s → 0 ≤ v → v ≤ N → (∀ x, 0 ≤ x → x < v → 0 ≤ getI s.he x) → (∀ x, 0 ≤ x → x < N → 0 ≤ getI s'.he x) := by
  induction hR with
  | done h => intro c hI h0 h1 hp x x0 x1; exact hp x x0 (by omega)
  | skip h hh r ih =>
    rename_i v s s'
    intro c hI h0 h1 hp
    refine ih hI (by omega) (by omega) fun x x0 x1 => ?_
    by_cases he : x = v
    · subst he; exact hh
    · exact hp x x0 (by omega)
  | root h hh r1 r ih =>
    rename_i v s s1 s'
    intro c hI h0 h1 hp
    have hu : unset s.oi ≤ s.oi.length := List.countP_le_length
    have hI1 : Inv N es.length (c + 1) (s.enter v (-1) 0) := (hI.more 1).enter (by omega) (by rw [hI.oil] at hu; omega) (by have := hI.few; omega)
    obtain ⟨k1, k2, k3, k4⟩ := dfs_kept hv r1 hI1 (fun x hx => by have := (mem_outs hv).1 hx; exact ⟨this.1, this.2.1⟩) h0 h
    refine ih k1 (by omega) (by omega) fun x x0 x1 => ?_
    by_cases he : x = v
    · subst he
      have hl : x.toNat < s.he.length := by rw [hI.hel]; omega
      have e0 : getI (s.enter x (-1) 0).he x = 0 := by unfold getI; simp only [St.enter]; rw [List.getElem?_set_self hl]; rfl
      rw [k3 x x0 h (by rw [e0]; exact Int.le_refl _), e0]; exact Int.le_refl _
    · have hx := hp x x0 (by omega)
      have e1 := up_enter (N := N) (s := s) (h := -1) (d := 0) hh h0 x0 hx
      rw [k3 x x0 (by omega) (by rw [e1]; exact hx), e1]; exact hx
end Go.Fl
