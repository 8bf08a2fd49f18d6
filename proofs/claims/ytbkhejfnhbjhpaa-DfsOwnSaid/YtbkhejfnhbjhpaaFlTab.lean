/- Lists as tables; counting half-edges: what csr.New computes. -/
import Derived.Test.YtbkhejfnhbjhpaaFlAdj
set_option linter.unusedVariables false
set_option linter.unusedSimpArgs false
namespace Go.Fl
open Go

def tab (n : Nat) (f : Nat → Int) : List Int := (List.range n).map f
def upd (f : Nat → Int) (k : Nat) (x : Int) : Nat → Int := fun i => if i = k then x else f i
@[simp] theorem tab_length (n : Nat) (f : Nat → Int) : (tab n f).length = n := by simp [tab]
theorem tab_get {n i : Nat} (f : Nat → Int) (h : i < n) : (tab n f)[i]? = some (f i) := by simp [tab, h]
theorem tab_get' {n i : Nat} {f : Nat → Int} {x : Int} (h : (tab n f)[i]? = some x) : i < n ∧ x = f i := by
  have hi := (List.getElem?_eq_some_iff.1 h).1
  simp at hi
  rw [tab_get f hi] at h
  exact ⟨hi, (Option.some.inj h).symm⟩
theorem tab_set {n k : Nat} (f : Nat → Int) (x : Int) : (tab n f).set k x = tab n (upd f k x) := by
  apply List.ext_getElem?
  intro i
  by_cases hi : i < n
  · rw [tab_get _ hi]
    by_cases hk : k = i
    · subst hk; rw [List.getElem?_set_self (by simpa using hi)]; simp [upd]
    · rw [List.getElem?_set_ne hk, tab_get _ hi]; simp [upd, Ne.symm hk]
  · rw [List.getElem?_eq_none (by simp; omega), List.getElem?_eq_none (by simp; omega)]
theorem tab_congr {n : Nat} {f g : Nat → Int} (h : ∀ i, i < n → f i = g i) : tab n f = tab n g := by
  apply List.map_congr_left
  intro i hi
  exact h i (List.mem_range.1 hi)
theorem tab_zero (n : Nat) : List.replicate n (0 : Int) = tab n (fun _ => 0) := by
  apply List.ext_getElem?
  intro i
  by_cases hi : i < n
  · rw [tab_get _ hi]; simp [hi]
  · rw [List.getElem?_eq_none (by simp; omega), List.getElem?_eq_none (by simp; omega)]
theorem made_ints (k : Nat) : madeCells (Value.int .i64 0).cells (k * 1) = (ints (List.replicate k 0)).toArray := by
  rw [made_one _ rfl]; simp [ints]
theorem made_tab (k : Nat) : madeCells (Value.int .i64 0).cells (k * 1) = (ints (tab k fun _ => 0)).toArray := by rw [made_ints, tab_zero]
/-- A store into a row of integers, spare room behind it. -/
theorem row_set {xs : List Int} {sp : List Value} {i : Nat} {x : Int} (h : i < xs.length) : ((ints xs ++ sp).toArray).setIfInBounds i (.int .i64 x) = (ints (xs.set i x) ++ sp).toArray := by
  apply Array.ext'
  simp only [Array.toList_setIfInBounds]
  rw [List.set_append_left _ _ (by simpa using h)]
  simp [ints, List.map_set]
theorem row_set0 {xs : List Int} {i : Nat} {x : Int} : ((ints xs).toArray).setIfInBounds i (.int .i64 x) = (ints (xs.set i x)).toArray := by
  apply Array.ext'
  simp [ints, List.map_set]
theorem row_tab {n i : Nat} {f : Nat → Int} {x : Int} : ((ints (tab n f)).toArray).setIfInBounds i (.int .i64 x) = (ints (tab n (upd f i x))).toArray := by rw [row_set0, tab_set]
theorem row_get {xs : List Int} {sp : List Value} {i : Nat} {x : Int} (h : xs[i]? = some x) : ((ints xs ++ sp).toArray)[i]? = some (.int .i64 x) := by
  have hi := (List.getElem?_eq_some_iff.1 h).1
  simp only [List.getElem?_toArray]
  rw [List.getElem?_append_left (by simpa using hi)]
  exact ints_get h
theorem row_getT {n i : Nat} {f : Nat → Int} (h : i < n) : ((ints (tab n f)).toArray)[i]? = some (.int .i64 (f i)) := ints_arr (tab_get f h)

/-! ### counting -/
theorem outsF_append (k : Nat) (a b : List Pr) (v : Int) : outsF k (a ++ b) v = outsF k a v ++ outsF (k + a.length) b v := by
  induction a generalizing k with
  | nil => simp [outsF]
  | cons e r ih => simp only [List.cons_append, outsF, ih, List.append_assoc, List.length_cons]; rw [show k + 1 + r.length = k + (r.length + 1) by omega]
def one1 (k : Nat) (e : Pr) (v : Int) : List Int := if e.1 = v then [2 * (k : Int)] else if e.2 = v then [2 * (k : Int) + 1] else []
theorem outs_split {es : List Pr} {j : Nat} {e : Pr} (h : es[j]? = some e) (v : Int) : outs es v = outs (es.take j) v ++ (one1 j e v ++ outsF (j + 1) (es.drop (j + 1)) v) := by
  have hj := (List.getElem?_eq_some_iff.1 h).1
  have hlen : (es.take j).length = j := by simp; omega
  have hsplit : es = es.take j ++ e :: es.drop (j + 1) := by
    have := (List.take_append_drop j es).symm
    rw [List.drop_eq_getElem_cons hj] at this
    rw [(List.getElem?_eq_some_iff.1 h).2] at this
    exact this
  have e1 : outs es v = outs (es.take j ++ e :: es.drop (j + 1)) v := congrArg (fun l => outs l v) hsplit
  rw [e1]
  unfold outs
  rw [outsF_append, hlen, Nat.zero_add]
  rfl
theorem outs_succ {es : List Pr} {j : Nat} {e : Pr} (h : es[j]? = some e) (v : Int) : outs (es.take (j + 1)) v = outs (es.take j) v ++ one1 j e v := by
  have hj := (List.getElem?_eq_some_iff.1 h).1
  have h2 : (es.take (j + 1))[j]? = some e := by rw [List.getElem?_take]; simp [h]
  rw [outs_split h2 v]
  have e1 : (es.take (j + 1)).take j = es.take j := by rw [List.take_take]; congr 1; omega
  have e2 : (es.take (j + 1)).drop (j + 1) = [] := by simp
  rw [e1, e2]; simp [outsF]
def cnt (es : List Pr) (v : Nat) : Int := (outs es v).length
def pre (es : List Pr) : Nat → Int
  | 0 => 0
  | v + 1 => pre es v + cnt es v
theorem cnt_nonneg (es : List Pr) (v : Nat) : 0 ≤ cnt es v := by unfold cnt; omega
theorem pre_mono (es : List Pr) {u v : Nat} (h : u ≤ v) : pre es u ≤ pre es v := by
  induction h with
  | refl => exact Int.le_refl _
  | @step m _ ih =>
    have := cnt_nonneg es m
    show pre es u ≤ pre es m + cnt es m
    omega
theorem pre_nonneg (es : List Pr) (v : Nat) : 0 ≤ pre es v := by have := pre_mono es (Nat.zero_le v); simpa [pre] using this
theorem one1_len (k : Nat) (e : Pr) (v : Int) (hne : e.1 ≠ e.2) : ((one1 k e v).length : Int) = (if e.1 = v then 1 else 0) + (if e.2 = v then 1 else 0) := by
  unfold one1
  by_cases h1 : e.1 = v
  · have : ¬ e.2 = v := by omega
    simp [h1, this]
  · by_cases h2 : e.2 = v <;> simp [h1, h2]
theorem cnt_succ {es : List Pr} {j : Nat} {e : Pr} (h : es[j]? = some e) (hne : e.1 ≠ e.2) (v : Nat) : cnt (es.take (j + 1)) v = cnt (es.take j) v + (if e.1 = v then 1 else 0) + (if e.2 = v then 1 else 0) := by
  unfold cnt
  rw [outs_succ h, List.length_append]
  have := one1_len j e v hne
  push_cast
  omega
theorem pre_succ {es : List Pr} {j : Nat} {e : Pr} (h : es[j]? = some e) (hne : e.1 ≠ e.2) (h1 : 0 ≤ e.1) (h2 : 0 ≤ e.2) (u : Nat) : pre (es.take (j + 1)) u = pre (es.take j) u + (if e.1 < u then 1 else 0) + (if e.2 < u then 1 else 0) := by
  induction u with
  | zero => simp only [pre]; rw [if_neg (by omega), if_neg (by omega)]; rfl
  | succ u ih =>
    simp only [pre, ih, cnt_succ h hne u]
    by_cases a1 : e.1 = u <;> by_cases a2 : e.2 = u <;> by_cases b1 : e.1 < u <;> by_cases b2 : e.2 < u <;> simp [a1, a2, b1, b2] <;> (repeat' split) <;> omega
theorem pre_all {N : Int} {es : List Pr} (hv : Vld N es) : pre es N.toNat = es.length * 2 := by
  have key : ∀ j, j ≤ es.length → pre (es.take j) N.toNat = j * 2 := by
    intro j
    induction j with
    | zero =>
      intro _
      have : ∀ u, pre [] u = 0 := by intro u; induction u with
        | zero => rfl
        | succ u ih => simp [pre, ih, cnt, outs, outsF]
      simp [this]
    | succ j ih =>
      intro hj
      have he : es[j]? = some es[j] := List.getElem?_eq_getElem (by omega)
      have ho := hv.ok j _ he
      have := ho.lo; have := ho.lt; have := ho.hi
      rw [pre_succ he (by omega) (by omega) (by omega), ih (by omega), if_pos (by omega), if_pos (by omega)]
      omega
  have := key es.length (Nat.le_refl _)
  rwa [List.take_length] at this
theorem pre_le {N : Int} {es : List Pr} (hv : Vld N es) {v : Nat} (h : (v : Int) ≤ N) : pre es v ≤ es.length * 2 := by
  rw [← pre_all hv]; exact pre_mono es (by omega)
/-- How many of the first j edges end in v, begin in v. -/
def loV (es : List Pr) (j : Nat) (v : Int) : Int := ((es.take j).countP fun e => decide (e.2 = v))
def loU (es : List Pr) (j : Nat) (v : Int) : Int := ((es.take j).countP fun e => decide (e.1 = v))
theorem loV_succ {es : List Pr} {j : Nat} {e : Pr} (h : es[j]? = some e) (v : Int) : loV es (j + 1) v = loV es j v + (if e.2 = v then 1 else 0) := by
  have hj := (List.getElem?_eq_some_iff.1 h)
  unfold loV
  rw [List.take_succ_eq_append_getElem hj.1, hj.2, List.countP_append]
  simp
  split <;> simp
theorem loU_succ {es : List Pr} {j : Nat} {e : Pr} (h : es[j]? = some e) (v : Int) : loU es (j + 1) v = loU es j v + (if e.1 = v then 1 else 0) := by
  have hj := (List.getElem?_eq_some_iff.1 h)
  unfold loU
  rw [List.take_succ_eq_append_getElem hj.1, hj.2, List.countP_append]
  simp
  split <;> simp
theorem outs_lo {N : Int} {es : List Pr} (hv : Vld N es) (v : Int) : ∀ j, j ≤ es.length → ((outs (es.take j) v).length : Int) = loV es j v + loU es j v := by
  intro j
  induction j with
  | zero => intro _; simp [outs, outsF, loV, loU]
  | succ j ih =>
    intro hj
    have he : es[j]? = some es[j] := List.getElem?_eq_getElem (by omega)
    have ho := (hv.ok j _ he).lt
    rw [outs_succ he, List.length_append, loV_succ he, loU_succ he]
    have h1 := one1_len j es[j] v (by omega)
    have h2 := ih (by omega)
    push_cast
    omega
theorem lex_lt {N : Int} {es : List Pr} (hv : Vld N es) : ∀ {i j : Nat} {a b : Pr}, i < j → es[i]? = some a → es[j]? = some b → Lex a b := by
  intro i j
  induction j with
  | zero => intro a b h; omega
  | succ j ih =>
    intro a b h ha hb
    have hj : j < es.length := by have := (List.getElem?_eq_some_iff.1 hb).1; omega
    have hc : es[j]? = some es[j] := List.getElem?_eq_getElem hj
    have hcb := hv.up j _ _ hc hb
    by_cases he : i = j
    · subst he; rw [ha] at hc; cases hc; exact hcb
    · have hac := ih (by omega) ha hc
      unfold Lex at *; omega
/-- Ahead of an edge that ends in v none begins in v. -/
theorem loU_zero {N : Int} {es : List Pr} (hv : Vld N es) {j : Nat} {e : Pr} (h : es[j]? = some e) : loU es j e.2 = 0 := by
  unfold loU
  have : (es.take j).countP (fun x => decide (x.1 = e.2)) = 0 := by
    rw [List.countP_eq_zero]
    intro x hx
    obtain ⟨i, hi⟩ := List.getElem?_of_mem hx
    rw [List.getElem?_take] at hi
    split at hi
    · have := lex_lt hv ‹_› hi h
      have := (hv.ok j e h).lt
      unfold Lex at *
      simp; omega
    · cases hi
  rw [this]; rfl
/-- From an edge that begins in v on none ends in v. -/
theorem loV_all {N : Int} {es : List Pr} (hv : Vld N es) {j : Nat} {e : Pr} (h : es[j]? = some e) : loV es j e.1 = loV es es.length e.1 := by
  have key : ∀ d, j + d ≤ es.length → loV es (j + d) e.1 = loV es j e.1 := by
    intro d
    induction d with
    | zero => intro _; rfl
    | succ d ih =>
      intro hd
      have hx : es[j + d]? = some es[j + d] := List.getElem?_eq_getElem (by omega)
      rw [← Nat.add_assoc, loV_succ hx, ih (by omega)]
      have ho := (hv.ok _ _ hx).lt
      have : ¬ es[j + d].2 = e.1 := by
        by_cases h0 : d = 0
        · subst h0; simp only [Nat.add_zero] at hx ho ⊢; rw [h] at hx; have := Option.some.inj hx; rw [← this] at ho ⊢; omega
        · have := lex_lt hv (show j < j + d by omega) h hx
          unfold Lex at this; omega
      rw [if_neg this]; omega
  have hj := (List.getElem?_eq_some_iff.1 h).1
  have := key (es.length - j) (by omega)
  rw [show j + (es.length - j) = es.length by omega] at this
  exact this.symm
/-- Where the half-edges of an edge stand. -/
theorem outs_pos2 {es : List Pr} {j : Nat} {e : Pr} (h : es[j]? = some e) (hne : e.1 ≠ e.2) : (outs es e.2)[(outs (es.take j) e.2).length]? = some (2 * (j : Int) + 1) := by
  rw [outs_split h e.2, List.getElem?_append_right (Nat.le_refl _), Nat.sub_self]
  simp [one1, hne]
theorem outs_pos1 {es : List Pr} {j : Nat} {e : Pr} (h : es[j]? = some e) : (outs es e.1)[(outs (es.take j) e.1).length]? = some (2 * (j : Int)) := by
  rw [outs_split h e.1, List.getElem?_append_right (Nat.le_refl _), Nat.sub_self]
  simp [one1]
theorem outsF_sorted : ∀ (es : List Pr) (k : Nat) (v : Int), (outsF k es v).Pairwise (· < ·) ∧ ∀ h, h ∈ outsF k es v → 2 * (k : Int) ≤ h
  | [], k, v => by simp [outsF]
  | e :: r, k, v => by
    obtain ⟨h1, h2⟩ := outsF_sorted r (k + 1) v
    unfold outsF
    refine ⟨?_, ?_⟩
    · rw [List.pairwise_append]
      refine ⟨by split <;> (try split) <;> simp, h1, fun a ha b hb => ?_⟩
      have := h2 b hb
      split at ha
      · simp at ha; subst ha; push_cast at this; omega
      · split at ha
        · simp at ha; subst ha; push_cast at this; omega
        · simp at ha
    · intro h hh
      rw [List.mem_append] at hh
      rcases hh with hh | hh
      · split at hh
        · simp at hh; omega
        · split at hh
          · simp at hh; omega
          · simp at hh
      · have := h2 h hh; push_cast at this; omega
theorem outs_uniq {es : List Pr} {v h : Int} {i j : Nat} (hi : (outs es v)[i]? = some h) (hj : (outs es v)[j]? = some h) : i = j := by
  have hp := (outsF_sorted es 0 v).1
  have a := List.getElem?_eq_some_iff.1 hi
  have b := List.getElem?_eq_some_iff.1 hj
  obtain ⟨ha, ea⟩ := a
  obtain ⟨hb, eb⟩ := b
  rcases Nat.lt_trichotomy i j with hlt | heq | hgt
  · have := (List.pairwise_iff_getElem.1 hp) i j ha hb hlt
    unfold outs at ea eb; omega
  · exact heq
  · have := (List.pairwise_iff_getElem.1 hp) j i hb ha hgt
    unfold outs at ea eb; omega

theorem hass_row {w0 : World} {K : List Nat} {L : List Chunk} {g t : Nat} {xs : List Int} {sp : List Value} [h : Find L g t (ints xs ++ sp).toArray] : Hass w0 K L ⟨g, 0, none⟩ (ints xs) :=
  hass_blk (cs := (ints xs ++ sp).toArray) (by simp)
theorem hass_row0 {w0 : World} {K : List Nat} {L : List Chunk} {g t : Nat} {xs : List Int} [h : Find L g t (ints xs).toArray] : Hass w0 K L ⟨g, 0, none⟩ (ints xs) :=
  hass_blk (cs := (ints xs).toArray) (by simp only [List.drop_zero]; exact List.take_length)
theorem blk_tab {b t n : Nat} {f g : Nat → Int} (h : ∀ i, i < n → f i = g i) : blk b t (ints (tab n f)).toArray = blk b t (ints (tab n g)).toArray := by rw [tab_congr h]
theorem blk_tab_sp {b t n : Nat} {f g : Nat → Int} {sp : List Value} (h : ∀ i, i < n → f i = g i) : blk b t (ints (tab n f) ++ sp).toArray = blk b t (ints (tab n g) ++ sp).toArray := by rw [tab_congr h]
theorem sl_tab (g n : Nat) (f : Nat → Int) : sl g (tab n f) = .slice (some ⟨g, 0, none⟩) n n := by simp [sl]

/-- The place of a half-edge: of the k-th that leaves v. -/
theorem place_lt {N : Int} {es : List Pr} (hv : Vld N es) {v k : Nat} (hvN : (v : Int) < N) (hk : k < (outs es v).length) : pre es v + k < es.length * 2 := by
  have h1 : pre es (v + 1) ≤ es.length * 2 := pre_le hv (by omega)
  have h2 : pre es (v + 1) = pre es v + (outs es v).length := rfl
  omega
theorem place_inj {es : List Pr} {v v' k k' : Nat} (hk : k < (outs es v).length) (hk' : k' < (outs es v').length) (h : pre es v + k = pre es v' + k') : v = v' ∧ k = k' := by
  have e1 : pre es (v + 1) = pre es v + (outs es v).length := rfl
  have e2 : pre es (v' + 1) = pre es v' + (outs es v').length := rfl
  rcases Nat.lt_trichotomy v v' with hlt | heq | hgt
  · have := pre_mono es (show v + 1 ≤ v' by omega); omega
  · subst heq; exact ⟨rfl, by omega⟩
  · have := pre_mono es (show v' + 1 ≤ v by omega); omega
/-- What has been put: the half-edges h of which D holds stand in their places. -/
def Done (es : List Pr) (D : Int → Prop) (fo fp : Nat → Int) : Prop :=
  ∀ (v k : Nat) (h : Int), (outs es v)[k]? = some h → D h → fo (pre es v + k).toNat = h ∧ fp h.toNat = pre es v + k
theorem Done.put {N : Int} {es : List Pr} (hv : Vld N es) {D : Int → Prop} {fo fp : Nat → Int} (hd : Done es D fo fp) {v k : Nat} {h : Int} (hk : (outs es v)[k]? = some h) :
    Done es (fun x => D x ∨ x = h) (upd fo (pre es v + k).toNat h) (upd fp h.toNat (pre es v + k)) := by
  intro v' k' h' hk' hD
  have hl := (List.getElem?_eq_some_iff.1 hk).1
  have hl' := (List.getElem?_eq_some_iff.1 hk').1
  have hm := (mem_outs hv).1 (List.mem_of_getElem? hk)
  have hm' := (mem_outs hv).1 (List.mem_of_getElem? hk')
  have p0 := pre_nonneg es v
  have p0' := pre_nonneg es v'
  by_cases he : h' = h
  · subst he
    have hvv : v = v' := by have := hm.2.2; have := hm'.2.2; omega
    subst hvv
    obtain rfl := outs_uniq hk hk'
    simp [upd]
  · have hDh : D h' := hD.resolve_right he
    obtain ⟨a1, a2⟩ := hd v' k' h' hk' hDh
    have n1 : (pre es v' + k').toNat ≠ (pre es v + k).toNat := by
      intro e
      have e2 : pre es v' + k' = pre es v + k := by omega
      obtain ⟨rfl, rfl⟩ := place_inj hl' hl e2
      rw [hk] at hk'; exact he (Option.some.inj hk').symm
    have n2 : h'.toNat ≠ h.toNat := by omega
    exact ⟨by simp only [upd, if_neg n1]; exact a1, by simp only [upd, if_neg n2]; exact a2⟩
theorem Done.imp {es : List Pr} {D D' : Int → Prop} {fo fp : Nat → Int} (hd : Done es D fo fp) (h : ∀ (v : Nat) x, x ∈ outs es v → D' x → D x) : Done es D' fo fp :=
  fun v k x hk hx => hd v k x hk (h v x (List.mem_of_getElem? hk) hx)
end Go.Fl
