/- Slices that the call owns, by their value and what they hold; append. -/
import Derived.Test.YtbkhejfnhbjhpaaFlMem
set_option linter.unusedVariables false
set_option linter.unusedSimpArgs false
namespace Go.Fl
open Go

theorem ownsRow_of {w w' : World} {b t m n : Nat} {v : Value} {vs : List Value} (h : w.ownsRow b t m v n vs) (he : ∀ g, v.ownBlock = some g → w'.heap[g]? = w.heap[g]?) : w'.ownsRow b t m v n vs := by
  refine ⟨h.1, ?_⟩
  rcases h.2 with h2 | ⟨g, cap, cur, rfl, hb, hg, r⟩
  · exact .inl h2
  · exact .inr ⟨g, cap, cur, rfl, hb, by rw [he g rfl]; exact hg, r⟩

/-- A slice of the call's own: elements of type t, m cells each; vs: the cells of all that it holds. -/
def slc (v : Value) (t m : Nat) (vs : List Value) : Chunk :=
  ⟨v.ownBlock.toList, fun w => w.ownsRow 0 t m v (vs.length / m) vs, fun w w' h hh => ownsRow_of hh fun g hg => h g (by rw [hg]; simp)⟩

section
variable {P : Program} {w0 : World} {K : List Nat} {n : Nat} {ds : List Deferred} {E : Env} {L F : List Chunk} {o : Oper} {x y z : Operand} {v u : Value} {w : World}

theorem own_imp {c c' : Chunk} (hi : c'.ids = c.ids) (h : ∀ w, c.holds w → c'.holds w) (hw : Own w0 K w (c :: F)) : Own w0 K w (c' :: F) := by
  have e : idsOf (c' :: F) = idsOf (c :: F) := by simp [hi]
  refine ⟨hw.os, hw.tape, hw.output, hw.size, hw.old, by rw [e]; exact hw.nodup, by rw [e]; exact hw.fresh, by rw [e]; exact hw.lt, fun d hd => ?_⟩
  rcases List.mem_cons.1 hd with rfl | hd
  · exact h w (hw.holds c (List.mem_cons_self ..))
  · exact hw.holds d (List.mem_cons_of_mem _ hd)

/-- A block of ours, seen as a slice of ours. -/
theorem own_slc {g t m len cap : Nat} {cs : Array Value} {vs : List Value} (hl : vs.length = len * m) (hm : 0 < m) (hlc : len ≤ cap) (hcm : cap ≤ 9223372036854775807) (hcs : cs.size = cap * m) (ht : cs.toList.take (len * m) = vs)
    (hw : Own w0 K w (blk g t cs :: F)) : Own w0 K w (slc (.slice (some ⟨g, 0, none⟩) len cap) t m vs :: F) := by
  refine own_imp (by rfl) (fun w hh => ?_) hw
  have hd : vs.length / m = len := by rw [hl]; exact Nat.mul_div_cancel _ hm
  show w.ownsRow 0 t m _ (vs.length / m) vs
  rw [hd]
  exact ⟨hl, .inr ⟨g, cap, cs, rfl, Nat.zero_le _, hh, hlc, by simp only [maxLen]; omega, hcs, ht⟩⟩
theorem own_nil {t m : Nat} (hw : Own w0 K w F) : Own w0 K w (slc (.slice none 0 0) t m [] :: F) := by
  have e : idsOf (slc (.slice none 0 0) t m [] :: F) = idsOf F := by simp [slc, Value.ownBlock]
  refine ⟨hw.os, hw.tape, hw.output, hw.size, hw.old, by rw [e]; exact hw.nodup, by rw [e]; exact hw.fresh, by rw [e]; exact hw.lt, fun d hd => ?_⟩
  rcases List.mem_cons.1 hd with rfl | hd
  · show w.ownsRow 0 t m _ (0 / m) []
    rw [Nat.zero_div]
    exact ⟨by simp, .inl ⟨rfl, rfl⟩⟩
  · exact hw.holds d hd
/-- What a slice of ours is. -/
theorem own_open {t m : Nat} {vs : List Value} (hw : Own w0 K w (slc v t m vs :: F)) :
    (v = .slice none 0 0 ∧ vs = [] ∧ Own w0 K w F) ∨
    ∃ g len cap sp, v = .slice (some ⟨g, 0, none⟩) len cap ∧ vs.length = len * m ∧ len ≤ cap ∧ cap ≤ 9223372036854775807 ∧ vs.length + sp.length = cap * m ∧ Own w0 K w (blk g t (vs ++ sp).toArray :: F) := by
  have h : w.ownsRow 0 t m v (vs.length / m) vs := hw.holds _ (List.mem_cons_self ..)
  obtain ⟨h1, h2⟩ := h
  rcases h2 with ⟨rfl, h3⟩ | ⟨g, cap, cur, rfl, _, hg, hnc, hcm, hcs, ht⟩
  · rw [h3, Nat.zero_mul] at h1
    exact .inl ⟨rfl, List.eq_nil_of_length_eq_zero h1, hw.sub (List.sublist_cons_self ..)⟩
  · refine .inr ⟨g, vs.length / m, cap, cur.toList.drop (vs.length / m * m), rfl, h1, hnc, by simp only [maxLen] at hcm; omega, ?_, ?_⟩
    · have hcl : cur.toList.length = cap * m := by simp [hcs]
      rw [List.length_drop, hcl]
      have : vs.length / m * m ≤ cap * m := Nat.mul_le_mul_right _ hnc
      omega
    · have e : (vs ++ cur.toList.drop (vs.length / m * m)).toArray = cur := by
        apply Array.ext'
        have := List.take_append_drop (vs.length / m * m) cur.toList
        rw [ht] at this
        exact this
      rw [e]
      have e : idsOf (blk g t cur :: F) = idsOf (slc (.slice (some ⟨g, 0, none⟩) (vs.length / m) cap) t m vs :: F) := by simp [slc, blk, Value.ownBlock]
      refine ⟨hw.os, hw.tape, hw.output, hw.size, hw.old, by rw [e]; exact hw.nodup, by rw [e]; exact hw.fresh, by rw [e]; exact hw.lt, fun d hd => ?_⟩
      rcases List.mem_cons.1 hd with rfl | hd
      · exact hg
      · exact hw.holds d (List.mem_cons_of_mem _ hd)

/-- What is appended: it reads so. -/
def Src (w0 : World) (K : List Nat) (L : List Chunk) (y : Value) (k : Nat) (news : List Value) : Prop :=
  (∃ ad c, y = .slice (some ad) k c ∧ Hass w0 K L ad news) ∨ (∃ c, y = .slice none 0 c ∧ k = 0 ∧ news = [])

theorem run_append0 {t e ty : Nat} {A : Option Addr} {len cap c m : Nat} (ht : P.underlying t = some (.slice e)) (hm : sizeT P e = some m) (hlc : len ≤ cap) :
    (Builtin.append_ #[t, t] ty #[.slice A len cap, .slice none 0 c]).run P w = .ok (.slice A len cap) w := by
  have hf : (Builtin.firstCells m 0 (.slice none 0 c)).run P w = .ok #[] w := run_firstCells_none ..
  cases A with
  | none => simp [Builtin.append_, run_underlying ht, run_sizeT hm, Builtin.lenOf, hlc, hf]
  | some a => simp [Builtin.append_, run_underlying ht, run_sizeT hm, Builtin.lenOf, hlc, hf, storeCells]

/-- append to a slice of ours. -/
theorem g_append {t e m b k : Nat} {zv yv : Value} {vs news : List Value} (ho : o.op = .call ⟨.builtin .append, #[x, y], #[t, t]⟩) (hx : ev n E x = some v) (hy : ev n E y = some yv)
    (ht : P.underlying t = some (.slice e)) (hm : sizeT P e = some m) (hb : bytesT P e = some b) (hz : zeroT P e = some zv) (hzs : zv.cells.size = m) (hm0 : 0 < m) (hb0 : 0 < b)
    (hown : ∀ w, Own w0 K w L → Own w0 K w (slc v e m vs :: F)) (hn : Src w0 K L yv k news) (hk : news.length = k * m) (h1 : ∀ u, u ∈ news → u.oneCell' = true)
    (hfit : (vs.length / m + k) * b ≤ 140737488355328) : Gen P w0 K n ds E L o (fun v' M => M = slc v' e m (vs ++ news) :: F) := by
  intro a w ha hw
  obtain ⟨i, hi, e1, e2, e3⟩ := info_of hm hb hz
  subst e1 e2
  have hw' := hown w hw
  have hrow : w.ownsRow 0 e i.size v (vs.length / i.size) vs := hw'.holds _ (List.mem_cons_self ..)
  obtain ⟨hr1, hr2⟩ := hrow
  have hle : vs.length / i.size + k ≤ 140737488355328 := by
    have : vs.length / i.size + k ≤ (vs.length / i.size + k) * i.bytes := Nat.le_mul_of_pos_right _ hb0
    omega
  have hlen : (vs ++ news).length = (vs.length / i.size + k) * i.size := by rw [List.length_append, Nat.add_mul, ← hr1, hk]
  have hdiv : (vs ++ news).length / i.size = vs.length / i.size + k := by rw [hlen]; exact Nat.mul_div_cancel _ hm0
  have hrun : ∀ v' w1, (Builtin.append_ #[t, t] o.type #[v, yv]).run P w = .ok v' w1 → Own w0 K w1 (slc v' e i.size (vs ++ news) :: F) →
      RunsTo P (execOp a.eval o) w (fun v w' => ∃ L', L' = slc v e i.size (vs ++ news) :: F ∧ Own w0 K w' L') := by
    intro v' w1 hr hO
    unfold RunsTo
    have : (execOp a.eval o).run P w = .ok (.value v') w1 := by
      simp [execOp, ho, resolve, ha.ev hx, ha.ev hy, invoke, builtin, hr]
    rw [this]
    exact ⟨_, rfl, hO⟩
  have hF : Own w0 K w F := hw'.sub (List.sublist_cons_self ..)
  have hfresh : ∀ (cap : Nat) (z : List Value), vs.length / i.size + k ≤ cap → cap ≤ 9223372036854775807 → (vs ++ news ++ z).length = cap * i.size →
      Own w0 K (w.drew.alloc (.cells (vs ++ news ++ z).toArray e)) (slc (.slice (some ⟨w.heap.size, 0, none⟩) (vs.length / i.size + k) cap) e i.size (vs ++ news) :: F) := by
    intro cap z h2 h3 h4
    have := (hF.drew).alloc e (vs ++ news ++ z).toArray
    refine own_slc hlen hm0 h2 h3 (by simpa using h4) ?_ this
    simp only [List.toList_toArray, ← hlen]
    exact List.take_left
  rcases hn with ⟨ad, c, rfl, hnews⟩ | ⟨c, rfl, rfl, rfl⟩
  · have hnews' := hnews w hw
    rcases hr2 with ⟨rfl, h0⟩ | ⟨g, cap, cur, rfl, _, hg, hnc, hcm, hcs, htake⟩
    · have hvs : vs = [] := List.eq_nil_of_length_eq_zero (by rw [hr1, h0, Nat.zero_mul])
      subst hvs
      by_cases hk0 : k = 0
      · subst hk0
        have hn0 : news = [] := List.eq_nil_of_length_eq_zero (by simpa using hk)
        subst hn0
        refine hrun (.slice none 0 0) w ?_ hw'
        simp [Builtin.append_, run_underlying ht, sizeOf, typeInfo, hi, Builtin.lenOf, Builtin.firstCells, loadCells, loadCellsFrom]
      · have hle' : k * i.bytes ≤ 281474976710656 := by simp only [List.length_nil, Nat.zero_div, Nat.zero_add] at hfit; omega
        have hr := run_append_nil (P := P) w t o.type e i zv ht hi e3 ad k c news hk hnews' (by omega) (by simp at hle; omega) hle'
        refine hrun _ _ hr ?_
        have := hfresh (grownCap w k 0 e) (Builtin.zeroCells zv.cells (grownCap w k 0 e - k)).toList (by simpa using grownCap_ge w k 0 e)
          (by have := grownCap_le_maxLen w k 0 e (by simp only [maxLen]; simp at hle; omega); simp only [maxLen] at this; omega)
          (by
            have h5 := grownCap_ge w k 0 e
            simp only [List.nil_append, List.length_append, Array.length_toList, size_zeroCells, hzs, hk, ← Nat.add_mul]
            congr 1; omega)
        simp only [List.nil_append, List.length_nil, Nat.zero_div, Nat.zero_add] at this ⊢
        have e5 : (news ++ (Builtin.zeroCells zv.cells (grownCap w k 0 e - k)).toList).toArray = news.toArray ++ Builtin.zeroCells zv.cells (grownCap w k 0 e - k) := by simp
        rw [e5] at this
        exact this
    · by_cases hroom : vs.length / i.size + k ≤ cap
      · have hfit2 : vs.length / i.size * i.size + news.length ≤ cur.size := by
          rw [hcs, hk, ← Nat.add_mul]; exact Nat.mul_le_mul_right _ hroom
        have hr := run_append_room (P := P) w t o.type e i ht hi g (vs.length / i.size) cap cur hg ad k c news hk hnews' h1 hroom hfit2
        refine hrun _ _ hr ?_
        have hO := heap_setRow w g cur (cur.toList.take (vs.length / i.size * i.size) ++ news ++ cur.toList.drop (vs.length / i.size * i.size + news.length)).toArray e hg
        have hO2 : Own w0 K _ (blk g e _ :: F) := Own.frame (Lc := [slc (.slice (some ⟨g, 0, none⟩) (vs.length / i.size) cap) e i.size vs]) hw' hO
          (fun k hk => by simp [slc, Value.ownBlock] at hk ⊢; exact hk)
        refine own_slc hlen hm0 hroom (by simp only [maxLen] at hcm; omega) ?_ ?_ hO2
        · have : vs.length / i.size * i.size ≤ cur.size := by omega
          simp only [List.size_toArray, List.length_append, List.length_take, List.length_drop, Array.length_toList]
          rw [Nat.min_eq_left this, ← hcs]; omega
        · simp only [List.toList_toArray, htake]
          rw [← hlen]
          exact List.take_left
      · have hr := run_append_grow (P := P) w t o.type e i zv ht hi e3 ⟨g, 0, none⟩ (vs.length / i.size) cap vs hr1
          (by
            intro j u hj
            rw [add_at, cell_of_row w g _ cur e (0, 0) hg]
            rw [← htake, List.getElem?_take] at hj
            split at hj
            · simpa using hj
            · cases hj) ad k c news hk hnews' (by omega) (by omega) (growslice_fits (by omega) hfit)
        refine hrun _ _ hr ?_
        have := hfresh (grownCap w (vs.length / i.size + k) cap e) (Builtin.zeroCells zv.cells (grownCap w (vs.length / i.size + k) cap e - (vs.length / i.size + k))).toList (grownCap_ge ..)
          (by have := grownCap_le_maxLen w (vs.length / i.size + k) cap e (by simp only [maxLen]; omega); simp only [maxLen] at this; omega)
          (by
            have h5 := grownCap_ge w (vs.length / i.size + k) cap e
            rw [List.length_append, hlen]
            simp only [Array.length_toList, size_zeroCells, hzs, ← Nat.add_mul]
            congr 1; omega)
        have e5 : (vs ++ news ++ (Builtin.zeroCells zv.cells (grownCap w (vs.length / i.size + k) cap e - (vs.length / i.size + k))).toList).toArray =
            vs.toArray ++ news.toArray ++ Builtin.zeroCells zv.cells (grownCap w (vs.length / i.size + k) cap e - (vs.length / i.size + k)) := by apply Array.ext'; simp
        rw [e5] at this
        exact this
  · rw [List.append_nil] at *
    rcases hr2 with ⟨rfl, h0⟩ | ⟨g, cap, cur, rfl, _, hg, hnc, hcm, hcs, htake⟩
    · exact hrun _ w (run_append0 ht hm (Nat.le_refl _)) hw'
    · exact hrun _ w (run_append0 ht hm hnc) hw'
end
end Go.Fl
