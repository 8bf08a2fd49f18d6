/- The last part: The law CheckMore, where what it reads is of bulk at most 1048576: true, and the input reads as it did; the three tables of the library that it lists are tied to the text of the program. -/
import Derived.Test.YthjmapekjggdjaaGreatDoorZM4
set_option linter.unusedVariables false
set_option linter.unusedSimpArgs false
set_option maxRecDepth 100000
namespace Go.Fl
open Go Go.Proofs
open Classical
def es4 : List Pr := [(0, 1), (0, 2), (0, 3), (1, 2), (1, 3), (2, 3)]
def lsA : List (List Int) := [[1, 2, 3], [0, 3, 2], [0, 1, 3], [0, 2, 1]]
def lsB : List (List Int) := [[1, 2, 3], [0, 2, 3], [0, 1, 3], [0, 1, 2]]
def rsA : List (List Int) := [[0, 2, 4], [1, 8, 6], [3, 7, 10], [5, 11, 9]]
def rsB : List (List Int) := [[0, 2, 4], [1, 6, 8], [3, 7, 10], [5, 9, 11]]
theorem lt4 {v : Nat} {α : Type} {a b c d x : α} (h : [a, b, c, d][v]? = some x) : (v = 0 ∧ x = a) ∨ (v = 1 ∧ x = b) ∨ (v = 2 ∧ x = c) ∨ (v = 3 ∧ x = d) := by
  match v, h with
  | 0, h => simp at h; exact .inl ⟨rfl, h.symm⟩
  | 1, h => simp at h; exact .inr (.inl ⟨rfl, h.symm⟩)
  | 2, h => simp at h; exact .inr (.inr (.inl ⟨rfl, h.symm⟩))
  | 3, h => simp at h; exact .inr (.inr (.inr ⟨rfl, h.symm⟩))
  | v + 4, h => simp at h
theorem lt3 {v : Nat} {α : Type} {a b c x : α} (h : [a, b, c][v]? = some x) : (v = 0 ∧ x = a) ∨ (v = 1 ∧ x = b) ∨ (v = 2 ∧ x = c) := by
  match v, h with
  | 0, h => simp at h; exact .inl ⟨rfl, h.symm⟩
  | 1, h => simp at h; exact .inr (.inl ⟨rfl, h.symm⟩)
  | 2, h => simp at h; exact .inr (.inr ⟨rfl, h.symm⟩)
  | v + 3, h => simp at h
theorem vld4 : Vld 4 es4 where
  lo := by decide
  hi := by decide
  few := by decide
  ok := by
    intro i e h
    match i, h with
    | 0, h => cases h; exact ⟨by decide, by decide, by decide⟩
    | 1, h => cases h; exact ⟨by decide, by decide, by decide⟩
    | 2, h => cases h; exact ⟨by decide, by decide, by decide⟩
    | 3, h => cases h; exact ⟨by decide, by decide, by decide⟩
    | 4, h => cases h; exact ⟨by decide, by decide, by decide⟩
    | 5, h => cases h; exact ⟨by decide, by decide, by decide⟩
    | i + 6, h => simp [es4] at h
  up := by
    intro i a b h k
    match i, h, k with
    | 0, h, k => cases h; cases k; exact .inr ⟨by decide, by decide⟩
    | 1, h, k => cases h; cases k; exact .inr ⟨by decide, by decide⟩
    | 2, h, k => cases h; cases k; exact .inl (by decide)
    | 3, h, k => cases h; cases k; exact .inr ⟨by decide, by decide⟩
    | 4, h, k => cases h; cases k; exact .inl (by decide)
    | i + 5, h, k => simp [es4] at k
theorem conn4 {v : Nat} (h0 : 0 < v) (h : v < 4) : Conn es4 0 v := by
  refine .edge 0 v ?_
  match v, h0, h with
  | 1, _, _ => decide
  | 2, _, _ => decide
  | 3, _, _ => decide
theorem ncomp4 : ncomp 4 es4 = 1 := by
  have e : List.range 4 = [0, 1, 2, 3] := rfl
  unfold ncomp
  rw [e]
  have h0 : ∀ y, y < 0 → ¬ Conn es4 y 0 := fun y h => by omega
  have h1 : ∀ v, 0 < v → v < 4 → ¬ (∀ y, y < v → ¬ Conn es4 y v) := fun v h1 h2 h => h 0 h1 (conn4 h1 h2)
  rw [List.countP_cons, List.countP_cons, List.countP_cons, List.countP_cons, List.countP_nil, if_neg (by simpa using h1 3 (by decide) (by decide)), if_neg (by simpa using h1 2 (by decide) (by decide)), if_neg (by simpa using h1 1 (by decide) (by decide)), if_pos (decide_eq_true h0)]
theorem iso4 : isoN 4 es4 = 0 := by decide
def tabF (l : List Int) (h : Nat) : Int := (l[h]?).getD 0
/-- by half-edge the next one -/
def fnA : Nat → Int := tabF [2, 8, 4, 7, 0, 11, 1, 10, 6, 5, 3, 9]
def fnB : Nat → Int := tabF [2, 6, 4, 7, 0, 9, 8, 10, 1, 11, 3, 5]
theorem lead_of {f : Nat → Nat} {x m : Nat} (h0 : 0 < m) (h1 : itr f m x = x) (h2 : ∀ k, k < m → x ≤ itr f k x) : Lead f x := by
  intro k
  induction k using Nat.strongRecOn with
  | _ k ih =>
    by_cases hk : k < m
    · exact h2 k hk
    · have := ih (k - m) (by omega)
      have e : itr f k x = itr f (k - m) (itr f m x) := by rw [← itr_add]; congr 1; omega
      rw [e, h1]; exact this
theorem lead_not {f : Nat → Nat} {x k : Nat} (h : itr f k x < x) : ¬ Lead f x := fun hl => by have := hl k; omega
theorem facesA : facesN es4 fnA = 4 := by
  have h0 : decide (Lead (phi fnA) 0) = true := decide_eq_true (lead_of (m := 3) (by decide) (by decide) (by decide))
  have h1 : decide (Lead (phi fnA) 1) = true := decide_eq_true (lead_of (m := 3) (by decide) (by decide) (by decide))
  have h2 : decide (Lead (phi fnA) 2) = false := decide_eq_false (lead_not (k := 2) (by decide))
  have h3 : decide (Lead (phi fnA) 3) = true := decide_eq_true (lead_of (m := 3) (by decide) (by decide) (by decide))
  have h4 : decide (Lead (phi fnA) 4) = false := decide_eq_false (lead_not (k := 2) (by decide))
  have h5 : decide (Lead (phi fnA) 5) = false := decide_eq_false (lead_not (k := 1) (by decide))
  have h6 : decide (Lead (phi fnA) 6) = true := decide_eq_true (lead_of (m := 3) (by decide) (by decide) (by decide))
  have h7 : decide (Lead (phi fnA) 7) = false := decide_eq_false (lead_not (k := 1) (by decide))
  have h8 : decide (Lead (phi fnA) 8) = false := decide_eq_false (lead_not (k := 2) (by decide))
  have h9 : decide (Lead (phi fnA) 9) = false := decide_eq_false (lead_not (k := 1) (by decide))
  have h10 : decide (Lead (phi fnA) 10) = false := decide_eq_false (lead_not (k := 2) (by decide))
  have h11 : decide (Lead (phi fnA) 11) = false := decide_eq_false (lead_not (k := 1) (by decide))
  have e : List.range (es4.length * 2) = [0, 1, 2, 3, 4, 5, 6, 7, 8, 9, 10, 11] := rfl
  unfold facesN headsOf
  rw [e, List.length_map]
  simp only [List.filter_cons, List.filter_nil, h0, h1, h2, h3, h4, h5, h6, h7, h8, h9, h10, h11]
  rfl
theorem facesB : facesN es4 fnB = 2 := by
  have h0 : decide (Lead (phi fnB) 0) = true := decide_eq_true (lead_of (m := 4) (by decide) (by decide) (by decide))
  have h1 : decide (Lead (phi fnB) 1) = true := decide_eq_true (lead_of (m := 8) (by decide) (by decide) (by decide))
  have h2 : decide (Lead (phi fnB) 2) = false := decide_eq_false (lead_not (k := 7) (by decide))
  have h3 : decide (Lead (phi fnB) 3) = false := decide_eq_false (lead_not (k := 3) (by decide))
  have h4 : decide (Lead (phi fnB) 4) = false := decide_eq_false (lead_not (k := 2) (by decide))
  have h5 : decide (Lead (phi fnB) 5) = false := decide_eq_false (lead_not (k := 1) (by decide))
  have h6 : decide (Lead (phi fnB) 6) = false := decide_eq_false (lead_not (k := 3) (by decide))
  have h7 : decide (Lead (phi fnB) 7) = false := decide_eq_false (lead_not (k := 6) (by decide))
  have h8 : decide (Lead (phi fnB) 8) = false := decide_eq_false (lead_not (k := 5) (by decide))
  have h9 : decide (Lead (phi fnB) 9) = false := decide_eq_false (lead_not (k := 1) (by decide))
  have h10 : decide (Lead (phi fnB) 10) = false := decide_eq_false (lead_not (k := 2) (by decide))
  have h11 : decide (Lead (phi fnB) 11) = false := decide_eq_false (lead_not (k := 4) (by decide))
  have e : List.range (es4.length * 2) = [0, 1, 2, 3, 4, 5, 6, 7, 8, 9, 10, 11] := rfl
  unfold facesN headsOf
  rw [e, List.length_map]
  simp only [List.filter_cons, List.filter_nil, h0, h1, h2, h3, h4, h5, h6, h7, h8, h9, h10, h11]
  rfl
theorem genusA : genus2 4 es4 fnA = 0 := by unfold genus2; rw [ncomp4, iso4, facesA]; rfl
theorem genusB : genus2 4 es4 fnB = 2 := by unfold genus2; rw [ncomp4, iso4, facesB]; rfl
theorem isHalf_of {es : List Pr} {u v x : Int} (h : rhalfF u v 0 es = x) (hx : x ≠ -1) : IsHalf es u v x := by
  rcases rhalf_spec (es := es) u v with h1 | ⟨h1, _⟩
  · rw [h] at h1; exact h1
  · omega
theorem hit_ok {es : List Pr} {v : Nat} {l : List Int} (h : ∀ u, u ∈ l → rhalfF v u 0 es ≠ -1) : ∀ u, u ∈ l → ∃ h, IsHalf es v u h := fun u hu => ⟨_, isHalf_of rfl (h u hu)⟩
theorem rotOkA : RotOk 4 es4 lsA := by
  refine ⟨vld4, by decide, fun v l hl => ?_⟩
  rcases lt4 hl with ⟨rfl, rfl⟩ | ⟨rfl, rfl⟩ | ⟨rfl, rfl⟩ | ⟨rfl, rfl⟩ <;> exact ⟨hit_ok (by decide), by decide, by decide⟩
theorem rotOkB : RotOk 4 es4 lsB := by
  refine ⟨vld4, by decide, fun v l hl => ?_⟩
  rcases lt4 hl with ⟨rfl, rfl⟩ | ⟨rfl, rfl⟩ | ⟨rfl, rfl⟩ | ⟨rfl, rfl⟩ <;> exact ⟨hit_ok (by decide), by decide, by decide⟩
theorem rotRA : RotR es4 lsA rsA := by
  refine ⟨rfl, fun v l r hl hr => ?_⟩
  rcases lt4 hl with ⟨rfl, rfl⟩ | ⟨rfl, rfl⟩ | ⟨rfl, rfl⟩ | ⟨rfl, rfl⟩ <;> cases hr <;> refine ⟨rfl, fun j u h hj hk => ?_⟩ <;> rcases lt3 hj with ⟨rfl, rfl⟩ | ⟨rfl, rfl⟩ | ⟨rfl, rfl⟩ <;> cases hk <;> exact isHalf_of (by decide) (by decide)
theorem rotRB : RotR es4 lsB rsB := by
  refine ⟨rfl, fun v l r hl hr => ?_⟩
  rcases lt4 hl with ⟨rfl, rfl⟩ | ⟨rfl, rfl⟩ | ⟨rfl, rfl⟩ | ⟨rfl, rfl⟩ <;> cases hr <;> refine ⟨rfl, fun j u h hj hk => ?_⟩ <;> rcases lt3 hj with ⟨rfl, rfl⟩ | ⟨rfl, rfl⟩ | ⟨rfl, rfl⟩ <;> cases hk <;> exact isHalf_of (by decide) (by decide)
theorem nxOkA : NxOk rsA rsA.length fnA := by
  intro x l i h hx hl hi
  rcases lt4 hl with ⟨rfl, rfl⟩ | ⟨rfl, rfl⟩ | ⟨rfl, rfl⟩ | ⟨rfl, rfl⟩ <;> rcases lt3 hi with ⟨rfl, rfl⟩ | ⟨rfl, rfl⟩ | ⟨rfl, rfl⟩ <;> rfl
theorem nxOkB : NxOk rsB rsB.length fnB := by
  intro x l i h hx hl hi
  rcases lt4 hl with ⟨rfl, rfl⟩ | ⟨rfl, rfl⟩ | ⟨rfl, rfl⟩ | ⟨rfl, rfl⟩ <;> rcases lt3 hi with ⟨rfl, rfl⟩ | ⟨rfl, rfl⟩ | ⟨rfl, rfl⟩ <;> rfl
theorem flatA : FlatP 4 es4 lsA := ⟨rsA, fnA, rotRA, nxOkA, genusA⟩
theorem flatB : ¬ FlatP 4 es4 lsB := by
  rintro ⟨rs, fn, h1, h2, h3⟩
  have := rotR_uniq vld4 h1 rotRB
  subst this
  have h4 := genus_uniq (n := 4) (rotL_of rotOkB h1) h2 nxOkB
  rw [h3, genusB] at h4
  omega
theorem listsOk4 {ls : List (List Int)} (h1 : ls.length ≤ 4) (h : ∀ l, l ∈ ls → ∀ n, n ∈ l → Fits n ∧ ∀ a, l[0]? = some a → a ≤ n) : ListsOk ls := by
  refine ⟨by omega, fun i l hl j n a hj ha => ?_⟩
  have := h l (List.mem_of_getElem? hl) n (List.mem_of_getElem? hj)
  exact ⟨this.1, this.2 a ha⟩
theorem lines_len {ls : List (List Int)} (h : ∀ l, l ∈ ls → l.length ≤ 3 ∧ ∀ a, a ∈ l → I64 a) : (ls.map lineB).flatten.length ≤ 100 * ls.length := by
  induction ls with
  | nil => simp
  | cons l r ih =>
    have h1 := h l (List.mem_cons_self ..)
    have h2 := lineB_len h1.2
    have h3 := ih (fun l' hl => h l' (List.mem_cons_of_mem _ hl))
    simp only [List.map_cons, List.flatten_cons, List.length_append, List.length_cons]
    omega
theorem textA : TextOk true lsA [] := by
  refine ⟨⟨rfl, listsOk4 (by decide) (by unfold Fits; decide)⟩, ?_⟩
  have h1 := headB_len (letter := [112]) (n := 4) rfl (by decide)
  have h2 := lines_len (ls := lsA) (by unfold I64; decide)
  have h3 : lsA.length = 4 := rfl
  simp only [certB, textB, List.length_append, if_true, List.length_map, h3] at h1 h2 ⊢
  omega
theorem textB4 : TextOk true lsB [] := by
  refine ⟨⟨rfl, listsOk4 (by decide) (by unfold Fits; decide)⟩, ?_⟩
  have h1 := headB_len (letter := [112]) (n := 4) rfl (by decide)
  have h2 := lines_len (ls := lsB) (by unfold I64; decide)
  have h3 : lsB.length = 4 := rfl
  simp only [certB, textB, List.length_append, if_true, List.length_map, h3] at h1 h2 ⊢
  omega
def cs4 : List Pr := [(0, 1), (0, 4)]
theorem textC : TextOk false [] cs4 := by
  refine ⟨⟨rfl, ⟨by decide, fun i e h => ?_, fun i a b h k => ?_⟩⟩, ?_⟩
  · match i, h with
    | 0, h => cases h; unfold Fits; decide
    | 1, h => cases h; unfold Fits; decide
    | i + 2, h => simp [cs4] at h
  · match i, h, k with
    | 0, h, k => cases h; cases k; exact .inr ⟨rfl, by decide⟩
    | i + 1, h, k => simp [cs4] at k
  · have h1 := headB_len (letter := [110]) (n := 2) rfl (by decide)
    have h2 := lines_len (ls := [[0, 1], [0, 4]]) (by unfold I64; decide)
    simp only [certB, textB, List.length_append, List.length_map, cs4, List.map_cons, List.map_nil, List.length_cons, List.length_nil] at h1 h2 ⊢
    simp only [Bool.false_eq_true, if_false, List.length_append]
    simp at h1 h2 ⊢
    omega
theorem chkA : chkF 4 es4 true lsA [] = 0 := by
  unfold chkF
  rw [if_neg (not_not_intro vld4), if_neg (not_not_intro textA), if_pos rfl, if_neg (not_not_intro rotOkA), if_neg (not_not_intro (show FlatP (4 : Int).toNat es4 lsA from flatA))]
theorem chkB : chkF 4 es4 true lsB [] = 183 := by
  unfold chkF
  rw [if_neg (not_not_intro vld4), if_neg (not_not_intro textB4), if_pos rfl, if_neg (not_not_intro rotOkB), if_pos (show ¬ FlatP (4 : Int).toNat es4 lsB from flatB)]
theorem chkC : chkF 4 es4 false [] cs4 = 184 := by
  unfold chkF
  rw [if_neg (not_not_intro vld4), if_neg (not_not_intro textC), if_neg (by decide), if_pos]
  intro h
  have := h (0, 4) (by decide)
  revert this; decide
/-- "1 1\n0 1\n" -/
def txt4 : List UInt8 := [49, 32, 49, 10, 48, 32, 49, 10]
theorem raw4 : rawF txt4 = .bad 24 6 := by
  simp [rawF, scanA, txt4, scanF, isDig, digs, decF, feedF, lineF, endF]
end Go.Fl

set_option linter.unusedVariables false
set_option linter.unusedSimpArgs false
set_option maxRecDepth 100000
namespace Go.Fl
open Go Go.Proofs
/-- A scanner: its struct in block gs, its tokens. -/
def scL (gs : Nat) (vb vt : Value) (i : Nat) (tk : List Tk) : List Chunk := [blk gs 176 #[vb, .int .i64 i, vt], slc vt 138 4 (tks tk)]
def sflt (v e : Int) : Value := .iface 172 (.agg #[.int .i64 v, .int .i64 e])
def digAt (bs : List UInt8) (i : Nat) : Bool := (bs[i]?.map isDig).getD false
theorem sput_calls {gs i : Nat} {vb vt : Value} {tk : List Tk} {kd fr nu : Int} {w : World} (hO : Own w (idsOf (scL gs vb vt i tk)) w (scL gs vb vt i tk)) (hl : tk.length ≤ 100000000) :
    Calls Tryz.prog 135 #[.pointer (some ⟨gs, 0, none⟩), .int .i64 kd, .int .i64 fr, .int .i64 nu] w
      (Ret w (idsOf (scL gs vb vt i tk)) fun r M => r = .tuple #[] ∧ ∃ vt', M = scL gs vb vt' i (tk ++ [⟨kd, fr, i, nu⟩])) := by
  refine calls_of (args := [_, _, _, _]) Tryz.func135 rfl Tryz.ntmps135 rfl hO ?_
  unfold scL
  refine DC.flow (cl := [.q, .q, .q, .q, .v, .q, .q, .q, .q, .q, .v, .q, .q, .n, .g, .q, .q, .g]) (A := [0, 0, 2, 6, 14, 0, 0, 0, 128, 384, 896, 0, 4064, 8160, 16382, 32767, 65535, 131071]) (order := [0, 1, 2, 3, 4, 5, 6, 7, 8, 9, 10, 11, 12, 13, 14, 15, 16, 17]) [] mixed (by kernel_rfl) (fun w hw => hw.pick .nil) ?_
  refine Ym ?_
  refine Ym ?_
  refine Flow.pur rfl rfl rfl (p_nil rfl rfl) ?_
  refine Yf fi176_2 ?_
  refine Yl ag131 ?_
  refine Ym ?_
  refine Ym ?_
  refine Ym ?_
  refine Flow.pur rfl rfl rfl (p_nil rfl rfl) ?_
  refine Yf fi176_1 ?_
  refine Yl ag3 ?_
  refine Ym ?_
  refine Flow.pur rfl rfl rfl (p_struct (cs := #[_, _, _, _]) rfl rfl bs138 rfl rfl) ?_
  refine Flow.new' rfl rfl rfl rfl (n_slit (cs := #[_, _, _, _]) rfl rfl Tryz.underlying131 sz138 ze138 rfl (by decide) (by decide) rfl rfl) fun g21 => ?_
  refine Flow.gen' (V := [blk g21 138 #[.int .i64 kd, .int .i64 fr, .int .i64 i, .int .i64 nu], blk gs 176 #[vb, .int .i64 i, vt], slc vt 138 4 (tks tk)]) rfl rfl rfl rfl rfl (Gen.shape (g_append (F := [blk g21 138 #[.int .i64 kd, .int .i64 fr, .int .i64 i, .int .i64 nu], blk gs _ _]) (vs := tks tk) (k := 1) (news := [.int .i64 kd, .int .i64 fr, .int .i64 i, .int .i64 nu]) rfl rfl rfl Tryz.underlying131 sz138 by138 ze138 rfl (by decide) (by decide)
    (fun w hw => hw.pick (.cons 2 rfl (.cons 0 rfl (.cons 0 rfl .nil)))) (.inl ⟨_, _, rfl, hass_blk rfl⟩) rfl (by intro u hu; simp at hu; rcases hu with rfl | rfl | rfl | rfl <;> rfl) (by rw [tks_length]; omega))) (fun v L' hC w hw => hw.pick (.nil)) ?_
  rintro _ _ ⟨⟨A11, l11, c11, rfl⟩, rfl⟩
  refine Flow.pur rfl rfl rfl (p_nil rfl rfl) ?_
  refine Yf fi176_2 ?_
  refine Flow.sto0 rfl rfl rfl rfl (s_store (cs' := #[_, _, _]) rfl rfl rfl sz131 rfl (Nat.le_of_ble_eq_true rfl) rfl) (fun w hw => hw.pick (.nil)) ?_
  refine Flow.end rfl ?_
  simp only [List.map_cons, List.map_nil, List.nil_append, List.cons_append, List.append_nil]
  refine Fin.weak (E' := []) trivial (.cons 2 rfl (.cons 0 rfl .nil)) ?_
  refine Fin.end0 (.inr rfl) rfl ?_
  refine ⟨rfl, .slice A11 l11 c11, ?_⟩
  simp [scL, tks_append, tks]
theorem sdigit_calls {gs i : Nat} {vb vt : Value} {bs : List UInt8} {w : World} (hg : w.heap[gs]? = some (.cells #[vb, .int .i64 i, vt] 176 (0, 0))) (hB : ByV w vb bs) :
    Calls Tryz.prog 133 #[.pointer (some ⟨gs, 0, none⟩)] w (Ret w [] fun r M => M = [] ∧ r = .bool (digAt bs i)) := by
  obtain ⟨A, cap, rfl, hR, h1, h2⟩ := hB
  refine calls_of (args := [_]) (L := []) Tryz.func133 rfl Tryz.ntmps133 rfl (Own.start _ _) ?_
  refine Zs ?_
  refine Za ?_
  refine Zx ?_
  refine DC.seq ?_
  refine DC.flow (cl := [.q, .q, .q, .v, .q, .q, .q, .v, .q, .q, .q, .q, .q, .q, .v, .q, .q, .q, .v, .q, .v, .q, .q, .q, .q, .q, .q, .v, .q, .q, .q, .v, .q, .v, .q, .q, .q]) (A := [0, 1, 3, 7, 0, 16, 48, 112, 240, 511, 1023, 2047, 4095, 8191, 16383, 2047, 34815, 100351, 231423, 524287, 1048575, 2097151, 4194303, 8388607, 16777215, 33554431, 67108863, 134217727, 16777215, 285212671, 822083583, 1895825407, 4294967295, 8589934591, 17179869183, 34359738367, 68719476735]) (order := [0, 1, 2, 3, 4, 5, 6, 7, 8, 9, 10, 11, 12, 13, 14, 15, 16, 17, 18, 19, 20, 21, 22, 23, 24, 25, 26, 27, 28, 29, 30, 31, 32, 33, 34, 35, 36]) [] mixed (by kernel_rfl) (fun w hw => hw.pick .nil) ?_
  refine Ym ?_
  refine Flow.pur rfl rfl rfl (p_nil rfl rfl) ?_
  refine Yf fi176_1 ?_
  refine Flow.valS rfl rfl rfl rfl (v_load rfl rfl ag3 (has_heap hg rfl)) ?_
  refine Ym ?_
  refine Flow.pur rfl rfl rfl (p_nil rfl rfl) ?_
  refine Yf fi176_0 ?_
  refine Flow.valS rfl rfl rfl rfl (v_load rfl rfl ag47 (has_heap hg rfl)) ?_
  refine Flow.pur rfl rfl rfl (p_len rfl rfl Tryz.underlying47) ?_
  refine Flow.pur rfl rfl rfl (p_lss rfl rfl rfl) ?_
  refine Ym ?_
  refine Flow.split 13 rfl (fun k1_10 => ?_) (fun k1_10 => ?_)
  · have hil : i < bs.length := by simpa using k1_10
    obtain ⟨c, hc⟩ : ∃ c, bs[i]? = some c := ⟨_, List.getElem?_eq_getElem hil⟩
    obtain ⟨ad, rfl, hcell⟩ := hR.byte hc
    refine Ym ?_
    refine Flow.pur rfl rfl rfl (p_nil rfl rfl) ?_
    refine Yf fi176_0 ?_
    refine Flow.valS rfl rfl rfl rfl (v_load rfl rfl ag47 (has_heap hg rfl)) ?_
    refine Ym ?_
    refine Flow.pur rfl rfl rfl (p_nil rfl rfl) ?_
    refine Yf fi176_1 ?_
    refine Flow.valS rfl rfl rfl rfl (v_load rfl rfl ag3 (has_heap hg rfl)) ?_
    refine Flow.pur rfl rfl rfl (p_index1 (ad' := ad.add i) rfl rfl rfl Tryz.underlying47 sz5 (by omega) (by omega) (by rw [Int.toNat_natCast])) ?_
    refine Flow.valS rfl rfl rfl rfl (v_load rfl rfl ag5 (has_old' hcell)) ?_
    refine Flow.pur rfl rfl rfl (p_geq rfl rfl rfl) ?_
    refine Flow.pur rfl rfl rfl (p_pick_t rfl rfl rfl) ?_
    refine Ym ?_
    refine Flow.split 26 rfl (fun k1_23 => ?_) (fun k1_23 => ?_)
    · refine Ym ?_
      refine Flow.pur rfl rfl rfl (p_nil rfl rfl) ?_
      refine Yf fi176_0 ?_
      refine Flow.valS rfl rfl rfl rfl (v_load rfl rfl ag47 (has_heap hg rfl)) ?_
      refine Ym ?_
      refine Flow.pur rfl rfl rfl (p_nil rfl rfl) ?_
      refine Yf fi176_1 ?_
      refine Flow.valS rfl rfl rfl rfl (v_load rfl rfl ag3 (has_heap hg rfl)) ?_
      refine Flow.pur rfl rfl rfl (p_index1 (ad' := ad.add i) rfl rfl rfl Tryz.underlying47 sz5 (by omega) (by omega) (by rw [Int.toNat_natCast])) ?_
      refine Flow.valS rfl rfl rfl rfl (v_load rfl rfl ag5 (has_old' hcell)) ?_
      refine Flow.pur rfl rfl rfl (p_leq rfl rfl rfl) ?_
      refine Flow.pur rfl rfl rfl (p_pick_t rfl rfl rfl) ?_
      refine Flow.pur rfl rfl rfl (p_assign rfl rfl) ?_
      refine Flow.end rfl ?_
      simp only [List.map_cons, List.map_nil, List.nil_append, List.cons_append, List.append_nil]
      refine Fin.then ?_
      refine DC.ret ?_
      refine Fin.end1 (.inl rfl) rfl rfl ?_
      refine ⟨rfl, ?_⟩
      first
      | (have h9 : 48 ≤ c.toNat := by (simp at k1_23; omega)
         rw [digAt, hc]; simp [isDig, h9]; omega)
      | (have h9 : ¬ 48 ≤ c.toNat := by (simp at k1_23; omega)
         rw [digAt, hc]; simp [isDig, h9])
      | (rw [digAt, List.getElem?_eq_none hil]; rfl)
    · refine Yk ?_
      refine Yk ?_
      refine Yk ?_
      refine Yk ?_
      refine Yk ?_
      refine Yk ?_
      refine Yk ?_
      refine Yk ?_
      refine Yk ?_
      refine Yk ?_
      refine Yk ?_
      refine Flow.pur rfl rfl rfl (p_pick_f rfl rfl rfl) ?_
      refine Flow.pur rfl rfl rfl (p_assign rfl rfl) ?_
      refine Flow.end rfl ?_
      simp only [List.map_cons, List.map_nil, List.nil_append, List.cons_append, List.append_nil]
      refine Fin.then ?_
      refine DC.ret ?_
      refine Fin.end1 (.inl rfl) rfl rfl ?_
      refine ⟨rfl, ?_⟩
      first
      | (have h9 : 48 ≤ c.toNat := by (simp at k1_23; omega)
         rw [digAt, hc]; simp [isDig, h9]; omega)
      | (have h9 : ¬ 48 ≤ c.toNat := by (simp at k1_23; omega)
         rw [digAt, hc]; simp [isDig, h9])
      | (rw [digAt, List.getElem?_eq_none hil]; rfl)
  · have hil : bs.length ≤ i := by simpa using k1_10
    refine Yk ?_
    refine Yk ?_
    refine Yk ?_
    refine Yk ?_
    refine Yk ?_
    refine Yk ?_
    refine Yk ?_
    refine Yk ?_
    refine Yk ?_
    refine Yk ?_
    refine Yk ?_
    refine Flow.pur rfl rfl rfl (p_pick_f rfl rfl rfl) ?_
    refine Ym ?_
    refine Yk ?_
    refine Yk ?_
    refine Yk ?_
    refine Yk ?_
    refine Yk ?_
    refine Yk ?_
    refine Yk ?_
    refine Yk ?_
    refine Yk ?_
    refine Yk ?_
    refine Yk ?_
    refine Flow.pur rfl rfl rfl (p_pick_f rfl rfl rfl) ?_
    refine Flow.pur rfl rfl rfl (p_assign rfl rfl) ?_
    refine Flow.end rfl ?_
    simp only [List.map_cons, List.map_nil, List.nil_append, List.cons_append, List.append_nil]
    refine Fin.then ?_
    refine DC.ret ?_
    refine Fin.end1 (.inl rfl) rfl rfl ?_
    refine ⟨rfl, ?_⟩
    first
    | (have h9 : 48 ≤ c.toNat := by (simp at k1_23; omega)
       rw [digAt, hc]; simp [isDig, h9]; omega)
    | (have h9 : ¬ 48 ≤ c.toNat := by (simp at k1_23; omega)
       rw [digAt, hc]; simp [isDig, h9])
    | (rw [digAt, List.getElem?_eq_none hil]; rfl)
theorem dig_num {c : UInt8} (h : isDig c = true) : 48 ≤ c.toNat ∧ c.toNat ≤ 57 := by simpa [isDig] using h
theorem decF_bound : ∀ (k : Nat) (l : List UInt8), l.length = k → (∀ c, c ∈ l → isDig c = true) → 0 ≤ decF l ∧ decF l < 10 ^ k := by
  intro k
  induction k with
  | zero => intro l h _; rw [List.eq_nil_of_length_eq_zero h]; simp [decF]
  | succ k ih =>
    intro l h hd
    have hne : l ≠ [] := by rintro rfl; simp at h
    obtain ⟨x, hx⟩ : ∃ x, x = l.getLast hne := ⟨_, rfl⟩
    have e : l = l.dropLast ++ [x] := by rw [hx]; exact (List.dropLast_concat_getLast hne).symm
    have h1 := ih l.dropLast (by simp; omega) (fun c hc => hd c (List.dropLast_subset _ hc))
    have h2 := dig_num (hd x (by rw [hx]; exact List.getLast_mem hne))
    rw [e, decF_snoc]
    have : (10 : Int) ^ (k + 1) = 10 * 10 ^ k := by rw [Int.pow_succ, Int.mul_comm]
    omega
theorem digAt_some {bs : List UInt8} {i : Nat} (h : digAt bs i = true) : ∃ c, bs[i]? = some c ∧ isDig c = true := by
  unfold digAt at h
  cases hc : bs[i]? with
  | none => rw [hc] at h; cases h
  | some c => rw [hc] at h; exact ⟨c, rfl, h⟩
structure RunI where
  j : Nat
  vt : Value
def numAt (bs : List UInt8) (i j : Nat) : Int := decF ((bs.drop i).take (min (j - i) 9))
theorem num_bound {bs : List UInt8} {i j : Nat} (hd : ∀ p, i ≤ p → p < j → digAt bs p = true) (hij : i ≤ j) (hj : j ≤ bs.length) : 0 ≤ numAt bs i j ∧ numAt bs i j < 1000000000 := by
  have hl : ((bs.drop i).take (min (j - i) 9)).length = min (j - i) 9 := by simp; omega
  have := decF_bound _ _ hl (fun c hc => by
    obtain ⟨p, hp, rfl⟩ := List.mem_iff_getElem.1 hc
    rw [hl] at hp
    obtain ⟨c', h1, h2⟩ := digAt_some (hd (i + p) (by omega) (by omega))
    simp only [List.getElem_take, List.getElem_drop]
    rw [List.getElem?_eq_getElem (by omega)] at h1
    cases h1; exact h2)
  have h9 : (10 : Int) ^ (min (j - i) 9) ≤ 10 ^ 9 := by
    have : min (j - i) 9 ≤ 9 := Nat.min_le_right _ _
    exact_mod_cast Nat.pow_le_pow_right (by omega) this
  have : (10 : Int) ^ 9 = 1000000000 := by decide
  unfold numAt
  omega
theorem num_step {bs : List UInt8} {i j : Nat} {c : UInt8} (hij : i ≤ j) (hc : bs[j]? = some c) : numAt bs i (j + 1) = if j - i < 9 then 10 * numAt bs i j + ((c.toNat : Int) - 48) else numAt bs i j := by
  unfold numAt
  have hj := (List.getElem?_eq_some_iff.1 hc).1
  split
  · rename_i h
    rw [show min (j + 1 - i) 9 = (j - i) + 1 by omega, show min (j - i) 9 = j - i by omega, List.take_add_one, ← decF_snoc]
    congr 1; congr 1
    rw [List.getElem?_drop, show i + (j - i) = j by omega, hc]; rfl
  · rename_i h
    rw [show min (j + 1 - i) 9 = 9 by omega, show min (j - i) 9 = 9 by omega]
theorem srun_calls {gs i : Nat} {vb vt : Value} {tk : List Tk} {bs : List UInt8} {w : World} (hO : Own w (idsOf (scL gs vb vt i tk)) w (scL gs vb vt i tk)) (hB : ByV w vb bs) (ho : ByO vb bs (idsOf (scL gs vb vt i tk))) (hl : tk.length ≤ 100000000) (hb : bs.length ≤ 33554432)
    (h0 : digAt bs i = true) :
    Calls Tryz.prog 134 #[.pointer (some ⟨gs, 0, none⟩)] w
      (RetP w (idsOf (scL gs vb vt i tk)) (fun r M => r = .tuple #[] ∧ ∃ vt' j tk', M = scL gs vb vt' j tk' ∧ (i < j ∧ j ≤ bs.length) ∧ tk'.length = tk.length + 1 ∧ scanF i (bs.drop i) tk = scanF j (bs.drop j) tk')
        (fun pv M => ∃ a e, pv = sflt a e ∧ scanF i (bs.drop i) tk = .bad a e)) := by
  obtain ⟨A, cap, hvb, hR, hb1, hb2⟩ := id hB
  have hil : i < bs.length := by obtain ⟨c, hc, _⟩ := digAt_some h0; exact (List.getElem?_eq_some_iff.1 hc).1
  obtain ⟨c0, hc0, hd0⟩ := digAt_some h0
  obtain ⟨ad0, hA, _⟩ := hR.byte hc0
  subst hA
  subst hvb
  refine calls_ofR (args := [_]) Tryz.func134 rfl Tryz.ntmps134 rfl hO ?_
  unfold scL at ho ⊢
  refine Zs ?_
  refine Zm ?_
  refine Seq.pur rfl rfl (p_nil rfl rfl) ?_
  refine Zf fi176_1 ?_
  refine Zl ag3 ?_
  refine Za ?_
  refine Za ?_
  refine Zx ?_
  refine DC.seq ?_
  refine DC.block ?_
  refine DC.loop (ι := Nat) (fun j => i ≤ j ∧ j ≤ bs.length ∧ ∀ p, i ≤ p → p < j → digAt bs p = true)
    (fun j => [(0, .pointer (some ⟨gs, 0, none⟩)), (2, .int .i64 i), (3, .int .i64 (numAt bs i j))]) (fun j => [blk gs 176 #[.slice (some ad0) bs.length cap, .int .i64 (j : Nat), vt], slc vt 138 4 (tks tk)]) (fun j => bs.length - j) i ⟨Nat.le_refl _, by omega, fun p h1 h2 => by omega⟩ ⟨rfl, rfl, by simp [numAt, decF, Env.get_cons], trivial⟩ (.cons 0 rfl (.cons 0 rfl .nil)) ?_
  rintro j ⟨hij, hjl, hdj⟩
  refine DC.seq ?_
  refine Zs ?_
  refine Zm ?_
  refine Seq.rel0 rfl rfl (r_call en133 rfl rfl rfl (fun w hw => sdigit_calls (i := j) (vt := vt) (hw.holds _ (List.mem_cons_self ..)) (hB.keep ho hw))) ?_
  rintro _ rfl
  refine Zx ?_
  refine DC.cond rfl (fun c1 => ?_) (fun c1 => ?_)
  · obtain ⟨c, hcj, hdc⟩ := digAt_some (bs := bs) (i := j) (by simpa using c1)
    have hcn := dig_num hdc
    have hjl' : j < bs.length := (List.getElem?_eq_some_iff.1 hcj).1
    have hnb := num_bound hdj hij hjl
    refine DC.skip ?_
    refine Fin.then ?_
    refine DC.block ?_
    refine DC.seq ?_
    refine Zs ?_
    refine Zm ?_
    refine Seq.pur rfl rfl (p_nil rfl rfl) ?_
    refine Zf fi176_1 ?_
    refine Zl ag3 ?_
    refine Zm ?_
    refine Seq.pur rfl rfl (p_sub rfl rfl rfl (by omega)) ?_
    refine Zc ?_
    refine Zx ?_
    refine DC.cond rfl (fun c2 => ?_) (fun c2 => ?_)
    · refine DC.flow (cl := [.q, .q, .q, .q, .q, .v, .q, .q, .q, .v, .q, .v, .q, .q, .q, .q]) (A := [0, 1, 0, 4, 12, 28, 0, 64, 192, 448, 1020, 2044, 4092, 8188, 16383, 32767]) (order := [0, 1, 2, 3, 4, 5, 6, 7, 8, 9, 10, 11, 12, 13, 14, 15]) [] mixed (by kernel_rfl) (fun w hw => hw.pick .nil) ?_
      refine Ym ?_
      refine Flow.pur rfl rfl rfl (p_mul rfl rfl rfl (by omega)) ?_
      refine Ym ?_
      refine Flow.pur rfl rfl rfl (p_nil rfl rfl) ?_
      refine Yf fi176_0 ?_
      refine Yl ag47 ?_
      refine Ym ?_
      refine Flow.pur rfl rfl rfl (p_nil rfl rfl) ?_
      refine Yf fi176_1 ?_
      refine Yl ag3 ?_
      refine Flow.pur rfl rfl rfl (p_index1 (ad' := ad0.add j) rfl rfl rfl Tryz.underlying47 sz5 (by omega) (by omega) (by rw [Int.toNat_natCast])) ?_
      refine Flow.valS rfl rfl rfl rfl (v_load rfl rfl ag5 (hB.has ho hcj)) ?_
      refine Flow.pur rfl rfl rfl (p_sub8 rfl rfl rfl (by omega)) ?_
      refine Flow.pur rfl rfl rfl (p_conv_int rfl rfl Tryz.underlying5 Tryz.underlying3 (by omega) (by omega)) ?_
      refine Flow.pur rfl rfl rfl (p_add rfl rfl rfl (by omega)) ?_
      refine Flow.pur rfl rfl rfl (p_assign rfl rfl) ?_
      refine Flow.end rfl ?_
      simp only [List.map_cons, List.map_nil, List.nil_append, List.cons_append, List.append_nil]
      refine Fin.then ?_
      refine DC.region ?_
      refine Zm ?_
      refine Seq.pur rfl rfl (p_nil rfl rfl) ?_
      refine Zf fi176_1 ?_
      refine Zl ag3 ?_
      refine Zp ?_
      refine Seq.pur rfl rfl (p_nil rfl rfl) ?_
      refine Zf fi176_1 ?_
      refine Seq.sto rfl rfl (s_store (cs' := #[_, _, _]) rfl rfl rfl sz3 rfl (Nat.le_of_ble_eq_true rfl) rfl) ?_
      refine Seq.nil ?_
      refine Fin.inBlock ?_
      have hst := num_step hij hcj
      refine Fin.again (j + 1) (by omega) ⟨by omega, by omega, fun p h1 h2 => ?_⟩ ⟨rfl, rfl, ?_, trivial⟩ (.cons' 0 rfl (by simp) (.cons 0 rfl .nil))
      · by_cases hp : p = j
        · subst hp; simpa using c1
        · exact hdj p h1 (by omega)
      · rw [hst]
        simp at c2
        first
        | (rw [if_pos (by omega)]; rfl)
        | (rw [if_neg (by omega)]; rfl)
    · refine DC.skip ?_
      refine Fin.then ?_
      refine DC.region ?_
      refine Zm ?_
      refine Seq.pur rfl rfl (p_nil rfl rfl) ?_
      refine Zf fi176_1 ?_
      refine Zl ag3 ?_
      refine Zp ?_
      refine Seq.pur rfl rfl (p_nil rfl rfl) ?_
      refine Zf fi176_1 ?_
      refine Seq.sto rfl rfl (s_store (cs' := #[_, _, _]) rfl rfl rfl sz3 rfl (Nat.le_of_ble_eq_true rfl) rfl) ?_
      refine Seq.nil ?_
      refine Fin.inBlock ?_
      have hst := num_step hij hcj
      refine Fin.again (j + 1) (by omega) ⟨by omega, by omega, fun p h1 h2 => ?_⟩ ⟨rfl, rfl, ?_, trivial⟩ (.cons' 0 rfl (by simp) (.cons 0 rfl .nil))
      · by_cases hp : p = j
        · subst hp; simpa using c1
        · exact hdj p h1 (by omega)
      · rw [hst]
        simp at c2
        first
        | (rw [if_pos (by omega)]; rfl)
        | (rw [if_neg (by omega)]; rfl)
  · refine DC.exit ?_
    refine Fin.exit_then <| Fin.exit_then <| Fin.exit_here <| ?_
    refine Fin.then ?_
    refine DC.seq ?_
    refine DC.seq ?_
    have hkd : digs (bs.drop i) = j - i := by
      rw [digs_run (j - i) i (fun p h1 h2 => digAt_some (hdj p h1 (by omega))), show i + (j - i) = j by omega, digs_end (fun c hc => by simpa [digAt, hc] using c1), Nat.add_zero]
    have hji : i < j := by
      rcases Nat.lt_or_eq_of_le hij with h | h
      · exact h
      · subst h; rw [h0] at c1; simp at c1
    refine DC.region ?_
    refine Zm ?_
    refine Seq.pur rfl rfl (p_nil rfl rfl) ?_
    refine Zf fi176_1 ?_
    refine Zl ag3 ?_
    refine Zm ?_
    refine Seq.pur rfl rfl (p_sub rfl rfl rfl (by omega)) ?_
    refine Za ?_
    refine Zx ?_
    refine Zs ?_
    refine Zm ?_
    refine Seq.pur rfl rfl (p_gtr rfl rfl rfl) ?_
    refine Zm ?_
    refine Seq.split 48 rfl (fun k6_2 => ?_) (fun k6_2 => ?_)
    · refine Zk ?_
      refine Zk ?_
      refine Zk ?_
      refine Zk ?_
      refine Zk ?_
      refine Zk ?_
      refine Zk ?_
      refine Zk ?_
      refine Zk ?_
      refine Zk ?_
      refine Zk ?_
      refine Zk ?_
      refine Zt ?_
      refine Zx ?_
      refine DC.cond_t rfl ?_
      refine DC.region ?_
      refine Zm ?_
      refine Seq.pur rfl rfl (p_struct (cs := #[_, _]) rfl rfl bs172 rfl rfl) ?_
      refine Seq.pur rfl rfl (p_mkif (v := sflt i 12) rfl rfl (fun w => by kernel_rfl)) ?_
      refine Seq.panic rfl rfl rfl ?_
      refine Fin.panic_then <| ?_
      refine Fin.panicP ⟨i, 12, rfl, scanF_numbad hc0 hd0 hkd ?_⟩
      first
      | (simp at k6_2; omega)
      | (simp at k6_5 c6; omega)
    · refine Zm ?_
      refine Seq.pur rfl rfl (p_gtr rfl rfl rfl) ?_
      refine Zm ?_
      refine Seq.split 51 rfl (fun k6_5 => ?_) (fun k6_5 => ?_)
      · refine Zm ?_
        refine Seq.pur rfl rfl (p_nil rfl rfl) ?_
        refine Zf fi176_0 ?_
        refine Zl ag47 ?_
        refine Zm ?_
        refine Seq.pur rfl rfl (p_index1 (ad' := ad0.add i) rfl rfl rfl Tryz.underlying47 sz5 (by omega) (by omega) (by rw [Int.toNat_natCast])) ?_
        refine Seq.val rfl rfl (v_load rfl rfl ag5 (hB.has ho hc0)) ?_
        refine Seq.pur rfl rfl (p_eql rfl rfl rfl) ?_
        refine Zt ?_
        refine Zg ?_
        refine Zx ?_
        refine DC.cond rfl (fun c6 => ?_) (fun c6 => ?_)
        · refine DC.region ?_
          refine Zm ?_
          refine Seq.pur rfl rfl (p_struct (cs := #[_, _]) rfl rfl bs172 rfl rfl) ?_
          refine Seq.pur rfl rfl (p_mkif (v := sflt i 12) rfl rfl (fun w => by kernel_rfl)) ?_
          refine Seq.panic rfl rfl rfl ?_
          refine Fin.panic_then <| ?_
          refine Fin.panicP ⟨i, 12, rfl, scanF_numbad hc0 hd0 hkd ?_⟩
          first
          | (simp at k6_2; omega)
          | (simp at k6_5 c6; omega)
        · refine DC.skip ?_
          refine Fin.then ?_
          refine DC.region ?_
          refine Zm ?_
          refine Zm ?_
          refine Zm ?_
          refine Seq.gen rfl rfl (g_call en135 rfl rfl rfl (Lc := scL gs (.slice (some ad0) bs.length cap) vt j tk) (F := []) (.refl _) (fun k hk => hk) (fun w hw => sput_calls hw.self hl)) ?_
          rintro _ _ ⟨_, ⟨rfl, vt', rfl⟩, rfl⟩
          refine Seq.nil ?_
          refine Fin.retP (.inr rfl) (Fin.end0 (.inr rfl) rfl ?_)
          have hk9 : ¬(9 < j - i ∨ (1 < j - i ∧ c0.toNat = 48)) := by
            first
            | (simp at k6_2 k6_5 c6; omega)
            | (simp at k6_2 k6_5; omega)
          refine ⟨rfl, vt', j, _, List.append_nil _, ⟨hji, hjl⟩, by simp, ?_⟩
          have := scanF_num (acc := tk) hc0 hd0 hkd (by omega) (by omega)
          rw [this, show i + (j - i) = j by omega]
          unfold numAt
          rw [show min (j - i) 9 = j - i by omega]
      · refine Zk ?_
        refine Zk ?_
        refine Zk ?_
        refine Zk ?_
        refine Zk ?_
        refine Zk ?_
        refine Zk ?_
        refine Zk ?_
        refine Zg ?_
        refine Zg ?_
        refine Zx ?_
        refine DC.cond_f rfl ?_
        refine DC.skip ?_
        refine Fin.then ?_
        refine DC.region ?_
        refine Zm ?_
        refine Zm ?_
        refine Zm ?_
        refine Seq.gen rfl rfl (g_call en135 rfl rfl rfl (Lc := scL gs (.slice (some ad0) bs.length cap) vt j tk) (F := []) (.refl _) (fun k hk => hk) (fun w hw => sput_calls hw.self hl)) ?_
        rintro _ _ ⟨_, ⟨rfl, vt', rfl⟩, rfl⟩
        refine Seq.nil ?_
        refine Fin.retP (.inr rfl) (Fin.end0 (.inr rfl) rfl ?_)
        have hk9 : ¬(9 < j - i ∨ (1 < j - i ∧ c0.toNat = 48)) := by
          first
          | (simp at k6_2 k6_5 c6; omega)
          | (simp at k6_2 k6_5; omega)
        refine ⟨rfl, vt', j, _, List.append_nil _, ⟨hji, hjl⟩, by simp, ?_⟩
        have := scanF_num (acc := tk) hc0 hd0 hkd (by omega) (by omega)
        rw [this, show i + (j - i) = j by omega]
        unfold numAt
        rw [show min (j - i) 9 = j - i by omega]
end Go.Fl

set_option linter.unusedVariables false
set_option linter.unusedSimpArgs false
set_option maxRecDepth 100000
namespace Go.Fl
open Go Go.Proofs
structure AllI where
  i : Nat
  vt : Value
  tk : List Tk
theorem sall_calls {gs : Nat} {vb vt : Value} {bs : List UInt8} {w : World} (hO : Own w (idsOf (scL gs vb vt 0 [])) w (scL gs vb vt 0 [])) (hB : ByV w vb bs) (ho : ByO vb bs (idsOf (scL gs vb vt 0 []))) :
    Calls Tryz.prog 106 #[.pointer (some ⟨gs, 0, none⟩)] w
      (RetP w (idsOf (scL gs vb vt 0 [])) (fun r M => r = .tuple #[] ∧ ∃ vt' j tk', M = scL gs vb vt' j tk' ∧ scanA bs = .ok tk' ∧ tk'.length ≤ 33554433)
        (fun pv M => ∃ a e, pv = sflt a e ∧ scanA bs = .bad a e)) := by
  obtain ⟨A, cap, hvb, hR, hb1, hb2⟩ := id hB
  refine calls_ofR (args := [_]) Tryz.func106 rfl Tryz.ntmps106 rfl hO ?_
  subst hvb
  unfold scL at ho ⊢
  refine DC.seq ?_
  refine Zs ?_
  refine Zm ?_
  refine Seq.pur rfl rfl (p_nil rfl rfl) ?_
  refine Zf fi176_0 ?_
  refine Zl ag47 ?_
  refine Zn Tryz.underlying47 ?_
  refine Seq.pur rfl rfl (p_gtr rfl rfl rfl) ?_
  refine Zx ?_
  refine DC.cond rfl (fun c0 => ?_) (fun c0 => ?_)
  · refine DC.region ?_
    refine Seq.pur rfl rfl (p_struct (cs := #[_, _]) rfl rfl bs172 rfl rfl) ?_
    refine Seq.pur rfl rfl (p_mkif (v := sflt 33554432 10) rfl rfl (fun w => by kernel_rfl)) ?_
    refine Seq.panic rfl rfl rfl ?_
    refine Fin.panic_then <| ?_
    refine Fin.panicP ⟨33554432, 10, rfl, ?_⟩
    have : 33554432 < bs.length := by simp at c0; omega
    simp [scanA, this]
  · have hlen : bs.length ≤ 33554432 := by simp at c0; omega
    have hsA : scanA bs = scanF 0 bs [] := by rw [scanA, if_neg (by omega)]
    refine DC.skip ?_
    refine Fin.then ?_
    refine DC.seq ?_
    refine DC.block ?_
    refine DC.loop (ι := AllI) (fun j => j.i ≤ bs.length ∧ j.tk.length ≤ j.i ∧ scanA bs = scanF j.i (bs.drop j.i) j.tk)
      (fun j => [(0, .pointer (some ⟨gs, 0, none⟩))]) (fun j => [blk gs 176 #[.slice A bs.length cap, .int .i64 (j.i : Nat), j.vt], slc j.vt 138 4 (tks j.tk)]) (fun j => bs.length - j.i) ⟨0, vt, []⟩ ⟨by simp, by simp, hsA⟩ ⟨rfl, trivial⟩ (.cons 0 rfl (.cons 0 rfl .nil)) ?_
    rintro ⟨i, vt, tk⟩ ⟨hi, htl, hsc⟩
    dsimp only at hi htl hsc ⊢
    refine DC.seq ?_
    refine DC.seq ?_
    refine DC.flow (cl := [.q, .q, .q, .v, .q, .q, .q, .v, .q, .q]) (A := [0, 1, 3, 7, 0, 16, 48, 112, 240, 511]) (order := [0, 1, 2, 3, 4, 5, 6, 7, 8, 9]) [] mixed (by kernel_rfl) (fun w hw => hw.pick .nil) ?_
    refine Ym ?_
    refine Flow.pur rfl rfl rfl (p_nil rfl rfl) ?_
    refine Yf fi176_1 ?_
    refine Yl ag3 ?_
    refine Ym ?_
    refine Flow.pur rfl rfl rfl (p_nil rfl rfl) ?_
    refine Yf fi176_0 ?_
    refine Yl ag47 ?_
    refine Flow.pur rfl rfl rfl (p_len rfl rfl Tryz.underlying47) ?_
    refine Flow.pur rfl rfl rfl (p_lss rfl rfl rfl) ?_
    refine Flow.end rfl ?_
    simp only [List.map_cons, List.map_nil, List.nil_append, List.cons_append, List.append_nil]
    refine Fin.then ?_
    refine DC.cond rfl (fun c2 => ?_) (fun c2 => ?_)
    · have hil : i < bs.length := by simpa using c2
      obtain ⟨c, hc⟩ : ∃ c, bs[i]? = some c := ⟨_, List.getElem?_eq_getElem hil⟩
      obtain ⟨ad, rfl, hcell⟩ := hR.byte hc
      refine DC.skip ?_
      refine Fin.then ?_
      refine DC.block ?_
      refine DC.seq ?_
      refine DC.flow (cl := [.q, .q, .q, .v, .q, .q, .q, .v, .q, .v, .q]) (A := [0, 1, 3, 7, 0, 16, 48, 112, 255, 511, 1023]) (order := [0, 1, 2, 3, 4, 5, 6, 7, 8, 9, 10]) [] mixed (by kernel_rfl) (fun w hw => hw.pick .nil) ?_
      refine Ym ?_
      refine Flow.pur rfl rfl rfl (p_nil rfl rfl) ?_
      refine Yf fi176_0 ?_
      refine Yl ag47 ?_
      refine Ym ?_
      refine Flow.pur rfl rfl rfl (p_nil rfl rfl) ?_
      refine Yf fi176_1 ?_
      refine Yl ag3 ?_
      refine Flow.pur rfl rfl rfl (p_index1 (ad' := ad.add i) rfl rfl rfl Tryz.underlying47 sz5 (by omega) (by omega) (by rw [Int.toNat_natCast])) ?_
      refine Flow.valS rfl rfl rfl rfl (v_load rfl rfl ag5 (hB.has ho hc)) ?_
      refine Flow.pur rfl rfl rfl (p_assign rfl rfl) ?_
      refine Flow.end rfl ?_
      simp only [List.map_cons, List.map_nil, List.nil_append, List.cons_append, List.append_nil]
      refine Fin.then ?_
      refine DC.block ?_
      refine Zs ?_
      refine Zm ?_
      refine Seq.rel0 rfl rfl (r_call en133 rfl rfl rfl (fun w hw => sdigit_calls (i := i) (vt := vt) (hw.holds _ (List.mem_cons_self ..)) (hB.keep ho hw))) ?_
      rintro _ rfl
      refine Za ?_
      refine Zx ?_
      refine DC.cond rfl (fun c5 => ?_) (fun c5 => ?_)
      · have hd : digAt bs i = true := by simpa using c5
        refine DC.region ?_
        refine Zm ?_
        refine Seq.callP rfl rfl en134 rfl rfl rfl (Lc := scL gs (.slice (some ad) bs.length cap) vt i tk) (F := []) (.refl _) (fun k hk => hk) (fun w hw => srun_calls hw.self (hB.keep ho hw) (ByO.step hB ho hw) (by omega) hlen hd) ?_ ?_
        · rintro pv L' ⟨a, e, rfl, h⟩
          refine Fin.panic_block <| Fin.panic_block <| Fin.panic_then <| Fin.panic_block <| Fin.panic_then <| ?_
          exact Fin.panicP ⟨a, e, rfl, hsc.trans h⟩
        rintro _ _ ⟨rfl, vt', j, tk', rfl, ⟨hj, hj2⟩, htk, hsc'⟩
        refine Seq.nil ?_
        refine Fin.inBlock ?_
        refine Fin.inBlock ?_
        refine Fin.again ⟨j, vt', tk'⟩ (by dsimp only; omega) ⟨by dsimp only; omega, by dsimp only; omega, hsc.trans hsc'⟩ ⟨rfl, trivial⟩ (.cons 0 rfl (.cons 0 rfl .nil))
      · have hd : isDig c = false := by simpa [digAt, hc] using c5
        refine Zs ?_
        refine Zm ?_
        refine Seq.pur rfl rfl (p_eql rfl rfl rfl) ?_
        refine Za ?_
        refine Zx ?_
        refine DC.cond rfl (fun c7 => ?_) (fun c7 => ?_)
        · have hc10 : c.toNat = 10 := by simp at c7; omega
          have hst := scanF_line (acc := tk) hc hd hc10
          refine Zs ?_
          refine Zm ?_
          refine Seq.pur rfl rfl (p_nil rfl rfl) ?_
          refine Zf fi176_1 ?_
          refine Zl ag3 ?_
          refine Zp ?_
          refine Seq.pur rfl rfl (p_nil rfl rfl) ?_
          refine Zf fi176_1 ?_
          refine Seq.sto rfl rfl (s_store (cs' := #[_, _, _]) rfl rfl rfl sz3 rfl (Nat.le_of_ble_eq_true rfl) rfl) ?_
          refine Seq.nil ?_
          rw [show ((i : Int) + 1) = ((i + 1 : Nat) : Int) from rfl]
          refine Fin.then ?_
          refine DC.region ?_
          refine Zm ?_
          refine Zm ?_
          refine Seq.pur rfl rfl (p_nil rfl rfl) ?_
          refine Zf fi176_1 ?_
          refine Zl ag3 ?_
          refine Seq.pur rfl rfl (p_sub rfl rfl rfl (by omega)) ?_
          refine Seq.gen rfl rfl (g_call en135 rfl rfl rfl (Lc := scL gs (.slice (some ad) bs.length cap) vt (i + 1) tk) (F := []) (.refl _) (fun k hk => hk) (fun w hw => sput_calls hw.self (by omega))) ?_
          rintro _ _ ⟨_, ⟨rfl, vt', rfl⟩, rfl⟩
          rw [show ((i + 1 : Nat) : Int) - 1 = (i : Int) by omega]
          refine Seq.nil ?_
          refine Fin.inBlock ?_
          refine Fin.inBlock ?_
          refine Fin.again ⟨i + 1, vt', tk ++ [⟨2, i, (i + 1 : Nat), 0⟩]⟩ (by dsimp only; omega) ⟨by dsimp only; omega, by simp; omega, hsc.trans hst⟩ ⟨rfl, trivial⟩ (.cons 0 rfl (.cons 0 rfl .nil))
        · have hc10 : c.toNat ≠ 10 := by simp at c7; omega
          refine Zs ?_
          refine Zm ?_
          refine Seq.pur rfl rfl (p_eql rfl rfl rfl) ?_
          refine Zm ?_
          refine Seq.split 62 rfl (fun k10_2 => ?_) (fun k10_2 => ?_)
          · refine Zk ?_
            refine Zk ?_
            refine Zt ?_
            refine Zm ?_
            refine Zk ?_
            refine Zk ?_
            refine Zt ?_
            refine Za ?_
            refine Zx ?_
            refine DC.cond_t rfl ?_
            refine DC.region ?_
            refine Zm ?_
            refine Seq.pur rfl rfl (p_nil rfl rfl) ?_
            refine Zf fi176_1 ?_
            refine Zl ag3 ?_
            refine Zp ?_
            refine Seq.pur rfl rfl (p_nil rfl rfl) ?_
            refine Zf fi176_1 ?_
            refine Seq.sto rfl rfl (s_store (cs' := #[_, _, _]) rfl rfl rfl sz3 rfl (Nat.le_of_ble_eq_true rfl) rfl) ?_
            refine Seq.nil ?_
            rw [show ((i : Int) + 1) = ((i + 1 : Nat) : Int) from rfl]
            refine Fin.inBlock ?_
            refine Fin.inBlock ?_
            refine Fin.again ⟨i + 1, vt, tk⟩ (by dsimp only; omega) ⟨by dsimp only; omega, by dsimp only; omega, hsc.trans (scanF_gap hc hd hc10 ?_)⟩ ⟨rfl, trivial⟩ (.cons 0 rfl (.cons 0 rfl .nil))
            first
            | (simp at k10_2; omega)
            | (simp at k10_6; omega)
            | (simp at c10; omega)
          · refine Zm ?_
            refine Seq.pur rfl rfl (p_eql rfl rfl rfl) ?_
            refine Zg ?_
            refine Zm ?_
            refine Seq.split 66 rfl (fun k10_6 => ?_) (fun k10_6 => ?_)
            · refine Zk ?_
              refine Zk ?_
              refine Zt ?_
              refine Za ?_
              refine Zx ?_
              refine DC.cond_t rfl ?_
              refine DC.region ?_
              refine Zm ?_
              refine Seq.pur rfl rfl (p_nil rfl rfl) ?_
              refine Zf fi176_1 ?_
              refine Zl ag3 ?_
              refine Zp ?_
              refine Seq.pur rfl rfl (p_nil rfl rfl) ?_
              refine Zf fi176_1 ?_
              refine Seq.sto rfl rfl (s_store (cs' := #[_, _, _]) rfl rfl rfl sz3 rfl (Nat.le_of_ble_eq_true rfl) rfl) ?_
              refine Seq.nil ?_
              rw [show ((i : Int) + 1) = ((i + 1 : Nat) : Int) from rfl]
              refine Fin.inBlock ?_
              refine Fin.inBlock ?_
              refine Fin.again ⟨i + 1, vt, tk⟩ (by dsimp only; omega) ⟨by dsimp only; omega, by dsimp only; omega, hsc.trans (scanF_gap hc hd hc10 ?_)⟩ ⟨rfl, trivial⟩ (.cons 0 rfl (.cons 0 rfl .nil))
              first
              | (simp at k10_2; omega)
              | (simp at k10_6; omega)
              | (simp at c10; omega)
            · refine Zm ?_
              refine Seq.pur rfl rfl (p_eql rfl rfl rfl) ?_
              refine Zg ?_
              refine Za ?_
              refine Zx ?_
              refine DC.cond rfl (fun c10 => ?_) (fun c10 => ?_)
              · refine DC.region ?_
                refine Zm ?_
                refine Seq.pur rfl rfl (p_nil rfl rfl) ?_
                refine Zf fi176_1 ?_
                refine Zl ag3 ?_
                refine Zp ?_
                refine Seq.pur rfl rfl (p_nil rfl rfl) ?_
                refine Zf fi176_1 ?_
                refine Seq.sto rfl rfl (s_store (cs' := #[_, _, _]) rfl rfl rfl sz3 rfl (Nat.le_of_ble_eq_true rfl) rfl) ?_
                refine Seq.nil ?_
                rw [show ((i : Int) + 1) = ((i + 1 : Nat) : Int) from rfl]
                refine Fin.inBlock ?_
                refine Fin.inBlock ?_
                refine Fin.again ⟨i + 1, vt, tk⟩ (by dsimp only; omega) ⟨by dsimp only; omega, by dsimp only; omega, hsc.trans (scanF_gap hc hd hc10 ?_)⟩ ⟨rfl, trivial⟩ (.cons 0 rfl (.cons 0 rfl .nil))
                first
                | (simp at k10_2; omega)
                | (simp at k10_6; omega)
                | (simp at c10; omega)
              · refine DC.region ?_
                refine Zm ?_
                refine Seq.pur rfl rfl (p_nil rfl rfl) ?_
                refine Zf fi176_1 ?_
                refine Zl ag3 ?_
                refine Seq.pur rfl rfl (p_struct (cs := #[_, _]) rfl rfl bs172 rfl rfl) ?_
                refine Seq.pur rfl rfl (p_mkif (v := sflt i 11) rfl rfl (fun w => by kernel_rfl)) ?_
                refine Seq.panic rfl rfl rfl ?_
                refine Fin.panic_block <| Fin.panic_block <| Fin.panic_then <| Fin.panic_block <| Fin.panic_then <| ?_
                exact Fin.panicP ⟨i, 11, rfl, hsc.trans (scanF_bad hc hd hc10 (by simp at k10_2 k10_6 c10; omega))⟩
    · refine DC.exit ?_
      refine Fin.exit_then <| Fin.exit_then <| Fin.exit_here <| ?_
      refine Fin.then ?_
      refine DC.region ?_
      refine Zm ?_
      refine Zm ?_
      refine Seq.pur rfl rfl (p_nil rfl rfl) ?_
      refine Zf fi176_1 ?_
      refine Zl ag3 ?_
      refine Seq.gen rfl rfl (g_call en135 rfl rfl rfl (Lc := scL gs (.slice A bs.length cap) vt i tk) (F := []) (.refl _) (fun k hk => hk) (fun w hw => sput_calls hw.self (by omega))) ?_
      rintro _ _ ⟨_, ⟨rfl, vt', rfl⟩, rfl⟩
      refine Seq.nil ?_
      refine Fin.retP (.inr rfl) (Fin.end0 (.inr rfl) rfl ?_)
      have hil : i = bs.length := by simp at c2; omega
      refine ⟨rfl, vt', i, _, List.append_nil _, ?_, by simp; omega⟩
      rw [hsc, scanF_end (by omega) (by omega)]
end Go.Fl

set_option linter.unusedVariables false
set_option linter.unusedSimpArgs false
set_option maxRecDepth 100000
namespace Go.Fl
open Go Go.Proofs
theorem scatchP_calls {v e : Int} {x y z : Value} {ga gb gc : Nat} {w : World} (hO : Own w [ga, gb, gc] w [blk ga 131 #[x], blk gb 3 #[y], blk gc 29 #[z]]) :
    CallsD Tryz.prog 105 #[.pointer (some ⟨ga, 0, none⟩), .pointer (some ⟨gb, 0, none⟩), .pointer (some ⟨gc, 0, none⟩)] (.panicking (onePanic (sflt v e))) w
      fun e' u' w' => u' = .panicking [{ v := sflt v e, recovered := true }] ∧ Ret w [ga, gb, gc] (fun r M => M = [blk ga 131 #[.slice none 0 0], blk gb 3 #[.int .i64 v], blk gc 29 #[.int .i64 e]]) e' w' := by
  refine callsD_rec (args := [_, _, _]) Tryz.func105 rfl Tryz.ntmps105 rfl rfl rfl rfl rfl rfl rfl rfl (.some _ []) hO ?_
  refine Zs ?_
  refine Zm ?_
  refine Seq.pur rfl rfl (p_ifnil (b := true) rfl rfl rfl (fun w => by kernel_rfl)) ?_
  refine Zx ?_
  refine DC.cond_t rfl ?_
  refine Zs ?_
  refine Zm ?_
  refine Seq.pur rfl rfl (p_assert (v := .tuple #[.agg #[.int .i64 v, .int .i64 e], .bool true]) rfl rfl (fun w => by kernel_rfl)) ?_
  refine Zm ?_
  refine Ze ?_
  refine Ze ?_
  refine Seq.new rfl rfl (n_alloc rfl ze172 rfl) fun g4 => ?_
  refine Seq.sto rfl rfl (s_stores (cs' := #[_, _]) rfl rfl rfl sz172 rfl (Nat.le_of_ble_eq_true rfl) rfl) ?_
  refine Za ?_
  refine Zx ?_
  refine DC.seq ?_
  refine Zs ?_
  refine Zm ?_
  refine Seq.pur rfl rfl (p_not rfl rfl) ?_
  refine Zx ?_
  refine DC.cond_f rfl ?_
  refine DC.skip ?_
  refine Fin.then ?_
  refine DC.flow (cl := [.q, .q, .q, .q, .g, .g, .g]) (A := [0, 1, 0, 4, 0, 19, 63]) (order := [0, 1, 2, 3, 4, 5, 6]) ([blk g4 172 #[.int .i64 v, .int .i64 e]]) mixed (by kernel_rfl) (fun w hw => hw.pick (.cons 0 rfl .nil)) ?_
  refine Yf fi172_0 ?_
  refine Flow.old rfl rfl rfl (v_load rfl rfl ag3 (has_blk rfl)) ?_
  refine Yf fi172_1 ?_
  refine Flow.old rfl rfl rfl (v_load rfl rfl ag29 (has_blk rfl)) ?_
  refine Flow.sto0 rfl rfl rfl rfl (s_store (cs' := #[_]) rfl rfl rfl sz131 rfl (Nat.le_of_ble_eq_true rfl) rfl) (fun w hw => hw.pick (.cons 0 rfl .nil)) ?_
  refine Flow.sto0 rfl rfl rfl rfl (s_store (cs' := #[_]) rfl rfl rfl sz3 rfl (Nat.le_of_ble_eq_true rfl) rfl) (fun w hw => hw.pick (.cons 0 rfl .nil)) ?_
  refine Flow.sto0 rfl rfl rfl rfl (s_store (cs' := #[_]) rfl rfl rfl sz29 rfl (Nat.le_of_ble_eq_true rfl) rfl) (fun w hw => hw.pick (.cons 0 rfl .nil)) ?_
  refine Flow.end rfl ?_
  simp only [List.map_cons, List.map_nil, List.nil_append, List.cons_append, List.append_nil]
  refine Fin.weak (E' := []) trivial (.cons 1 rfl (.cons 1 rfl (.cons 1 rfl .nil))) ?_
  refine Fin.end0 (.inr rfl) rfl ?_
  rfl
theorem scatchN_calls {x y z : Value} {ga gb gc : Nat} {w : World} (hO : Own w [ga, gb, gc] w [blk ga 131 #[x], blk gb 3 #[y], blk gc 29 #[z]]) :
    CallsD Tryz.prog 105 #[.pointer (some ⟨ga, 0, none⟩), .pointer (some ⟨gb, 0, none⟩), .pointer (some ⟨gc, 0, none⟩)] .returning w
      fun e' u' w' => u' = .returning ∧ Ret w [ga, gb, gc] (fun r M => M = [blk ga 131 #[x], blk gb 3 #[y], blk gc 29 #[z]]) e' w' := by
  refine callsD_rec (args := [_, _, _]) Tryz.func105 rfl Tryz.ntmps105 rfl rfl rfl rfl rfl rfl rfl rfl .none hO ?_
  refine Zs ?_
  refine Zm ?_
  refine Seq.pur rfl rfl (p_nilnil (b := false) rfl rfl (fun w => by kernel_rfl)) ?_
  refine Zx ?_
  refine DC.cond_f rfl ?_
  refine DC.skip ?_
  refine Fin.end0 (.inr rfl) rfl ?_
  rfl
theorem own3 {w0 w : World} {K : List Nat} {ga gb gc t t' t'' : Nat} {x y z : Array Value} {F : List Chunk} (h : Own w0 K w (blk ga t x :: blk gb t' y :: blk gc t'' z :: F)) : Own w [ga, gb, gc] w [blk ga t x, blk gb t' y, blk gc t'' z] :=
  (h.sub (L' := [blk ga t x, blk gb t' y, blk gc t'' z]) (by simp)).self
/-- What nums.Scan answers. -/
def ScanR (bs : List UInt8) (r : Value) (M : List Chunk) : Prop :=
  (∃ tk vt, scanA bs = .ok tk ∧ tk.length ≤ 33554433 ∧ r = .tuple #[vt, .int .i64 0, .int .i64 0] ∧ M = [slc vt 138 4 (tks tk)]) ∨
  (∃ a e, scanA bs = .bad a e ∧ r = .tuple #[.slice none 0 0, .int .i64 a, .int .i64 e] ∧ M = [])
theorem Scan_calls {vb : Value} {bs : List UInt8} {w : World} (hB : ByV w vb bs) :
    Calls Tryz.prog 72 #[vb] w (Ret w [] (ScanR bs)) := by
  have ho : ByO vb bs [] := fun _ _ _ _ _ h => by simp at h
  obtain ⟨A, cb, hvb⟩ := hB.len
  subst hvb
  refine calls_ofD (K := []) (args := [_]) (L := []) Tryz.func72 rfl Tryz.ntmps72 rfl (Own.start _ _) ?_
  refine Zs ?_
  refine Seq.new rfl rfl (n_alloc rfl ze131 rfl) fun g2 => ?_
  refine Seq.new rfl rfl (n_alloc rfl ze3 rfl) fun g3 => ?_
  refine Seq.new rfl rfl (n_alloc rfl ze29 rfl) fun g4 => ?_
  refine Zx ?_
  refine Zs ?_
  refine Seq.pur rfl rfl (p_func rfl rfl rfl) ?_
  refine Seq.defer rfl rfl rfl rfl ?_
  refine Zx ?_
  refine Zs ?_
  refine Zm ?_
  refine Seq.pur rfl rfl (p_struct (cs := #[_, _, _]) rfl rfl bs176 rfl rfl) ?_
  refine Seq.new rfl rfl (n_box rfl rfl rfl) fun g9 => ?_
  refine Za ?_
  refine Zx ?_
  refine DC.seq ?_
  refine DC.own (fun w hw => own_nil (t := 138) (m := 4) hw) ?_
  refine DC.region ?_
  refine Zm ?_
  refine Seq.callP rfl rfl en106 rfl rfl rfl (Lc := scL g9 (.slice A bs.length cb) (.slice none 0 0) 0 []) (F := [blk g4 29 #[.int .i64 0], blk g3 3 #[.int .i64 0], blk g2 131 #[.slice none 0 0]]) (.swap _ _ _) (fun k hk => hk) (fun w hw => sall_calls (hw.pick (L' := scL g9 (.slice A bs.length cb) (.slice none 0 0) 0 []) (.cons 1 rfl (.cons 0 rfl .nil))).self (hB.keep ho hw) (ByO.step hB ho (hw.pick (L' := scL g9 (.slice A bs.length cb) (.slice none 0 0) 0 []) (.cons 1 rfl (.cons 0 rfl .nil))))) ?_ ?_
  · rintro pv M ⟨a, e, rfl, hsc⟩
    refine Fin.panic_then <| ?_
    refine Fin.panicD ?_
    refine Fin.leaves (f := 105) (cap := [.pointer (some ⟨g2, 0, none⟩), .pointer (some ⟨g3, 0, none⟩), .pointer (some ⟨g4, 0, none⟩)]) (Lc := [blk g2 131 #[.slice none 0 0], blk g3 3 #[.int .i64 0], blk g4 29 #[.int .i64 0]]) (F := M) en105 (by simp) rfl
      ((List.perm_append_comm (l₁ := M)).trans (List.Perm.append_right M (List.reverse_perm [blk g2 131 #[.slice none 0 0], blk g3 3 #[.int .i64 0], blk g4 29 #[.int .i64 0]]))) (fun k hk => by simpa [blk] using hk) (fun w' hw => scatchP_calls (own3 (hw.perm ((List.perm_append_comm (l₁ := M)).trans (List.Perm.append_right M (List.reverse_perm [blk g2 131 #[.slice none 0 0], blk g3 3 #[.int .i64 0], blk g4 29 #[.int .i64 0]]))).symm))) ?_
    rintro r L' rfl a' w' ha hw
    have e2 : a'.tmps.getD 2 undef = .pointer (some ⟨g2, 0, none⟩) := by have := ha.ev (x := .tmp 2) (v := .pointer (some ⟨g2, 0, none⟩)) rfl; simpa only [Act.eval] using this
    have e3 : a'.tmps.getD 3 undef = .pointer (some ⟨g3, 0, none⟩) := by have := ha.ev (x := .tmp 3) (v := .pointer (some ⟨g3, 0, none⟩)) rfl; simpa only [Act.eval] using this
    have e4 : a'.tmps.getD 4 undef = .pointer (some ⟨g4, 0, none⟩) := by have := ha.ev (x := .tmp 4) (v := .pointer (some ⟨g4, 0, none⟩)) rfl; simpa only [Act.eval] using this
    exact ⟨_, res_cell3 rfl e2 e3 e4 (run_cell1 (hw.holds (blk g2 131 #[.slice none 0 0]) (by simp)) ag131 rfl) (run_cell1 (hw.holds (blk g3 3 #[.int .i64 a]) (by simp)) ag3 rfl) (run_cell1 (hw.holds (blk g4 29 #[.int .i64 e]) (by simp)) ag29 rfl),
      _, [], rfl, .inr ⟨a, e, hsc, rfl, rfl⟩, hw.sub (by simp)⟩
  rintro _ _ ⟨rfl, vt', j, tk', rfl, hsc, htl⟩
  unfold scL
  simp only [List.cons_append, List.nil_append]
  refine Zx ?_
  refine DC.seq ?_
  refine DC.shape 1 rfl ?_
  rintro ⟨A5, l5, c5, rfl⟩
  refine DC.region ?_
  refine Zm ?_
  refine Seq.pur rfl rfl (p_nil rfl rfl) ?_
  refine Zf fi176_2 ?_
  refine Zl ag131 ?_
  refine Seq.sto rfl rfl (s_store (cs' := #[_]) rfl rfl rfl sz131 rfl (Nat.le_of_ble_eq_true rfl) rfl) ?_
  refine Seq.sto rfl rfl (s_store (cs' := #[_]) rfl rfl rfl sz3 rfl (Nat.le_of_ble_eq_true rfl) rfl) ?_
  refine Seq.sto rfl rfl (s_store (cs' := #[_]) rfl rfl rfl sz29 rfl (Nat.le_of_ble_eq_true rfl) rfl) ?_
  refine Zx ?_
  refine DC.ret ?_
  refine Fin.retD ?_
  refine Fin.leaves (f := 105) (cap := [.pointer (some ⟨g2, 0, none⟩), .pointer (some ⟨g3, 0, none⟩), .pointer (some ⟨g4, 0, none⟩)]) (Lc := [blk g2 131 #[.slice A5 l5 c5], blk g3 3 #[.int .i64 0], blk g4 29 #[.int .i64 0]]) (F := [slc (.slice A5 l5 c5) 138 4 (tks tk'), blk g9 176 #[.slice A bs.length cb, .int .i64 j, (.slice A5 l5 c5)]]) en105 (by simp) rfl
    (List.reverse_perm [blk g2 131 #[.slice A5 l5 c5], blk g3 3 #[.int .i64 0], blk g4 29 #[.int .i64 0], slc (.slice A5 l5 c5) 138 4 (tks tk'), blk g9 176 #[.slice A bs.length cb, .int .i64 j, (.slice A5 l5 c5)]]) (fun k hk => by simpa [blk] using hk) (fun w' hw => scatchN_calls (own3 (hw.perm (List.reverse_perm [blk g2 131 #[.slice A5 l5 c5], blk g3 3 #[.int .i64 0], blk g4 29 #[.int .i64 0], slc (.slice A5 l5 c5) 138 4 (tks tk'), blk g9 176 #[.slice A bs.length cb, .int .i64 j, .slice A5 l5 c5]]).symm))) ?_
  rintro r L' rfl a' w' ha hw
  have e2 : a'.tmps.getD 2 undef = .pointer (some ⟨g2, 0, none⟩) := by have := ha.ev (x := .tmp 2) (v := .pointer (some ⟨g2, 0, none⟩)) rfl; simpa only [Act.eval] using this
  have e3 : a'.tmps.getD 3 undef = .pointer (some ⟨g3, 0, none⟩) := by have := ha.ev (x := .tmp 3) (v := .pointer (some ⟨g3, 0, none⟩)) rfl; simpa only [Act.eval] using this
  have e4 : a'.tmps.getD 4 undef = .pointer (some ⟨g4, 0, none⟩) := by have := ha.ev (x := .tmp 4) (v := .pointer (some ⟨g4, 0, none⟩)) rfl; simpa only [Act.eval] using this
  exact ⟨_, res_cell3 rfl e2 e3 e4 (run_cell1 (hw.holds (blk g2 131 #[.slice A5 l5 c5]) (by simp)) ag131 rfl) (run_cell1 (hw.holds (blk g3 3 #[.int .i64 0]) (by simp)) ag3 rfl) (run_cell1 (hw.holds (blk g4 29 #[.int .i64 0]) (by simp)) ag29 rfl),
    _, [slc (.slice A5 l5 c5) 138 4 (tks tk')], rfl, .inl ⟨tk', (.slice A5 l5 c5), hsc, htl, rfl, rfl⟩, hw.sub (by simp)⟩
end Go.Fl

set_option linter.unusedVariables false
set_option linter.unusedSimpArgs false
set_option maxRecDepth 100000
namespace Go.Fl
open Go Go.Proofs
def liL (gr : Nat) (vp : Value) (s : RdS) (vl : Value) (tk : List Tk) : List Chunk :=
  [blk gr 135 #[.int .i64 s.n, vp, .bool s.hd, .int .i64 s.m], slc vp 35 2 (prs s.ps), slc vl 138 4 (tks tk)]
def LineR (gr : Nat) (s : RdS) (vl : Value) (tk : List Tk) (r : Value) (M : List Chunk) : Prop :=
  (∃ s' vp', lineF s tk = .ok s' ∧ r = .agg #[.int .i64 0, .int .i64 0] ∧ M = liL gr vp' s' vl tk) ∨ (∃ c a, lineF s tk = .bad c a ∧ c ≠ 0 ∧ r = .agg #[.int .i64 c, .int .i64 a])
theorem rline_calls {gr : Nat} {vp vl : Value} {s : RdS} {tk : List Tk} {w : World} (hO : Own w (idsOf (liL gr vp s vl tk)) w (liL gr vp s vl tk)) (h0 : tk ≠ []) (hl : tk.length ≤ 100000000) (hp : s.ps.length ≤ 100000000) :
    Calls Tryz.prog 73 #[.pointer (some ⟨gr, 0, none⟩), vl] w (Ret w (idsOf (liL gr vp s vl tk)) (LineR gr s vl tk)) := by
  obtain ⟨A, cl, rfl, hR, hl1, hl2⟩ := tkv_own hO 2 rfl
  obtain ⟨t, tr, rfl⟩ : ∃ t tr, tk = t :: tr := by cases tk with | nil => exact absurd rfl h0 | cons a b => exact ⟨a, b, rfl⟩
  obtain ⟨ad, rfl, _⟩ := hR.tk (i := 0) rfl
  obtain ⟨Ap, cp, rfl, _⟩ := prv_own hO 1 rfl (by omega)
  refine calls_of (args := [_, _]) Tryz.func73 rfl Tryz.ntmps73 rfl hO ?_
  unfold liL
  refine Zs ?_
  refine Seq.new rfl rfl (n_alloc rfl ze51 rfl) fun g4 => ?_
  refine Zx ?_
  refine DC.seq ?_
  refine Zs ?_
  refine Zm ?_
  refine Seq.pur rfl rfl (p_nil rfl rfl) ?_
  refine Zf fi135_1 ?_
  refine Zl ag4 ?_
  refine Seq.pur rfl rfl (p_not rfl rfl) ?_
  refine Zx ?_
  refine DC.cond rfl (fun c1 => ?_) (fun c1 => ?_)
  · have hh : s.hd = false := by simpa using c1
    refine DC.seq ?_
    refine DC.block ?_
    refine Zs ?_
    refine Zm ?_
    refine Zn Tryz.underlying131 ?_
    refine Seq.pur rfl rfl (p_neq rfl rfl rfl) ?_
    refine Za ?_
    refine Zx ?_
    refine DC.cond rfl (fun c2 => ?_) (fun c2 => ?_)
    · have hr : tr.length ≠ 1 := by simp at c2; omega
      refine Zs ?_
      refine Zm ?_
      refine Seq.pur rfl rfl (p_index (ad' := ad.add (0 * 4)) rfl rfl rfl Tryz.underlying131 sz138 (by omega) (by simp) rfl) ?_
      refine Zf fi138_1 ?_
      refine Seq.val rfl rfl (v_load rfl rfl ag3 (has_tk (i := 3) (j := 0) rfl rfl 1 rfl)) ?_
      refine Seq.pur rfl rfl (p_struct (cs := #[_, _]) rfl rfl bs51 rfl rfl) ?_
      refine Seq.sto rfl rfl (s_stores (cs' := #[_, _]) rfl rfl rfl sz51 rfl (Nat.le_of_ble_eq_true rfl) rfl) ?_
      refine Zx ?_
      refine DC.ret ?_
      refine Fin.ret_block <| Fin.ret_then <| Fin.ret_then <| ?_
      refine Fin.endc (cs := #[_, _]) (.inl rfl) rfl rfl ag51 sz51 ?_
      refine ⟨_, fun w hw => hw, .inr ⟨20, t.fr, ?_, by decide, rfl⟩⟩
      unfold lineF; simp only [hh, if_true]
      split
      · simp at hr
      · rfl
    · have hr : tr.length = 1 := by simp at c2; omega
      obtain ⟨u, rfl⟩ := List.length_eq_one_iff.1 hr
      refine Zs ?_
      refine Zm ?_
      refine Seq.pur rfl rfl (p_index (ad' := ad.add (0 * 4)) rfl rfl rfl Tryz.underlying131 sz138 (by omega) (by simp) rfl) ?_
      refine Zf fi138_3 ?_
      refine Seq.val rfl rfl (v_load rfl rfl ag3 (has_tk (i := 3) (j := 0) rfl rfl 3 rfl)) ?_
      refine Seq.pur rfl rfl (p_gtr rfl rfl rfl) ?_
      refine Za ?_
      refine Zx ?_
      refine DC.cond rfl (fun c4 => ?_) (fun c4 => ?_)
      · refine Zs ?_
        refine Zm ?_
        refine Seq.pur rfl rfl (p_index (ad' := ad.add (0 * 4)) rfl rfl rfl Tryz.underlying131 sz138 (by omega) (by simp) rfl) ?_
        refine Zf fi138_1 ?_
        refine Seq.val rfl rfl (v_load rfl rfl ag3 (has_tk (i := 3) (j := 0) rfl rfl 1 rfl)) ?_
        refine Seq.pur rfl rfl (p_struct (cs := #[_, _]) rfl rfl bs51 rfl rfl) ?_
        refine Seq.sto rfl rfl (s_stores (cs' := #[_, _]) rfl rfl rfl sz51 rfl (Nat.le_of_ble_eq_true rfl) rfl) ?_
        refine Zx ?_
        refine DC.ret ?_
        refine Fin.ret_block <| Fin.ret_then <| Fin.ret_then <| ?_
        refine Fin.endc (cs := #[_, _]) (.inl rfl) rfl rfl ag51 sz51 ?_
        refine ⟨_, fun w hw => hw, .inr ⟨21, t.fr, ?_, by decide, rfl⟩⟩
        simp at c4
        simp [lineF, hh, c4]
      · refine Zs ?_
        refine Zm ?_
        refine Seq.pur rfl rfl (p_index (ad' := ad.add (1 * 4)) rfl rfl rfl Tryz.underlying131 sz138 (by omega) (by simp) rfl) ?_
        refine Zf fi138_3 ?_
        refine Seq.val rfl rfl (v_load rfl rfl ag3 (has_tk (i := 3) (j := 1) rfl rfl 3 rfl)) ?_
        refine Seq.pur rfl rfl (p_gtr rfl rfl rfl) ?_
        refine Za ?_
        refine Zx ?_
        refine DC.cond rfl (fun c6 => ?_) (fun c6 => ?_)
        · refine Zs ?_
          refine Zm ?_
          refine Seq.pur rfl rfl (p_index (ad' := ad.add (1 * 4)) rfl rfl rfl Tryz.underlying131 sz138 (by omega) (by simp) rfl) ?_
          refine Zf fi138_1 ?_
          refine Seq.val rfl rfl (v_load rfl rfl ag3 (has_tk (i := 3) (j := 1) rfl rfl 1 rfl)) ?_
          refine Seq.pur rfl rfl (p_struct (cs := #[_, _]) rfl rfl bs51 rfl rfl) ?_
          refine Seq.sto rfl rfl (s_stores (cs' := #[_, _]) rfl rfl rfl sz51 rfl (Nat.le_of_ble_eq_true rfl) rfl) ?_
          refine Zx ?_
          refine DC.ret ?_
          refine Fin.ret_block <| Fin.ret_then <| Fin.ret_then <| ?_
          refine Fin.endc (cs := #[_, _]) (.inl rfl) rfl rfl ag51 sz51 ?_
          refine ⟨_, fun w hw => hw, .inr ⟨22, u.fr, ?_, by decide, rfl⟩⟩
          simp at c4 c6
          simp [lineF, hh, c6]
          try omega
        · refine DC.skip ?_
          refine Fin.inBlock ?_
          refine Fin.then ?_
          refine DC.seq ?_
          refine DC.flow (cl := [.q, .q, .q, .q, .q, .q, .q, .q, .q, .q, .q, .q, .q, .g, .q, .q, .q, .g, .q, .q, .g]) (A := [0, 0, 0, 0, 8, 24, 56, 0, 128, 384, 896, 2041, 4089, 8185, 16379, 32763, 65531, 131067, 262143, 524287, 1048575]) (order := [0, 1, 2, 3, 4, 5, 6, 7, 8, 9, 10, 11, 12, 13, 14, 15, 16, 17, 18, 19, 20]) ([slc (.slice (some ad) _ cl) 138 4 (tks [t, u])]) mixed (by kernel_rfl) (fun w hw => hw.pick (.cons 3 rfl .nil)) ?_
          refine Ym ?_
          refine Ym ?_
          refine Ym ?_
          refine Ym ?_
          refine Flow.pur rfl rfl rfl (p_index (ad' := ad.add (0 * 4)) rfl rfl rfl Tryz.underlying131 sz138 (by omega) (by simp) rfl) ?_
          refine Yf fi138_3 ?_
          refine Flow.old rfl rfl rfl (v_load rfl rfl ag3 (has_tk (i := 0) (j := 0) rfl rfl 3 rfl)) ?_
          refine Ym ?_
          refine Flow.pur rfl rfl rfl (p_index (ad' := ad.add (1 * 4)) rfl rfl rfl Tryz.underlying131 sz138 (by omega) (by simp) rfl) ?_
          refine Yf fi138_3 ?_
          refine Flow.old rfl rfl rfl (v_load rfl rfl ag3 (has_tk (i := 0) (j := 1) rfl rfl 3 rfl)) ?_
          refine Flow.pur rfl rfl rfl (p_nil rfl rfl) ?_
          refine Yf fi135_1 ?_
          refine Flow.sto0 rfl rfl rfl rfl (s_store (cs' := #[_, _, _, _]) rfl rfl rfl sz4 rfl (Nat.le_of_ble_eq_true rfl) rfl) (fun w hw => hw.pick (.cons 3 rfl .nil)) ?_
          refine Flow.pur rfl rfl rfl (p_nil rfl rfl) ?_
          refine Yf fi135_0 ?_
          refine Yf fi84_0 ?_
          refine Flow.sto0 rfl rfl rfl rfl (s_store (cs' := #[_, _, _, _]) rfl rfl rfl sz3 rfl (Nat.le_of_ble_eq_true rfl) rfl) (fun w hw => hw.pick (.cons 3 rfl .nil)) ?_
          refine Flow.pur rfl rfl rfl (p_nil rfl rfl) ?_
          refine Yf fi135_2 ?_
          refine Flow.sto0 rfl rfl rfl rfl (s_store (cs' := #[_, _, _, _]) rfl rfl rfl sz3 rfl (Nat.le_of_ble_eq_true rfl) rfl) (fun w hw => hw.pick (.cons 3 rfl .nil)) ?_
          refine Flow.end rfl ?_
          simp only [List.map_cons, List.map_nil, List.nil_append, List.cons_append, List.append_nil]
          refine Fin.then ?_
          refine Zs ?_
          refine Seq.pur rfl rfl (p_struct (cs := #[_, _]) rfl rfl bs51 rfl rfl) ?_
          refine Seq.sto rfl rfl (s_stores (cs' := #[_, _]) rfl rfl rfl sz51 rfl (Nat.le_of_ble_eq_true rfl) rfl) ?_
          refine Zx ?_
          refine DC.ret ?_
          refine Fin.ret_then <| ?_
          refine Fin.endc (cs := #[_, _]) (.inl rfl) rfl rfl ag51 sz51 ?_
          refine ⟨_, fun w hw => hw.pick (.cons 1 rfl (.cons 1 rfl (.cons 1 rfl .nil))), .inl ⟨⟨t.nu, s.ps, true, u.nu⟩, _, ?_, rfl, rfl⟩⟩
          simp at c4 c6
          simp [lineF, hh, show ¬ 1048576 < t.nu by omega, show ¬ 2097152 < u.nu by omega]
  · have hh : s.hd = true := by simpa using c1
    refine DC.skip ?_
    refine Fin.then ?_
    refine DC.seq ?_
    refine DC.block ?_
    refine DC.seq ?_
    refine DC.flow (cl := [.q, .q, .q, .q, .v, .q, .q, .q, .q, .v, .q, .q]) (A := [0, 1, 3, 7, 15, 31, 0, 64, 192, 448, 1023, 2047]) (order := [0, 1, 2, 3, 4, 5, 6, 7, 8, 9, 10, 11]) [] mixed (by kernel_rfl) (fun w hw => hw.pick .nil) ?_
    refine Ym ?_
    refine Flow.pur rfl rfl rfl (p_nil rfl rfl) ?_
    refine Yf fi135_0 ?_
    refine Yf fi84_1 ?_
    refine Yl ag37 ?_
    refine Flow.pur rfl rfl rfl (p_len rfl rfl Tryz.underlying37) ?_
    refine Ym ?_
    refine Flow.pur rfl rfl rfl (p_nil rfl rfl) ?_
    refine Yf fi135_2 ?_
    refine Yl ag3 ?_
    refine Flow.pur rfl rfl rfl (p_geq rfl rfl rfl) ?_
    refine Flow.pur rfl rfl rfl (p_assign rfl rfl) ?_
    refine Flow.end rfl ?_
    simp only [List.map_cons, List.map_nil, List.nil_append, List.cons_append, List.append_nil]
    refine Fin.then ?_
    refine DC.cond rfl (fun c10 => ?_) (fun c10 => ?_)
    · have hm : s.m ≤ s.ps.length := by simp at c10; omega
      refine Zs ?_
      refine Zm ?_
      refine Seq.pur rfl rfl (p_index (ad' := ad.add (0 * 4)) rfl rfl rfl Tryz.underlying131 sz138 (by omega) (by simp) rfl) ?_
      refine Zf fi138_1 ?_
      refine Seq.val rfl rfl (v_load rfl rfl ag3 (has_tk (i := 3) (j := 0) rfl rfl 1 rfl)) ?_
      refine Seq.pur rfl rfl (p_struct (cs := #[_, _]) rfl rfl bs51 rfl rfl) ?_
      refine Seq.sto rfl rfl (s_stores (cs' := #[_, _]) rfl rfl rfl sz51 rfl (Nat.le_of_ble_eq_true rfl) rfl) ?_
      refine Zx ?_
      refine DC.ret ?_
      refine Fin.ret_block <| Fin.ret_then <| ?_
      refine Fin.endc (cs := #[_, _]) (.inl rfl) rfl rfl ag51 sz51 ?_
      refine ⟨_, fun w hw => hw, .inr ⟨26, t.fr, ?_, by decide, rfl⟩⟩
      simp [lineF, hh, hm]
    · have hm : ¬ s.m ≤ s.ps.length := by simp at c10; omega
      refine Zs ?_
      refine Zm ?_
      refine Zn Tryz.underlying131 ?_
      refine Seq.pur rfl rfl (p_neq rfl rfl rfl) ?_
      refine Za ?_
      refine Zx ?_
      refine DC.cond rfl (fun c12 => ?_) (fun c12 => ?_)
      · have hr : tr.length ≠ 1 := by simp at c12; omega
        refine Zs ?_
        refine Zm ?_
        refine Seq.pur rfl rfl (p_index (ad' := ad.add (0 * 4)) rfl rfl rfl Tryz.underlying131 sz138 (by omega) (by simp) rfl) ?_
        refine Zf fi138_1 ?_
        refine Seq.val rfl rfl (v_load rfl rfl ag3 (has_tk (i := 3) (j := 0) rfl rfl 1 rfl)) ?_
        refine Seq.pur rfl rfl (p_struct (cs := #[_, _]) rfl rfl bs51 rfl rfl) ?_
        refine Seq.sto rfl rfl (s_stores (cs' := #[_, _]) rfl rfl rfl sz51 rfl (Nat.le_of_ble_eq_true rfl) rfl) ?_
        refine Zx ?_
        refine DC.ret ?_
        refine Fin.ret_block <| Fin.ret_then <| ?_
        refine Fin.endc (cs := #[_, _]) (.inl rfl) rfl rfl ag51 sz51 ?_
        refine ⟨_, fun w hw => hw, .inr ⟨23, t.fr, ?_, by decide, rfl⟩⟩
        match tr, hr with
        | [], _ => simp [lineF, hh, hm]
        | _ :: _ :: _, _ => simp [lineF, hh, hm]
        | [_], h => exact absurd rfl h
      · have hr : tr.length = 1 := by simp at c12; omega
        obtain ⟨u, rfl⟩ := List.length_eq_one_iff.1 hr
        refine DC.skip ?_
        refine Fin.inBlock ?_
        refine Fin.then ?_
        refine DC.seq ?_
        refine Zs ?_
        refine Zm ?_
        refine Zn Tryz.underlying131 ?_
        refine Zm ?_
        refine Zx ?_
        refine DC.block ?_
        refine DC.loop (ι := Nat) (fun j => j ≤ 2 ∧ ∀ (p : Nat) k, p < j → [t, u][p]? = some k → k.nu < s.n)
          (fun j => [(0, .pointer (some ⟨gr, 0, none⟩)), (1, .slice (some ad) _ cl), (4, .pointer (some ⟨g4, 0, none⟩)), (88, .slice (some ad) _ cl), (89, .int .i64 2), (90, .int .i64 j)])
          (fun j => [blk g4 51 #[.int .i64 0, .int .i64 0], blk gr 135 #[.int .i64 s.n, .slice Ap s.ps.length cp, .bool s.hd, .int .i64 s.m], slc (.slice Ap s.ps.length cp) 35 2 (prs s.ps), slc (.slice (some ad) _ cl) 138 4 (tks [t, u])]) (fun j => 2 - j) 0 ⟨by omega, fun p k h => by omega⟩ ⟨rfl, rfl, rfl, rfl, rfl, rfl, trivial⟩ (.cons 0 rfl (.cons 0 rfl (.cons 0 rfl (.cons 0 rfl .nil)))) ?_
        rintro j ⟨hj, hall⟩
        refine Zs ?_
        refine Zc ?_
        refine Zx ?_
        refine DC.seq ?_
        refine DC.cond rfl (fun c15 => ?_) (fun c15 => ?_)
        · have hj2 : j < 2 := by simp at c15; omega
          obtain ⟨k, hk⟩ : ∃ k, [t, u][j]? = some k := ⟨_, List.getElem?_eq_getElem hj2⟩
          refine DC.skip ?_
          refine Fin.then ?_
          refine DC.seq ?_
          refine DC.block ?_
          refine Zs ?_
          refine Seq.pur rfl rfl (p_index (ad' := ad.add (j * 4)) rfl rfl rfl Tryz.underlying131 sz138 (by omega) (by simp; omega) (by rw [Int.toNat_natCast])) ?_
          refine Seq.val rfl rfl (v_loads (vs := [_, _, _, _]) rfl rfl ag138 sz138 rfl (hass_tk (i := 3) rfl hk)) ?_
          refine Seq.new rfl rfl (n_alloc rfl ze138 rfl) fun g6 => ?_
          refine Seq.sto rfl rfl (s_stores (cs' := #[_, _, _, _]) rfl rfl rfl sz138 rfl (Nat.le_of_ble_eq_true rfl) rfl) ?_
          refine Zx ?_
          refine DC.seq ?_
          refine DC.flow (cl := [.q, .v, .q, .q, .q, .q, .v, .q]) (A := [0, 1, 0, 4, 12, 28, 60, 127]) (order := [0, 1, 2, 3, 4, 5, 6, 7]) [] mixed (by kernel_rfl) (fun w hw => hw.pick .nil) ?_
          refine Yf fi138_3 ?_
          refine Yl ag3 ?_
          refine Ym ?_
          refine Flow.pur rfl rfl rfl (p_nil rfl rfl) ?_
          refine Yf fi135_0 ?_
          refine Yf fi84_0 ?_
          refine Yl ag3 ?_
          refine Flow.pur rfl rfl rfl (p_geq rfl rfl rfl) ?_
          refine Flow.end rfl ?_
          simp only [List.map_cons, List.map_nil, List.nil_append, List.cons_append, List.append_nil]
          refine Fin.then ?_
          refine DC.cond rfl (fun c17 => ?_) (fun c17 => ?_)
          · refine Zs ?_
            refine Zf fi138_1 ?_
            refine Zl ag3 ?_
            refine Seq.pur rfl rfl (p_struct (cs := #[_, _]) rfl rfl bs51 rfl rfl) ?_
            refine Seq.sto rfl rfl (s_stores (cs' := #[_, _]) rfl rfl rfl sz51 rfl (Nat.le_of_ble_eq_true rfl) rfl) ?_
            refine Zx ?_
            refine DC.ret ?_
            refine Fin.ret_block <| Fin.ret_then <| Fin.ret_then <| Fin.ret_block <| Fin.ret_then <| ?_
            refine Fin.endc (cs := #[_, _]) (.inl rfl) rfl rfl ag51 sz51 ?_
            refine ⟨_, fun w hw => hw, .inr ⟨24, k.fr, ?_, by decide, rfl⟩⟩
            have hn : s.n ≤ k.nu := by simpa using c17
            match j, hj2, hk with
            | 0, _, hk => cases hk; simp [lineF, hh, hm, hn]
            | 1, _, hk =>
              cases hk
              have h1 := hall 0 t (by omega) rfl
              simp [lineF, hh, hm, hn, show ¬ s.n ≤ t.nu by omega]
          · refine DC.skip ?_
            refine Fin.inBlock ?_
            refine Fin.then ?_
            refine DC.region ?_
            refine Zp ?_
            refine Zm ?_
            refine Seq.nil ?_
            refine Fin.again (j + 1) (by omega) ⟨by omega, fun p k' h1 h2 => ?_⟩ ⟨rfl, rfl, rfl, rfl, rfl, rfl, trivial⟩ (.cons 1 rfl (.cons 1 rfl (.cons 1 rfl (.cons 1 rfl .nil))))
            by_cases hp : p = j
            · subst hp; rw [hk] at h2; cases h2; simp at c17; omega
            · exact hall p k' (by omega) h2
        · refine DC.exit ?_
          refine Fin.exit_then <| Fin.exit_then <| Fin.exit_here <| ?_
          refine Fin.then ?_
          refine DC.seq ?_
          refine DC.flow (cl := [.q, .q, .q, .q, .q, .v, .q, .q, .q, .v, .q, .q, .q, .v, .q, .n, .g, .q, .q, .q, .g]) (A := [0, 0, 2, 6, 14, 30, 0, 64, 192, 448, 0, 1024, 3072, 7168, 16320, 32704, 65534, 131071, 262143, 524287, 1048575]) (order := [0, 1, 2, 3, 4, 5, 6, 7, 8, 9, 10, 11, 12, 13, 14, 15, 16, 17, 18, 19, 20]) [] mixed (by kernel_rfl) (fun w hw => hw.pick .nil) ?_
          refine Ym ?_
          refine Ym ?_
          refine Flow.pur rfl rfl rfl (p_nil rfl rfl) ?_
          refine Yf fi135_0 ?_
          refine Yf fi84_1 ?_
          refine Yl ag37 ?_
          refine Ym ?_
          refine Flow.pur rfl rfl rfl (p_index (ad' := ad.add (0 * 4)) rfl rfl rfl Tryz.underlying131 sz138 (by omega) (by simp) rfl) ?_
          refine Yf fi138_3 ?_
          refine Flow.valS rfl rfl rfl rfl (v_load rfl rfl ag3 (has_tk (i := 3) (j := 0) rfl rfl 3 rfl)) ?_
          refine Ym ?_
          refine Flow.pur rfl rfl rfl (p_index (ad' := ad.add (1 * 4)) rfl rfl rfl Tryz.underlying131 sz138 (by omega) (by simp) rfl) ?_
          refine Yf fi138_3 ?_
          refine Flow.valS rfl rfl rfl rfl (v_load rfl rfl ag3 (has_tk (i := 3) (j := 1) rfl rfl 3 rfl)) ?_
          refine Flow.pur rfl rfl rfl (p_array (cs := #[.int .i64 t.nu, .int .i64 u.nu]) rfl rfl Tryz.underlying35 sz3 ze35 rfl rfl rfl) ?_
          refine Flow.new' rfl rfl rfl rfl (n_slit (cs := #[_, _]) rfl rfl Tryz.underlying37 sz35 ze35 rfl (by decide) (by decide) rfl rfl) fun g121 => ?_
          refine Flow.gen' (V := [blk g121 35 #[.int .i64 t.nu, .int .i64 u.nu], blk g4 51 #[.int .i64 0, .int .i64 0], blk gr 135 #[.int .i64 s.n, .slice Ap s.ps.length cp, .bool s.hd, .int .i64 s.m], slc (.slice Ap s.ps.length cp) 35 2 (prs s.ps), slc (.slice (some ad) _ cl) 138 4 (tks [t, u])]) rfl rfl rfl rfl rfl (Gen.shape (g_append (F := [blk g121 _ _, blk g4 _ _, blk gr _ _, slc _ _ _ _]) (vs := prs s.ps) (k := 1) (news := [.int .i64 t.nu, .int .i64 u.nu]) rfl rfl rfl Tryz.underlying37 sz35 by35 ze35 rfl (by decide) (by decide)
            (fun w hw => hw.pick (.cons 3 rfl (.cons 0 rfl (.cons 0 rfl (.cons 0 rfl (.cons 0 rfl .nil)))))) (.inl ⟨_, _, rfl, hass_blk rfl⟩) rfl (by intro u hu; simp at hu; rcases hu with rfl | rfl <;> rfl) (by rw [prs_length]; omega))) (fun v L' hC w hw => hw.pick (.nil)) ?_
          rintro _ _ ⟨⟨A11, l11, c11, rfl⟩, rfl⟩
          refine Flow.pur rfl rfl rfl (p_nil rfl rfl) ?_
          refine Yf fi135_0 ?_
          refine Yf fi84_1 ?_
          refine Flow.sto0 rfl rfl rfl rfl (s_store (cs' := #[_, _, _, _]) rfl rfl rfl sz37 rfl (Nat.le_of_ble_eq_true rfl) rfl) (fun w hw => hw.pick (.nil)) ?_
          refine Flow.end rfl ?_
          simp only [List.map_cons, List.map_nil, List.nil_append, List.cons_append, List.append_nil]
          refine Fin.then ?_
          refine Zs ?_
          refine Seq.pur rfl rfl (p_struct (cs := #[_, _]) rfl rfl bs51 rfl rfl) ?_
          refine Seq.sto rfl rfl (s_stores (cs' := #[_, _]) rfl rfl rfl sz51 rfl (Nat.le_of_ble_eq_true rfl) rfl) ?_
          refine Zx ?_
          refine DC.ret ?_
          refine Fin.endc (cs := #[_, _]) (.inl rfl) rfl rfl ag51 sz51 ?_
          have hj2 : j = 2 := by simp at c15; omega
          have h1 := hall 0 t (by omega) rfl
          have h2 := hall 1 u (by omega) rfl
          refine ⟨_, fun w hw => hw.pick (.cons 3 rfl (.cons 0 rfl (.cons 2 rfl .nil))), .inl ⟨⟨s.n, s.ps ++ [(t.nu, u.nu)], true, s.m⟩, .slice A11 l11 c11, ?_, rfl, ?_⟩⟩
          · simp [lineF, hh, hm, show ¬ s.n ≤ t.nu by omega, show ¬ s.n ≤ u.nu by omega]
          · simp [liL, prs_append, prs, hh]
theorem rline_calls2 {gr : Nat} {vp vl : Value} {s : RdS} {tk : List Tk} {w : World} (hO : Own w (idsOf (liL gr vp s vl tk)) w (liL gr vp s vl tk)) (h0 : tk ≠ []) (hl : tk.length ≤ 100000000) (hp : s.ps.length ≤ 100000000) :
    Calls Tryz.prog 73 #[.pointer (some ⟨gr, 0, none⟩), vl] w (Ret w (idsOf (liL gr vp s vl tk)) fun r M => ∃ c a, r = .agg #[.int .i64 c, .int .i64 a] ∧
      ((c = 0 ∧ ∃ s' vp', lineF s tk = .ok s' ∧ M = liL gr vp' s' vl tk) ∨ (c ≠ 0 ∧ lineF s tk = .bad c a))) := by
  refine Calls.mono (rline_calls hO h0 hl hp) ?_
  rintro e w' ⟨v, L', rfl, ⟨s', vp', h1, rfl, rfl⟩ | ⟨c, a, h1, h2, rfl⟩, hO⟩
  · exact ⟨_, _, rfl, ⟨0, 0, rfl, .inl ⟨rfl, s', vp', h1, rfl⟩⟩, hO⟩
  · exact ⟨_, _, rfl, ⟨c, a, rfl, .inr ⟨h2, h1⟩⟩, hO⟩
end Go.Fl

set_option linter.unusedVariables false
set_option linter.unusedSimpArgs false
set_option maxRecDepth 100000
namespace Go.Fl
open Go Go.Proofs
theorem Scan_calls2 {vb : Value} {bs : List UInt8} {w : World} (hB : ByV w vb bs) :
    Calls Tryz.prog 72 #[vb] w (Ret w [] fun r M => ∃ tk A c a e, r = .tuple #[.slice A tk.length c, .int .i64 a, .int .i64 e] ∧ M = [slc (.slice A tk.length c) 138 4 (tks tk)] ∧ tk.length ≤ 33554433 ∧ (tk ≠ [] → ∃ ad, A = some ad) ∧ ((e = 0 ∧ scanA bs = .ok tk) ∨ (e ≠ 0 ∧ scanA bs = .bad a e))) := by
  refine Calls.mono (Scan_calls hB) ?_
  rintro e w' ⟨v, L', rfl, ⟨tk, vt, hsc, htl, rfl, rfl⟩ | ⟨a, e, hsc, rfl, rfl⟩, hO⟩
  · obtain ⟨A, c, rfl, hR, _⟩ := tkv_own hO 0 rfl
    refine ⟨_, _, rfl, ⟨tk, A, c, 0, 0, rfl, rfl, htl, fun hne => ?_, .inl ⟨rfl, hsc⟩⟩, hO⟩
    obtain ⟨k, hk⟩ : ∃ k, tk[0]? = some k := ⟨_, List.getElem?_eq_getElem (List.length_pos_iff.2 hne)⟩
    obtain ⟨ad, e, _⟩ := hR.tk hk
    exact ⟨ad, e⟩
  · exact ⟨_, _, rfl, ⟨[], none, 0, a, e, rfl, rfl, by simp, fun h => absurd rfl h, .inr ⟨scanA_err hsc, hsc⟩⟩, own_nil hO⟩
structure FeI where
  s : RdS
  l : List Tk
  j : Nat
  vp : Value
  vl : Value
def RawR (bs : List UInt8) (r : Value) (M : List Chunk) : Prop :=
  (∃ n ps vp, rawF bs = .ok n ps ∧ ps.length ≤ 33554433 ∧ r = .tuple #[.agg #[.int .i64 n, vp], .agg #[.int .i64 0, .int .i64 0]] ∧ M = [slc vp 35 2 (prs ps)]) ∨
  (∃ c a, rawF bs = .bad c a ∧ c ≠ 0 ∧ r = .tuple #[.agg #[.int .i64 0, .slice none 0 0], .agg #[.int .i64 c, .int .i64 a]] ∧ M = [])
theorem Raw_calls {vb : Value} {bs : List UInt8} {w : World} (hB : ByV w vb bs) :
    Calls Tryz.prog 38 #[vb] w (Ret w [] (RawR bs)) := by
  have ho : ByO vb bs [] := fun _ _ _ _ _ h => by simp at h
  obtain ⟨Ab, cb, rfl⟩ := hB.len
  refine calls_of (K := []) (args := [_]) (L := []) Tryz.func38 rfl Tryz.ntmps38 rfl (Own.start _ _) ?_
  refine Zs ?_
  refine Seq.new rfl rfl (n_alloc rfl ze84 rfl) fun g2 => ?_
  refine Seq.new rfl rfl (n_alloc rfl ze51 rfl) fun g3 => ?_
  refine Zx ?_
  refine DC.scope ?_
  refine DC.seq ?_
  refine Zs ?_
  refine Zm ?_
  refine Zn Tryz.underlying47 ?_
  refine Seq.pur rfl rfl (p_gtr rfl rfl rfl) ?_
  refine Zx ?_
  refine DC.cond rfl (fun c1 => ?_) (fun c1 => ?_)
  · refine Zs ?_
    refine Seq.pur rfl rfl (p_struct (cs := #[_, _]) rfl rfl bs84 rfl rfl) ?_
    refine Seq.pur rfl rfl (p_struct (cs := #[_, _]) rfl rfl bs51 rfl rfl) ?_
    refine Seq.sto rfl rfl (s_stores (cs' := #[_, _]) rfl rfl rfl sz84 rfl (Nat.le_of_ble_eq_true rfl) rfl) ?_
    refine Seq.sto rfl rfl (s_stores (cs' := #[_, _]) rfl rfl rfl sz51 rfl (Nat.le_of_ble_eq_true rfl) rfl) ?_
    refine Zx ?_
    refine DC.ret ?_
    refine Fin.ret_then <| Fin.ret_scope <| ?_
    refine Fin.endcc (cs := #[_, _]) (cs' := #[_, _]) (.inl rfl) rfl rfl rfl ag84 sz84 ag51 sz51 ?_
    refine ⟨[], fun w hw => hw.pick .nil, .inr ⟨10, 16777216, ?_, by decide, rfl, rfl⟩⟩
    have : 16777216 < bs.length := by simp at c1; omega
    simp [rawF, this]
  · have hlen : ¬ 16777216 < bs.length := by simp at c1; omega
    refine DC.skip ?_
    refine Fin.then ?_
    refine Zs ?_
    refine Zm ?_
    refine Seq.gen rfl rfl (g_call en72 rfl rfl rfl (Lc := []) (F := [blk g3 51 #[.int .i64 0, .int .i64 0], blk g2 84 #[.int .i64 0, .slice none 0 0]]) (.refl _) (fun k hk => by simp at hk) (fun w hw => Scan_calls2 (hB.keep0 hw))) ?_
    rintro _ _ ⟨_, ⟨tk, A, c, a, e, rfl, rfl, htl, hA, hsc⟩, rfl⟩
    refine Zm ?_
    refine Ze ?_
    refine Ze ?_
    refine Ze ?_
    refine Za ?_
    refine Za ?_
    refine Za ?_
    refine Zx ?_
    refine DC.seq ?_
    refine DC.seq ?_
    simp only [List.cons_append, List.nil_append]
    refine DC.region ?_
    refine Zm ?_
    refine Seq.pur rfl rfl (p_neq rfl rfl rfl) ?_
    refine Zx ?_
    refine DC.cond rfl (fun c4 => ?_) (fun c4 => ?_)
    · have hbad : scanA bs = .bad a e ∧ e ≠ 0 := by
        rcases hsc with ⟨rfl, _⟩ | ⟨h1, h2⟩
        · simp at c4
        · exact ⟨h2, h1⟩
      refine Zs ?_
      refine Seq.pur rfl rfl (p_struct (cs := #[_, _]) rfl rfl bs84 rfl rfl) ?_
      refine Zm ?_
      refine Zm ?_
      refine Seq.pur rfl rfl (p_struct (cs := #[_, _]) rfl rfl bs51 rfl rfl) ?_
      refine Seq.sto rfl rfl (s_stores (cs' := #[_, _]) rfl rfl rfl sz84 rfl (Nat.le_of_ble_eq_true rfl) rfl) ?_
      refine Seq.sto rfl rfl (s_stores (cs' := #[_, _]) rfl rfl rfl sz51 rfl (Nat.le_of_ble_eq_true rfl) rfl) ?_
      refine Zx ?_
      refine DC.ret ?_
      refine Fin.ret_then <| Fin.ret_scope <| ?_
      refine Fin.endcc (cs := #[_, _]) (cs' := #[_, _]) (.inl rfl) rfl rfl rfl ag84 sz84 ag51 sz51 ?_
      refine ⟨[], fun w hw => hw.pick .nil, .inr ⟨e, a, ?_, hbad.2, rfl, rfl⟩⟩
      simp [rawF, hlen, hbad.1]
    · have hok : scanA bs = .ok tk := by
        rcases hsc with ⟨_, h2⟩ | ⟨h1, h2⟩
        · exact h2
        · simp at c4; exact absurd c4.symm (fun h => h1 h.symm)
      have hrw : rawF bs = endF bs.length (feedF ⟨0, [], false, 0⟩ [] tk) := by simp [rawF, hlen, hok]
      refine DC.skip ?_
      refine Fin.then ?_
      refine Zs ?_
      refine Seq.new rfl rfl (n_alloc rfl ze135 rfl) fun g7 => ?_
      refine Zx ?_
      refine Zs ?_
      refine Za ?_
      refine Zx ?_
      refine DC.seq ?_
      refine DC.label ?_
      refine Fin.then ?_
      refine DC.cut (ι := FeI) (fun i => feedF ⟨0, [], false, 0⟩ [] tk = .ok i.s ∧ i.s.ps.length ≤ 33554433) (fun i => [(0, .slice Ab bs.length cb), (2, .pointer (some ⟨g2, 0, none⟩)), (3, .pointer (some ⟨g3, 0, none⟩)), (7, .pointer (some ⟨g7, 0, none⟩))])
        (fun i => [blk g7 135 #[.int .i64 i.s.n, i.vp, .bool i.s.hd, .int .i64 i.s.m], slc i.vp 35 2 (prs i.s.ps), blk g3 51 #[.int .i64 0, .int .i64 0], blk g2 84 #[.int .i64 0, .slice none 0 0]]) ?first ?rest
      case first =>
        refine DC.seq ?_
        refine DC.own (fun w hw => own_nil (t := 138) (m := 4) (own_nil (t := 35) (m := 2) hw)) ?_
        refine DC.region ?_
        refine Zm ?_
        refine Zn Tryz.underlying131 ?_
        refine Zm ?_
        refine Zx ?_
        refine DC.block ?_
        refine DC.loop (ι := FeI) (fun i => feedF ⟨0, [], false, 0⟩ [] tk = feedF i.s i.l (tk.drop i.j) ∧ i.j ≤ tk.length ∧ i.s.ps.length ≤ i.j ∧ i.l.length ≤ i.j)
          (fun i => [(0, .slice Ab bs.length cb), (2, .pointer (some ⟨g2, 0, none⟩)), (3, .pointer (some ⟨g3, 0, none⟩)), (7, .pointer (some ⟨g7, 0, none⟩)), (8, i.vl), (29, .slice A tk.length c), (30, .int .i64 tk.length), (31, .int .i64 (i.j : Nat))])
          (fun i => [blk g7 135 #[.int .i64 i.s.n, i.vp, .bool i.s.hd, .int .i64 i.s.m], slc i.vp 35 2 (prs i.s.ps), slc i.vl 138 4 (tks i.l), blk g3 51 #[.int .i64 0, .int .i64 0], blk g2 84 #[.int .i64 0, .slice none 0 0], slc (.slice A tk.length c) 138 4 (tks tk)]) (fun i => tk.length - i.j)
          ⟨⟨0, [], false, 0⟩, [], 0, .slice none 0 0, .slice none 0 0⟩ ⟨rfl, by simp, by simp, by simp⟩ ⟨rfl, rfl, rfl, rfl, rfl, rfl, rfl, rfl, trivial⟩ (.cons 2 rfl (.cons 1 rfl (.cons 0 rfl (.cons 1 rfl (.cons 1 rfl (.cons 0 rfl .nil)))))) ?_
        rintro ⟨s, l, j, vp, vl⟩ ⟨hfe, hj, hpl, hll⟩
        dsimp only at hfe hj hpl hll ⊢
        refine Zs ?_
        refine Zc ?_
        refine Zx ?_
        refine DC.seq ?_
        refine DC.cond rfl (fun c9 => ?_) (fun c9 => ?_)
        · have hj9 : j < tk.length := by simpa using c9
          obtain ⟨k, hk⟩ : ∃ k, tk[j]? = some k := ⟨_, List.getElem?_eq_getElem hj9⟩
          obtain ⟨ad, rfl⟩ := hA (fun e => by rw [e] at hj9; simp at hj9)
          have hdr : tk.drop j = k :: tk.drop (j + 1) := by rw [List.drop_eq_getElem_cons hj9]; congr 1; exact (List.getElem?_eq_some_iff.1 hk).2
          rw [hdr] at hfe
          refine DC.skip ?_
          refine Fin.then ?_
          refine DC.seq ?_
          refine DC.block ?_
          refine Zs ?_
          refine Seq.pur rfl rfl (p_index (ad' := ad.add (j * 4)) rfl rfl rfl Tryz.underlying131 sz138 (by omega) (by omega) (by rw [Int.toNat_natCast])) ?_
          refine Seq.val rfl rfl (v_loads (vs := [_, _, _, _]) rfl rfl ag138 sz138 rfl (hass_tk (i := 5) rfl hk)) ?_
          refine Seq.new rfl rfl (n_alloc rfl ze138 rfl) fun g10 => ?_
          refine Seq.sto rfl rfl (s_stores (cs' := #[_, _, _, _]) rfl rfl rfl sz138 rfl (Nat.le_of_ble_eq_true rfl) rfl) ?_
          refine Zx ?_
          refine DC.seq ?_
          refine Zs ?_
          refine Zf fi138_0 ?_
          refine Zl ag136 ?_
          refine Seq.pur rfl rfl (p_eql rfl rfl rfl) ?_
          refine Zx ?_
          refine DC.cond rfl (fun c11 => ?_) (fun c11 => ?_)
          · have hk1 : k.kd = 1 := by simpa using c11
            refine Zs ?_
            refine Zm ?_
            refine Seq.val rfl rfl (v_loads (vs := [_, _, _, _]) rfl rfl ag138 sz138 rfl (hass_blk rfl)) ?_
            refine Seq.new rfl rfl (n_slit (cs := #[_, _, _, _]) rfl rfl Tryz.underlying131 sz138 ze138 rfl (by decide) (by decide) rfl rfl) fun g40 => ?_
            refine Seq.gen rfl rfl (Gen.shape (g_append (F := [blk g40 _ _, blk g10 _ _, blk g7 _ _, slc _ _ _ _, blk g3 _ _, blk g2 _ _, slc _ _ _ _]) (vs := tks l) (k := 1) (news := [.int .i64 k.kd, .int .i64 k.fr, .int .i64 k.en, .int .i64 k.nu]) rfl rfl rfl Tryz.underlying131 sz138 by138 ze138 rfl (by decide) (by decide)
              (fun w hw => hw.pick (.cons 4 rfl (.cons 0 rfl (.cons 0 rfl (.cons 0 rfl (.cons 0 rfl (.cons 0 rfl (.cons 0 rfl (.cons 0 rfl .nil))))))))) (.inl ⟨_, _, rfl, hass_blk rfl⟩) rfl (by intro u hu; simp at hu; rcases hu with rfl | rfl | rfl | rfl <;> rfl) (by rw [tks_length]; omega))) ?_
            rintro _ _ ⟨⟨A11, l11, c11', rfl⟩, rfl⟩
            refine Za ?_
            refine Zx ?_
            refine DC.exit ?_
            refine Fin.exit_then <| Fin.exit_here <| ?_
            refine Fin.then ?_
            refine DC.region ?_
            refine Zp ?_
            refine Zm ?_
            refine Seq.nil ?_
            refine Fin.again ⟨s, l ++ [k], j + 1, vp, .slice A11 l11 c11'⟩ (by dsimp only; omega) ⟨hfe.trans (feedF_num hk1), by dsimp only; omega, by dsimp only; omega, by simp; omega⟩ ⟨rfl, rfl, rfl, rfl, rfl, rfl, rfl, rfl, trivial⟩ (.cons 3 rfl (.cons 3 rfl (.cons' 0 rfl (by rw [tks_append]; rfl) (.cons 2 rfl (.cons 2 rfl (.cons 2 rfl .nil))))))
          · have hk1 : k.kd ≠ 1 := by simpa using c11
            refine DC.skip ?_
            refine Fin.then ?_
            refine DC.seq ?_
            refine DC.seq ?_
            refine DC.shapeT 3 rfl ?_
            rintro ⟨Al, cl, rfl⟩
            refine DC.region ?_
            refine Zm ?_
            refine Zn Tryz.underlying131 ?_
            refine Seq.pur rfl rfl (p_gtr rfl rfl rfl) ?_
            refine Zx ?_
            refine DC.cond rfl (fun c13 => ?_) (fun c13 => ?_)
            · have hl0 : l ≠ [] := by rintro rfl; simp at c13
              refine DC.seq ?_
              refine Zs ?_
              refine Zm ?_
              refine Seq.gen rfl rfl (g_call en73 rfl rfl rfl (Lc := liL g7 vp s (.slice Al l.length cl) l) (F := [blk g10 138 #[.int .i64 k.kd, .int .i64 k.fr, .int .i64 k.en, .int .i64 k.nu], blk g3 51 #[.int .i64 0, .int .i64 0], blk g2 84 #[.int .i64 0, .slice none 0 0], slc (.slice (some ad) tk.length c) 138 4 (tks tk)]) (List.perm_middle (a := blk g10 138 #[.int .i64 k.kd, .int .i64 k.fr, .int .i64 k.en, .int .i64 k.nu]) (l₁ := liL g7 vp s (.slice Al l.length cl) l)).symm (fun k hk => hk) (fun w hw => rline_calls2 (hw.pick (L' := liL g7 vp s (.slice Al l.length cl) l) (.cons 1 rfl (.cons 1 rfl (.cons 1 rfl .nil)))).self hl0 (by omega) (by omega))) ?_
              rintro _ _ ⟨M', ⟨cc, aa, rfl, hln⟩, rfl⟩
              refine Seq.own (fun w hw => hw.perm (List.perm_append_comm)) ?_
              simp only [List.cons_append, List.nil_append]
              refine Seq.new rfl rfl (n_alloc rfl ze51 rfl) fun g11 => ?_
              refine Seq.sto rfl rfl (s_stores (cs' := #[_, _]) rfl rfl rfl sz51 rfl (Nat.le_of_ble_eq_true rfl) rfl) ?_
              refine Zx ?_
              refine Zs ?_
              refine Zf fi51_0 ?_
              refine Zl ag29 ?_
              refine Seq.pur rfl rfl (p_neq rfl rfl rfl) ?_
              refine Zx ?_
              refine DC.cond rfl (fun c15 => ?_) (fun c15 => ?_)
              · have hbad : lineF s l = .bad cc aa ∧ cc ≠ 0 := by
                  rcases hln with ⟨rfl, _⟩ | ⟨h1, h2⟩
                  · simp at c15
                  · exact ⟨h2, h1⟩
                refine DC.seq ?_
                refine DC.flow (cl := [.q, .q, .g, .g]) (A := [0, 0, 1, 7]) (order := [0, 1, 2, 3]) ([blk g11 51 #[.int .i64 cc, .int .i64 aa]]) mixed (by kernel_rfl) (fun w hw => hw.pick (.cons 0 rfl .nil)) ?_
                refine Flow.pur rfl rfl rfl (p_struct (cs := #[_, _]) rfl rfl bs84 rfl rfl) ?_
                refine Flow.old rfl rfl rfl (v_loads (vs := [_, _]) rfl rfl ag51 sz51 rfl (hass_blk rfl)) ?_
                refine Flow.sto0 rfl rfl rfl rfl (s_stores (cs' := #[_, _]) rfl rfl rfl sz84 rfl (Nat.le_of_ble_eq_true rfl) rfl) (fun w hw => hw.pick (.cons 0 rfl .nil)) ?_
                refine Flow.sto0 rfl rfl rfl rfl (s_stores (cs' := #[_, _]) rfl rfl rfl sz51 rfl (Nat.le_of_ble_eq_true rfl) rfl) (fun w hw => hw.pick (.cons 0 rfl .nil)) ?_
                refine Flow.end rfl ?_
                simp only [List.map_cons, List.map_nil, List.nil_append, List.cons_append, List.append_nil]
                refine Fin.then ?_
                refine DC.ret ?_
                refine Fin.ret_then <| Fin.ret_then <| Fin.ret_block <| Fin.ret_then <| Fin.ret_then <| Fin.ret_block <| Fin.ret_then <| Fin.ret_scope <| ?_
                refine Fin.endcc (cs := #[_, _]) (cs' := #[_, _]) (.inl rfl) rfl rfl rfl ag84 sz84 ag51 sz51 ?_
                refine ⟨[], fun w hw => hw.pick .nil, .inr ⟨cc, aa, ?_, hbad.2, rfl, rfl⟩⟩
                rw [hrw, hfe, feedF_bad hk1 hl0 hbad.1]; rfl
              · obtain ⟨s', vp', hs', rfl⟩ : ∃ s' vp', lineF s l = .ok s' ∧ M' = liL g7 vp' s' (.slice Al l.length cl) l := by
                  rcases hln with ⟨_, h⟩ | ⟨h1, h2⟩
                  · exact h
                  · simp at c15; exact absurd c15.symm (fun h => h1 h.symm)
                have hpl' := lineF_len hs'
                refine DC.skip ?_
                refine Fin.then ?_
                refine DC.region ?_
                refine Zm ?_
                refine Seq.pur rfl rfl (p_slice_to (hi := 0) rfl rfl rfl Tryz.underlying131 sz138 (by omega)) ?_
                refine Za ?_
                refine Seq.nil ?_
                unfold liL
                refine Fin.own (fun w hw => own_cutAt (m := 4) 7 rfl (by decide) hw) ?_
                simp only [List.eraseIdx_cons_succ, List.eraseIdx_cons_zero]
                refine Fin.then ?_
                refine Zs ?_
                refine Zf fi138_0 ?_
                refine Zl ag136 ?_
                refine Seq.pur rfl rfl (p_eql rfl rfl rfl) ?_
                refine Zx ?_
                refine DC.cond rfl (fun c18 => ?_) (fun c18 => ?_)
                · have hk3 : k.kd = 3 := by simpa using c18
                  refine DC.exit ?_
                  refine Fin.exit_past (by decide) <| Fin.exit_then <| Fin.exit_then <| Fin.exit_here <| ?_
                  refine Fin.meet ⟨s', [], 0, vp', .slice none 0 0⟩ ⟨hfe.trans (feedF_end hk1 (.inr ⟨hl0, hs'⟩) hk3), by dsimp only; omega⟩ ⟨rfl, rfl, rfl, rfl, trivial⟩ (.cons 6 rfl (.cons 6 rfl (.cons 3 rfl (.cons 3 rfl .nil))))
                · have hk3 : k.kd ≠ 3 := by simpa using c18
                  refine DC.skip ?_
                  refine Fin.inBlock ?_
                  refine Fin.then ?_
                  refine DC.region ?_
                  refine Zp ?_
                  refine Zm ?_
                  refine Seq.nil ?_
                  refine Fin.again ⟨s', [], j + 1, vp', .slice Al 0 cl⟩ (by dsimp only; omega) ⟨hfe.trans (feedF_on hk1 (.inr ⟨hl0, hs'⟩) hk3), by dsimp only; omega, by dsimp only; omega, by simp⟩ ⟨rfl, rfl, rfl, rfl, rfl, rfl, rfl, rfl, trivial⟩ (.cons 6 rfl (.cons 6 rfl (.cons 0 rfl (.cons 2 rfl (.cons 2 rfl (.cons 2 rfl .nil))))))
            · have hl0 : l = [] := by simp at c13; exact c13
              refine DC.skip ?_
              refine Fin.then ?_
              refine Zs ?_
              refine Zf fi138_0 ?_
              refine Zl ag136 ?_
              refine Seq.pur rfl rfl (p_eql rfl rfl rfl) ?_
              refine Zx ?_
              refine DC.cond rfl (fun c18 => ?_) (fun c18 => ?_)
              · have hk3 : k.kd = 3 := by simpa using c18
                refine DC.exit ?_
                refine Fin.exit_past (by decide) <| Fin.exit_then <| Fin.exit_then <| Fin.exit_here <| ?_
                refine Fin.meet ⟨s, [], 0, vp, .slice none 0 0⟩ ⟨hfe.trans (feedF_end hk1 (.inl ⟨hl0, rfl⟩) hk3), by dsimp only; omega⟩ ⟨rfl, rfl, rfl, rfl, trivial⟩ (.cons 1 rfl (.cons 1 rfl (.cons 2 rfl (.cons 2 rfl .nil))))
              · have hk3 : k.kd ≠ 3 := by simpa using c18
                refine DC.skip ?_
                refine Fin.inBlock ?_
                refine Fin.then ?_
                refine DC.region ?_
                refine Zp ?_
                refine Zm ?_
                refine Seq.nil ?_
                subst hl0
                refine Fin.again ⟨s, [], j + 1, vp, .slice Al ([] : List Tk).length cl⟩ (by dsimp only; omega) ⟨hfe.trans (feedF_on hk1 (.inl ⟨rfl, rfl⟩) hk3), by dsimp only; omega, by dsimp only; omega, by simp⟩ ⟨rfl, rfl, rfl, rfl, rfl, rfl, rfl, rfl, trivial⟩ (.cons 1 rfl (.cons 1 rfl (.cons 1 rfl (.cons 1 rfl (.cons 1 rfl (.cons 1 rfl .nil))))))
        · refine DC.exit ?_
          refine Fin.exit_then <| Fin.exit_then <| Fin.exit_here <| ?_
          have hj9 : tk.length ≤ j := by simp at c9; omega
          rw [List.drop_eq_nil_of_le hj9] at hfe
          refine Fin.meet ⟨s, [], 0, vp, .slice none 0 0⟩ ⟨hfe, by dsimp only; omega⟩ ⟨rfl, rfl, rfl, rfl, trivial⟩ (.cons 0 rfl (.cons 0 rfl (.cons 1 rfl (.cons 1 rfl .nil))))
      case rest =>
        rintro ⟨s, l', j', vp, vl'⟩ ⟨hfe, hpl⟩
        dsimp only at hfe hpl ⊢
        refine DC.shapeP 1 rfl (by omega) ?_
        rintro ⟨Ap, cp, rfl⟩
        refine DC.seq ?_
        refine DC.block ?_
        refine Zs ?_
        refine Zf fi135_1 ?_
        refine Zl ag4 ?_
        refine Seq.pur rfl rfl (p_not rfl rfl) ?_
        refine Za ?_
        refine Zx ?_
        refine DC.cond rfl (fun c20 => ?_) (fun c20 => ?_)
        · refine Zs ?_
          refine Seq.pur rfl rfl (p_struct (cs := #[_, _]) rfl rfl bs84 rfl rfl) ?_
          refine Zm ?_
          refine Zn Tryz.underlying47 ?_
          refine Seq.pur rfl rfl (p_struct (cs := #[_, _]) rfl rfl bs51 rfl rfl) ?_
          refine Seq.sto rfl rfl (s_stores (cs' := #[_, _]) rfl rfl rfl sz84 rfl (Nat.le_of_ble_eq_true rfl) rfl) ?_
          refine Seq.sto rfl rfl (s_stores (cs' := #[_, _]) rfl rfl rfl sz51 rfl (Nat.le_of_ble_eq_true rfl) rfl) ?_
          refine Zx ?_
          refine DC.ret ?_
          refine Fin.ret_block <| Fin.ret_then <| Fin.ret_scope <| ?_
          refine Fin.endcc (cs := #[_, _]) (cs' := #[_, _]) (.inl rfl) rfl rfl rfl ag84 sz84 ag51 sz51 ?_
          refine ⟨[], fun w hw => hw.pick .nil, .inr ⟨20, bs.length, ?_, by decide, rfl, rfl⟩⟩
          have hh : s.hd = false := by simpa using c20
          rw [hrw, hfe]; simp [endF, hh]
        · have hh : s.hd = true := by simpa using c20
          refine Zs ?_
          refine Zf fi135_0 ?_
          refine Zf fi84_1 ?_
          refine Zl ag37 ?_
          refine Zn Tryz.underlying37 ?_
          refine Zf fi135_2 ?_
          refine Zl ag3 ?_
          refine Zc ?_
          refine Za ?_
          refine Zx ?_
          refine DC.cond rfl (fun c22 => ?_) (fun c22 => ?_)
          · refine Zs ?_
            refine Seq.pur rfl rfl (p_struct (cs := #[_, _]) rfl rfl bs84 rfl rfl) ?_
            refine Zm ?_
            refine Zn Tryz.underlying47 ?_
            refine Seq.pur rfl rfl (p_struct (cs := #[_, _]) rfl rfl bs51 rfl rfl) ?_
            refine Seq.sto rfl rfl (s_stores (cs' := #[_, _]) rfl rfl rfl sz84 rfl (Nat.le_of_ble_eq_true rfl) rfl) ?_
            refine Seq.sto rfl rfl (s_stores (cs' := #[_, _]) rfl rfl rfl sz51 rfl (Nat.le_of_ble_eq_true rfl) rfl) ?_
            refine Zx ?_
            refine DC.ret ?_
            refine Fin.ret_block <| Fin.ret_then <| Fin.ret_scope <| ?_
            refine Fin.endcc (cs := #[_, _]) (cs' := #[_, _]) (.inl rfl) rfl rfl rfl ag84 sz84 ag51 sz51 ?_
            refine ⟨[], fun w hw => hw.pick .nil, .inr ⟨25, bs.length, ?_, by decide, rfl, rfl⟩⟩
            have hm : (s.ps.length : Int) < s.m := by simpa using c22
            rw [hrw, hfe]; simp [endF, hh, hm]
          · refine DC.skip ?_
            refine Fin.inBlock ?_
            refine Fin.then ?_
            refine Zs ?_
            refine Zf fi135_0 ?_
            refine Seq.val rfl rfl (v_loads (vs := [_, _]) rfl rfl ag84 sz84 rfl (hass_blk rfl)) ?_
            refine Seq.pur rfl rfl (p_struct (cs := #[_, _]) rfl rfl bs51 rfl rfl) ?_
            refine Seq.sto rfl rfl (s_stores (cs' := #[_, _]) rfl rfl rfl sz84 rfl (Nat.le_of_ble_eq_true rfl) rfl) ?_
            refine Seq.sto rfl rfl (s_stores (cs' := #[_, _]) rfl rfl rfl sz51 rfl (Nat.le_of_ble_eq_true rfl) rfl) ?_
            refine Zx ?_
            refine DC.ret ?_
            refine Fin.ret_scope <| ?_
            refine Fin.endcc (cs := #[_, _]) (cs' := #[_, _]) (.inl rfl) rfl rfl rfl ag84 sz84 ag51 sz51 ?_
            refine ⟨_, fun w hw => hw.pick (.cons 1 rfl .nil), .inl ⟨s.n, s.ps, _, ?_, hpl, rfl, rfl⟩⟩
            have hm : ¬ (s.ps.length : Int) < s.m := by simp at c22; omega
            rw [hrw, hfe]; simp [endF, hh, hm]
end Go.Fl

set_option linter.unusedVariables false
set_option linter.unusedSimpArgs false
set_option linter.unusedSectionVars false
namespace Go.Fl
open Go
/-- A block of cells, whatever of it is marked. -/
def fro (g t : Nat) (cs : Array Value) : Chunk :=
  ⟨[g], fun w => ∃ fz, w.heap[g]? = some (.cells cs t fz), fun w w' h ⟨fz, hh⟩ => ⟨fz, (h g (List.mem_cons_self ..)).trans hh⟩⟩
section
variable {P : Program} {w0 w : World} {K : List Nat} {n : Nat} {ds : List Deferred} {E : Env} {L F : List Chunk} {o : Oper} {x y z : Operand} {v u : Value}
theorem freeze_heap {g i k : Nat} {cs : Array Value} {t : Nat} (hg : w.heap[g]? = some (.cells cs t (0, 0))) :
    ∃ fz, (w.freeze ⟨g, i, none⟩ k).heap[g]? = some (.cells cs t fz) ∧ (∀ j, j ≠ g → (w.freeze ⟨g, i, none⟩ k).heap[j]? = w.heap[j]?) ∧ (w.freeze ⟨g, i, none⟩ k).heap.size = w.heap.size ∧
      (w.freeze ⟨g, i, none⟩ k).os = w.os ∧ (w.freeze ⟨g, i, none⟩ k).tape = w.tape ∧ (w.freeze ⟨g, i, none⟩ k).output = w.output ∧ (w.freeze ⟨g, i, none⟩ k).drawn = w.drawn := by
  unfold World.freeze
  split
  · exact ⟨_, hg, fun _ _ => rfl, rfl, rfl, rfl, rfl, rfl⟩
  · refine ⟨_, by simp [Array.getElem?_modify, hg]; rfl, fun j hj => ?_, by simp, rfl, rfl, rfl, rfl⟩
    simp [Array.getElem?_modify, Ne.symm hj]
theorem g_mark {t e g len cap : Nat} {cs : Array Value} (ho : o.op = .convert t t x) (hx : ev n E x = some (.slice (some ⟨g, 0, none⟩) len cap)) (ht : P.underlying t = some (.slice e)) (he : P.underlying e = some (.int .u8))
    (hown : ∀ w, Own w0 K w L → Own w0 K w (blk g e cs :: F)) : Gen P w0 K n ds E L o (fun v M => v = .slice (some ⟨g, 0, none⟩) len cap ∧ M = fro g e cs :: F) := by
  intro a w ha hw
  have hO := hown w hw
  have hg : w.heap[g]? = some (.cells cs e (0, 0)) := hO.holds (blk g e cs) (List.mem_cons_self ..)
  have hsh : w.shape? g = some (e, cs.size) := by unfold World.shape?; rw [hg]
  have hrun : (execOp a.eval o).run P w = .ok (.value (.slice (some ⟨g, 0, none⟩) len cap)) (w.freeze ⟨g, cs.size, none⟩ 1) := by
    simp [execOp, ho, ha.ev hx, convert, run_underlying ht, run_underlying he, markStringish, hsh]
  obtain ⟨fz, h1, h2, h3, h4, h5, h6, h7⟩ := freeze_heap (i := cs.size) (k := 1) hg
  unfold RunsTo
  rw [hrun]
  refine ⟨_, ⟨rfl, rfl⟩, ?_⟩
  have h1' : Own w [g] (w.freeze ⟨g, cs.size, none⟩ 1) [fro g e cs] := by
    refine ⟨h4, h5, h6, ?_, by omega, fun k hk hn => h2 k (by simpa using hn), by simp [fro], fun q hq => ?_, fun q hq => ?_, fun c hc => ?_⟩
    · rw [h7]; exact Lo.refl _
    · simp [fro] at hq; subst hq; exact .inl (by simp)
    · simp [fro] at hq; subst hq; rw [h3]; exact (Array.getElem?_eq_some_iff.1 hg).1
    · simp at hc; subst hc; exact ⟨fz, h1⟩
  exact Own.frame (Lc := [blk g e cs]) hO h1' (fun k hk => by simp [blk] at hk ⊢; exact hk)
/-- []byte of a string. -/
theorem g_str_bytes {src dst e : Nat} {bs : List UInt8} (ho : o.op = .convert src dst x) (hx : ev n E x = some (str bs)) (hs : P.underlying src = some .string) (hd : P.underlying dst = some (.slice e)) (he : P.underlying e = some (.int .u8)) (hfit : bs.length ≤ 140737488355328) :
    Gen P w0 K n ds E L o (fun v M => ∃ g sp cap, v = .slice (some ⟨g, 0, none⟩) bs.length cap ∧ M = fro g e (byc bs ++ sp).toArray :: L ∧ bs.length ≤ cap ∧ cap ≤ 9223372036854775807) := by
  intro a w ha hw
  have hrun := run_bytes_of_string (P := P) w src dst e ⟨bs.toArray⟩ hs hd he
  rw [size_str] at hrun
  unfold RunsTo
  have h2 : (execOp a.eval o).run P w = .ok (.value (.slice (some ⟨w.heap.size, 0, none⟩) bs.length (grownCap w bs.length 0 e))) (w.drew.alloc (.cells (bytesRow ⟨bs.toArray⟩ (grownCap w bs.length 0 e)) e ((bytesRow ⟨bs.toArray⟩ (grownCap w bs.length 0 e)).size, (bytesRow ⟨bs.toArray⟩ (grownCap w bs.length 0 e)).size + 1))) := by
    simp [execOp, ho, ha.ev hx, str, hrun]
  rw [h2]
  have hge := grownCap_ge w bs.length 0 e
  have hle := grownCap_le_maxLen w bs.length 0 e (by simp only [maxLen]; omega)
  refine ⟨_, ⟨w.heap.size, List.replicate (grownCap w bs.length 0 e - bs.length) (.int .u8 0), _, rfl, rfl, hge, by simp only [maxLen] at hle; omega⟩, ?_⟩
  have hd := hw.drew
  refine Own.add hd (L' := [fro _ _ _]) ?_
  refine ⟨rfl, rfl, rfl, Lo.refl _, by simp, fun k hk _ => ?_, by simp [fro], fun g hg => ?_, fun g hg => ?_, fun c hc => ?_⟩
  · show (w.heap.push _)[k]? = w.heap[k]?
    rw [Array.getElem?_push, if_neg (by have : k < w.heap.size := hk; omega)]
  · simp [fro] at hg; subst hg; exact .inr (Nat.le_refl _)
  · simp [fro] at hg; subst hg; simp
  · simp at hc; subst hc
    refine ⟨((bytesRow ⟨bs.toArray⟩ (grownCap w bs.length 0 e)).size, (bytesRow ⟨bs.toArray⟩ (grownCap w bs.length 0 e)).size + 1), ?_⟩
    show (w.heap.push _)[w.heap.size]? = _
    simp [bytesRow, byc, Lib.byteCells, size_str]
theorem byv_fro {g t cap : Nat} {bs : List UInt8} {sp : List Value} (hw : Own w0 K w L) (i : Nat) (hi : L[i]? = some (fro g t (byc bs ++ sp).toArray)) (h1 : bs.length ≤ cap) (h2 : cap ≤ 9223372036854775807) : ByV w (.slice (some ⟨g, 0, none⟩) bs.length cap) bs := by
  refine ⟨_, _, rfl, fun j u hj => ⟨_, rfl, ?_⟩, h1, h2⟩
  obtain ⟨fz, hg⟩ := hw.holds _ (List.mem_of_getElem? hi)
  rw [add_at0, cell_of_row w g j _ t fz hg]
  have hjl := (List.getElem?_eq_some_iff.1 hj).1
  simpa [List.getElem?_append_left hjl] using hj
end
end Go.Fl

set_option linter.unusedVariables false
set_option linter.unusedSimpArgs false
set_option maxRecDepth 100000
namespace Go.Fl
open Go Go.Proofs
theorem Raw_bad {vb : Value} {bs : List UInt8} {c a : Int} {w : World} (hB : ByV w vb bs) (h : rawF bs = .bad c a) :
    Calls Tryz.prog 38 #[vb] w (Ret w [] fun r M => M = [] ∧ c ≠ 0 ∧ r = .tuple #[.agg #[.int .i64 0, .slice none 0 0], .agg #[.int .i64 c, .int .i64 a]]) := by
  refine Calls.mono (Raw_calls hB) ?_
  rintro e w' ⟨v, L', rfl, ⟨n, ps, vp, h1, _⟩ | ⟨c', a', h1, h2, rfl, rfl⟩, hO⟩
  · rw [h] at h1; cases h1
  · rw [h] at h1; cases h1; exact ⟨_, _, rfl, ⟨rfl, h2, rfl⟩, hO⟩
theorem Read_bad {vb : Value} {bs : List UInt8} {c a : Int} {w : World} (hB : ByV w vb bs) (h : rawF bs = .bad c a) :
    Calls Tryz.prog 21 #[vb] w (Ret w [] fun r M => M = [] ∧ c ≠ 0 ∧ r = .tuple #[.agg #[.int .i64 0, .slice none 0 0], .agg #[.int .i64 c, .int .i64 a]]) := by
  refine calls_of (K := []) (args := [_]) (L := []) Tryz.func21 rfl Tryz.ntmps21 rfl (Own.start _ _) ?_
  refine Zs ?_
  refine Seq.new rfl rfl (n_alloc rfl ze24 rfl) fun g2 => ?_
  refine Seq.new rfl rfl (n_alloc rfl ze51 rfl) fun g3 => ?_
  refine Zx ?_
  refine Zs ?_
  refine Zm ?_
  refine Seq.rel0 rfl rfl (r_call en38 rfl rfl rfl (fun w hw => Raw_bad (hB.keep0 hw) h)) ?_
  rintro _ ⟨hc0, rfl⟩
  refine Zm ?_
  refine Ze ?_
  refine Ze ?_
  refine Seq.new rfl rfl (n_alloc rfl ze84 rfl) fun g4 => ?_
  refine Seq.new rfl rfl (n_alloc rfl ze51 rfl) fun g5 => ?_
  refine Seq.sto rfl rfl (s_stores (cs' := #[_, _]) rfl rfl rfl sz84 rfl (Nat.le_of_ble_eq_true rfl) rfl) ?_
  refine Seq.sto rfl rfl (s_stores (cs' := #[_, _]) rfl rfl rfl sz51 rfl (Nat.le_of_ble_eq_true rfl) rfl) ?_
  refine Zx ?_
  refine DC.seq ?_
  refine Zs ?_
  refine Zf fi51_0 ?_
  refine Zl ag29 ?_
  refine Seq.pur rfl rfl (p_neq rfl rfl rfl) ?_
  refine Zx ?_
  refine DC.cond rfl (fun c2 => ?_) (fun c2 => ?_)
  · refine DC.seq ?_
    refine DC.flow (cl := [.q, .q, .g, .g]) (A := [0, 0, 1, 7]) (order := [0, 1, 2, 3]) ([blk g5 51 #[.int .i64 c, .int .i64 a]]) mixed (by kernel_rfl) (fun w hw => hw.pick (.cons 0 rfl .nil)) ?_
    refine Flow.pur rfl rfl rfl (p_struct (cs := #[_, _]) rfl rfl bs24 rfl rfl) ?_
    refine Flow.old rfl rfl rfl (v_loads (vs := [_, _]) rfl rfl ag51 sz51 rfl (hass_blk rfl)) ?_
    refine Flow.sto0 rfl rfl rfl rfl (s_stores (cs' := #[_, _]) rfl rfl rfl sz24 rfl (Nat.le_of_ble_eq_true rfl) rfl) (fun w hw => hw.pick (.cons 0 rfl .nil)) ?_
    refine Flow.sto0 rfl rfl rfl rfl (s_stores (cs' := #[_, _]) rfl rfl rfl sz51 rfl (Nat.le_of_ble_eq_true rfl) rfl) (fun w hw => hw.pick (.cons 0 rfl .nil)) ?_
    refine Flow.end rfl ?_
    simp only [List.map_cons, List.map_nil, List.nil_append, List.cons_append, List.append_nil]
    refine Fin.then ?_
    refine DC.ret ?_
    refine Fin.ret_then <| ?_
    refine Fin.endcc (cs := #[_, _]) (cs' := #[_, _]) (.inl rfl) rfl rfl rfl ag24 sz24 ag51 sz51 ?_
    exact ⟨[], fun w hw => hw.pick .nil, rfl, hc0, rfl⟩
  · exact absurd c2 (by simpa using hc0)
theorem Bytes_bad {vb vc : Value} {bs : List UInt8} {c a : Int} {w : World} (hB : ByV w vb bs) (h : rawF bs = .bad c a) :
    Calls Tryz.prog 19 #[vb, vc] w (Ret w [] fun r M => M = [] ∧ r = .int .i64 180) := by
  refine calls_of (K := []) (args := [_, _]) (L := []) Tryz.func19 rfl Tryz.ntmps19 rfl (Own.start _ _) ?_
  refine Zs ?_
  refine Za ?_
  refine Zx ?_
  refine Zs ?_
  refine Zm ?_
  refine Seq.rel0 rfl rfl (r_call en21 rfl rfl rfl (fun w hw => Read_bad (hB.keep0 hw) h)) ?_
  rintro _ ⟨hc0, rfl⟩
  refine Zm ?_
  refine Ze ?_
  refine Ze ?_
  refine Seq.new rfl rfl (n_alloc rfl ze24 rfl) fun g5 => ?_
  refine Seq.new rfl rfl (n_alloc rfl ze51 rfl) fun g6 => ?_
  refine Seq.sto rfl rfl (s_stores (cs' := #[_, _]) rfl rfl rfl sz24 rfl (Nat.le_of_ble_eq_true rfl) rfl) ?_
  refine Seq.sto rfl rfl (s_stores (cs' := #[_, _]) rfl rfl rfl sz51 rfl (Nat.le_of_ble_eq_true rfl) rfl) ?_
  refine Zx ?_
  refine DC.seq ?_
  refine Zs ?_
  refine Zf fi51_0 ?_
  refine Zl ag29 ?_
  refine Seq.pur rfl rfl (p_neq rfl rfl rfl) ?_
  refine Zx ?_
  refine DC.cond rfl (fun c2 => ?_) (fun c2 => ?_)
  · refine Zs ?_
    refine Za ?_
    refine Zx ?_
    refine DC.ret ?_
    refine Fin.ret_then <| ?_
    refine Fin.weak (E' := [(4, _)]) ⟨rfl, trivial⟩ .nil ?_
    refine Fin.end1 (.inl rfl) rfl rfl ?_
    exact ⟨rfl, rfl⟩
  · exact absurd c2 (by simpa using hc0)
theorem four_calls {w : World} : Calls Tryz.prog 29 #[] w (Ret w [] fun r M => ∃ g, r = .agg #[.int .i64 4, .slice (some ⟨g, 0, none⟩) 6 6] ∧ M = [blk g 43 (prs es4).toArray]) := by
  refine calls_of (K := []) (args := []) (L := []) Tryz.func29 rfl Tryz.ntmps29 rfl (Own.start _ _) ?_
  refine Zs ?_
  refine Seq.new rfl rfl (n_alloc rfl ze24 rfl) fun g0 => ?_
  refine Zx ?_
  refine Zs ?_
  refine Seq.pur rfl rfl (p_struct (cs := #[_, _]) rfl rfl bs43 rfl rfl) ?_
  refine Seq.pur rfl rfl (p_struct (cs := #[_, _]) rfl rfl bs43 rfl rfl) ?_
  refine Seq.pur rfl rfl (p_struct (cs := #[_, _]) rfl rfl bs43 rfl rfl) ?_
  refine Seq.pur rfl rfl (p_struct (cs := #[_, _]) rfl rfl bs43 rfl rfl) ?_
  refine Seq.pur rfl rfl (p_struct (cs := #[_, _]) rfl rfl bs43 rfl rfl) ?_
  refine Seq.pur rfl rfl (p_struct (cs := #[_, _]) rfl rfl bs43 rfl rfl) ?_
  refine Seq.new rfl rfl (n_slit (cs := #[_, _, _, _, _, _, _, _, _, _, _, _]) rfl rfl Tryz.underlying22 sz43 ze43 rfl (by decide) (by decide) rfl rfl) fun g7 => ?_
  refine Seq.pur rfl rfl (p_struct (cs := #[_, _]) rfl rfl bs24 rfl rfl) ?_
  refine Seq.sto rfl rfl (s_stores (cs' := #[_, _]) rfl rfl rfl sz24 rfl (Nat.le_of_ble_eq_true rfl) rfl) ?_
  refine Zx ?_
  refine DC.ret ?_
  refine Fin.endc (cs := #[_, _]) (.inl rfl) rfl rfl ag24 sz24 ?_
  exact ⟨_, fun w hw => hw.pick (.cons 0 rfl .nil), g7, rfl, rfl⟩
theorem lsv_blk4 {w0 w : World} {K : List Nat} {L : List Chunk} {g t : Nat} {v0 v1 v2 v3 : Value} {l0 l1 l2 l3 : List Int} [h : Find L g t #[v0, v1, v2, v3]] (hw : Own w0 K w L) (h0 : SlV w v0 l0) (h1 : SlV w v1 l1) (h2 : SlV w v2 l2) (h3 : SlV w v3 l3) :
    LsV w (.slice (some ⟨g, 0, none⟩) 4 4) [l0, l1, l2, l3] := by
  have hg := hw.holds _ h.mem
  refine ⟨some ⟨g, 0, none⟩, 4, rfl, fun i l hl => ?_, by simp, by decide, by simp⟩
  rcases lt4 hl with ⟨rfl, rfl⟩ | ⟨rfl, rfl⟩ | ⟨rfl, rfl⟩ | ⟨rfl, rfl⟩
  · exact ⟨_, v0, rfl, by rw [add_at0]; exact cellh hg rfl, h0⟩
  · exact ⟨_, v1, rfl, by rw [add_at0]; exact cellh hg rfl, h1⟩
  · exact ⟨_, v2, rfl, by rw [add_at0]; exact cellh hg rfl, h2⟩
  · exact ⟨_, v3, rfl, by rw [add_at0]; exact cellh hg rfl, h3⟩
theorem prv_nil {w : World} {c : Nat} (hc : c ≤ 9223372036854775807) : PrV w (.slice none 0 c) [] := ⟨none, c, rfl, fun j u h => by simp [prs] at h, Nat.zero_le _, hc, by simp⟩
theorem lsv_nil {w : World} {c : Nat} (hc : c ≤ 9223372036854775807) : LsV w (.slice none 0 c) [] := ⟨none, c, rfl, fun i l h => by simp at h, Nat.zero_le _, hc, by simp⟩
theorem wakes_calls {w : World} (hp : Pow w) : Calls Tryz.prog 9 #[] w (Ret w [] fun r M => M = [] ∧ r = .bool true) := by
  refine calls_of (K := []) (args := []) (L := []) Tryz.func9 rfl Tryz.ntmps9 rfl (Own.start _ _) ?_
  refine Zs ?_
  refine Za ?_
  refine Zx ?_
  refine Zs ?_
  refine Seq.rel rfl rfl (r_call en29 rfl rfl rfl (fun w hw => four_calls)) ?_
  rintro _ _ ⟨g5, rfl, rfl⟩
  simp only [List.cons_append, List.nil_append, List.append_nil]
  refine Seq.new rfl rfl (n_slit (cs := #[_, _, _]) rfl rfl Tryz.underlying44 sz3 ze3 rfl (by decide) (by decide) rfl rfl) fun g6 => ?_
  refine Seq.new rfl rfl (n_slit (cs := #[_, _, _]) rfl rfl Tryz.underlying44 sz3 ze3 rfl (by decide) (by decide) rfl rfl) fun g7 => ?_
  refine Seq.new rfl rfl (n_slit (cs := #[_, _, _]) rfl rfl Tryz.underlying44 sz3 ze3 rfl (by decide) (by decide) rfl rfl) fun g8 => ?_
  refine Seq.new rfl rfl (n_slit (cs := #[_, _, _]) rfl rfl Tryz.underlying44 sz3 ze3 rfl (by decide) (by decide) rfl rfl) fun g9 => ?_
  refine Seq.new rfl rfl (n_slit (cs := #[_, _, _, _]) rfl rfl Tryz.underlying25 sz44 ze44 rfl (by decide) (by decide) rfl rfl) fun g10 => ?_
  refine Seq.pur rfl rfl (p_struct (cs := #[_, _, _]) rfl rfl bs27 rfl rfl) ?_
  refine Seq.rel0 rfl rfl (r_call en10 rfl rfl rfl (fun w hw => Graph_calls (N := 4) (es := es4) (pl := true) (ls := lsA) (cs := []) (prv_blk (g := g5) hw rfl rfl (by decide)) (lsv_blk4 (g := g10) hw (slv_blk (g := g6) hw rfl rfl (by decide)) (slv_blk (g := g7) hw rfl rfl (by decide)) (slv_blk (g := g8) hw rfl rfl (by decide)) (slv_blk (g := g9) hw rfl rfl (by decide))) (prv_nil (by decide)) (hp.keep0 hw) (by decide))) ?_
  rintro _ rfl
  rw [chkA]
  refine Za ?_
  refine Zx ?_
  refine Zs ?_
  refine Seq.rel rfl rfl (r_call en29 rfl rfl rfl (fun w hw => four_calls)) ?_
  rintro _ _ ⟨g13, rfl, rfl⟩
  simp only [List.cons_append, List.nil_append, List.append_nil]
  refine Seq.new rfl rfl (n_slit (cs := #[_, _, _]) rfl rfl Tryz.underlying44 sz3 ze3 rfl (by decide) (by decide) rfl rfl) fun g14 => ?_
  refine Seq.new rfl rfl (n_slit (cs := #[_, _, _]) rfl rfl Tryz.underlying44 sz3 ze3 rfl (by decide) (by decide) rfl rfl) fun g15 => ?_
  refine Seq.new rfl rfl (n_slit (cs := #[_, _, _]) rfl rfl Tryz.underlying44 sz3 ze3 rfl (by decide) (by decide) rfl rfl) fun g16 => ?_
  refine Seq.new rfl rfl (n_slit (cs := #[_, _, _]) rfl rfl Tryz.underlying44 sz3 ze3 rfl (by decide) (by decide) rfl rfl) fun g17 => ?_
  refine Seq.new rfl rfl (n_slit (cs := #[_, _, _, _]) rfl rfl Tryz.underlying25 sz44 ze44 rfl (by decide) (by decide) rfl rfl) fun g18 => ?_
  refine Seq.pur rfl rfl (p_struct (cs := #[_, _, _]) rfl rfl bs27 rfl rfl) ?_
  refine Seq.rel0 rfl rfl (r_call en10 rfl rfl rfl (fun w hw => Graph_calls (N := 4) (es := es4) (pl := true) (ls := lsB) (cs := []) (prv_blk (g := g13) hw rfl rfl (by decide)) (lsv_blk4 (g := g18) hw (slv_blk (g := g14) hw rfl rfl (by decide)) (slv_blk (g := g15) hw rfl rfl (by decide)) (slv_blk (g := g16) hw rfl rfl (by decide)) (slv_blk (g := g17) hw rfl rfl (by decide))) (prv_nil (by decide)) (hp.keep0 hw) (by decide))) ?_
  rintro _ rfl
  rw [chkB]
  refine Za ?_
  refine Zx ?_
  refine Zs ?_
  refine Seq.rel rfl rfl (r_call en29 rfl rfl rfl (fun w hw => four_calls)) ?_
  rintro _ _ ⟨g21, rfl, rfl⟩
  simp only [List.cons_append, List.nil_append, List.append_nil]
  refine Seq.pur rfl rfl (p_struct (cs := #[_, _]) rfl rfl bs43 rfl rfl) ?_
  refine Seq.pur rfl rfl (p_struct (cs := #[_, _]) rfl rfl bs43 rfl rfl) ?_
  refine Seq.new rfl rfl (n_slit (cs := #[_, _, _, _]) rfl rfl Tryz.underlying22 sz43 ze43 rfl (by decide) (by decide) rfl rfl) fun g24 => ?_
  refine Seq.pur rfl rfl (p_struct (cs := #[_, _, _]) rfl rfl bs27 rfl rfl) ?_
  refine Seq.rel0 rfl rfl (r_call en10 rfl rfl rfl (fun w hw => Graph_calls (N := 4) (es := es4) (pl := false) (ls := []) (cs := cs4) (prv_blk (g := g21) hw rfl rfl (by decide)) (lsv_nil (by decide)) (prv_blk (g := g24) hw rfl rfl (by decide)) (hp.keep0 hw) (by simp))) ?_
  rintro _ rfl
  rw [chkC]
  refine Za ?_
  refine Zx ?_
  refine Zs ?_
  refine Seq.new rfl rfl (n_slit (cs := #[_, _, _, _, _, _, _, _]) rfl rfl Tryz.underlying47 sz5 ze5 rfl (by decide) (by decide) rfl rfl) fun g27 => ?_
  refine Seq.gen rfl rfl (g_mark (cs := #[_, _, _, _, _, _, _, _]) rfl rfl Tryz.underlying47 Tryz.underlying5 (fun w hw => hw)) ?_
  rintro _ _ ⟨rfl, rfl⟩
  refine Seq.rel0 rfl rfl (r_call en19 rfl rfl rfl (fun w hw => Bytes_bad (bs := txt4) (c := 24) (a := 6) (byv_fro (bs := txt4) (cap := 8) (sp := []) hw 0 rfl (by decide) (by decide)) raw4)) ?_
  rintro _ rfl
  refine Za ?_
  refine Zx ?_
  refine Zs ?_
  refine Zm ?_
  refine Seq.pur rfl rfl (p_eql rfl rfl rfl) ?_
  refine Zm ?_
  refine Seq.split 32 rfl (fun k5_2 => ?_) (fun k5_2 => ?_)
  · refine Zm ?_
    refine Seq.pur rfl rfl (p_eql rfl rfl rfl) ?_
    refine Zt ?_
    refine Zm ?_
    refine Seq.split 36 rfl (fun k5_6 => ?_) (fun k5_6 => ?_)
    · refine Zm ?_
      refine Seq.pur rfl rfl (p_eql rfl rfl rfl) ?_
      refine Zt ?_
      refine Zm ?_
      refine Seq.split 40 rfl (fun k5_10 => ?_) (fun k5_10 => ?_)
      · refine Zm ?_
        refine Seq.pur rfl rfl (p_eql rfl rfl rfl) ?_
        refine Zt ?_
        refine Za ?_
        refine Zx ?_
        refine DC.ret ?_
        refine Fin.weak (E' := [(0, _)]) ⟨rfl, trivial⟩ .nil ?_
        refine Fin.end1 (.inl rfl) rfl rfl ?_
        exact ⟨rfl, rfl⟩
      · exact absurd k5_10 (by decide)
    · exact absurd k5_6 (by decide)
  · exact absurd k5_2 (by decide)
end Go.Fl

set_option linter.unusedVariables false
set_option linter.unusedSimpArgs false
set_option maxRecDepth 100000
namespace Go.Fl
open Go Go.Proofs
open Classical
theorem deg_none {es : List Pr} {v : Int} (h : ∀ e, e ∈ es → e.1 ≠ v ∧ e.2 ≠ v) : degV es v = 0 := by
  unfold degV
  rw [List.length_eq_zero_iff, List.eq_nil_iff_forall_not_mem]
  intro x hx
  obtain ⟨i, e, he, h1⟩ := mem_outsF.1 hx
  have := h e (List.mem_of_getElem? he)
  rcases h1 with ⟨h2, _⟩ | ⟨_, h2, _⟩
  · exact this.1 h2
  · exact this.2 h2
theorem brV_more {es : List Pr} {n : Nat} (h : degV es n = 0) : brV es (n + 1) = brV es n := by
  unfold brV
  rw [List.range_succ, List.filter_append]
  simp [h]
theorem kura_more {es : List Pr} {n : Nat} (h : degV es n = 0) : KuraOk (n + 1) es ↔ KuraOk n es := by unfold KuraOk; rw [brV_more h]
theorem vld_more {N : Int} {es : List Pr} (hV : Vld N es) (h : N < 1048576) : Vld (N + 1) es :=
  ⟨by have := hV.lo; omega, by omega, hV.few, fun i e he => by have := hV.ok i e he; exact ⟨this.lo, this.lt, by have := this.hi; omega⟩, hV.up⟩
theorem chk_zero {N : Int} {es cs : List Pr} {pl : Bool} {ls : List (List Int)} (h : chkF N es pl ls cs = 0) :
    Vld N es ∧ TextOk pl ls cs ∧ (pl = true → RotOk N es ls) ∧ (pl = false → (∀ c, c ∈ cs → c ∈ es) ∧ KuraOk N.toNat cs) := by
  unfold chkF at h
  split at h
  · cases h
  rename_i h1
  split at h
  · cases h
  rename_i h2
  refine ⟨not_not.1 h1, not_not.1 h2, fun hp => ?_, fun hp => ?_⟩
  · rw [if_pos hp] at h
    split at h
    · cases h
    · rename_i h3; exact not_not.1 h3
  · subst hp
    rw [if_neg (by decide)] at h
    split at h
    · cases h
    rename_i h3
    split at h
    · cases h
    rename_i h4
    exact ⟨not_not.1 h3, not_not.1 h4⟩
theorem chk_more {N : Int} {es cs : List Pr} {pl : Bool} {ls : List (List Int)} (h : chkF N es pl ls cs = 0) (hN : N < 1048576) : chkF (N + 1) es pl ls cs = if pl then 182 else 0 := by
  obtain ⟨hV, hT, hp, hk⟩ := chk_zero h
  have hV' := vld_more hV hN
  unfold chkF
  rw [if_neg (not_not_intro hV'), if_neg (not_not_intro hT)]
  cases pl
  · obtain ⟨h1, h2⟩ := hk rfl
    have hd : degV cs (N.toNat : Int) = 0 := deg_none fun e he => by
      obtain ⟨i, hi⟩ := List.mem_iff_getElem?.1 (h1 e he)
      have := hV.ok i e hi
      have h3 := this.lo; have h4 := this.lt; have h5 := this.hi
      omega
    have e : (N + 1).toNat = N.toNat + 1 := by have := hV.lo; omega
    rw [if_neg (by decide), if_neg (not_not_intro h1), if_neg (not_not_intro (show KuraOk (N + 1).toNat cs by rw [e]; exact (kura_more hd).2 h2))]
    rfl
  · have hr := hp rfl
    rw [if_pos rfl, if_pos]
    · rfl
    · intro h3
      have h4 := hr.2.1; have h5 := h3.2.1
      omega
theorem cnt_pre {es es' : List Pr} {n : Nat} (h : ∀ v, v < n → cnt es v = cnt es' v) : pre es n = pre es' n := by
  induction n with
  | zero => rfl
  | succ n ih =>
    show pre es n + cnt es n = pre es' n + cnt es' n
    rw [ih (fun v hv => h v (by omega)), h n (by omega)]
theorem chk_grown {N : Int} {es es' cs : List Pr} {pl : Bool} {ls : List (List Int)} (h : chkF N es pl ls cs = 0) (hV' : Vld N es') (hsub : ∀ e, e ∈ es → e ∈ es') :
    (pl = false → chkF N es' pl ls cs = 0) ∧ (pl = true → es.length < es'.length → chkF N es' pl ls cs = 182) := by
  obtain ⟨hV, hT, hp, hk⟩ := chk_zero h
  unfold chkF
  rw [if_neg (not_not_intro hV'), if_neg (not_not_intro hT)]
  refine ⟨fun hpl => ?_, fun hpl hlt => ?_⟩
  · subst hpl
    obtain ⟨h1, h2⟩ := hk rfl
    rw [if_neg (by decide), if_neg (not_not_intro (fun c hc => hsub c (h1 c hc))), if_neg (not_not_intro h2)]
  · subst hpl
    have hr := hp rfl
    rw [if_pos rfl, if_pos]
    intro h3
    have hcnt : ∀ v, v < N.toNat → cnt es v = cnt es' v := by
      intro v hv
      obtain ⟨l, hl⟩ : ∃ l, ls[v]? = some l := ⟨_, List.getElem?_eq_getElem (by have := hr.2.1; omega)⟩
      rw [← (hr.2.2 v l hl).2.2, ← (h3.2.2 v l hl).2.2]
    have := cnt_pre hcnt
    rw [pre_all hV, pre_all hV'] at this
    omega
theorem nrm_of {e : Pr} (h : e.1 < e.2) : nrm e = e := by unfold nrm; rw [Int.min_eq_left (by omega), Int.max_eq_right (by omega)]
theorem mks_self {N : Int} {es es' : List Pr} (hV : Vld N es) (h : MkS es es') : es' = es := by
  refine lex_ext h.1 (vld_pairwise hV) fun x => ?_
  rw [h.2]
  constructor
  · rintro ⟨p, hp, _, rfl⟩
    obtain ⟨i, hi⟩ := List.mem_iff_getElem?.1 hp
    rw [nrm_of (hV.ok i p hi).lt]; exact hp
  · intro hx
    obtain ⟨i, hi⟩ := List.mem_iff_getElem?.1 hx
    have := (hV.ok i x hi).lt
    exact ⟨x, hx, by omega, (nrm_of this).symm⟩
theorem mks_vld {N : Int} {ps es : List Pr} (h0 : 0 ≤ N) (h1 : N ≤ 1048576) (hin : ∀ p, p ∈ ps → InR N p) (h : MkS ps es) (hl : es.length ≤ 4194304) : Vld N es := by
  refine ⟨h0, h1, hl, fun i e he => ?_, fun i a b ha hb => ?_⟩
  · obtain ⟨p, hp, hne, rfl⟩ := (h.2 e).1 (List.mem_of_getElem? he)
    have := hin p hp
    unfold InR at this
    unfold nrm
    exact ⟨by simp only; omega, by simp only; omega, by simp only; omega⟩
  · obtain ⟨hi, ei⟩ := List.getElem?_eq_some_iff.1 ha
    obtain ⟨hj, ej⟩ := List.getElem?_eq_some_iff.1 hb
    have := List.pairwise_iff_getElem.1 h.1 i (i + 1) hi hj (by omega)
    rw [ei, ej] at this; exact this
theorem mks_sub {N : Int} {es es' : List Pr} {m : Pr} (hV : Vld N es) (h : MkS (es ++ [m]) es') : ∀ e, e ∈ es → e ∈ es' := by
  intro e he
  obtain ⟨i, hi⟩ := List.mem_iff_getElem?.1 he
  have := (hV.ok i e hi).lt
  exact (h.2 e).2 ⟨e, List.mem_append_left _ he, by omega, (nrm_of this).symm⟩
theorem vld_inr {N : Int} {es : List Pr} (hV : Vld N es) (p : Pr) (hp : p ∈ es) : InR N p := by
  obtain ⟨i, hi⟩ := List.mem_iff_getElem?.1 hp
  have := hV.ok i p hi
  have h1 := this.lo; have h2 := this.lt; have h3 := this.hi
  exact ⟨h1, by omega, by omega, h3⟩
/-- Make of a graph's own pairs, with one vertex more. -/
theorem make_self {N : Int} {es : List Pr} {r : Value} {M : List Chunk} (hV : Vld N es) (hN : N < 1048576) (h : MakeR (N + 1) es r M) : ∃ v, r = .tuple #[.agg #[.int .i64 (N + 1), v], .int .i64 0] ∧ M = [slc v 43 2 (prs es)] := by
  have hV' := vld_more hV hN
  rcases h with ⟨_, _, es', v, h1, h2, rfl, rfl⟩ | ⟨e, _, _, _, h1 | ⟨p, hp, h2⟩ | ⟨es', h2, h3⟩⟩
  · rw [mks_self hV h1]; exact ⟨v, rfl, rfl⟩
  · have := hV.lo; omega
  · exact absurd (vld_inr hV' p hp) h2
  · rw [mks_self hV h2] at h3; have := hV.few; omega
end Go.Fl

set_option linter.unusedVariables false
set_option linter.unusedSimpArgs false
set_option maxRecDepth 100000
namespace Go.Fl
open Go Go.Proofs
theorem r17number_calls (a : Int) (w : World) : Calls Tryz.prog 99 #[.int .i64 a] w (Ret w [] fun v L => L = [] ∧ ∃ b, v = .bool b ∧ (b = true ↔ Fits a)) := by
  refine calls_of (args := [_]) (L := []) Tryz.func99 rfl Tryz.ntmps99 rfl (Own.start _ _) ?_
  refine Zs ?_
  refine Za ?_
  refine Zx ?_
  refine Zs ?_
  refine Zm ?_
  refine Seq.pur rfl rfl (p_geq rfl rfl rfl) ?_
  refine Zm ?_
  refine Seq.split 5 rfl (fun k1_2 => ?_) (fun k1_2 => ?_)
  · refine Zm ?_
    refine Seq.pur rfl rfl (p_leq rfl rfl rfl) ?_
    refine Zt ?_
    refine Za ?_
    refine Zx ?_
    refine DC.ret ?_
    refine Fin.end1 (.inl rfl) rfl rfl ?_
    refine ⟨rfl, _, rfl, ?_⟩
    unfold Fits
    first
    | (simp at k1_2 ⊢; omega)
  · refine Zk ?_
    refine Zk ?_
    refine Zg ?_
    refine Za ?_
    refine Zx ?_
    refine DC.ret ?_
    refine Fin.end1 (.inl rfl) rfl rfl ?_
    refine ⟨rfl, _, rfl, ?_⟩
    unfold Fits
    first
    | (simp at k1_2 ⊢; omega)
theorem r17lists_calls {ls : List (List Int)} {v : Value} {w : World} (hv : LsV w v ls) : Calls Tryz.prog 60 #[v] w (Ret w [] fun v L => L = [] ∧ ∃ b, v = .bool b ∧ (b = true ↔ ListsOk ls)) := by
  obtain ⟨A, cap, rfl, hr, hlc, hcm, hle⟩ := hv
  refine calls_of (args := [_]) (L := []) Tryz.func60 rfl Tryz.ntmps60 rfl (Own.start _ _) ?_
  refine Zs ?_
  refine Za ?_
  refine Zx ?_
  refine DC.seq ?_
  refine Zs ?_
  refine Za ?_
  refine Zx ?_
  refine DC.block ?_
  refine DC.loop (ι := Nat) (fun i => i ≤ ls.length ∧ ∀ (j : Nat) l, j < i → ls[j]? = some l → ListOk l)
    (fun i => [(0, .slice A ls.length cap), (3, .int .i64 i)]) (fun i => []) (fun i => ls.length - i) 0 ⟨Nat.zero_le _, fun _ _ h => absurd h (Nat.not_lt_zero _)⟩ ⟨rfl, rfl, trivial⟩ .nil ?_
  rintro i ⟨hi, hok⟩
  refine DC.seq ?_
  refine Zs ?_
  refine Zm ?_
  refine Zm ?_
  refine Zn Tryz.underlying25 ?_
  refine Zc ?_
  refine Zx ?_
  refine DC.cond rfl (fun c2 => ?_) (fun c2 => ?_)
  · have hlt : i < ls.length := by simpa using c2
    obtain ⟨l, hl⟩ : ∃ l, ls[i]? = some l := ⟨_, List.getElem?_eq_getElem hlt⟩
    obtain ⟨ad, lv, rfl, hc, Al, capl, rfl, hrl, hl1, hl2, hl3⟩ := hr i l hl
    refine DC.skip ?_
    refine Fin.then ?_
    refine DC.seq ?_
    refine DC.block ?_
    refine Zs ?_
    refine Za ?_
    refine Zx ?_
    refine DC.block ?_
    refine DC.loop (ι := Nat) (fun k => k ≤ l.length ∧ ∀ (j : Nat) x a, j < k → l[j]? = some x → l[0]? = some a → Fits x ∧ a ≤ x)
      (fun k => [(0, .slice (some ad) ls.length cap), (3, .int .i64 i), (4, .int .i64 k)])
      (fun k => []) (fun k => l.length - k) 0 ⟨Nat.zero_le _, fun _ _ _ h => absurd h (Nat.not_lt_zero _)⟩ ⟨rfl, rfl, rfl, trivial⟩ .nil ?_
    rintro k ⟨hk, hokl⟩
    refine DC.seq ?_
    refine Zs ?_
    refine Zm ?_
    refine Zm ?_
    refine Zm ?_
    refine Seq.pur rfl rfl (p_index1 (ad' := ad.add i) rfl rfl rfl Tryz.underlying25 sz44 (by omega) (by omega) rfl) ?_
    refine Seq.val rfl rfl (v_load rfl rfl ag44 (has_old' hc)) ?_
    refine Zn Tryz.underlying44 ?_
    refine Zc ?_
    refine Zx ?_
    refine DC.cond rfl (fun c5 => ?_) (fun c5 => ?_)
    · have hlt2 : k < l.length := by simpa using c5
      obtain ⟨x, hx⟩ : ∃ x, l[k]? = some x := ⟨_, List.getElem?_eq_getElem hlt2⟩
      obtain ⟨a, ha⟩ : ∃ a, l[0]? = some a := ⟨_, List.getElem?_eq_getElem (by omega)⟩
      obtain ⟨adl, rfl, hcx⟩ := hrl.int hx
      obtain ⟨adl', e', hca⟩ := hrl.int ha
      cases e'
      refine DC.skip ?_
      refine Fin.then ?_
      refine DC.seq ?_
      refine DC.block ?_
      refine DC.seq ?_
      refine DC.flow (cl := [.q, .q, .q, .v, .q, .q, .v, .r, .q, .q, .q, .q, .q, .v, .q, .q, .v, .q, .q, .q, .v, .q, .v, .q, .q]) (A := [0, 0, 3, 7, 0, 31, 63, 127, 255, 511, 1023, 1023, 4095, 8191, 1023, 32767, 65535, 1023, 1023, 394239, 918527, 1967103, 4064255, 8388607, 16777215]) (order := [0, 1, 2, 3, 4, 5, 6, 7, 8, 9, 10, 11, 12, 13, 14, 15, 16, 17, 18, 19, 20, 21, 22, 23, 24]) [] mixed (by kernel_rfl) (fun w hw => hw.pick .nil) ?_
      refine Ym ?_
      refine Ym ?_
      refine Flow.pur rfl rfl rfl (p_index1 (ad' := ad.add i) rfl rfl rfl Tryz.underlying25 sz44 (by omega) (by omega) rfl) ?_
      refine Flow.valS rfl rfl rfl rfl (v_load rfl rfl ag44 (has_old' hc)) ?_
      refine Ym ?_
      refine Flow.pur rfl rfl rfl (p_index1 (ad' := adl.add k) rfl rfl rfl Tryz.underlying44 sz3 (by omega) (by omega) rfl) ?_
      refine Flow.valS rfl rfl rfl rfl (v_load rfl rfl ag3 (has_old' hcx)) ?_
      refine Flow.rel0 rfl rfl rfl rfl (r_call en99 rfl rfl rfl (fun w' hw => r17number_calls x w')) ?_
      rintro _ ⟨b1, rfl, hb1⟩
      refine Flow.pur rfl rfl rfl (p_not rfl rfl) ?_
      refine Ym ?_
      refine Flow.split 29 rfl (fun k7_9 => ?_) (fun k7_9 => ?_)
      · refine Yk ?_
        refine Yk ?_
        refine Yk ?_
        refine Yk ?_
        refine Yk ?_
        refine Yk ?_
        refine Yk ?_
        refine Yk ?_
        refine Yk ?_
        refine Yk ?_
        refine Yk ?_
        refine Yk ?_
        refine Yk ?_
        refine Yk ?_
        refine Flow.pur rfl rfl rfl (p_pick_t rfl rfl rfl) ?_
        refine Flow.end rfl ?_
        simp only [List.map_cons, List.map_nil, List.nil_append, List.cons_append, List.append_nil]
        refine Fin.then ?_
        refine DC.cond_t rfl ?_
        refine Zs ?_
        refine Za ?_
        refine Zx ?_
        refine DC.ret ?_
        refine Fin.ret_block <| Fin.ret_then <| Fin.ret_then <| Fin.ret_block <| Fin.ret_block <| Fin.ret_then <| Fin.ret_then <| Fin.ret_block <| Fin.ret_then <| ?_
        refine Fin.weak (E' := [(2, _)]) ⟨rfl, trivial⟩ .nil ?_
        refine Fin.end1 (.inl rfl) rfl rfl ?_
        refine ⟨rfl, false, rfl, by simp; rintro ⟨_, h2⟩; have := h2 i l hl k x a hx ha; simp_all⟩
      · refine Ym ?_
        refine Ym ?_
        refine Flow.pur rfl rfl rfl (p_index1 (ad' := ad.add i) rfl rfl rfl Tryz.underlying25 sz44 (by omega) (by omega) rfl) ?_
        refine Flow.valS rfl rfl rfl rfl (v_load rfl rfl ag44 (has_old' hc)) ?_
        refine Ym ?_
        refine Flow.pur rfl rfl rfl (p_index1 (ad' := adl.add k) rfl rfl rfl Tryz.underlying44 sz3 (by omega) (by omega) rfl) ?_
        refine Flow.valS rfl rfl rfl rfl (v_load rfl rfl ag3 (has_old' hcx)) ?_
        refine Ym ?_
        refine Ym ?_
        refine Flow.pur rfl rfl rfl (p_index1 (ad' := ad.add i) rfl rfl rfl Tryz.underlying25 sz44 (by omega) (by omega) rfl) ?_
        refine Flow.valS rfl rfl rfl rfl (v_load rfl rfl ag44 (has_old' hc)) ?_
        refine Flow.pur rfl rfl rfl (p_index1 (ad' := adl.add 0) rfl rfl rfl Tryz.underlying44 sz3 (by omega) (by omega) rfl) ?_
        refine Flow.valS rfl rfl rfl rfl (v_load rfl rfl ag3 (has_old' hca)) ?_
        refine Flow.pur rfl rfl rfl (p_lss rfl rfl rfl) ?_
        refine Flow.pur rfl rfl rfl (p_pick_f rfl rfl rfl) ?_
        refine Flow.end rfl ?_
        simp only [List.map_cons, List.map_nil, List.nil_append, List.cons_append, List.append_nil]
        refine Fin.then ?_
        refine DC.cond rfl (fun c7 => ?_) (fun c7 => ?_)
        · refine Zs ?_
          refine Za ?_
          refine Zx ?_
          refine DC.ret ?_
          refine Fin.ret_block <| Fin.ret_then <| Fin.ret_then <| Fin.ret_block <| Fin.ret_block <| Fin.ret_then <| Fin.ret_then <| Fin.ret_block <| Fin.ret_then <| ?_
          refine Fin.weak (E' := [(2, _)]) ⟨rfl, trivial⟩ .nil ?_
          refine Fin.end1 (.inl rfl) rfl rfl ?_
          refine ⟨rfl, false, rfl, by simp; rintro ⟨_, h2⟩; have := h2 i l hl k x a hx ha; simp_all; omega⟩
        · refine DC.skip ?_
          refine Fin.inBlock ?_
          refine Fin.then ?_
          refine DC.region ?_
          refine Zm ?_
          refine Zp ?_
          refine Za ?_
          refine Seq.nil ?_
          refine Fin.again (k + 1) (by omega) ⟨by omega, ?_⟩ ⟨rfl, rfl, rfl, trivial⟩ .nil
          intro j x' a' hj hx' ha'
          rcases Nat.lt_succ_iff_lt_or_eq.1 hj with hj | rfl
          · exact hokl j x' a' hj hx' ha'
          · rw [hx] at hx'; cases hx'; rw [ha] at ha'; cases ha'
            simp at k7_9 c7
            exact ⟨hb1.1 k7_9, by omega⟩
    · refine DC.exit ?_
      refine Fin.exit_then <| Fin.exit_then <| Fin.exit_here <| ?_
      refine Fin.inBlock ?_
      refine Fin.then ?_
      refine DC.region ?_
      refine Zm ?_
      refine Zp ?_
      refine Za ?_
      refine Seq.nil ?_
      have hkl : k = l.length := by simp at c5; omega
      subst hkl
      refine Fin.again (i + 1) (by omega) ⟨by omega, ?_⟩ ⟨rfl, rfl, trivial⟩ .nil
      intro j l' hj hl'
      rcases Nat.lt_succ_iff_lt_or_eq.1 hj with hj | rfl
      · exact hok j l' hj hl'
      · rw [hl] at hl'; cases hl'
        intro q x' a' hq ha'
        exact hokl q x' a' (List.getElem?_eq_some_iff.1 hq).1 hq ha'
  · refine DC.exit ?_
    refine Fin.exit_then <| Fin.exit_then <| Fin.exit_here <| ?_
    refine Fin.then ?_
    refine Zs ?_
    refine Zm ?_
    refine Zn Tryz.underlying25 ?_
    refine Seq.pur rfl rfl (p_leq rfl rfl rfl) ?_
    refine Za ?_
    refine Zx ?_
    refine DC.ret ?_
    refine Fin.weak (E' := [(2, _)]) ⟨rfl, trivial⟩ .nil ?_
    refine Fin.end1 (.inl rfl) rfl rfl ?_
    have hil : i = ls.length := by simp at c2; omega
    subst hil
    refine ⟨rfl, _, rfl, ?_⟩
    constructor
    · intro h
      exact ⟨by simp at h; omega, fun j l hl => hok j l (List.getElem?_eq_some_iff.1 hl).1 hl⟩
    · intro h
      have := h.1
      simp; omega
theorem r17edges_calls {es : List Pr} {v : Value} {w : World} (hv : PrV w v es) : Calls Tryz.prog 61 #[v] w (Ret w [] fun v L => L = [] ∧ ∃ b, v = .bool b ∧ (b = true ↔ EdgesOk es)) := by
  obtain ⟨A, cap, rfl, hr, hlc, hcm, hle⟩ := hv
  refine calls_of (args := [_]) (L := []) Tryz.func61 rfl Tryz.ntmps61 rfl (Own.start _ _) ?_
  refine Zs ?_
  refine Za ?_
  refine Zx ?_
  refine DC.seq ?_
  refine Zs ?_
  refine Za ?_
  refine Zx ?_
  refine DC.block ?_
  refine DC.loop (ι := Nat) (fun i => i ≤ es.length ∧ (∀ (j : Nat) e, j < i → es[j]? = some e → Fits e.1 ∧ Fits e.2 ∧ e.1 < e.2) ∧ ∀ (j : Nat) a b, j + 1 < i → es[j]? = some a → es[j + 1]? = some b → Lex a b)
    (fun i => [(0, .slice A es.length cap), (3, .int .i64 i)])
    (fun i => []) (fun i => es.length - i) 0 ⟨Nat.zero_le _, fun _ _ h => absurd h (Nat.not_lt_zero _), fun _ _ _ h => absurd h (Nat.not_lt_zero _)⟩ ⟨rfl, rfl, trivial⟩ .nil ?_
  rintro i ⟨hi, hok, hup⟩
  refine DC.seq ?_
  refine Zs ?_
  refine Zm ?_
  refine Zm ?_
  refine Zn Tryz.underlying22 ?_
  refine Zc ?_
  refine Zx ?_
  refine DC.cond rfl (fun c2 => ?_) (fun c2 => ?_)
  · have hlt : i < es.length := by simpa using c2
    obtain ⟨e, he⟩ : ∃ e, es[i]? = some e := ⟨_, List.getElem?_eq_getElem hlt⟩
    obtain ⟨ad, rfl, hU, hV⟩ := hr.pair he
    refine DC.skip ?_
    refine Fin.then ?_
    refine DC.seq ?_
    refine DC.block ?_
    refine DC.seq ?_
    refine DC.seq ?_
    refine DC.flow (cl := [.q, .q, .q, .q, .v, .r, .q, .q, .q, .q, .q, .q, .v, .r, .q, .q, .q, .q, .q, .q, .q, .v, .q, .q, .q, .q, .v, .q, .q]) (A := [0, 0, 3, 7, 15, 31, 63, 127, 255, 255, 1023, 2047, 4095, 8191, 16383, 32767, 65535, 131071, 131071, 524287, 1048575, 2097151, 131071, 131071, 12713983, 29491199, 63045631, 134217727, 268435455]) (order := [0, 1, 2, 3, 4, 5, 6, 7, 8, 9, 10, 11, 12, 13, 14, 15, 16, 17, 18, 19, 20, 21, 22, 23, 24, 25, 26, 27, 28]) [] mixed (by kernel_rfl) (fun w hw => hw.pick .nil) ?_
    refine Ym ?_
    refine Ym ?_
    refine Flow.pur rfl rfl rfl (p_index (ad' := ad.add (i * 2)) rfl rfl rfl Tryz.underlying22 sz43 (by omega) (by omega) rfl) ?_
    refine Flow.pur rfl rfl rfl (p_field (ad' := ad.add (i * 2)) rfl rfl fi43_0 (by simp [Addr.add])) ?_
    refine Flow.valS rfl rfl rfl rfl (v_load rfl rfl ag3 (has_old' hU)) ?_
    refine Flow.rel0 rfl rfl rfl rfl (r_call en99 rfl rfl rfl (fun w' hw => r17number_calls e.1 w')) ?_
    rintro _ ⟨b1, rfl, hb1⟩
    refine Flow.pur rfl rfl rfl (p_not rfl rfl) ?_
    refine Ym ?_
    refine Flow.split 17 rfl (fun k4_7 => ?_) (fun k4_7 => ?_)
    · refine Yk ?_
      refine Yk ?_
      refine Yk ?_
      refine Yk ?_
      refine Yk ?_
      refine Yk ?_
      refine Yk ?_
      refine Flow.pur rfl rfl rfl (p_pick_t rfl rfl rfl) ?_
      refine Ym ?_
      refine Yk ?_
      refine Yk ?_
      refine Yk ?_
      refine Yk ?_
      refine Yk ?_
      refine Yk ?_
      refine Yk ?_
      refine Yk ?_
      refine Yk ?_
      refine Yk ?_
      refine Yk ?_
      refine Flow.pur rfl rfl rfl (p_pick_t rfl rfl rfl) ?_
      refine Flow.end rfl ?_
      simp only [List.map_cons, List.map_nil, List.nil_append, List.cons_append, List.append_nil]
      refine Fin.then ?_
      refine DC.cond_t rfl ?_
      refine Zs ?_
      refine Za ?_
      refine Zx ?_
      refine DC.ret ?_
      refine Fin.ret_then <| Fin.ret_block <| Fin.ret_then <| Fin.ret_then <| Fin.ret_block <| Fin.ret_then <| ?_
      refine Fin.weak (E' := [(2, _)]) ⟨rfl, trivial⟩ .nil ?_
      refine Fin.end1 (.inl rfl) rfl rfl ?_
      exact ⟨rfl, false, rfl, by simp; intro h; have := h.ok i e he; simp_all⟩
    · refine Ym ?_
      refine Ym ?_
      refine Flow.pur rfl rfl rfl (p_index (ad' := ad.add (i * 2)) rfl rfl rfl Tryz.underlying22 sz43 (by omega) (by omega) rfl) ?_
      refine Flow.pur rfl rfl rfl (p_field (ad' := ad.add (i * 2 + 1)) rfl rfl fi43_1 (add_add _ _ _ (by decide))) ?_
      refine Flow.valS rfl rfl rfl rfl (v_load rfl rfl ag3 (has_old' hV)) ?_
      refine Flow.rel0 rfl rfl rfl rfl (r_call en99 rfl rfl rfl (fun w' hw => r17number_calls e.2 w')) ?_
      rintro _ ⟨b2, rfl, hb2⟩
      refine Flow.pur rfl rfl rfl (p_not rfl rfl) ?_
      refine Flow.pur rfl rfl rfl (p_pick_f rfl rfl rfl) ?_
      refine Ym ?_
      refine Flow.split 26 rfl (fun k4_16 => ?_) (fun k4_16 => ?_)
      · refine Yk ?_
        refine Yk ?_
        refine Yk ?_
        refine Yk ?_
        refine Yk ?_
        refine Yk ?_
        refine Yk ?_
        refine Yk ?_
        refine Yk ?_
        refine Yk ?_
        refine Yk ?_
        refine Flow.pur rfl rfl rfl (p_pick_t rfl rfl rfl) ?_
        refine Flow.end rfl ?_
        simp only [List.map_cons, List.map_nil, List.nil_append, List.cons_append, List.append_nil]
        refine Fin.then ?_
        refine DC.cond_t rfl ?_
        refine Zs ?_
        refine Za ?_
        refine Zx ?_
        refine DC.ret ?_
        refine Fin.ret_then <| Fin.ret_block <| Fin.ret_then <| Fin.ret_then <| Fin.ret_block <| Fin.ret_then <| ?_
        refine Fin.weak (E' := [(2, _)]) ⟨rfl, trivial⟩ .nil ?_
        refine Fin.end1 (.inl rfl) rfl rfl ?_
        exact ⟨rfl, false, rfl, by simp; intro h; have := h.ok i e he; simp_all⟩
      · refine Ym ?_
        refine Ym ?_
        refine Flow.pur rfl rfl rfl (p_index (ad' := ad.add (i * 2)) rfl rfl rfl Tryz.underlying22 sz43 (by omega) (by omega) rfl) ?_
        refine Flow.pur rfl rfl rfl (p_field (ad' := ad.add (i * 2)) rfl rfl fi43_0 (by simp [Addr.add])) ?_
        refine Flow.valS rfl rfl rfl rfl (v_load rfl rfl ag3 (has_old' hU)) ?_
        refine Ym ?_
        refine Ym ?_
        refine Flow.pur rfl rfl rfl (p_index (ad' := ad.add (i * 2)) rfl rfl rfl Tryz.underlying22 sz43 (by omega) (by omega) rfl) ?_
        refine Flow.pur rfl rfl rfl (p_field (ad' := ad.add (i * 2 + 1)) rfl rfl fi43_1 (add_add _ _ _ (by decide))) ?_
        refine Flow.valS rfl rfl rfl rfl (v_load rfl rfl ag3 (has_old' hV)) ?_
        refine Flow.pur rfl rfl rfl (p_geq rfl rfl rfl) ?_
        refine Flow.pur rfl rfl rfl (p_pick_f rfl rfl rfl) ?_
        refine Flow.end rfl ?_
        simp only [List.map_cons, List.map_nil, List.nil_append, List.cons_append, List.append_nil]
        refine Fin.then ?_
        refine DC.cond rfl (fun c4 => ?_) (fun c4 => ?_)
        · refine Zs ?_
          refine Za ?_
          refine Zx ?_
          refine DC.ret ?_
          refine Fin.ret_then <| Fin.ret_block <| Fin.ret_then <| Fin.ret_then <| Fin.ret_block <| Fin.ret_then <| ?_
          refine Fin.weak (E' := [(2, _)]) ⟨rfl, trivial⟩ .nil ?_
          refine Fin.end1 (.inl rfl) rfl rfl ?_
          exact ⟨rfl, false, rfl, by simp; intro h; have := h.ok i e he; simp_all; omega⟩
        · refine DC.skip ?_
          refine Fin.then ?_
          refine DC.seq ?_
          have hge : Fits e.1 ∧ Fits e.2 ∧ e.1 < e.2 := by
            simp at k4_7 k4_16 c4
            exact ⟨hb1.1 k4_7, hb2.1 k4_16, by omega⟩
          have hok' : ∀ (j : Nat) x, j < i + 1 → es[j]? = some x → Fits x.1 ∧ Fits x.2 ∧ x.1 < x.2 := by
            intro j x hj hx
            rcases Nat.lt_succ_iff_lt_or_eq.1 hj with hj | rfl
            · exact hok j x hj hx
            · rw [he] at hx; cases hx; exact hge
          have hup' : (∀ d, 0 < i → es[i - 1]? = some d → Lex d e) → ∀ (j : Nat) a b, j + 1 < i + 1 → es[j]? = some a → es[j + 1]? = some b → Lex a b := by
            intro hlex j a b hj ha hb
            rcases Nat.lt_succ_iff_lt_or_eq.1 hj with hj | hj
            · exact hup j a b hj ha hb
            · obtain rfl : j = i - 1 := by omega
              rw [show i - 1 + 1 = i by omega, he] at hb; cases hb
              exact hlex a (by omega) ha
          have hbad : ∀ d, 0 < i → es[i - 1]? = some d → ¬ Lex d e → ¬ EdgesOk es := fun d hi hd hn h => hn (h.up (i - 1) d e hd (by rw [show i - 1 + 1 = i by omega]; exact he))
          refine DC.flow (cl := [.q, .q, .q, .q, .q, .q, .q, .q, .v, .q, .q, .q, .q, .v, .q, .q, .q, .q, .q, .q, .q, .v, .q, .q, .q, .q, .v, .q, .q, .q, .q, .q, .q, .q, .v, .q, .q, .q, .q, .v, .q, .q, .q, .q]) (A := [0, 1, 3, 7, 7, 23, 63, 127, 255, 7, 7, 1543, 3591, 7687, 16383, 32767, 65535, 65535, 196607, 524287, 1048575, 2097151, 65535, 65535, 12648447, 29425663, 62980095, 134217727, 268435455, 536870911, 536870911, 1610612735, 4294967295, 8589934591, 17179869183, 536870911, 536870911, 103616086015, 241055039487, 515932946431, 1099511627775, 2199023255551, 4398046511103, 8796093022207]) (order := [0, 1, 2, 3, 4, 5, 6, 7, 8, 9, 10, 11, 12, 13, 14, 15, 16, 17, 18, 19, 20, 21, 22, 23, 24, 25, 26, 27, 28, 29, 30, 31, 32, 33, 34, 35, 36, 37, 38, 39, 40, 41, 42, 43]) [] mixed (by kernel_rfl) (fun w hw => hw.pick .nil) ?_
          refine Ym ?_
          refine Flow.pur rfl rfl rfl (p_gtr rfl rfl rfl) ?_
          refine Ym ?_
          refine Flow.split 41 rfl (fun k6_2 => ?_) (fun k6_2 => ?_)
          · have hpos : 0 < i := by simpa using k6_2
            obtain ⟨d, hd⟩ : ∃ d, es[i - 1]? = some d := ⟨_, List.getElem?_eq_getElem (by omega)⟩
            obtain ⟨ad', h', hU', hV'⟩ := hr.pair hd
            cases h'
            have hii : ((i : Int) - 1).toNat = i - 1 := by omega
            refine Ym ?_
            refine Ym ?_
            refine Flow.pur rfl rfl rfl (p_sub rfl rfl rfl (by omega)) ?_
            refine Flow.pur rfl rfl rfl (p_index (ad' := ad.add ((i - 1) * 2)) rfl rfl rfl Tryz.underlying22 sz43 (by omega) (by omega) (by rw [hii])) ?_
            refine Flow.pur rfl rfl rfl (p_field (ad' := ad.add ((i - 1) * 2)) rfl rfl fi43_0 (by simp [Addr.add])) ?_
            refine Flow.valS rfl rfl rfl rfl (v_load rfl rfl ag3 (has_old' hU')) ?_
            refine Ym ?_
            refine Ym ?_
            refine Flow.pur rfl rfl rfl (p_index (ad' := ad.add (i * 2)) rfl rfl rfl Tryz.underlying22 sz43 (by omega) (by omega) rfl) ?_
            refine Flow.pur rfl rfl rfl (p_field (ad' := ad.add (i * 2)) rfl rfl fi43_0 (by simp [Addr.add])) ?_
            refine Flow.valS rfl rfl rfl rfl (v_load rfl rfl ag3 (has_old' hU)) ?_
            refine Flow.pur rfl rfl rfl (p_gtr rfl rfl rfl) ?_
            refine Ym ?_
            refine Flow.split 54 rfl (fun k6_15 => ?_) (fun k6_15 => ?_)
            · refine Yk ?_
              refine Yk ?_
              refine Yk ?_
              refine Yk ?_
              refine Yk ?_
              refine Yk ?_
              refine Yk ?_
              refine Yk ?_
              refine Yk ?_
              refine Yk ?_
              refine Yk ?_
              refine Yk ?_
              refine Yk ?_
              refine Yk ?_
              refine Yk ?_
              refine Yk ?_
              refine Yk ?_
              refine Yk ?_
              refine Yk ?_
              refine Yk ?_
              refine Yk ?_
              refine Yk ?_
              refine Yk ?_
              refine Yk ?_
              refine Yk ?_
              refine Yk ?_
              refine Flow.pur rfl rfl rfl (p_pick_t rfl rfl rfl) ?_
              refine Flow.pur rfl rfl rfl (p_pick_t rfl rfl rfl) ?_
              refine Flow.end rfl ?_
              simp only [List.map_cons, List.map_nil, List.nil_append, List.cons_append, List.append_nil]
              refine Fin.then ?_
              refine DC.cond_t rfl ?_
              refine Zs ?_
              refine Za ?_
              refine Zx ?_
              refine DC.ret ?_
              refine Fin.ret_block <| Fin.ret_then <| Fin.ret_then <| Fin.ret_block <| Fin.ret_then <| ?_
              refine Fin.weak (E' := [(2, _)]) ⟨rfl, trivial⟩ .nil ?_
              refine Fin.end1 (.inl rfl) rfl rfl ?_
              exact ⟨rfl, false, rfl, by simp; refine hbad d hpos hd ?_; unfold Lex; simp at k6_15; omega⟩
            · refine Ym ?_
              refine Ym ?_
              refine Flow.pur rfl rfl rfl (p_sub rfl rfl rfl (by omega)) ?_
              refine Flow.pur rfl rfl rfl (p_index (ad' := ad.add ((i - 1) * 2)) rfl rfl rfl Tryz.underlying22 sz43 (by omega) (by omega) (by rw [hii])) ?_
              refine Flow.pur rfl rfl rfl (p_field (ad' := ad.add ((i - 1) * 2)) rfl rfl fi43_0 (by simp [Addr.add])) ?_
              refine Flow.valS rfl rfl rfl rfl (v_load rfl rfl ag3 (has_old' hU')) ?_
              refine Ym ?_
              refine Ym ?_
              refine Flow.pur rfl rfl rfl (p_index (ad' := ad.add (i * 2)) rfl rfl rfl Tryz.underlying22 sz43 (by omega) (by omega) rfl) ?_
              refine Flow.pur rfl rfl rfl (p_field (ad' := ad.add (i * 2)) rfl rfl fi43_0 (by simp [Addr.add])) ?_
              refine Flow.valS rfl rfl rfl rfl (v_load rfl rfl ag3 (has_old' hU)) ?_
              refine Flow.pur rfl rfl rfl (p_eql rfl rfl rfl) ?_
              refine Ym ?_
              refine Flow.split 67 rfl (fun k6_28 => ?_) (fun k6_28 => ?_)
              · refine Ym ?_
                refine Ym ?_
                refine Flow.pur rfl rfl rfl (p_sub rfl rfl rfl (by omega)) ?_
                refine Flow.pur rfl rfl rfl (p_index (ad' := ad.add ((i - 1) * 2)) rfl rfl rfl Tryz.underlying22 sz43 (by omega) (by omega) (by rw [hii])) ?_
                refine Flow.pur rfl rfl rfl (p_field (ad' := ad.add ((i - 1) * 2 + 1)) rfl rfl fi43_1 (add_add _ _ _ (by decide))) ?_
                refine Flow.valS rfl rfl rfl rfl (v_load rfl rfl ag3 (has_old' hV')) ?_
                refine Ym ?_
                refine Ym ?_
                refine Flow.pur rfl rfl rfl (p_index (ad' := ad.add (i * 2)) rfl rfl rfl Tryz.underlying22 sz43 (by omega) (by omega) rfl) ?_
                refine Flow.pur rfl rfl rfl (p_field (ad' := ad.add (i * 2 + 1)) rfl rfl fi43_1 (add_add _ _ _ (by decide))) ?_
                refine Flow.valS rfl rfl rfl rfl (v_load rfl rfl ag3 (has_old' hV)) ?_
                refine Flow.pur rfl rfl rfl (p_geq rfl rfl rfl) ?_
                refine Flow.pur rfl rfl rfl (p_pick_t rfl rfl rfl) ?_
                refine Flow.pur rfl rfl rfl (p_pick_f rfl rfl rfl) ?_
                refine Flow.pur rfl rfl rfl (p_pick_t rfl rfl rfl) ?_
                refine Flow.end rfl ?_
                simp only [List.map_cons, List.map_nil, List.nil_append, List.cons_append, List.append_nil]
                refine Fin.then ?_
                refine DC.cond rfl (fun c6 => ?_) (fun c6 => ?_)
                · refine Zs ?_
                  refine Za ?_
                  refine Zx ?_
                  refine DC.ret ?_
                  refine Fin.ret_block <| Fin.ret_then <| Fin.ret_then <| Fin.ret_block <| Fin.ret_then <| ?_
                  refine Fin.weak (E' := [(2, _)]) ⟨rfl, trivial⟩ .nil ?_
                  refine Fin.end1 (.inl rfl) rfl rfl ?_
                  exact ⟨rfl, false, rfl, by simp; refine hbad d hpos hd ?_; unfold Lex; simp at k6_15 k6_28 c6; omega⟩
                · refine DC.skip ?_
                  refine Fin.inBlock ?_
                  refine Fin.then ?_
                  refine DC.region ?_
                  refine Zm ?_
                  refine Zp ?_
                  refine Za ?_
                  refine Seq.nil ?_
                  refine Fin.again (i + 1) (by omega) ⟨by omega, hok', hup' fun d' _ hd' => ?_⟩ ⟨rfl, rfl, trivial⟩ .nil
                  rw [hd] at hd'; cases hd'
                  unfold Lex; simp at k6_15 k6_28 c6; omega
              · refine Yk ?_
                refine Yk ?_
                refine Yk ?_
                refine Yk ?_
                refine Yk ?_
                refine Yk ?_
                refine Yk ?_
                refine Yk ?_
                refine Yk ?_
                refine Yk ?_
                refine Yk ?_
                refine Yk ?_
                refine Flow.pur rfl rfl rfl (p_pick_f rfl rfl rfl) ?_
                refine Flow.pur rfl rfl rfl (p_pick_f rfl rfl rfl) ?_
                refine Flow.pur rfl rfl rfl (p_pick_t rfl rfl rfl) ?_
                refine Flow.end rfl ?_
                simp only [List.map_cons, List.map_nil, List.nil_append, List.cons_append, List.append_nil]
                refine Fin.then ?_
                refine DC.cond_f rfl ?_
                refine DC.skip ?_
                refine Fin.inBlock ?_
                refine Fin.then ?_
                refine DC.region ?_
                refine Zm ?_
                refine Zp ?_
                refine Za ?_
                refine Seq.nil ?_
                refine Fin.again (i + 1) (by omega) ⟨by omega, hok', hup' fun d' _ hd' => ?_⟩ ⟨rfl, rfl, trivial⟩ .nil
                rw [hd] at hd'; cases hd'
                unfold Lex; simp at k6_15 k6_28; omega
          · refine Yk ?_
            refine Yk ?_
            refine Yk ?_
            refine Yk ?_
            refine Yk ?_
            refine Yk ?_
            refine Yk ?_
            refine Yk ?_
            refine Yk ?_
            refine Yk ?_
            refine Yk ?_
            refine Yk ?_
            refine Yk ?_
            refine Yk ?_
            refine Yk ?_
            refine Yk ?_
            refine Yk ?_
            refine Yk ?_
            refine Yk ?_
            refine Yk ?_
            refine Yk ?_
            refine Yk ?_
            refine Yk ?_
            refine Yk ?_
            refine Yk ?_
            refine Yk ?_
            refine Yk ?_
            refine Yk ?_
            refine Yk ?_
            refine Yk ?_
            refine Yk ?_
            refine Yk ?_
            refine Yk ?_
            refine Yk ?_
            refine Yk ?_
            refine Yk ?_
            refine Yk ?_
            refine Yk ?_
            refine Yk ?_
            refine Yk ?_
            refine Flow.pur rfl rfl rfl (p_pick_f rfl rfl rfl) ?_
            refine Flow.end rfl ?_
            simp only [List.map_cons, List.map_nil, List.nil_append, List.cons_append, List.append_nil]
            refine Fin.then ?_
            refine DC.cond_f rfl ?_
            refine DC.skip ?_
            refine Fin.inBlock ?_
            refine Fin.then ?_
            refine DC.region ?_
            refine Zm ?_
            refine Zp ?_
            refine Za ?_
            refine Seq.nil ?_
            refine Fin.again (i + 1) (by omega) ⟨by omega, hok', hup' fun d' h0 hd' => ?_⟩ ⟨rfl, rfl, trivial⟩ .nil
            simp at k6_2; omega
  · refine DC.exit ?_
    refine Fin.exit_then <| Fin.exit_then <| Fin.exit_here <| ?_
    refine Fin.then ?_
    refine Zs ?_
    refine Zm ?_
    refine Zn Tryz.underlying22 ?_
    refine Seq.pur rfl rfl (p_leq rfl rfl rfl) ?_
    refine Za ?_
    refine Zx ?_
    refine DC.ret ?_
    refine Fin.weak (E' := [(2, _)]) ⟨rfl, trivial⟩ .nil ?_
    refine Fin.end1 (.inl rfl) rfl rfl ?_
    have hil : i = es.length := by simp at c2; omega
    subst hil
    refine ⟨rfl, _, rfl, ?_⟩
    constructor
    · intro h
      exact ⟨by simp at h; omega, fun j e he => hok j e (List.getElem?_eq_some_iff.1 he).1 he, fun j a b ha hb => hup j a b (List.getElem?_eq_some_iff.1 hb).1 ha hb⟩
    · intro h
      have := h.few
      simp; omega
structure TxI where
  k : Nat
  s : List UInt8
theorem dec_one {u : Nat} (h : u < 10) : Lib.decDigits u = [UInt8.ofNat (48 + u)] := by rw [Lib.decDigits, dif_pos h]
theorem dec_more {u : Nat} (h : ¬ u < 10) : Lib.decDigits u = Lib.decDigits (u / 10) ++ [UInt8.ofNat (48 + u % 10)] := by rw [Lib.decDigits, dif_neg h]
theorem u8_nat {d : Nat} (h : d < 10) : (((UInt8.ofNat (48 + d)).toNat : Nat) : Int) = 48 + (d : Int) := by
  have : (UInt8.ofNat (48 + d)).toNat = 48 + d := by
    rw [UInt8.toNat_ofNat']
    omega
  rw [this]; omega
theorem r1Text_calls {a : Nat} {w : World} (ha : a ≤ 1000000000) : Calls Tryz.prog 62 #[.int .i64 a] w (Ret w [] fun v L => L = [] ∧ v = str (Lib.itoa a)) := by
  have hito : Lib.itoa (a : Int) = Lib.decDigits a := by unfold Lib.itoa; rw [if_neg (by omega)]; rfl
  rw [hito]
  have hdl := decDigits_len 9 a (by omega)
  refine calls_of (args := [_]) (L := []) Tryz.func62 rfl Tryz.ntmps62 rfl (Own.start _ _) ?_
  refine Zs ?_
  refine Za ?_
  refine Zx ?_
  refine DC.seq ?_
  refine Zs ?_
  refine Zm ?_
  refine Seq.pur rfl rfl (p_eql rfl rfl rfl) ?_
  refine Zx ?_
  refine DC.cond rfl (fun c1 => ?_) (fun c1 => ?_)
  · refine Zs ?_
    refine Za ?_
    refine Zx ?_
    refine DC.ret ?_
    refine Fin.ret_then <| ?_
    refine Fin.weak (E' := [(2, _)]) ⟨rfl, trivial⟩ .nil ?_
    refine Fin.end1 (.inl rfl) rfl rfl ?_
    have h0 : a = 0 := by simp at c1; omega
    subst h0
    exact ⟨rfl, by rw [dec_one (by decide)]; rfl⟩
  · refine DC.skip ?_
    refine Fin.then ?_
    refine Zs ?_
    refine Za ?_
    refine Zx ?_
    refine DC.seq ?_
    refine Zs ?_
    refine Zm ?_
    refine Za ?_
    refine Zx ?_
    refine DC.block ?_
    have ha0 : a ≠ 0 := by simp at c1; omega
    refine DC.loop (ι := TxI) (fun j => j.k ≤ a ∧ (if j.k = 0 then j.s = Lib.decDigits a else Lib.decDigits j.k ++ j.s = Lib.decDigits a))
      (fun j => [(0, .int .i64 a), (3, str j.s), (4, .int .i64 j.k)]) (fun j => []) (fun j => j.k) ⟨a, []⟩ ⟨Nat.le_refl _, by rw [if_neg ha0]; simp⟩ ⟨rfl, rfl, rfl, trivial⟩ .nil ?_
    rintro ⟨k, s⟩ ⟨hk, hs⟩
    dsimp only at hk hs ⊢
    refine DC.seq ?_
    refine Zs ?_
    refine Zm ?_
    refine Seq.pur rfl rfl (p_neq rfl rfl rfl) ?_
    refine Zx ?_
    refine DC.cond rfl (fun c5 => ?_) (fun c5 => ?_)
    · have hk0 : k ≠ 0 := by simp at c5; omega
      rw [if_neg hk0] at hs
      have hsl : s.length ≤ 10 := by have := congrArg List.length hs; simp at this; omega
      have hmod : (k : Int) % 10 = ((k % 10 : Nat) : Int) := by omega
      have hdiv : (k : Int) / 10 = ((k / 10 : Nat) : Int) := by omega
      have hd : k % 10 < 10 := Nat.mod_lt _ (by decide)
      have hcell : (Value.int .u8 (48 + (k : Int) % 10)) = .int .u8 (UInt8.ofNat (48 + k % 10)).toNat := by rw [u8_nat hd, hmod]
      have hstep : if k / 10 = 0 then UInt8.ofNat (48 + k % 10) :: s = Lib.decDigits a else Lib.decDigits (k / 10) ++ UInt8.ofNat (48 + k % 10) :: s = Lib.decDigits a := by
        by_cases hz : k / 10 = 0
        · rw [if_pos hz, ← hs, dec_one (by omega), Nat.mod_eq_of_lt (by omega)]; rfl
        · rw [if_neg hz, ← hs, dec_more (u := k) (by omega)]; simp
      refine DC.skip ?_
      refine Fin.then ?_
      refine DC.seq ?_
      refine DC.block ?_
      refine Zs ?_
      refine Zm ?_
      refine Seq.pur rfl rfl (p_rem rfl rfl rfl (by omega) (by omega)) ?_
      refine Za ?_
      refine Zx ?_
      refine DC.seq ?_
      refine Zs ?_
      refine Zm ?_
      refine Zc ?_
      refine Zx ?_
      refine DC.cond rfl (fun c8 => ?_) (fun c8 => ?_)
      · simp at c8; omega
      · refine DC.skip ?_
        refine Fin.then ?_
        refine DC.region ?_
        refine Zm ?_
        refine Zp ?_
        refine Seq.pur rfl rfl (p_conv_u8 rfl rfl Tryz.underlying3 Tryz.underlying5 (by omega) (by omega)) ?_
        refine Seq.new rfl rfl (n_slit (cs := #[_]) rfl rfl Tryz.underlying47 sz5 ze5 rfl (by decide) (by decide) rfl rfl) fun g22 => ?_
        refine Seq.val rfl rfl (v_bytes_str (l := [UInt8.ofNat (48 + k % 10)]) rfl rfl rfl Tryz.underlying47 Tryz.underlying5 Tryz.underlying9 (hass_blk (by simp only [hcell]; rfl))) ?_
        refine Zm ?_
        refine Seq.pur rfl rfl (p_strcat rfl rfl rfl (by simp; omega)) ?_
        refine Za ?_
        refine Seq.nil ?_
        refine Fin.inBlock ?_
        refine Fin.then ?_
        refine DC.region ?_
        refine Zm ?_
        refine Seq.pur rfl rfl (p_quo rfl rfl rfl (by omega) (by omega)) ?_
        refine Za ?_
        refine Seq.nil ?_
        refine Fin.again ⟨k / 10, UInt8.ofNat (48 + k % 10) :: s⟩ (by dsimp only; omega) ⟨by dsimp only; omega, hstep⟩ ⟨rfl, rfl, by rw [hdiv]; rfl, trivial⟩ .nil
    · refine DC.exit ?_
      refine Fin.exit_then <| Fin.exit_then <| Fin.exit_here <| ?_
      refine Fin.then ?_
      refine DC.seq ?_
      refine Zs ?_
      refine Zm ?_
      refine Zc ?_
      refine Zx ?_
      refine DC.cond rfl (fun c11 => ?_) (fun c11 => ?_)
      · simp at c11; omega
      · refine DC.skip ?_
        refine Fin.then ?_
        refine Zs ?_
        refine Zm ?_
        refine Za ?_
        refine Zx ?_
        refine DC.ret ?_
        refine Fin.weak (E' := [(2, _)]) ⟨rfl, trivial⟩ .nil ?_
        refine Fin.end1 (.inl rfl) rfl rfl ?_
        have hk0 : k = 0 := by simp at c5; omega
        rw [if_pos hk0] at hs
        exact ⟨rfl, by rw [hs]⟩
end Go.Fl

set_option linter.unusedVariables false
set_option linter.unusedSimpArgs false
set_option maxRecDepth 100000
namespace Go.Fl
open Go Go.Proofs
theorem fits_nat {x : Int} (h : Fits x) : ∃ a : Nat, x = a ∧ a ≤ 1000000000 := by
  obtain ⟨a, ha⟩ := Int.eq_ofNat_of_zero_le h.1
  exact ⟨a, ha, by have := h.2; omega⟩
structure PtI where
  i : Nat
  v : Value
def preL (ls : List (List Int)) (i : Nat) : List UInt8 := headB [112] ls.length ++ ((ls.map lineB).take i).flatten
theorem preL_succ {ls : List (List Int)} {i : Nat} {l : List Int} (h : ls[i]? = some l) : preL ls (i + 1) = preL ls i ++ (Lib.join (l.map Lib.itoa) [32] ++ [10]) := by
  unfold preL
  rw [flatten_take (l := ls.map lineB) (x := lineB l) (by rw [List.getElem?_map, h]; rfl), ← List.append_assoc]; rfl
theorem head_eq (c : UInt8) (n : Nat) : headB [c] n = [c, 32] ++ Lib.itoa (n : Int) ++ [10] := by
  unfold headB lineB
  simp [Lib.join, List.intercalate]
theorem join_take {l : List Int} {k : Nat} {x : Int} (h : l[k]? = some x) : Lib.join ((l.take (k + 1)).map Lib.itoa) [32] = if k = 0 then Lib.itoa x else Lib.join ((l.take k).map Lib.itoa) [32] ++ [32] ++ Lib.itoa x := by
  have hl := (List.getElem?_eq_some_iff.1 h).1
  rw [List.take_add_one, h]
  simp only [Option.toList_some, List.map_append, List.map_cons, List.map_nil]
  rw [join_snoc]
  by_cases h0 : k = 0
  · subst h0; simp
  · have : (l.take k).map Lib.itoa ≠ [] := fun e => by
      have := congrArg List.length e
      rw [List.length_map, List.length_take, List.length_nil] at this; omega
    rw [if_neg this, if_neg h0]
theorem r17PrintT_calls {ls : List (List Int)} {cs : List Pr} {v u : Value} {w : World} (hv : LsV w v ls) (hu : PrV w u cs) (hs : ∀ l, l ∈ ls → l.length ≤ 2097152) :
    Calls Tryz.prog 31 #[.agg #[.bool true, v, u]] w (Ret w [] fun r L => L = [] ∧ ∃ s e, r = .tuple #[str s, .int .i64 e] ∧ (e = 0 ↔ TextOk true ls cs)) := by
  have hv0 := hv
  have hu0 := hu
  obtain ⟨Al, cl, rfl, hr, hlc, hcm, hle⟩ := hv
  obtain ⟨Ac, cc, rfl, hrc, hlcc, hcmc, hlec⟩ := hu
  refine calls_of (args := [_]) (L := []) Tryz.func31 rfl Tryz.ntmps31 rfl (Own.start _ _) ?_
  refine Zs ?_
  refine Seq.new rfl rfl (n_box rfl rfl rfl) fun g1 => ?_
  refine Za ?_
  refine Za ?_
  refine Zx ?_
  refine DC.seq ?_
  refine Zs ?_
  refine Zf fi27_0 ?_
  refine Zl ag4 ?_
  refine Zm ?_
  refine Seq.split 10 rfl (fun k1_2 => ?_) (fun k1_2 => ?_)
  · refine Zf fi27_2 ?_
    refine Zl ag22 ?_
    refine Zn Tryz.underlying22 ?_
    refine Seq.pur rfl rfl (p_gtr rfl rfl rfl) ?_
    refine Zm ?_
    refine Seq.split 15 rfl (fun k1_7 => ?_) (fun k1_7 => ?_)
    · refine Zk ?_
      refine Zk ?_
      refine Zk ?_
      refine Zk ?_
      refine Zt ?_
      refine Zt ?_
      refine Zm ?_
      refine Zk ?_
      refine Zk ?_
      refine Zk ?_
      refine Zk ?_
      refine Zk ?_
      refine Zk ?_
      refine Zk ?_
      refine Zk ?_
      refine Zk ?_
      refine Zk ?_
      refine Zk ?_
      refine Zk ?_
      refine Zk ?_
      refine Zk ?_
      refine Zk ?_
      refine Zt ?_
      refine Zx ?_
      refine DC.cond_t rfl ?_
      refine Zs ?_
      refine Za ?_
      refine Za ?_
      refine Zx ?_
      refine DC.ret ?_
      refine Fin.ret_then <| ?_
      refine Fin.weak (E' := [(2, str []), (3, .int .i64 170)]) ⟨rfl, rfl, trivial⟩ .nil ?_
      refine Fin.end2 (.inl rfl) rfl rfl rfl ?_
      refine ⟨rfl, [], 170, rfl, ?_⟩
      simp only [show ¬ ((170 : Int) = 0) by decide, false_iff]
      rintro ⟨⟨h1, _⟩, _⟩
      rw [h1] at k1_7
      simp at k1_7
    · refine Zf fi27_1 ?_
      refine Zl ag25 ?_
      refine Seq.rel0 rfl rfl (r_call en60 rfl rfl rfl (fun w' hw => r17lists_calls (hv0.keep0 hw))) ?_
      rintro _ ⟨b1, rfl, hb1⟩
      refine Seq.pur rfl rfl (p_not rfl rfl) ?_
      refine Zg ?_
      refine Zt ?_
      refine Zm ?_
      refine Seq.split 22 rfl (fun k1_14 => ?_) (fun k1_14 => ?_)
      · refine Zk ?_
        refine Zk ?_
        refine Zk ?_
        refine Zk ?_
        refine Zk ?_
        refine Zk ?_
        refine Zk ?_
        refine Zk ?_
        refine Zk ?_
        refine Zk ?_
        refine Zk ?_
        refine Zk ?_
        refine Zk ?_
        refine Zk ?_
        refine Zk ?_
        refine Zt ?_
        refine Zx ?_
        refine DC.cond_t rfl ?_
        refine Zs ?_
        refine Za ?_
        refine Za ?_
        refine Zx ?_
        refine DC.ret ?_
        refine Fin.ret_then <| ?_
        refine Fin.weak (E' := [(2, str []), (3, .int .i64 170)]) ⟨rfl, rfl, trivial⟩ .nil ?_
        refine Fin.end2 (.inl rfl) rfl rfl rfl ?_
        refine ⟨rfl, [], 170, rfl, ?_⟩
        simp only [show ¬ ((170 : Int) = 0) by decide, false_iff]
        rintro ⟨⟨_, h1⟩, _⟩
        rw [hb1.2 h1] at k1_14
        simp at k1_14
      · refine Zf fi27_0 ?_
        refine Zl ag4 ?_
        refine Seq.pur rfl rfl (p_not rfl rfl) ?_
        refine Zm ?_
        refine Seq.split 26 rfl (fun k1_18 => ?_) (fun k1_18 => ?_)
        · cases k1_18
        · refine Zk ?_
          refine Zk ?_
          refine Zk ?_
          refine Zk ?_
          refine Zk ?_
          refine Zk ?_
          refine Zk ?_
          refine Zk ?_
          refine Zk ?_
          refine Zk ?_
          refine Zg ?_
          refine Zg ?_
          refine Zx ?_
          refine DC.cond_f rfl ?_
          refine DC.skip ?_
          refine Fin.then ?_
          refine DC.seq ?_
          have hcs : cs = [] := by simp at k1_7; exact k1_7
          have hok : ListsOk ls := hb1.1 (by simpa using k1_14)
          have hmany := hok.1
          have hline : ∀ x, x ∈ ls.map lineB → x.length ≤ 44040193 := fun x hx => by
            obtain ⟨l, hl, rfl⟩ := List.mem_map.1 hx
            have h1 := lineB_len (ns := l) (fun a ha => by have := hok.fits hl ha; unfold I64; unfold Fits at this; omega)
            have := hs l hl
            omega
          have hpre : ∀ i, (preL ls i).length ≤ 50000000000000 := fun i => by
            have h1 := flat_len (L := (ls.map lineB).take i) (fun x hx => hline x (List.mem_of_mem_take hx))
            have h2 : ((ls.map lineB).take i).length * 44040193 ≤ 1048576 * 44040193 := Nat.mul_le_mul_right _ (by rw [List.length_take, List.length_map]; omega)
            have h3 := headB_len (letter := [112]) (n := ls.length) rfl (by omega)
            unfold preL
            rw [List.length_append]; omega
          refine DC.region ?_
          refine Za ?_
          refine Zx ?_
          refine DC.cut (ι := Value) (fun _ => True) (fun v => [(4, v)]) (fun v => [slc v 5 1 (byc (certB true ls cs))]) ?first23 ?rest23
          case first23 =>
            refine Zs ?_
            refine Zf fi27_0 ?_
            refine Zl ag4 ?_
            refine Zx ?_
            refine DC.cond rfl (fun c4 => ?_) (fun c4 => ?_)
            · refine Zs ?_
              refine Zm ?_
              refine Seq.new rfl rfl (n_slit (cs := #[_, _]) rfl rfl Tryz.underlying47 sz5 ze5 rfl (by decide) (by decide) rfl rfl) fun g42 => ?_
              refine Seq.gen rfl rfl (g_append rfl rfl rfl Tryz.underlying47 sz5 by5 ze5 rfl (by decide) (by decide) (news := byc [112, 32]) (k := 2) (fun w hw => own_nil (t := 5) (m := 1) (hw.sub (L' := [blk g1 27 #[.bool true, .slice Al ls.length cl, .slice Ac cs.length cc]]) (List.sublist_cons_self ..))) (.inl ⟨_, _, rfl, hass_blk rfl⟩) rfl (byc_one _) (by simp)) ?_
              rintro v43 _ rfl
              refine Za ?_
              refine Zx ?_
              refine Zs ?_
              refine Zm ?_
              refine Zf fi27_1 ?_
              refine Zl ag25 ?_
              refine Zn Tryz.underlying25 ?_
              refine Seq.rel0 rfl rfl (r_call en62 rfl rfl rfl (fun w' hw => r1Text_calls (a := ls.length) (by omega))) ?_
              rintro _ rfl
              refine Seq.gen rfl rfl (g_append_str rfl rfl rfl Tryz.underlying47 Tryz.underlying9 sz5 by5 ze5 (fun w hw => hw) (by have := itoa_len (a := (ls.length : Int)) (by omega); simp; omega)) ?_
              rintro v49 _ rfl
              refine Za ?_
              refine Zx ?_
              refine Zs ?_
              refine Zm ?_
              refine Seq.new rfl rfl (n_slit (cs := #[_]) rfl rfl Tryz.underlying47 sz5 ze5 rfl (by decide) (by decide) rfl rfl) fun g51 => ?_
              refine Seq.gen rfl rfl (g_append rfl rfl rfl Tryz.underlying47 sz5 by5 ze5 rfl (by decide) (by decide) (F := [blk g1 27 #[.bool true, .slice Al ls.length cl, .slice Ac cs.length cc]]) (news := byc [10]) (k := 1) (fun w hw => hw.pick (.cons 1 rfl (.cons 1 rfl .nil))) (.inl ⟨_, _, rfl, hass_blk rfl⟩) rfl (byc_one _) (by have := itoa_len (a := (ls.length : Int)) (by omega); simp; omega)) ?_
              rintro v52 _ rfl
              refine Za ?_
              refine Zx ?_
              refine Zs ?_
              refine Za ?_
              refine Zx ?_
              refine DC.block ?_
              refine DC.loop (ι := PtI) (fun j => j.i ≤ ls.length) (fun j => [(1, .pointer (some ⟨g1, 0, none⟩)), (4, j.v), (5, .int .i64 j.i)])
                (fun j => [slc j.v 5 1 (byc (preL ls j.i)), blk g1 27 #[.bool true, .slice Al ls.length cl, .slice Ac cs.length cc]]) (fun j => ls.length - j.i) ⟨0, v52⟩ (Nat.zero_le _) ⟨rfl, rfl, rfl, trivial⟩ (.cons' 0 rfl (by dsimp only; unfold preL; rw [head_eq]; simp [byc, Lib.byteCells]) (.cons 0 rfl .nil)) ?_
              rintro ⟨i, v4⟩ hi
              dsimp only at hi ⊢
              refine DC.seq ?_
              refine Zs ?_
              refine Zm ?_
              refine Zf fi27_1 ?_
              refine Zl ag25 ?_
              refine Zn Tryz.underlying25 ?_
              refine Zc ?_
              refine Zx ?_
              refine DC.cond rfl (fun c9 => ?_) (fun c9 => ?_)
              · have hlt : i < ls.length := by simpa using c9
                obtain ⟨l, hl⟩ : ∃ l, ls[i]? = some l := ⟨_, List.getElem?_eq_getElem hlt⟩
                have hlm := List.mem_of_getElem? hl
                obtain ⟨ad, lv, rfl, hc, Ax, capl, rfl, hrl, hl1, hl2, hl3⟩ := hr i l hl
                have hsl := hs l hlm
                refine DC.skip ?_
                refine Fin.then ?_
                refine DC.seq ?_
                refine DC.block ?_
                refine DC.seq ?_
                refine Zs ?_
                refine Za ?_
                refine Zx ?_
                refine DC.block ?_
                refine DC.loop (ι := PtI) (fun j => j.i ≤ l.length) (fun j => [(1, .pointer (some ⟨g1, 0, none⟩)), (4, j.v), (5, .int .i64 i), (6, .int .i64 j.i)])
                  (fun j => [slc j.v 5 1 (byc (preL ls i ++ Lib.join ((l.take j.i).map Lib.itoa) [32])), blk g1 27 #[.bool true, .slice (some ad) ls.length cl, .slice Ac cs.length cc]]) (fun j => l.length - j.i) ⟨0, v4⟩ (Nat.zero_le _) ⟨rfl, rfl, rfl, rfl, trivial⟩
                  (.cons' 0 rfl (by dsimp only; rw [List.take_zero, List.map_nil, join_nil, List.append_nil]) (.cons 0 rfl .nil)) ?_
                rintro ⟨k, v6⟩ hk
                dsimp only at hk ⊢
                have hjl : (Lib.join ((l.take k).map Lib.itoa) [32]).length ≤ 44040193 := by
                  have := join_len (k := 20) ((l.take k).map Lib.itoa) (fun x hx => by
                    obtain ⟨a, ha, rfl⟩ := List.mem_map.1 hx
                    refine itoa_len ?_
                    have := hok.fits hlm (List.mem_of_mem_take ha)
                    unfold Fits at this; omega)
                  rw [List.length_map, List.length_take] at this; omega
                have hpi := hpre i
                refine DC.seq ?_
                refine Zs ?_
                refine Zm ?_
                refine Zf fi27_1 ?_
                refine Zl ag25 ?_
                refine Zm ?_
                refine Seq.pur rfl rfl (p_index1 (ad' := ad.add i) rfl rfl rfl Tryz.underlying25 sz44 (by omega) (by omega) rfl) ?_
                refine Seq.val rfl rfl (v_load rfl rfl ag44 (has_old' hc)) ?_
                refine Zn Tryz.underlying44 ?_
                refine Zc ?_
                refine Zx ?_
                refine DC.cond rfl (fun c12 => ?_) (fun c12 => ?_)
                · have hkl : k < l.length := by simpa using c12
                  obtain ⟨x, hx⟩ : ∃ x, l[k]? = some x := ⟨_, List.getElem?_eq_getElem hkl⟩
                  obtain ⟨a, rfl, ha⟩ := fits_nat (hok.fits hlm (List.mem_of_getElem? hx))
                  obtain ⟨adl, rfl, hcx⟩ := hrl.int hx
                  have hil := itoa_len (a := (a : Int)) (by omega)
                  refine DC.skip ?_
                  refine Fin.then ?_
                  refine DC.seq ?_
                  refine DC.block ?_
                  refine DC.cut (ι := Value) (fun _ => True) (fun v => [(1, .pointer (some ⟨g1, 0, none⟩)), (4, v), (5, .int .i64 i), (6, .int .i64 k)])
                    (fun v => [slc v 5 1 (byc (preL ls i ++ if k = 0 then [] else Lib.join ((l.take k).map Lib.itoa) [32] ++ [32])), blk g1 27 #[.bool true, .slice (some ad) ls.length cl, .slice Ac cs.length cc]]) ?first15 ?rest15
                  case first15 =>
                    refine Zs ?_
                    refine Zm ?_
                    refine Seq.pur rfl rfl (p_gtr rfl rfl rfl) ?_
                    refine Zx ?_
                    refine DC.cond rfl (fun c14 => ?_) (fun c14 => ?_)
                    · refine DC.region ?_
                      refine Zm ?_
                      refine Seq.new rfl rfl (n_slit (cs := #[_]) rfl rfl Tryz.underlying47 sz5 ze5 rfl (by decide) (by decide) rfl rfl) fun g73 => ?_
                      refine Seq.gen rfl rfl (g_append rfl rfl rfl Tryz.underlying47 sz5 by5 ze5 rfl (by decide) (by decide) (F := [blk g1 27 #[.bool true, .slice (some ad) ls.length cl, .slice Ac cs.length cc]]) (news := byc [32]) (k := 1) (fun w hw => hw.pick (.cons 1 rfl (.cons 1 rfl .nil))) (.inl ⟨_, _, rfl, hass_blk rfl⟩) rfl (byc_one _) (by simp only [byc_len, List.length_append, List.length_cons, List.length_nil]; omega)) ?_
                      rintro v74 _ rfl
                      refine Za ?_
                      refine Seq.nil ?_
                      have hk0 : k ≠ 0 := by simp at c14; omega
                      refine Fin.meet v74 trivial ⟨rfl, rfl, rfl, rfl, trivial⟩ (.cons' 0 rfl (by rw [if_neg hk0, ← byc_app, List.append_assoc]) (.cons 0 rfl .nil))
                    · refine DC.skip ?_
                      have hk0 : k = 0 := by simp at c14; omega
                      refine Fin.meet v6 trivial ⟨rfl, rfl, rfl, rfl, trivial⟩ (.cons' 0 rfl (by rw [if_pos hk0, hk0]; rfl) (.cons 0 rfl .nil))
                  case rest15 =>
                    rintro v7 _
                    refine DC.region ?_
                    refine Zm ?_
                    refine Zf fi27_1 ?_
                    refine Zl ag25 ?_
                    refine Zm ?_
                    refine Seq.pur rfl rfl (p_index1 (ad' := ad.add i) rfl rfl rfl Tryz.underlying25 sz44 (by omega) (by omega) rfl) ?_
                    refine Seq.val rfl rfl (v_load rfl rfl ag44 (has_old' hc)) ?_
                    refine Zm ?_
                    refine Seq.pur rfl rfl (p_index1 (ad' := adl.add k) rfl rfl rfl Tryz.underlying44 sz3 (by omega) (by omega) rfl) ?_
                    refine Seq.val rfl rfl (v_load rfl rfl ag3 (has_old' hcx)) ?_
                    refine Seq.rel0 rfl rfl (r_call en62 rfl rfl rfl (fun w' hw => r1Text_calls ha)) ?_
                    rintro _ rfl
                    refine Seq.gen rfl rfl (g_append_str rfl rfl rfl Tryz.underlying47 Tryz.underlying9 sz5 by5 ze5 (fun w hw => hw) (by
                      rw [byc_len, List.length_append]
                      split
                      · simp only [List.length_nil]; omega
                      · rw [List.length_append]; simp only [List.length_cons, List.length_nil]; omega)) ?_
                    rintro v85 _ rfl
                    refine Za ?_
                    refine Seq.nil ?_
                    refine Fin.inBlock ?_
                    refine Fin.then ?_
                    refine DC.region ?_
                    refine Zm ?_
                    refine Zp ?_
                    refine Za ?_
                    refine Seq.nil ?_
                    refine Fin.again ⟨k + 1, v85⟩ (by dsimp only; omega) (by dsimp only; omega) ⟨rfl, rfl, rfl, rfl, trivial⟩ (.cons' 0 rfl ?_ (.cons 0 rfl .nil))
                    dsimp only
                    rw [join_take hx, ← byc_app]
                    by_cases hk0 : k = 0
                    · rw [if_pos hk0, if_pos hk0, List.append_nil]
                    · rw [if_neg hk0, if_neg hk0]; simp only [List.append_assoc]
                · refine DC.exit ?_
                  refine Fin.exit_then <| Fin.exit_then <| Fin.exit_here <| ?_
                  refine Fin.then ?_
                  refine DC.region ?_
                  refine Zm ?_
                  refine Seq.new rfl rfl (n_slit (cs := #[_]) rfl rfl Tryz.underlying47 sz5 ze5 rfl (by decide) (by decide) rfl rfl) fun g87 => ?_
                  refine Seq.gen rfl rfl (g_append rfl rfl rfl Tryz.underlying47 sz5 by5 ze5 rfl (by decide) (by decide) (F := [blk g1 27 #[.bool true, .slice (some ad) ls.length cl, .slice Ac cs.length cc]]) (news := byc [10]) (k := 1) (fun w hw => hw.pick (.cons 1 rfl (.cons 1 rfl .nil))) (.inl ⟨_, _, rfl, hass_blk rfl⟩) rfl (byc_one _) (by simp only [byc_len, List.length_append, List.length_cons, List.length_nil]; omega)) ?_
                  rintro v88 _ rfl
                  refine Za ?_
                  refine Seq.nil ?_
                  refine Fin.inBlock ?_
                  refine Fin.then ?_
                  refine DC.region ?_
                  refine Zm ?_
                  refine Zp ?_
                  refine Za ?_
                  refine Seq.nil ?_
                  have hke : k = l.length := by simp at c12; omega
                  subst hke
                  refine Fin.again ⟨i + 1, v88⟩ (by dsimp only; omega) (by dsimp only; omega) ⟨rfl, rfl, rfl, trivial⟩ (.cons' 0 rfl (by dsimp only; rw [preL_succ hl, ← byc_app, List.take_length, List.append_assoc]) (.cons 0 rfl .nil))
              · refine DC.exit ?_
                refine Fin.exit_then <| Fin.exit_then <| Fin.exit_here <| ?_
                have hie : i = ls.length := by simp at c9; omega
                subst hie
                refine Fin.meet v4 trivial ⟨rfl, trivial⟩ (.cons' 0 rfl (by unfold preL certB textB; rw [if_pos rfl, List.length_map, List.take_of_length_le (by simp)]) .nil)
            · cases c4
          case rest23 =>
            rintro v4 _
            refine DC.seq ?_
            refine DC.seq ?_
            refine DC.slcv (i := 0) rfl ?_
            rintro A4 c4' rfl hA4
            have hne : certB true ls cs ≠ [] := by unfold certB textB headB; simp
            obtain ⟨ad4, rfl⟩ := hA4 (fun e => hne (by have := congrArg List.length e; rw [byc_len] at this; exact List.eq_nil_of_length_eq_zero this))
            refine DC.region ?_
            refine Zm ?_
            refine Zn Tryz.underlying47 ?_
            refine Seq.pur rfl rfl (p_gtr rfl rfl rfl) ?_
            refine Zx ?_
            refine DC.cond rfl (fun c28 => ?_) (fun c28 => ?_)
            · refine Zs ?_
              refine Za ?_
              refine Za ?_
              refine Zx ?_
              refine DC.ret ?_
              refine Fin.ret_then <| ?_
              refine Fin.weak (E' := [(2, str []), (3, .int .i64 10)]) ⟨rfl, rfl, trivial⟩ .nil ?_
              refine Fin.end2 (.inl rfl) rfl rfl rfl ?_
              refine ⟨rfl, [], 10, rfl, ?_⟩
              simp only [show ¬ ((10 : Int) = 0) by decide, false_iff]
              rintro ⟨_, h1⟩
              rw [byc_len] at c28
              simp at c28; omega
            · refine DC.skip ?_
              refine Fin.then ?_
              refine Zs ?_
              refine Zm ?_
              refine Seq.val rfl rfl (v_bytes_str (l := certB true ls cs) rfl rfl (byc_len _).symm Tryz.underlying47 Tryz.underlying5 Tryz.underlying9 (hass_slcV (i := 0) rfl)) ?_
              refine Za ?_
              refine Za ?_
              refine Zx ?_
              refine DC.ret ?_
              refine Fin.weak (E' := [(2, str (certB true ls cs)), (3, .int .i64 0)]) ⟨rfl, rfl, trivial⟩ .nil ?_
              refine Fin.end2 (.inl rfl) rfl rfl rfl ?_
              refine ⟨rfl, _, 0, rfl, ?_⟩
              simp only [true_iff]
              rw [byc_len] at c28
              exact ⟨⟨hcs, hok⟩, by simp at c28; omega⟩
  · cases k1_2
def preE (es : List Pr) (i : Nat) : List UInt8 := headB [110] es.length ++ ((es.map fun e => lineB [e.1, e.2]).take i).flatten
theorem preE_succ {es : List Pr} {i : Nat} {e : Pr} (h : es[i]? = some e) : preE es (i + 1) = preE es i ++ (Lib.itoa e.1 ++ ([32] ++ (Lib.itoa e.2 ++ [10]))) := by
  unfold preE
  rw [flatten_take (l := es.map fun e => lineB [e.1, e.2]) (x := lineB [e.1, e.2]) (by rw [List.getElem?_map, h]; rfl), ← List.append_assoc]
  congr 1
  simp [lineB, Lib.join, List.intercalate, List.intersperse]
theorem r17PrintF_calls {ls : List (List Int)} {cs : List Pr} {v u : Value} {w : World} (hv : LsV w v ls) (hu : PrV w u cs) :
    Calls Tryz.prog 31 #[.agg #[.bool false, v, u]] w (Ret w [] fun r L => L = [] ∧ ∃ s e, r = .tuple #[str s, .int .i64 e] ∧ (e = 0 ↔ TextOk false ls cs)) := by
  have hv0 := hv
  have hu0 := hu
  obtain ⟨Al, cl, rfl, hr, hlc, hcm, hle⟩ := hv
  obtain ⟨Ac, cc, rfl, hrc, hlcc, hcmc, hlec⟩ := hu
  refine calls_of (args := [_]) (L := []) Tryz.func31 rfl Tryz.ntmps31 rfl (Own.start _ _) ?_
  refine Zs ?_
  refine Seq.new rfl rfl (n_box rfl rfl rfl) fun g1 => ?_
  refine Za ?_
  refine Za ?_
  refine Zx ?_
  refine DC.seq ?_
  refine Zs ?_
  refine Zf fi27_0 ?_
  refine Zl ag4 ?_
  refine Zm ?_
  refine Seq.split 10 rfl (fun k1_2 => ?_) (fun k1_2 => ?_)
  · cases k1_2
  · refine Zk ?_
    refine Zk ?_
    refine Zk ?_
    refine Zk ?_
    refine Zk ?_
    refine Zk ?_
    refine Zk ?_
    refine Zk ?_
    refine Zk ?_
    refine Zk ?_
    refine Zg ?_
    refine Zm ?_
    refine Zf fi27_0 ?_
    refine Zl ag4 ?_
    refine Seq.pur rfl rfl (p_not rfl rfl) ?_
    refine Zm ?_
    refine Seq.split 26 rfl (fun k1_18 => ?_) (fun k1_18 => ?_)
    · refine Zf fi27_1 ?_
      refine Zl ag25 ?_
      refine Zn Tryz.underlying25 ?_
      refine Seq.pur rfl rfl (p_gtr rfl rfl rfl) ?_
      refine Zm ?_
      refine Seq.split 31 rfl (fun k1_23 => ?_) (fun k1_23 => ?_)
      · refine Zk ?_
        refine Zk ?_
        refine Zk ?_
        refine Zk ?_
        refine Zt ?_
        refine Zt ?_
        refine Zg ?_
        refine Zx ?_
        refine DC.cond_t rfl ?_
        refine Zs ?_
        refine Za ?_
        refine Za ?_
        refine Zx ?_
        refine DC.ret ?_
        refine Fin.ret_then <| ?_
        refine Fin.weak (E' := [(2, str []), (3, .int .i64 170)]) ⟨rfl, rfl, trivial⟩ .nil ?_
        refine Fin.end2 (.inl rfl) rfl rfl rfl ?_
        refine ⟨rfl, [], 170, rfl, ?_⟩
        simp only [show ¬ ((170 : Int) = 0) by decide, false_iff]
        rintro ⟨⟨h1, _⟩, _⟩
        rw [h1] at k1_23
        simp at k1_23
      · refine Zf fi27_2 ?_
        refine Zl ag22 ?_
        refine Seq.rel0 rfl rfl (r_call en61 rfl rfl rfl (fun w' hw => r17edges_calls (hu0.keep0 hw))) ?_
        rintro _ ⟨b1, rfl, hb1⟩
        refine Seq.pur rfl rfl (p_not rfl rfl) ?_
        refine Zg ?_
        refine Zt ?_
        refine Zg ?_
        refine Zx ?_
        refine DC.cond rfl (fun c1 => ?_) (fun c1 => ?_)
        · refine Zs ?_
          refine Za ?_
          refine Za ?_
          refine Zx ?_
          refine DC.ret ?_
          refine Fin.ret_then <| ?_
          refine Fin.weak (E' := [(2, str []), (3, .int .i64 170)]) ⟨rfl, rfl, trivial⟩ .nil ?_
          refine Fin.end2 (.inl rfl) rfl rfl rfl ?_
          refine ⟨rfl, [], 170, rfl, ?_⟩
          simp only [show ¬ ((170 : Int) = 0) by decide, false_iff]
          rintro ⟨⟨_, h1⟩, _⟩
          rw [hb1.2 h1] at c1
          simp at c1
        · refine DC.skip ?_
          refine Fin.then ?_
          refine DC.seq ?_
          have hcs : ls = [] := by simp at k1_23; exact k1_23
          have hok : EdgesOk cs := hb1.1 (by simpa using c1)
          have hmany := hok.few
          have hline : ∀ x, x ∈ (cs.map fun e => lineB [e.1, e.2]) → x.length ≤ 43 := fun x hx => by
            obtain ⟨e, he, rfl⟩ := List.mem_map.1 hx
            obtain ⟨j, hj⟩ := List.mem_iff_getElem?.1 he
            have h2 := hok.ok j e hj
            have h1 := lineB_len (ns := [e.1, e.2]) (fun a ha => by simp at ha; unfold I64; unfold Fits at h2; rcases ha with rfl | rfl <;> omega)
            simp at h1; omega
          have hpre : ∀ i, (preE cs i).length ≤ 50000000000000 := fun i => by
            have h1 := flat_len (L := (cs.map fun e => lineB [e.1, e.2]).take i) (fun x hx => hline x (List.mem_of_mem_take hx))
            have h2 : ((cs.map fun e => lineB [e.1, e.2]).take i).length * 43 ≤ 4194304 * 43 := Nat.mul_le_mul_right _ (by rw [List.length_take, List.length_map]; omega)
            have h3 := headB_len (letter := [110]) (n := cs.length) rfl (by omega)
            unfold preE
            rw [List.length_append]; omega
          refine DC.region ?_
          refine Za ?_
          refine Zx ?_
          refine DC.cut (ι := Value) (fun _ => True) (fun v => [(4, v)]) (fun v => [slc v 5 1 (byc (certB false ls cs))]) ?first23 ?rest23
          case first23 =>
            refine Zs ?_
            refine Zf fi27_0 ?_
            refine Zl ag4 ?_
            refine Zx ?_
            refine DC.cond rfl (fun c4 => ?_) (fun c4 => ?_)
            · cases c4
            · refine Zs ?_
              refine Zm ?_
              refine Seq.new rfl rfl (n_slit (cs := #[_, _]) rfl rfl Tryz.underlying47 sz5 ze5 rfl (by decide) (by decide) rfl rfl) fun g90 => ?_
              refine Seq.gen rfl rfl (g_append rfl rfl rfl Tryz.underlying47 sz5 by5 ze5 rfl (by decide) (by decide) (news := byc [110, 32]) (k := 2) (fun w hw => own_nil (t := 5) (m := 1) (hw.sub (L' := [blk g1 27 #[.bool false, .slice Al ls.length cl, .slice Ac cs.length cc]]) (List.sublist_cons_self ..))) (.inl ⟨_, _, rfl, hass_blk rfl⟩) rfl (byc_one _) (by simp)) ?_
              rintro v91 _ rfl
              refine Za ?_
              refine Zx ?_
              refine Zs ?_
              refine Zm ?_
              refine Zf fi27_2 ?_
              refine Zl ag22 ?_
              refine Zn Tryz.underlying22 ?_
              refine Seq.rel0 rfl rfl (r_call en62 rfl rfl rfl (fun w' hw => r1Text_calls (a := cs.length) (by omega))) ?_
              rintro _ rfl
              refine Seq.gen rfl rfl (g_append_str rfl rfl rfl Tryz.underlying47 Tryz.underlying9 sz5 by5 ze5 (fun w hw => hw) (by have := itoa_len (a := (cs.length : Int)) (by omega); simp; omega)) ?_
              rintro v97 _ rfl
              refine Za ?_
              refine Zx ?_
              refine Zs ?_
              refine Zm ?_
              refine Seq.new rfl rfl (n_slit (cs := #[_]) rfl rfl Tryz.underlying47 sz5 ze5 rfl (by decide) (by decide) rfl rfl) fun g99 => ?_
              refine Seq.gen rfl rfl (g_append rfl rfl rfl Tryz.underlying47 sz5 by5 ze5 rfl (by decide) (by decide) (F := [blk g1 27 #[.bool false, .slice Al ls.length cl, .slice Ac cs.length cc]]) (news := byc [10]) (k := 1) (fun w hw => hw.pick (.cons 1 rfl (.cons 1 rfl .nil))) (.inl ⟨_, _, rfl, hass_blk rfl⟩) rfl (byc_one _) (by have := itoa_len (a := (cs.length : Int)) (by omega); simp; omega)) ?_
              rintro v100 _ rfl
              refine Za ?_
              refine Zx ?_
              refine Zs ?_
              refine Za ?_
              refine Zx ?_
              refine DC.block ?_
              refine DC.loop (ι := PtI) (fun j => j.i ≤ cs.length) (fun j => [(1, .pointer (some ⟨g1, 0, none⟩)), (4, j.v), (7, .int .i64 j.i)])
                (fun j => [slc j.v 5 1 (byc (preE cs j.i)), blk g1 27 #[.bool false, .slice Al ls.length cl, .slice Ac cs.length cc]]) (fun j => cs.length - j.i) ⟨0, v100⟩ (Nat.zero_le _) ⟨rfl, rfl, rfl, trivial⟩ (.cons' 0 rfl (by dsimp only; unfold preE; rw [head_eq]; simp [byc, Lib.byteCells]) (.cons 0 rfl .nil)) ?_
              rintro ⟨i, v4⟩ hi
              dsimp only at hi ⊢
              refine DC.seq ?_
              refine Zs ?_
              refine Zm ?_
              refine Zf fi27_2 ?_
              refine Zl ag22 ?_
              refine Zn Tryz.underlying22 ?_
              refine Zc ?_
              refine Zx ?_
              refine DC.cond rfl (fun c22 => ?_) (fun c22 => ?_)
              · have hlt : i < cs.length := by simpa using c22
                obtain ⟨e, he⟩ : ∃ e, cs[i]? = some e := ⟨_, List.getElem?_eq_getElem hlt⟩
                obtain ⟨ad, rfl, hU, hVe⟩ := hrc.pair he
                obtain ⟨hf1, hf2, _⟩ := hok.ok i e he
                obtain ⟨a, ha, ha1⟩ := fits_nat hf1
                obtain ⟨b, hb, hb1'⟩ := fits_nat hf2
                obtain rfl : e = ((a : Int), (b : Int)) := Prod.ext ha hb
                clear ha hb hf1 hf2
                replace hU : w.cell? (ad.add (i * 2)) = some (.int .i64 (a : Int)) := hU
                replace hVe : w.cell? (ad.add (i * 2 + 1)) = some (.int .i64 (b : Int)) := hVe
                have hia := itoa_len (a := (a : Int)) (by omega)
                have hib := itoa_len (a := (b : Int)) (by omega)
                have hpi := hpre i
                refine DC.skip ?_
                refine Fin.then ?_
                refine DC.seq ?_
                refine DC.block ?_
                refine Zs ?_
                refine Zm ?_
                refine Zf fi27_2 ?_
                refine Zl ag22 ?_
                refine Zm ?_
                refine Seq.pur rfl rfl (p_index (ad' := ad.add (i * 2)) rfl rfl rfl Tryz.underlying22 sz43 (by omega) (by omega) rfl) ?_
                refine Seq.pur rfl rfl (p_field (ad' := ad.add (i * 2)) rfl rfl fi43_0 (by simp [Addr.add])) ?_
                refine Seq.val rfl rfl (v_load rfl rfl ag3 (has_old' hU)) ?_
                refine Seq.rel0 rfl rfl (r_call en62 rfl rfl rfl (fun w' hw => r1Text_calls ha1)) ?_
                rintro _ rfl
                refine Seq.gen rfl rfl (g_append_str rfl rfl rfl Tryz.underlying47 Tryz.underlying9 sz5 by5 ze5 (fun w hw => hw) (by rw [byc_len]; omega)) ?_
                rintro v116 _ rfl
                refine Za ?_
                refine Zx ?_
                refine Zs ?_
                refine Zm ?_
                refine Seq.new rfl rfl (n_slit (cs := #[_]) rfl rfl Tryz.underlying47 sz5 ze5 rfl (by decide) (by decide) rfl rfl) fun g118 => ?_
                refine Seq.gen rfl rfl (g_append rfl rfl rfl Tryz.underlying47 sz5 by5 ze5 rfl (by decide) (by decide) (F := [blk g1 27 #[.bool false, .slice Al ls.length cl, .slice (some ad) cs.length cc]]) (news := byc [32]) (k := 1) (fun w hw => hw.pick (.cons 1 rfl (.cons 1 rfl .nil))) (.inl ⟨_, _, rfl, hass_blk rfl⟩) rfl (byc_one _) (by simp only [byc_len, List.length_append, List.length_cons, List.length_nil]; omega)) ?_
                rintro v119 _ rfl
                refine Za ?_
                refine Zx ?_
                refine Zs ?_
                refine Zm ?_
                refine Zf fi27_2 ?_
                refine Zl ag22 ?_
                refine Zm ?_
                refine Seq.pur rfl rfl (p_index (ad' := ad.add (i * 2)) rfl rfl rfl Tryz.underlying22 sz43 (by omega) (by omega) rfl) ?_
                refine Seq.pur rfl rfl (p_field (ad' := ad.add (i * 2 + 1)) rfl rfl fi43_1 (add_add _ _ _ (by decide))) ?_
                refine Seq.val rfl rfl (v_load rfl rfl ag3 (has_old' hVe)) ?_
                refine Seq.rel0 rfl rfl (r_call en62 rfl rfl rfl (fun w' hw => r1Text_calls hb1')) ?_
                rintro _ rfl
                refine Seq.gen rfl rfl (g_append_str rfl rfl rfl Tryz.underlying47 Tryz.underlying9 sz5 by5 ze5 (fun w hw => hw) (by simp only [byc_len, List.length_append, List.length_cons, List.length_nil]; omega)) ?_
                rintro v128 _ rfl
                refine Za ?_
                refine Zx ?_
                refine DC.region ?_
                refine Zm ?_
                refine Seq.new rfl rfl (n_slit (cs := #[_]) rfl rfl Tryz.underlying47 sz5 ze5 rfl (by decide) (by decide) rfl rfl) fun g130 => ?_
                refine Seq.gen rfl rfl (g_append rfl rfl rfl Tryz.underlying47 sz5 by5 ze5 rfl (by decide) (by decide) (F := [blk g1 27 #[.bool false, .slice Al ls.length cl, .slice (some ad) cs.length cc]]) (news := byc [10]) (k := 1) (fun w hw => hw.pick (.cons 1 rfl (.cons 1 rfl .nil))) (.inl ⟨_, _, rfl, hass_blk rfl⟩) rfl (byc_one _) (by simp only [byc_len, List.length_append, List.length_cons, List.length_nil]; omega)) ?_
                rintro v131 _ rfl
                refine Za ?_
                refine Seq.nil ?_
                refine Fin.inBlock ?_
                refine Fin.then ?_
                refine DC.region ?_
                refine Zm ?_
                refine Zp ?_
                refine Za ?_
                refine Seq.nil ?_
                refine Fin.again ⟨i + 1, v131⟩ (by dsimp only; omega) (by dsimp only; omega) ⟨rfl, rfl, rfl, trivial⟩ (.cons' 0 rfl (by dsimp only; rw [preE_succ he]; simp only [byc_app, List.append_assoc]) (.cons 0 rfl .nil))
              · refine DC.exit ?_
                refine Fin.exit_then <| Fin.exit_then <| Fin.exit_here <| ?_
                have hie : i = cs.length := by simp at c22; omega
                subst hie
                refine Fin.meet v4 trivial ⟨rfl, trivial⟩ (.cons' 0 rfl (by unfold preE certB textB; rw [if_neg (by simp), List.length_map, List.take_of_length_le (by simp)]) .nil)
          case rest23 =>
            rintro v4 _
            refine DC.seq ?_
            refine DC.seq ?_
            refine DC.slcv (i := 0) rfl ?_
            rintro A4 c4' rfl hA4
            have hne : certB false ls cs ≠ [] := by unfold certB textB headB; simp
            obtain ⟨ad4, rfl⟩ := hA4 (fun e => hne (by have := congrArg List.length e; rw [byc_len] at this; exact List.eq_nil_of_length_eq_zero this))
            refine DC.region ?_
            refine Zm ?_
            refine Zn Tryz.underlying47 ?_
            refine Seq.pur rfl rfl (p_gtr rfl rfl rfl) ?_
            refine Zx ?_
            refine DC.cond rfl (fun c28 => ?_) (fun c28 => ?_)
            · refine Zs ?_
              refine Za ?_
              refine Za ?_
              refine Zx ?_
              refine DC.ret ?_
              refine Fin.ret_then <| ?_
              refine Fin.weak (E' := [(2, str []), (3, .int .i64 10)]) ⟨rfl, rfl, trivial⟩ .nil ?_
              refine Fin.end2 (.inl rfl) rfl rfl rfl ?_
              refine ⟨rfl, [], 10, rfl, ?_⟩
              simp only [show ¬ ((10 : Int) = 0) by decide, false_iff]
              rintro ⟨_, h1⟩
              rw [byc_len] at c28
              simp at c28; omega
            · refine DC.skip ?_
              refine Fin.then ?_
              refine Zs ?_
              refine Zm ?_
              refine Seq.val rfl rfl (v_bytes_str (l := certB false ls cs) rfl rfl (byc_len _).symm Tryz.underlying47 Tryz.underlying5 Tryz.underlying9 (hass_slcV (i := 0) rfl)) ?_
              refine Za ?_
              refine Za ?_
              refine Zx ?_
              refine DC.ret ?_
              refine Fin.weak (E' := [(2, str (certB false ls cs)), (3, .int .i64 0)]) ⟨rfl, rfl, trivial⟩ .nil ?_
              refine Fin.end2 (.inl rfl) rfl rfl rfl ?_
              refine ⟨rfl, _, 0, rfl, ?_⟩
              simp only [true_iff]
              rw [byc_len] at c28
              exact ⟨⟨hcs, hok⟩, by simp at c28; omega⟩
    · cases k1_18
theorem r17Print_calls {pl : Bool} {ls : List (List Int)} {cs : List Pr} {v u : Value} {w : World} (hv : LsV w v ls) (hu : PrV w u cs) (hs : ∀ l, l ∈ ls → l.length ≤ 2097152) :
    Calls Tryz.prog 31 #[.agg #[.bool pl, v, u]] w (Ret w [] fun r L => L = [] ∧ ∃ s e, r = .tuple #[str s, .int .i64 e] ∧ (e = 0 ↔ TextOk pl ls cs)) := by
  cases pl
  · exact r17PrintF_calls hv hu
  · exact r17PrintT_calls hv hu hs
end Go.Fl

set_option linter.unusedVariables false
set_option linter.unusedSimpArgs false
set_option maxRecDepth 100000
namespace Go.Fl
open Go Go.Proofs
theorem PrV.src2 {w0 w : World} {L : List Chunk} {v : Value} {es : List Pr} (h : PrV w0 v es) : Src w0 [] L v es.length (prs es) := by
  obtain ⟨A, cap, rfl, hr, _, _, _⟩ := h
  refine src_rd (m := 2) hr (by simp) (by simp) (fun hA => ?_)
  subst hA
  cases es with
  | nil => rfl
  | cons e r => obtain ⟨ad, e', _⟩ := hr.pair (i := 0) (e := e) rfl; cases e'
theorem SlV.src2 {w0 w : World} {L : List Chunk} {v : Value} {xs : List Int} (h : SlV w0 v xs) : Src w0 [] L v xs.length (ints xs) := by
  obtain ⟨A, cap, rfl, hr, _, _, _⟩ := h
  refine src_rd (m := 1) hr (by simp) (by simp) (fun hA => ?_)
  subst hA
  cases xs with
  | nil => rfl
  | cons e r => obtain ⟨ad, e', _⟩ := hr.int (i := 0) (x := e) rfl; cases e'
/-- Lists of ours, seen as lists that are read. -/
theorem lsv_slc {w0 w : World} {K : List Nat} {F : List Chunk} {t t' : Nat} {v : Value} {rs : RL} (hw : Own w0 K w (slc v t' 1 (rowsV rs) :: (F ++ rowsC t rs))) (hb : rs.length ≤ 17592186044416) (hf : ∀ p, p ∈ rs → p.2.length ≤ 17592186044416) : LsV w v (rs.map Prod.snd) := by
  obtain ⟨A, len, cap, rfl, hl, hr, h1, h2⟩ := rd_own hw
  rw [rowsV_length, Nat.mul_one] at hl
  subst hl
  refine ⟨A, cap, by simp, fun i l hi => ?_, by simpa using h1, h2, by simpa using hb⟩
  rw [List.getElem?_map, Option.map_eq_some_iff] at hi
  obtain ⟨p, hp, rfl⟩ := hi
  have hg : (rowsV rs)[i]? = some p.1 := by simp [rowsV, hp]
  obtain ⟨ad, hA, hc⟩ := hr i p.1 hg
  refine ⟨ad, p.1, hA, hc, slv_rows (F := slc (.slice A rs.length cap) t' 1 (rowsV rs) :: F) (by simpa using hw) hp (hf p (List.mem_of_getElem? hp))⟩
structure CcI where
  i : Nat
  v : Value
  rs : RL
theorem r17Copy_calls {pl : Bool} {ls : List (List Int)} {cs : List Pr} {v u : Value} {w : World} (hv : LsV w v ls) (hu : PrV w u cs) (hn : ls.length ≤ 1000000000) (hs : ∀ l, l ∈ ls → l.length ≤ 1000000000) :
    Calls Tryz.prog 12 #[.agg #[.bool pl, v, u]] w (Ret w [] fun r L => ∃ Av lv cv Au lu cu rs, r = .agg #[.bool pl, .slice Av lv cv, .slice Au lu cu] ∧ rs.map Prod.snd = ls ∧
      L = slc (.slice Av lv cv) 44 1 (rowsV rs) :: slc (.slice Au lu cu) 43 2 (prs cs) :: rowsC 3 rs) := by
  have hu0 := hu
  obtain ⟨Al, cl, rfl, hr, hlc, hcm, hle⟩ := hv
  obtain ⟨Ac, cc, rfl, hrc, hlcc, hcmc, hlec⟩ := hu
  refine calls_of (args := [_]) (L := []) Tryz.func12 rfl Tryz.ntmps12 rfl (Own.start _ _) ?_
  refine Zs ?_
  refine Seq.new rfl rfl (n_box rfl rfl rfl) fun g1 => ?_
  refine Seq.new rfl rfl (n_alloc rfl ze27 rfl) fun g2 => ?_
  refine Zx ?_
  refine DC.seq ?_
  refine DC.flow (cl := [.q, .v, .n, .q, .v, .r, .q, .n, .g]) (A := [0, 1, 0, 0, 8, 28, 63, 0, 255]) (order := [0, 1, 3, 4, 2, 5, 6, 7, 8]) [] mixed (by kernel_rfl) (fun w hw => hw.pick .nil) ?_
  refine Yf fi27_0 ?_
  refine Yl ag4 ?_
  refine Yf fi27_2 ?_
  refine Yl ag22 ?_
  refine Flow.new' rfl rfl rfl rfl (n_slit (cs := #[]) rfl rfl Tryz.underlying22 sz43 ze43 rfl (by decide) (by decide) rfl rfl) fun g7 => ?_
  refine Flow.relS rfl rfl rfl rfl (r_append0 rfl rfl rfl Tryz.underlying22 sz43 by43 ze43 rfl (by decide) (by decide) (PrV.src2 (w := w) hu0) (by simp) (by omega)) ?_
  rintro _ _ ⟨⟨Au, lu, cu, rfl⟩, rfl⟩
  refine Flow.pur rfl rfl rfl (p_struct (cs := #[_, _, _]) rfl rfl bs27 rfl rfl) ?_
  refine Flow.new' rfl rfl rfl rfl (n_alloc rfl ze27 rfl) fun g3 => ?_
  refine Flow.sto (V := [blk g3 27 #[.bool false, .slice none 0 0, .slice none 0 0], ap0 (.slice Au lu cu) g7 43 2 (prs cs), blk g7 43 #[], blk g2 27 #[.bool false, .slice none 0 0, .slice none 0 0], blk g1 27 #[.bool pl, .slice Al ls.length cl, .slice Ac cs.length cc]]) rfl rfl rfl rfl rfl (s_stores (cs' := #[_, _, _]) rfl rfl rfl sz27 rfl (Nat.le_of_ble_eq_true rfl) rfl) (fun w hw => hw.pick (.nil)) ?_
  refine Flow.end rfl ?_
  simp only [List.map_cons, List.map_nil, List.nil_append, List.cons_append, List.append_nil]
  refine Fin.then ?_
  refine DC.seq ?_
  refine Zs ?_
  refine Za ?_
  refine Zx ?_
  refine DC.block ?_
  refine DC.own (M := slc (.slice none 0 0) 44 1 [] :: blk g3 27 #[.bool pl, .slice none 0 0, .slice Au lu cu] :: slc (.slice Au lu cu) 43 2 (prs cs) :: blk g2 27 #[.bool false, .slice none 0 0, .slice none 0 0] :: blk g1 27 #[.bool pl, .slice Al ls.length cl, .slice Ac cs.length cc] :: rowsC 3 []) (fun w hw => own_nil (t := 44) (m := 1) ?_) ?_
  · have k3 : Own _ _ w (slc _ _ _ _ :: _) := own_ap0 (by decide) (hw.pick (.cons 1 rfl (.cons 1 rfl (Pick.all _))))
    exact k3.pick (.cons 1 rfl (.cons 0 rfl (Pick.all _)))
  refine DC.loop (ι := CcI) (fun j => j.i ≤ ls.length ∧ j.rs.map Prod.snd = ls.take j.i)
    (fun j => [(1, .pointer (some ⟨g1, 0, none⟩)), (2, .pointer (some ⟨g2, 0, none⟩)), (3, .pointer (some ⟨g3, 0, none⟩)), (4, .int .i64 j.i)])
    (fun j => slc j.v 44 1 (rowsV j.rs) :: blk g3 27 #[.bool pl, j.v, .slice Au lu cu] :: slc (.slice Au lu cu) 43 2 (prs cs) :: blk g2 27 #[.bool false, .slice none 0 0, .slice none 0 0] :: blk g1 27 #[.bool pl, .slice Al ls.length cl, .slice Ac cs.length cc] :: rowsC 3 j.rs) (fun j => ls.length - j.i) ⟨0, .slice none 0 0, []⟩ ⟨Nat.zero_le _, rfl⟩ ⟨rfl, rfl, rfl, rfl, trivial⟩ (Pick.all _) ?_
  rintro ⟨i, v, rs⟩ ⟨hi, hrs⟩
  dsimp only at hi hrs ⊢
  have hrl : rs.length = i := by have := congrArg List.length hrs; simp at this; omega
  refine DC.seq ?_
  refine Zs ?_
  refine Zm ?_
  refine Zf fi27_1 ?_
  refine Zl ag25 ?_
  refine Zn Tryz.underlying25 ?_
  refine Zc ?_
  refine Zx ?_
  refine DC.cond rfl (fun c3 => ?_) (fun c3 => ?_)
  · have hlt : i < ls.length := by simpa using c3
    obtain ⟨l, hl⟩ : ∃ l, ls[i]? = some l := ⟨_, List.getElem?_eq_getElem hlt⟩
    obtain ⟨ad, lv, rfl, hc, hsl⟩ := hr i l hl
    have hll := hs l (List.mem_of_getElem? hl)
    have hlsh : ∃ A c, lv = .slice A l.length c := by obtain ⟨A, c, h, _⟩ := hsl; exact ⟨A, c, h⟩
    obtain ⟨Ax, cx, rfl⟩ := hlsh
    refine DC.skip ?_
    refine Fin.then ?_
    refine DC.seq ?_
    refine DC.block ?_
    refine DC.flow (cl := [.q, .v, .n, .q, .v, .q, .q, .v, .r, .n, .g, .q, .g]) (A := [0, 1, 0, 0, 8, 0, 56, 120, 252, 508, 1023, 2047, 4095]) (order := [0, 1, 3, 4, 5, 6, 7, 2, 8, 9, 10, 11, 12]) [] mixed (by kernel_rfl) (fun w hw => hw.pick .nil) ?_
    refine Yf fi27_1 ?_
    refine Yl ag25 ?_
    refine Yf fi27_1 ?_
    refine Yl ag25 ?_
    refine Ym ?_
    refine Flow.pur rfl rfl rfl (p_index1 (ad' := ad.add i) rfl rfl rfl Tryz.underlying25 sz44 (by omega) (by omega) rfl) ?_
    refine Flow.valS rfl rfl rfl rfl (v_load rfl rfl ag44 (has_old' hc)) ?_
    refine Flow.new' rfl rfl rfl rfl (n_slit (cs := #[]) rfl rfl Tryz.underlying44 sz3 ze3 rfl (by decide) (by decide) rfl rfl) fun g21 => ?_
    refine Flow.relS rfl rfl rfl rfl (r_append0 rfl rfl rfl Tryz.underlying44 sz3 by3 ze3 rfl (by decide) (by decide) (SlV.src2 (w := w) hsl) (by simp) (by omega)) ?_
    rintro _ _ ⟨⟨A27, l27, c27, rfl⟩, rfl⟩
    refine Flow.new' rfl rfl rfl rfl (n_slit (cs := #[_]) rfl rfl Tryz.underlying25 sz44 ze44 rfl (by decide) (by decide) rfl rfl) fun g28 => ?_
    refine Flow.gen' (V := (blk g28 44 #[.slice A27 l27 c27] :: ap0 (.slice A27 l27 c27) g21 3 1 (ints l) :: blk g21 3 #[] :: slc v 44 1 (rowsV rs) :: blk g3 27 #[.bool pl, v, .slice Au lu cu] :: slc (.slice Au lu cu) 43 2 (prs cs) :: blk g2 27 #[.bool false, .slice none 0 0, .slice none 0 0] :: blk g1 27 #[.bool pl, .slice (some ad) ls.length cl, .slice Ac cs.length cc] :: rowsC 3 rs)) rfl rfl rfl rfl rfl ((g_append (F := blk g28 44 #[.slice A27 l27 c27] :: ap0 (.slice A27 l27 c27) g21 3 1 (ints l) :: blk g21 3 #[] :: blk g3 27 #[.bool pl, v, .slice Au lu cu] :: slc (.slice Au lu cu) 43 2 (prs cs) :: blk g2 27 #[.bool false, .slice none 0 0, .slice none 0 0] :: blk g1 27 #[.bool pl, .slice (some ad) ls.length cl, .slice Ac cs.length cc] :: rowsC 3 rs) (vs := rowsV rs) (news := [.slice A27 l27 c27]) (k := 1) rfl rfl rfl Tryz.underlying25 sz44 by44 ze44 rfl (by decide) (by decide) (fun w hw => hw.pick (.cons 3 rfl (Pick.all _))) (.inl ⟨_, _, rfl, hass_blk rfl⟩) rfl (fun u hu => by rw [List.mem_singleton.1 hu]; rfl) (by simp; omega)).shape) (fun v L' hC w hw => hw.pick (.nil)) ?_
    rintro _ _ ⟨⟨A29, l29, c29, rfl⟩, rfl⟩
    refine Yf fi27_1 ?_
    refine Flow.sto0 rfl rfl rfl rfl (s_store (cs' := #[_, _, _]) rfl rfl rfl sz25 rfl (Nat.le_of_ble_eq_true rfl) rfl) (fun w hw => hw.pick (.nil)) ?_
    refine Flow.end rfl ?_
    simp only [List.map_cons, List.map_nil, List.nil_append, List.cons_append, List.append_nil]
    refine Fin.inBlock ?_
    refine Fin.then ?_
    refine DC.region ?_
    refine Zm ?_
    refine Zp ?_
    refine Za ?_
    refine Seq.nil ?_
    refine Fin.own (M := slc (.slice A29 l29 c29) 44 1 (rowsV (rs ++ [(.slice A27 l27 c27, l)])) :: blk g3 27 #[.bool pl, .slice A29 l29 c29, .slice Au lu cu] :: slc (.slice Au lu cu) 43 2 (prs cs) :: blk g2 27 #[.bool false, .slice none 0 0, .slice none 0 0] :: blk g1 27 #[.bool pl, .slice (some ad) ls.length cl, .slice Ac cs.length cc] :: rowsC 3 (rs ++ [(.slice A27 l27 c27, l)])) (fun w hw => ?_) ?_
    · have e1 : rowsV (rs ++ [(.slice A27 l27 c27, l)]) = rowsV rs ++ [.slice A27 l27 c27] := by simp [rowsV]
      have e2 : rowsC 3 (rs ++ [(.slice A27 l27 c27, l)]) = rowsC 3 rs ++ [slc (.slice A27 l27 c27) 3 1 (ints l)] := by simp [rowsC]
      rw [e1, e2]
      have k3 : Own _ _ w (slc _ _ _ _ :: _) := own_ap0 (by decide) (hw.pick (.cons 2 rfl (.cons 2 rfl (.cons 0 rfl (.cons 1 rfl (.cons 1 rfl (.cons 1 rfl (.cons 1 rfl (pick_tail _ _)))))))))
      refine k3.perm ?_
      exact List.perm_append_comm (l₁ := slc (.slice A29 l29 c29) 44 1 (rowsV rs ++ [.slice A27 l27 c27]) :: blk g3 27 #[.bool pl, .slice A29 l29 c29, .slice Au lu cu] :: slc (.slice Au lu cu) 43 2 (prs cs) :: blk g2 27 #[.bool false, .slice none 0 0, .slice none 0 0] :: blk g1 27 #[.bool pl, .slice (some ad) ls.length cl, .slice Ac cs.length cc] :: rowsC 3 rs) (l₂ := [slc (.slice A27 l27 c27) 3 1 (ints l)])
    refine Fin.again ⟨i + 1, .slice A29 l29 c29, rs ++ [(.slice A27 l27 c27, l)]⟩ (by dsimp only; omega) ⟨by dsimp only; omega, by dsimp only; rw [List.map_append, hrs, List.take_add_one, hl]; rfl⟩ ⟨rfl, rfl, rfl, rfl, trivial⟩ (Pick.all _)
  · refine DC.exit ?_
    refine Fin.exit_then <| Fin.exit_then <| Fin.exit_here <| ?_
    refine Fin.then ?_
    refine DC.seq ?_
    have hie : i = ls.length := by simp at c3; omega
    refine DC.slcv (i := 0) (v := v) rfl ?_
    rintro Av cv rfl hAv
    refine DC.region ?_
    refine Seq.val rfl rfl (v_loads (vs := [_, _, _]) rfl rfl ag27 sz27 rfl (hass_blk rfl)) ?_
    refine Seq.sto rfl rfl (s_stores (cs' := #[_, _, _]) rfl rfl rfl sz27 rfl (Nat.le_of_ble_eq_true rfl) rfl) ?_
    refine Zx ?_
    refine DC.ret ?_
    refine Fin.endc (cs := #[_, _, _]) (.inl rfl) rfl rfl ag27 sz27 ?_
    refine ⟨slc (.slice Av (rowsV rs).length cv) 44 1 (rowsV rs) :: slc (.slice Au lu cu) 43 2 (prs cs) :: rowsC 3 rs, fun w hw => ?_, Av, _, cv, Au, lu, cu, rs, rfl, by rw [hrs, hie, List.take_length], rfl⟩
    exact hw.pick (.cons 0 rfl (.cons 1 rfl (pick_past _ (pick_past _ (pick_tail _ _)))))
end Go.Fl

set_option linter.unusedVariables false
set_option linter.unusedSimpArgs false
set_option linter.unusedSectionVars false
namespace Go.Fl
open Go
def pk (L : List Chunk) : Chunk :=
  ⟨idsOf L, fun w => ∀ c, c ∈ L → c.holds w, fun w w' h hh c hc => c.loc w w' (fun g hg => h g (mem_idsOf.2 ⟨c, hc, hg⟩)) (hh c hc)⟩
section
variable {w0 w : World} {K : List Nat} {L F : List Chunk}
theorem own_pk (h : Own w0 K w (L ++ F)) : Own w0 K w (pk L :: F) := by
  have e : idsOf (pk L :: F) = idsOf (L ++ F) := by simp [pk]
  refine ⟨h.os, h.tape, h.output, h.drawn, h.size, h.old, by rw [e]; exact h.nodup, fun g hg => h.fresh g (by rwa [e] at hg), fun g hg => h.lt g (by rwa [e] at hg), fun c hc => ?_⟩
  rcases List.mem_cons.1 hc with rfl | hc
  · exact fun d hd => h.holds d (List.mem_append_left _ hd)
  · exact h.holds c (List.mem_append_right _ hc)
theorem own_unpk (h : Own w0 K w (pk L :: F)) : Own w0 K w (L ++ F) := by
  have e : idsOf (pk L :: F) = idsOf (L ++ F) := by simp [pk]
  refine ⟨h.os, h.tape, h.output, h.drawn, h.size, h.old, by rw [← e]; exact h.nodup, fun g hg => h.fresh g (by rwa [← e] at hg), fun g hg => h.lt g (by rwa [← e] at hg), fun c hc => ?_⟩
  rcases List.mem_append.1 hc with hc | hc
  · exact h.holds (pk L) (List.mem_cons_self ..) c hc
  · exact h.holds c (List.mem_cons_of_mem _ hc)
theorem own_unpkAt {M : List Chunk} (i : Nat) (hi : M[i]? = some (pk L)) (h : Own w0 K w M) : Own w0 K w (L ++ M.eraseIdx i) := own_unpk (h.perm (perm_eraseIdx hi).symm)
end
end Go.Fl

set_option linter.unusedVariables false
set_option linter.unusedSimpArgs false
set_option maxRecDepth 100000
namespace Go.Fl
open Go Go.Proofs
/-- A piece of memory that holds a certificate's lists. -/
def CertC (c : Chunk) (v u : Value) (ls : List (List Int)) (cs : List Pr) : Prop := ∀ (w0 : World) (K : List Nat) (w : World) (L : List Chunk) (i : Nat), Own w0 K w L → L[i]? = some c → LsV w v ls ∧ PrV w u cs
theorem r17Copy_pk {pl : Bool} {ls : List (List Int)} {cs : List Pr} {v u : Value} {w : World} (hv : LsV w v ls) (hu : PrV w u cs) (hn : ls.length ≤ 1000000000) (hs : ∀ l, l ∈ ls → l.length ≤ 1000000000) :
    Calls Tryz.prog 12 #[.agg #[.bool pl, v, u]] w (Ret w [] fun r L => ∃ Av lv cv Au lu cu c, r = .agg #[.bool pl, .slice Av lv cv, .slice Au lu cu] ∧ L = [c] ∧ CertC c (.slice Av lv cv) (.slice Au lu cu) ls cs) := by
  have hcl : cs.length ≤ 8796093021952 := by obtain ⟨_, _, _, _, _, _, h⟩ := hu; exact h
  refine Calls.mono (r17Copy_calls hv hu hn hs) ?_
  rintro e w' ⟨r, L', rfl, ⟨Av, lv, cv, Au, lu, cu, rs, rfl, hrs, rfl⟩, hO⟩
  refine ⟨_, [pk (slc (.slice Av lv cv) 44 1 (rowsV rs) :: slc (.slice Au lu cu) 43 2 (prs cs) :: rowsC 3 rs)], rfl, ⟨Av, lv, cv, Au, lu, cu, _, rfl, rfl, ?_⟩, own_pk (by simpa using hO)⟩
  intro w0 K w L i hw hi
  have h1 := own_unpkAt i hi hw
  have hlen : rs.length = ls.length := by rw [← hrs]; simp
  refine ⟨?_, prv_own h1 1 rfl hcl⟩
  have h2 := h1.sub (List.sublist_append_left _ _)
  have := lsv_slc (F := [slc (.slice Au lu cu) 43 2 (prs cs)]) (by simpa using h2) (by omega) (fun p hp => by
    have := hs p.2 (by rw [← hrs]; exact List.mem_map_of_mem hp)
    omega)
  rw [hrs] at this; exact this
theorem r3Copy_slc {N : Int} {es : List Pr} {va : Value} {w : World} (hg : PrV w va es) :
    Calls Tryz.prog 11 #[.agg #[.int .i64 N, va]] w (Ret w [] fun r L => ∃ A c, r = .agg #[.int .i64 N, .slice A es.length c] ∧ L = [slc (.slice A es.length c) 43 2 (prs es)]) := by
  have hl : es.length ≤ 8796093021952 := by obtain ⟨_, _, _, _, _, _, h⟩ := hg; exact h
  refine Calls.mono (r3Copy_calls hg) ?_
  rintro e w' ⟨r, L', rfl, ⟨A, l, c, rfl, rfl⟩, hO⟩
  obtain ⟨A', c', he, _⟩ := prv_own hO 0 rfl hl
  cases he
  exact ⟨_, _, rfl, ⟨_, _, rfl, rfl⟩, hO⟩
theorem r3Make_self {N : Int} {es : List Pr} {vp : Value} {w : World} (hg : PrV w vp es) (hV : Vld N es) (hN : N < 1048576) :
    Calls Tryz.prog 16 #[.int .i64 (N + 1), vp] w (Ret w [] fun r M => ∃ A c, r = .tuple #[.agg #[.int .i64 (N + 1), .slice A es.length c], .int .i64 0] ∧ M = [slc (.slice A es.length c) 43 2 (prs es)]) := by
  have hl := hV.few
  refine Calls.mono (r3Make_calls hg (by omega)) ?_
  rintro e w' ⟨r, L', rfl, h, hO⟩
  obtain ⟨v, rfl, rfl⟩ := make_self hV hN h
  obtain ⟨A', c', rfl, _⟩ := prv_own hO 0 rfl (by omega)
  exact ⟨_, _, rfl, ⟨_, _, rfl, rfl⟩, hO⟩
theorem r3Make_grown {N : Int} {es : List Pr} {m : Pr} {vp : Value} {w : World} (hg : PrV w vp (es ++ [m])) (hV : Vld N es) :
    Calls Tryz.prog 16 #[.int .i64 N, vp] w (Ret w [] fun r M => ∃ N' A c e es', r = .tuple #[.agg #[.int .i64 N', .slice A es'.length c], .int .i64 e] ∧ M = [slc (.slice A es'.length c) 43 2 (prs es')] ∧ es'.length ≤ 4194304 ∧
      (e = 0 → N' = N ∧ Vld N es' ∧ ∀ x, x ∈ es → x ∈ es')) := by
  have hl := hV.few
  refine Calls.mono (r3Make_calls hg (by simp; omega)) ?_
  rintro e w' ⟨r, L', rfl, ⟨h0, h1, es', v, h2, h3, rfl, rfl⟩ | ⟨e, h0, rfl, rfl, _⟩, hO⟩
  · obtain ⟨A', c', rfl, _⟩ := prv_own hO 0 rfl (by omega)
    exact ⟨_, _, rfl, ⟨N, _, _, 0, es', rfl, rfl, h3, fun _ => ⟨rfl, mks_vld h0.1 h0.2 h1 h2 h3, mks_sub hV h2⟩⟩, hO⟩
  · exact ⟨_, _, rfl, ⟨0, none, 0, e, [], rfl, rfl, by simp, fun h => absurd h h0⟩, own_nil hO⟩
theorem More_calls {N : Int} {es cs : List Pr} {pl : Bool} {ls : List (List Int)} {m : Pr} {va v u : Value} {w : World} (hg : PrV w va es) (hv : LsV w v ls) (hu : PrV w u cs) (hp : Pow w) (hn : ls.length ≤ 1000000000) (hs : ∀ l, l ∈ ls → l.length ≤ 2097152) :
    Calls Tryz.prog 4 #[.agg #[.int .i64 N, va], .agg #[.bool pl, v, u], .agg #[.int .i64 m.1, .int .i64 m.2]] w (Ret w [] fun r M => r = .bool true) := by
  have hs9 : ∀ l, l ∈ ls → l.length ≤ 1000000000 := fun l hl => by have := hs l hl; omega
  have hg0 := hg
  have hv0 := hv
  have hu0 := hu
  obtain ⟨A, cap, rfl, _⟩ := hg0
  obtain ⟨Al, cl, rfl, _⟩ := hv0
  obtain ⟨Ac, cc, rfl, _⟩ := hu0
  refine calls_of (K := []) (args := [_, _, _]) (L := []) Tryz.func4 rfl Tryz.ntmps4 rfl (Own.start _ _) ?_
  refine Zs ?_
  refine Seq.new rfl rfl (n_box rfl rfl rfl) fun g3 => ?_
  refine Seq.new rfl rfl (n_box rfl rfl rfl) fun g4 => ?_
  refine Seq.new rfl rfl (n_box rfl rfl rfl) fun g5 => ?_
  refine Za ?_
  refine Zx ?_
  refine DC.seq ?_
  refine Zs ?_
  refine Seq.rel0 rfl rfl (r_call en9 rfl rfl rfl (fun w hw => wakes_calls (hp.keep0 hw))) ?_
  rintro _ rfl
  refine Seq.pur rfl rfl (p_not rfl rfl) ?_
  refine Zx ?_
  refine DC.cond rfl (fun c1 => ?_) (fun c1 => ?_)
  · simp at c1
  · refine DC.skip ?_
    refine Fin.then ?_
    refine DC.seq ?_
    refine Zs ?_
    refine Seq.val rfl rfl (v_loads (vs := [_, _]) rfl rfl ag24 sz24 rfl (hass_blk rfl)) ?_
    refine Seq.rel0 rfl rfl (r_call en14 rfl rfl rfl (fun w hw => r3Valid_calls (hg.keep0 hw))) ?_
    rintro _ ⟨b17, rfl, hb17⟩
    refine Seq.pur rfl rfl (p_not rfl rfl) ?_
    refine Zm ?_
    refine Seq.split 19 rfl (fun k3_3 => ?_) (fun k3_3 => ?_)
    · refine Zk ?_
      refine Zk ?_
      refine Zk ?_
      refine Zt ?_
      refine Zm ?_
      refine Zk ?_
      refine Zk ?_
      refine Zk ?_
      refine Zk ?_
      refine Zt ?_
      refine Zx ?_
      refine DC.cond_t rfl ?_
      refine Zs ?_
      refine Za ?_
      refine Zx ?_
      refine DC.ret ?_
      refine Fin.ret_then <| ?_
      refine Fin.weak (E' := [(6, _)]) ⟨rfl, trivial⟩ .nil ?_
      refine Fin.end1 (.inl rfl) rfl rfl ?_
      first
      | rfl
      | (rw [h9]; rfl)
    · refine Zf fi24_0 ?_
      refine Zl ag3 ?_
      refine Seq.pur rfl rfl (p_geq rfl rfl rfl) ?_
      refine Zg ?_
      refine Zm ?_
      refine Seq.split 24 rfl (fun k3_8 => ?_) (fun k3_8 => ?_)
      · refine Zk ?_
        refine Zk ?_
        refine Zk ?_
        refine Zk ?_
        refine Zt ?_
        refine Zx ?_
        refine DC.cond_t rfl ?_
        refine Zs ?_
        refine Za ?_
        refine Zx ?_
        refine DC.ret ?_
        refine Fin.ret_then <| ?_
        refine Fin.weak (E' := [(6, _)]) ⟨rfl, trivial⟩ .nil ?_
        refine Fin.end1 (.inl rfl) rfl rfl ?_
        first
        | rfl
        | (rw [h9]; rfl)
      · refine Zf fi24_1 ?_
        refine Zl ag22 ?_
        refine Zn Tryz.underlying22 ?_
        refine Seq.pur rfl rfl (p_geq rfl rfl rfl) ?_
        refine Zg ?_
        refine Zx ?_
        refine DC.cond rfl (fun c3 => ?_) (fun c3 => ?_)
        · refine Zs ?_
          refine Za ?_
          refine Zx ?_
          refine DC.ret ?_
          refine Fin.ret_then <| ?_
          refine Fin.weak (E' := [(6, _)]) ⟨rfl, trivial⟩ .nil ?_
          refine Fin.end1 (.inl rfl) rfl rfl ?_
          first
          | rfl
          | (rw [h9]; rfl)
        · refine DC.skip ?_
          refine Fin.then ?_
          refine DC.seq ?_
          refine DC.seq ?_
          have hV : Vld N es := hb17.1 (by simpa using k3_3)
          have hN0 := hV.lo
          have hN : N < 1048576 := by simp at k3_8; omega
          have hE : es.length < 4194304 := by simp at c3; omega
          refine DC.flow (cl := [.v, .r, .v, .r, .r, .q]) (A := [0, 1, 0, 7, 15, 31]) (order := [0, 1, 2, 3, 4, 5]) [] mixed (by kernel_rfl) (fun w hw => hw.pick .nil) ?_
          refine Flow.valS rfl rfl rfl rfl (v_loads (vs := [_, _]) rfl rfl ag24 sz24 rfl (hass_blk rfl)) ?_
          refine Flow.relS rfl rfl rfl rfl (r_call en11 rfl rfl rfl (fun w hw => r3Copy_slc (hg.keep0 hw))) ?_
          rintro _ _ ⟨A31, c31, rfl, rfl⟩
          refine Flow.valS rfl rfl rfl rfl (v_loads (vs := [_, _, _]) rfl rfl ag27 sz27 rfl (hass_blk rfl)) ?_
          refine Flow.relS rfl rfl rfl rfl (r_call en12 rfl rfl rfl (fun w hw => r17Copy_pk (hv.keep0 hw) (hu.keep0 hw) hn hs9)) ?_
          rintro _ _ ⟨Av, lv, cv, Au, lu, cu, c33, rfl, rfl, hcc⟩
          refine Flow.rel0V (V := [c33, slc (.slice A31 es.length c31) 43 2 (prs es), blk g5 35 #[.int .i64 m.1, .int .i64 m.2], blk g4 27 #[.bool pl, .slice Al ls.length cl, .slice Ac cs.length cc], blk g3 24 #[.int .i64 N, .slice A es.length cap]]) rfl rfl rfl rfl (by kernel_rfl) (r_call en10 rfl rfl rfl (fun w hw => Graph_calls (prv_own hw 1 rfl (by omega)) (hcc _ _ _ _ 0 hw rfl).1 (hcc _ _ _ _ 0 hw rfl).2 (hp.keep0 hw) hs)) ?_
          rintro _ rfl
          refine Flow.pur rfl rfl rfl (p_neq rfl rfl rfl) ?_
          refine Flow.end rfl ?_
          simp only [List.map_cons, List.map_nil, List.nil_append, List.cons_append, List.append_nil]
          refine Fin.weak (E' := [(35, .bool (decide (chkF N es pl ls cs ≠ 0))), (3, .pointer (some ⟨g3, 0, none⟩)), (4, .pointer (some ⟨g4, 0, none⟩)), (5, .pointer (some ⟨g5, 0, none⟩))]) ⟨rfl, rfl, rfl, rfl, trivial⟩ (L' := [blk g5 35 #[.int .i64 m.1, .int .i64 m.2], blk g4 27 #[.bool pl, .slice Al ls.length cl, .slice Ac cs.length cc], blk g3 24 #[.int .i64 N, .slice A es.length cap]]) (.cons 2 rfl (.cons 2 rfl (.cons 2 rfl .nil))) ?_
          refine Fin.then ?_
          refine DC.cond rfl (fun c5 => ?_) (fun c5 => ?_)
          · refine Zs ?_
            refine Za ?_
            refine Zx ?_
            refine DC.ret ?_
            refine Fin.ret_then <| ?_
            refine Fin.weak (E' := [(6, _)]) ⟨rfl, trivial⟩ .nil ?_
            refine Fin.end1 (.inl rfl) rfl rfl ?_
            first
            | rfl
            | (rw [h9]; rfl)
          · have hch : chkF N es pl ls cs = 0 := by simpa using c5
            refine DC.skip ?_
            refine Fin.then ?_
            refine DC.seq ?_
            refine DC.flow (cl := [.v, .r, .v, .n, .g, .q]) (A := [0, 1, 0, 4, 15, 31]) (order := [0, 1, 2, 3, 4, 5]) [] mixed (by kernel_rfl) (fun w hw => hw.pick .nil) ?_
            refine Flow.valS rfl rfl rfl rfl (v_loads (vs := [_, _]) rfl rfl ag24 sz24 rfl (hass_blk rfl)) ?_
            refine Flow.relS rfl rfl rfl rfl (r_call en15 rfl rfl rfl (fun w hw => r3Pairs_calls (hg.keep0 hw) (by omega))) ?_
            rintro v37 _ rfl
            refine Flow.valS rfl rfl rfl rfl (v_loads (vs := [_, _]) rfl rfl ag35 sz35 rfl (hass_blk rfl)) ?_
            refine Flow.new' rfl rfl rfl rfl (n_slit (cs := #[_, _]) rfl rfl Tryz.underlying37 sz35 ze35 rfl (by decide) (by decide) rfl rfl) fun g39 => ?_
            refine Flow.gen' (V := [blk g39 35 #[.int .i64 m.1, .int .i64 m.2], slc v37 35 2 (prs es), blk g5 35 #[.int .i64 m.1, .int .i64 m.2], blk g4 27 #[.bool pl, .slice Al ls.length cl, .slice Ac cs.length cc], blk g3 24 #[.int .i64 N, .slice A es.length cap]]) rfl rfl rfl rfl rfl (Gen.shape (g_append (F := [blk g39 _ _, blk g5 _ _, blk g4 _ _, blk g3 _ _]) (vs := prs es) (k := 1) (news := [.int .i64 m.1, .int .i64 m.2]) rfl rfl rfl Tryz.underlying37 sz35 by35 ze35 rfl (by decide) (by decide)
              (fun w hw => hw.pick (.cons 1 rfl (.cons 0 rfl (.cons 0 rfl (.cons 0 rfl (.cons 0 rfl .nil)))))) (.inl ⟨_, _, rfl, hass_blk rfl⟩) rfl (by intro u hu; simp at hu; rcases hu with rfl | rfl <;> rfl) (by rw [prs_length]; omega))) (fun v L' hC w hw => hw.pick (.nil)) ?_
            rintro _ _ ⟨⟨A7, l7, c7, rfl⟩, rfl⟩
            refine Flow.pur rfl rfl rfl (p_assign rfl rfl) ?_
            refine Flow.end rfl ?_
            simp only [List.map_cons, List.map_nil, List.nil_append, List.cons_append, List.append_nil]
            refine Fin.weak (E' := [(7, .slice A7 l7 c7), (3, .pointer (some ⟨g3, 0, none⟩)), (4, .pointer (some ⟨g4, 0, none⟩)), (5, .pointer (some ⟨g5, 0, none⟩))]) ⟨rfl, rfl, rfl, rfl, trivial⟩ (L' := [slc (.slice A7 l7 c7) 35 2 (prs (es ++ [m])), blk g5 35 #[.int .i64 m.1, .int .i64 m.2], blk g4 27 #[.bool pl, .slice Al ls.length cl, .slice Ac cs.length cc], blk g3 24 #[.int .i64 N, .slice A es.length cap]]) (.cons' 0 rfl (by rw [prs_append]; rfl) (.cons 1 rfl (.cons 1 rfl (.cons 1 rfl .nil)))) ?_
            refine Fin.then ?_
            refine DC.seq ?_
            refine DC.flow (cl := [.q, .v, .q, .v, .r, .r, .q, .q, .q, .n, .g, .q]) (A := [0, 1, 3, 0, 8, 31, 63, 127, 127, 0, 767, 2047]) (order := [0, 1, 2, 3, 4, 5, 6, 7, 8, 9, 10, 11]) [] mixed (by kernel_rfl) (fun w hw => hw.pick .nil) ?_
            refine Yf fi24_0 ?_
            refine Yl ag3 ?_
            refine Flow.pur rfl rfl rfl (p_add rfl rfl rfl (by omega)) ?_
            refine Flow.valS rfl rfl rfl rfl (v_loads (vs := [_, _]) rfl rfl ag24 sz24 rfl (hass_blk rfl)) ?_
            refine Flow.relS rfl rfl rfl rfl (r_call en15 rfl rfl rfl (fun w hw => r3Pairs_calls (hg.keep0 hw) (by omega))) ?_
            rintro v46 _ rfl
            refine Flow.rel' (V := [slc v46 35 2 (prs es), slc (.slice A7 l7 c7) 35 2 (prs (es ++ [m])), blk g5 35 #[.int .i64 m.1, .int .i64 m.2], blk g4 27 #[.bool pl, .slice Al ls.length cl, .slice Ac cs.length cc], blk g3 24 #[.int .i64 N, .slice A es.length cap]]) rfl rfl rfl rfl (by kernel_rfl) (r_call en16 rfl rfl rfl (fun w hw => r3Make_self (prv_own hw 0 rfl (by omega)) hV hN)) ?_
            rintro _ _ ⟨A47, c47, rfl, rfl⟩
            refine Ym ?_
            refine Flow.pur rfl rfl rfl (p_extract rfl rfl rfl) ?_
            refine Flow.pur rfl rfl rfl (p_extract rfl rfl rfl) ?_
            refine Flow.new' rfl rfl rfl rfl (n_alloc rfl ze24 rfl) fun g8 => ?_
            refine Flow.sto (V := [blk g8 24 #[.int .i64 0, .slice none 0 0], slc (.slice A47 es.length c47) 43 2 (prs es), slc v46 35 2 (prs es), slc (.slice A7 l7 c7) 35 2 (prs (es ++ [m])), blk g5 35 #[.int .i64 m.1, .int .i64 m.2], blk g4 27 #[.bool pl, .slice Al ls.length cl, .slice Ac cs.length cc], blk g3 24 #[.int .i64 N, .slice A es.length cap]]) rfl rfl rfl rfl rfl (s_stores (cs' := #[_, _]) rfl rfl rfl sz24 rfl (Nat.le_of_ble_eq_true rfl) rfl) (fun w hw => hw.pick (.nil)) ?_
            refine Flow.pur rfl rfl rfl (p_assign rfl rfl) ?_
            refine Flow.end rfl ?_
            simp only [List.map_cons, List.map_nil, List.nil_append, List.cons_append, List.append_nil]
            refine Fin.weak (E' := [(9, .int .i64 0), (8, .pointer (some ⟨g8, 0, none⟩)), (7, .slice A7 l7 c7), (3, .pointer (some ⟨g3, 0, none⟩)), (4, .pointer (some ⟨g4, 0, none⟩)), (5, .pointer (some ⟨g5, 0, none⟩))]) ⟨rfl, rfl, rfl, rfl, rfl, rfl, trivial⟩
              (L' := [blk g8 24 #[.int .i64 (N + 1), .slice A47 es.length c47], slc (.slice A47 es.length c47) 43 2 (prs es), slc (.slice A7 l7 c7) 35 2 (prs (es ++ [m])), blk g5 35 #[.int .i64 m.1, .int .i64 m.2], blk g4 27 #[.bool pl, .slice Al ls.length cl, .slice Ac cs.length cc], blk g3 24 #[.int .i64 N, .slice A es.length cap]]) (.cons 0 rfl (.cons 0 rfl (.cons 1 rfl (.cons 1 rfl (.cons 1 rfl (.cons 1 rfl .nil)))))) ?_
            refine Fin.then ?_
            refine DC.seq ?_
            refine Zs ?_
            refine Zm ?_
            refine Seq.pur rfl rfl (p_neq rfl rfl rfl) ?_
            refine Zx ?_
            refine DC.cond rfl (fun c9 => ?_) (fun c9 => ?_)
            · simp at c9
            · refine DC.skip ?_
              refine Fin.then ?_
              refine DC.seq ?_
              refine DC.flow (cl := [.v, .v, .r, .r, .q]) (A := [0, 0, 2, 7, 15]) (order := [0, 1, 2, 3, 4]) [] mixed (by kernel_rfl) (fun w hw => hw.pick .nil) ?_
              refine Flow.valS rfl rfl rfl rfl (v_loads (vs := [_, _]) rfl rfl ag24 sz24 rfl (hass_blk rfl)) ?_
              refine Flow.valS rfl rfl rfl rfl (v_loads (vs := [_, _, _]) rfl rfl ag27 sz27 rfl (hass_blk rfl)) ?_
              refine Flow.relS rfl rfl rfl rfl (r_call en12 rfl rfl rfl (fun w hw => r17Copy_pk (hv.keep0 hw) (hu.keep0 hw) hn hs9)) ?_
              rintro _ _ ⟨Av2, lv2, cv2, Au2, lu2, cu2, c54, rfl, rfl, hcc2⟩
              refine Flow.rel0V (V := [c54, blk g8 24 #[.int .i64 (N + 1), .slice A47 es.length c47], slc (.slice A47 es.length c47) 43 2 (prs es), slc (.slice A7 l7 c7) 35 2 (prs (es ++ [m])), blk g5 35 #[.int .i64 m.1, .int .i64 m.2], blk g4 27 #[.bool pl, .slice Al ls.length cl, .slice Ac cs.length cc], blk g3 24 #[.int .i64 N, .slice A es.length cap]]) rfl rfl rfl rfl (by kernel_rfl) (r_call en10 rfl rfl rfl (fun w hw => Graph_calls (prv_own hw 2 rfl (by omega)) (hcc2 _ _ _ _ 0 hw rfl).1 (hcc2 _ _ _ _ 0 hw rfl).2 (hp.keep0 hw) hs)) ?_
              rintro _ rfl
              rw [chk_more hch hN]
              refine Flow.pur rfl rfl rfl (p_assign rfl rfl) ?_
              refine Flow.end rfl ?_
              simp only [List.map_cons, List.map_nil, List.nil_append, List.cons_append, List.append_nil]
              refine Fin.weak (E' := [(10, .int .i64 (if pl then 182 else 0)), (7, .slice A7 l7 c7), (3, .pointer (some ⟨g3, 0, none⟩)), (4, .pointer (some ⟨g4, 0, none⟩))]) ⟨rfl, rfl, rfl, rfl, trivial⟩
                (L' := [slc (.slice A7 l7 c7) 35 2 (prs (es ++ [m])), blk g5 35 #[.int .i64 m.1, .int .i64 m.2], blk g4 27 #[.bool pl, .slice Al ls.length cl, .slice Ac cs.length cc], blk g3 24 #[.int .i64 N, .slice A es.length cap]]) (.cons 3 rfl (.cons 3 rfl (.cons 3 rfl (.cons 3 rfl .nil)))) ?_
              refine Fin.then ?_
              refine Zs ?_
              refine Zf fi24_0 ?_
              refine Zl ag3 ?_
              refine Zm ?_
              refine Seq.rel rfl rfl (r_call en16 rfl rfl rfl (fun w hw => r3Make_grown (prv_own hw 0 rfl (by simp; omega)) hV)) ?_
              rintro _ _ ⟨N', A12, c12, e12, es', rfl, rfl, hl', hok'⟩
              simp only [List.cons_append, List.nil_append]
              refine Zm ?_
              refine Ze ?_
              refine Ze ?_
              refine Seq.new rfl rfl (n_alloc rfl ze24 rfl) fun g11 => ?_
              refine Seq.sto rfl rfl (s_stores (cs' := #[_, _]) rfl rfl rfl sz24 rfl (Nat.le_of_ble_eq_true rfl) rfl) ?_
              refine Za ?_
              refine Zx ?_
              refine DC.seq ?_
              refine DC.flow (cl := [.v, .v, .r, .r, .q]) (A := [0, 0, 2, 7, 15]) (order := [0, 1, 2, 3, 4]) [] mixed (by kernel_rfl) (fun w hw => hw.pick .nil) ?_
              refine Flow.valS rfl rfl rfl rfl (v_loads (vs := [_, _]) rfl rfl ag24 sz24 rfl (hass_blk rfl)) ?_
              refine Flow.valS rfl rfl rfl rfl (v_loads (vs := [_, _, _]) rfl rfl ag27 sz27 rfl (hass_blk rfl)) ?_
              refine Flow.relS rfl rfl rfl rfl (r_call en12 rfl rfl rfl (fun w hw => r17Copy_pk (hv.keep0 hw) (hu.keep0 hw) hn hs9)) ?_
              rintro _ _ ⟨Av3, lv3, cv3, Au3, lu3, cu3, c65, rfl, rfl, hcc3⟩
              refine Flow.rel0V (V := [c65, blk g11 24 #[.int .i64 N', .slice A12 es'.length c12], slc (.slice A12 es'.length c12) 43 2 (prs es'), slc (.slice A7 l7 c7) 35 2 (prs (es ++ [m])), blk g5 35 #[.int .i64 m.1, .int .i64 m.2], blk g4 27 #[.bool pl, .slice Al ls.length cl, .slice Ac cs.length cc], blk g3 24 #[.int .i64 N, .slice A es.length cap]]) rfl rfl rfl rfl (by kernel_rfl) (r_call en10 rfl rfl rfl (fun w hw => Graph_calls (prv_own hw 2 rfl (by omega)) (hcc3 _ _ _ _ 0 hw rfl).1 (hcc3 _ _ _ _ 0 hw rfl).2 (hp.keep0 hw) hs)) ?_
              rintro _ rfl
              refine Flow.pur rfl rfl rfl (p_assign rfl rfl) ?_
              refine Flow.end rfl ?_
              simp only [List.map_cons, List.map_nil, List.nil_append, List.cons_append, List.append_nil]
              refine Fin.then ?_
              refine DC.seq ?_
              refine DC.seq ?_
              have hgr : e12 = 0 → (pl = false → chkF N' es' pl ls cs = 0) ∧ (pl = true → es.length < es'.length → chkF N' es' pl ls cs = 182) := fun h => by
                obtain ⟨rfl, h1, h2⟩ := hok' h
                exact chk_grown hch h1 h2
              refine DC.region ?_
              refine Zf fi27_0 ?_
              refine Zl ag4 ?_
              refine Zx ?_
              refine DC.cond rfl (fun c14 => ?_) (fun c14 => ?_)
              · refine Zs ?_
                refine Zm ?_
                refine Seq.pur rfl rfl (p_eql rfl rfl rfl) ?_
                refine Zm ?_
                refine Seq.split 71 rfl (fun k15_2 => ?_) (fun k15_2 => ?_)
                · refine Zf fi24_1 ?_
                  refine Zl ag22 ?_
                  refine Zn Tryz.underlying22 ?_
                  refine Zf fi24_1 ?_
                  refine Zl ag22 ?_
                  refine Zn Tryz.underlying22 ?_
                  refine Seq.pur rfl rfl (p_gtr rfl rfl rfl) ?_
                  refine Zt ?_
                  refine Za ?_
                  refine Zx ?_
                  refine Zs ?_
                  refine Zm ?_
                  refine Seq.pur rfl rfl (p_eql rfl rfl rfl) ?_
                  refine Zm ?_
                  refine Seq.split 82 rfl (fun k16_2 => ?_) (fun k16_2 => ?_)
                  · refine Zm ?_
                    refine Seq.pur rfl rfl (p_not rfl rfl) ?_
                    refine Zm ?_
                    refine Seq.split 85 rfl (fun k16_5 => ?_) (fun k16_5 => ?_)
                    · refine Zk ?_
                      refine Zk ?_
                      refine Zt ?_
                      refine Zt ?_
                      refine Za ?_
                      refine Zx ?_
                      refine DC.ret ?_
                      refine Fin.ret_then <| ?_
                      refine Fin.weak (E' := [(6, _)]) ⟨rfl, trivial⟩ .nil ?_
                      refine Fin.end1 (.inl rfl) rfl rfl ?_
                      first
                      | rfl
                      | (rw [h9]; rfl)
                    · have h9 := (hgr (by simpa using k15_2)).2 c14 (by simp at k16_5; omega)
                      refine Zm ?_
                      refine Seq.pur rfl rfl (p_eql rfl rfl rfl) ?_
                      refine Zg ?_
                      refine Zt ?_
                      refine Za ?_
                      refine Zx ?_
                      refine DC.ret ?_
                      refine Fin.ret_then <| ?_
                      refine Fin.weak (E' := [(6, _)]) ⟨rfl, trivial⟩ .nil ?_
                      refine Fin.end1 (.inl rfl) rfl rfl ?_
                      first
                      | rfl
                      | (rw [h9]; rfl)
                  · rw [c14] at k16_2
                    exact absurd k16_2 (by decide)
                · refine Zk ?_
                  refine Zk ?_
                  refine Zk ?_
                  refine Zk ?_
                  refine Zk ?_
                  refine Zk ?_
                  refine Zk ?_
                  refine Zg ?_
                  refine Za ?_
                  refine Zx ?_
                  refine Zs ?_
                  refine Zm ?_
                  refine Seq.pur rfl rfl (p_eql rfl rfl rfl) ?_
                  refine Zm ?_
                  refine Seq.split 82 rfl (fun k16_2 => ?_) (fun k16_2 => ?_)
                  · refine Zm ?_
                    refine Seq.pur rfl rfl (p_not rfl rfl) ?_
                    refine Zm ?_
                    refine Zk ?_
                    refine Zk ?_
                    refine Zt ?_
                    refine Zt ?_
                    refine Za ?_
                    refine Zx ?_
                    refine DC.ret ?_
                    refine Fin.ret_then <| ?_
                    refine Fin.weak (E' := [(6, _)]) ⟨rfl, trivial⟩ .nil ?_
                    refine Fin.end1 (.inl rfl) rfl rfl ?_
                    first
                    | rfl
                    | (rw [h9]; rfl)
                  · rw [c14] at k16_2
                    exact absurd k16_2 (by decide)
              · refine DC.skip ?_
                refine Fin.then ?_
                refine Zs ?_
                refine Zm ?_
                refine Seq.pur rfl rfl (p_eql rfl rfl rfl) ?_
                refine Zm ?_
                refine Seq.split 92 rfl (fun k17_2 => ?_) (fun k17_2 => ?_)
                · refine Zm ?_
                  refine Seq.pur rfl rfl (p_neq rfl rfl rfl) ?_
                  refine Zm ?_
                  refine Seq.split 95 rfl (fun k17_5 => ?_) (fun k17_5 => ?_)
                  · refine Zk ?_
                    refine Zk ?_
                    refine Zt ?_
                    refine Zt ?_
                    refine Za ?_
                    refine Zx ?_
                    refine DC.ret ?_
                    refine Fin.weak (E' := [(6, _)]) ⟨rfl, trivial⟩ .nil ?_
                    refine Fin.end1 (.inl rfl) rfl rfl ?_
                    first
                    | rfl
                    | (rw [h9]; rfl)
                  · have h9 := (hgr (by simpa using k17_5)).1 c14
                    refine Zm ?_
                    refine Seq.pur rfl rfl (p_eql rfl rfl rfl) ?_
                    refine Zg ?_
                    refine Zt ?_
                    refine Za ?_
                    refine Zx ?_
                    refine DC.ret ?_
                    refine Fin.weak (E' := [(6, _)]) ⟨rfl, trivial⟩ .nil ?_
                    refine Fin.end1 (.inl rfl) rfl rfl ?_
                    first
                    | rfl
                    | (rw [h9]; rfl)
                · rw [c14] at k17_2
                  exact absurd k17_2 (by decide)
end Go.Fl

set_option linter.unusedVariables false
set_option linter.unusedSimpArgs false
namespace Go.Fl
open Go Go.ChangeShapes Go.WideShapes Go.Deep
section
variable {H : Type} {enc : TypeId × Value → H} {P : Program} {W : World} {held : Bool}
def Light (P : Program) (t : TypeId) (d : DataW H) : Prop := ∀ n ∈ d.weights P t, n ≤ reachBytes
theorem open_sl {t e : TypeId} {n : Nat} {v : Value} {y : DataW H × List MemPlace} (ht : P.underlying t = some (.slice e)) (he : P.underlying e = some (.int .i64)) (hc : P.cellsOf e = 1) (hb : P.bytesOf e = 8)
    (h : DataW.trod enc P W 0 (fun _ => true) held n t [v] = some y) (hw : Light P t y.1) : ∃ xs, SlV W v xs ∧ ∀ x ∈ xs, (Lit.int .i64 x).wf = true := by
  rcases open_ints ht he hc h with ⟨h1, h2⟩ | ⟨a, len, cap, zs, h1, h2, h3, h4, h5, h6, h7, h8⟩
  · cases h1
    exact ⟨[], ⟨none, 0, rfl, fun j u hj => by simp [ints] at hj, Nat.le_refl _, by omega, by simp⟩, by simp⟩
  · cases h1
    simp only [if_true] at h5
    subst h6
    have hwt : ((zs.take len).length + (zs.drop len).length) * 8 ≤ reachBytes := hw _ (by simp [DataW.weights, ht, hb, lits])
    have hlen : (zs.take len).length = len := by simp; omega
    have hr : reachBytes = 140737488351232 := by decide
    simp only [maxLen] at h4
    refine ⟨zs.take len, ⟨some a, cap, by rw [hlen], fun j u hj => ⟨a, rfl, ?_⟩, by omega, by omega, by simp at hwt ⊢; omega⟩, fun x hx => h8 x (List.mem_of_mem_take hx)⟩
    have hj2 := (List.getElem?_eq_some_iff.1 hj).1
    simp only [ints_length, hlen] at hj2
    have h9 := h7 j (by omega)
    rw [h9, ← hj]
    simp [ints, List.getElem?_take, hj2, List.getElem?_eq_getElem (show j < zs.length by omega)]
theorem open_pr {t e : TypeId} {f0 f1 : Field} {n : Nat} {v : Value} {y : DataW H × List MemPlace} (ht : P.underlying t = some (.slice e)) (he : P.underlying e = some (.struct #[f0, f1])) (ce : P.cellsOf e = 2) (o0 : f0.offset = 0) (o1 : f1.offset = 1)
    (c0 : P.cellsOf f0.type = 1) (c1 : P.cellsOf f1.type = 1) (i0 : P.underlying f0.type = some (.int .i64)) (i1 : P.underlying f1.type = some (.int .i64)) (hb : P.bytesOf e = 16)
    (h : DataW.trod enc P W 0 (fun _ => true) held n t [v] = some y) (hw : Light P t y.1) : ∃ es, PrV W v es ∧ ∀ x ∈ es, (Lit.int .i64 x.1).wf = true ∧ (Lit.int .i64 x.2).wf = true := by
  rcases open_slice_pairs ht he ce o0 o1 c0 c1 h with ⟨h1, h2⟩ | ⟨a, len, cap, m, n', V0, V1, D0, D1, P0, P1, h1, h2, h3, h4, h5, h6, h7⟩
  · cases h1
    exact ⟨[], ⟨none, 0, rfl, fun j u hj => by simp [prs] at hj, Nat.le_refl _, by omega, by simp⟩, by simp⟩
  · cases h1
    simp only [if_true] at h5
    subst h5 h6
    have hwt : (len + (m - len)) * 16 ≤ reachBytes := hw _ (by simp [DataW.weights, ht, hb])
    have hr : reachBytes = 140737488351232 := by decide
    simp only [maxLen] at h4
    have hV : ∀ i, i < len → ∃ q : Pr, W.cell? (a.add (i * 2)) = some (.int .i64 q.1) ∧ W.cell? (a.add (i * 2 + 1)) = some (.int .i64 q.2) ∧ (Lit.int .i64 q.1).wf = true ∧ (Lit.int .i64 q.2).wf = true := by
      intro i hi
      obtain ⟨k0, k1, k2, k3⟩ := h7 i (by omega)
      obtain ⟨x, hx, _, hxw⟩ := DataW.trod_int i0 k2
      obtain ⟨z, hz, _, hzw⟩ := DataW.trod_int i1 k3
      rw [(List.cons.inj hx).1] at k0
      rw [(List.cons.inj hz).1] at k1
      exact ⟨(x, z), k0, k1, hxw, hzw⟩
    obtain ⟨q, hq⟩ := choose_lt hV
    have hl : ((List.range len).map q).length = len := by simp
    have hg : ∀ (es : List Pr) (i : Nat) (u : Value), (prs es)[i]? = some u → ∃ p : Pr, es[i / 2]? = some p ∧ u = .int .i64 (if i % 2 = 0 then p.1 else p.2) := by
      intro es
      induction es with
      | nil => intro i u h; simp [prs] at h
      | cons e r ih =>
        intro i u h
        match i, h with
        | 0, h => simp [prs] at h; exact ⟨e, by simp, by simp [h]⟩
        | 1, h => simp [prs] at h; exact ⟨e, by simp, by simp [h]⟩
        | i + 2, h =>
          simp only [prs, List.getElem?_cons_succ] at h
          obtain ⟨p, hp, hu⟩ := ih i u h
          refine ⟨p, by rw [show (i + 2) / 2 = i / 2 + 1 by omega, List.getElem?_cons_succ]; exact hp, by rw [hu]; congr 1; rw [show (i + 2) % 2 = i % 2 by omega]⟩
    refine ⟨(List.range len).map q, ⟨some a, m, by rw [hl], fun j u hj => ⟨a, rfl, ?_⟩, by rw [hl]; omega, by omega, by rw [hl]; omega⟩, fun x hx => ?_⟩
    · obtain ⟨p, hp, hu⟩ := hg _ _ _ hj
      have hj2 := (List.getElem?_eq_some_iff.1 hp).1
      simp only [hl] at hj2
      obtain ⟨g0, g1, _, _⟩ := hq (j / 2) hj2
      rw [List.getElem?_map, List.getElem?_range hj2] at hp
      simp only [Option.map_some, Option.some.injEq] at hp
      subst hp hu
      by_cases hm : j % 2 = 0
      · rw [if_pos hm, ← g0]; congr 2; omega
      · rw [if_neg hm, ← g1]; congr 2; omega
    · simp only [List.mem_map, List.mem_range] at hx
      obtain ⟨i, hi, rfl⟩ := hx
      exact (hq i hi).2.2
theorem light_agg {t : TypeId} {fs : Array Field} {parts : List (DataW H)} (ht : P.underlying t = some (.struct fs)) (h : Light P t (.agg parts)) : ∀ n ∈ DataW.weightsEach P (fs.toList.map (·.type)) parts, n ≤ reachBytes := by
  intro n hn
  exact h n (by simp only [DataW.weights, ht]; exact hn)
theorem light_cons {t : TypeId} {ts : List TypeId} {d : DataW H} {r : List (DataW H)} (h : ∀ n ∈ DataW.weightsEach P (t :: ts) (d :: r), n ≤ reachBytes) : Light P t d ∧ ∀ n ∈ DataW.weightsEach P ts r, n ≤ reachBytes :=
  ⟨fun n hn => h n (by simp only [DataW.weightsEach, List.mem_append]; exact .inl hn), fun n hn => h n (by simp only [DataW.weightsEach, List.mem_append]; exact .inr hn)⟩
theorem light_all {ts : List TypeId} {ds : List (DataW H)} (h : (DataW.weightsEach P ts ds).all (· ≤ reachBytes) = true) : ∀ n ∈ DataW.weightsEach P ts ds, n ≤ reachBytes :=
  fun n hn => by simpa using List.all_eq_true.1 h n hn
theorem own_belowO {w w' : World} {L : List Chunk} (h : Own w [] w' L) : RowKit.Below w.heap.size w w' := ⟨h.os, h.tape, h.output, h.size, fun k hk => h.old k hk (by simp)⟩
end
end Go.Fl

set_option linter.unusedVariables false
set_option linter.unusedSimpArgs false
set_option maxRecDepth 100000
namespace Go.Fl
open Go Go.Proofs Go.ChangeShapes Go.WideShapes Go.Deep Go.Joins
open Go.Proofs.YthjmapekjggdjaaGreatDoor.Rows
section
variable {H : Type} {enc : TypeId × Value → H} {W : World}
theorem bulk_mem {ds : List (DataW H)} {d : DataW H} (h : d ∈ ds) : uptoBulk d ≤ uptoBulkAll ds := by
  induction ds with
  | nil => cases h
  | cons a r ih =>
    rw [uptoBulkAll]
    rcases List.mem_cons.1 h with rfl | h
    · omega
    · have := ih h; omega
theorem bulk_pos (d : DataW H) : 1 ≤ uptoBulk d := by
  cases d with
  | lit l => cases l <;> simp [uptoBulk]
  | _ => simp [uptoBulk]
theorem bulk_len (ds : List (DataW H)) : ds.length ≤ uptoBulkAll ds := by
  induction ds with
  | nil => simp [uptoBulkAll]
  | cons a r ih => rw [uptoBulkAll, List.length_cons]; have := bulk_pos a; omega
theorem open_listB {n B : Nat} {v : Value} {y : DataW H × List MemPlace} (h : DataW.trod enc Tryz.prog W 0 (fun _ => true) true n 44 [v] = some y) (hb : uptoBulk y.1 ≤ B) (hB : B ≤ 1048576) : ∃ xs, SlV W v xs ∧ xs.length ≤ B := by
  rcases open_ints Tryz.underlying44 Tryz.underlying3 (by kernel_rfl) h with ⟨h1, h2⟩ | ⟨a, len, cap, zs, h1, h2, h3, h4, h5, h6, h7, h8⟩
  · cases h1
    exact ⟨[], ⟨none, 0, rfl, fun j u hj => by simp [ints] at hj, Nat.le_refl _, by omega, by simp⟩, by simp⟩
  · cases h1
    simp only [if_true] at h5
    subst h6
    have hl := bulk_len (lits (H := H) .i64 (zs.take len))
    have hlen : (zs.take len).length = len := by simp; omega
    have hll : (lits (H := H) .i64 (zs.take len)).length = len := by rw [← hlen]; simp [lits]
    rw [uptoBulk] at hb
    simp only [maxLen] at h4
    refine ⟨zs.take len, ⟨some a, cap, by rw [hlen], fun j u hj => ⟨a, rfl, ?_⟩, by omega, by omega, by omega⟩, by omega⟩
    have hj2 := (List.getElem?_eq_some_iff.1 hj).1
    simp only [ints_length, hlen] at hj2
    have h9 := h7 j (by omega)
    rw [h9, ← hj]
    simp [ints, List.getElem?_take, hj2, List.getElem?_eq_getElem (show j < zs.length by omega)]
theorem open_lists {n B : Nat} {v : Value} {y : DataW H × List MemPlace} (h : DataW.trod enc Tryz.prog W 0 (fun _ => true) true n 25 [v] = some y) (hb : uptoBulk y.1 ≤ B) (hB : B ≤ 1048576) :
    ∃ ls, LsV W v ls ∧ ls.length ≤ B ∧ ∀ l, l ∈ ls → l.length ≤ B := by
  rcases open_slice Tryz.underlying25 h with ⟨h1, h2⟩ | ⟨a, len, cap, m, k, D, Pl, h1, h2, h3, h4, h5, h6, h7⟩
  · cases h1
    exact ⟨[], ⟨none, 0, rfl, fun i l hi => by simp at hi, Nat.le_refl _, by omega, by simp⟩, by simp, by simp⟩
  · cases h1
    simp only [if_true] at h5
    subst h5 h6
    simp only [maxLen] at h4
    rw [uptoBulk] at hb
    have hl := bulk_len ((List.range len).map D)
    rw [List.length_map, List.length_range] at hl
    have hce : Tryz.prog.cellsOf 44 = 1 := by kernel_rfl
    have hV : ∀ i, i < len → ∃ q : Value × List Int, W.cell? (a.add i) = some q.1 ∧ SlV W q.1 q.2 ∧ q.2.length ≤ B := by
      intro i hi
      obtain ⟨cs', k1, k2⟩ := h7 i (by omega)
      rw [hce, Nat.mul_one] at k1
      obtain ⟨_, hlen, hcell⟩ := World.cells?_some k1
      match cs', hlen with
      | [u], _ =>
        have hD : uptoBulk (D i) ≤ B := by
          have := bulk_mem (ds := (List.range len).map D) (d := D i) (List.mem_map.2 ⟨i, List.mem_range.2 hi, rfl⟩)
          omega
        obtain ⟨xs, hx, hxl⟩ := open_listB (B := B) k2 hD hB
        have h0 := hcell 0 (by omega)
        refine ⟨(u, xs), ?_, hx, hxl⟩
        have e : (a.add i).add 0 = a.add i := by simp [Addr.add]
        rw [e] at h0
        simpa using h0
    obtain ⟨q, hq⟩ := choose_lt hV
    refine ⟨(List.range len).map fun i => (q i).2, ⟨some a, m, by simp, fun i l hi => ?_, by simp; omega, by omega, by simp; omega⟩, by simp; omega, fun l hl => ?_⟩
    · have hi2 := (List.getElem?_eq_some_iff.1 hi).1
      simp only [List.length_map, List.length_range] at hi2
      rw [List.getElem?_map, List.getElem?_range hi2] at hi
      simp only [Option.map_some, Option.some.injEq] at hi
      subst hi
      exact ⟨a, (q i).1, rfl, (hq i hi2).1, (hq i hi2).2.1⟩
    · simp only [List.mem_map, List.mem_range] at hl
      obtain ⟨i, hi, rfl⟩ := hl
      exact (hq i hi).2.2
theorem okWide_array {P : Program} {w : World} {r : Reach} {b t e : Nat} {n : Nat} {v : Value} (ht : P.underlying t = some (.array n e)) (h : Value.okWide P w r b t v) : ∃ cs, v = .agg cs ∧ cs.size = P.cellsOf t := by
  simp only [Value.okWide, ht] at h
  obtain ⟨cs, h1, h2, _⟩ := h
  exact ⟨cs, h1, h2⟩
theorem open_pair2 {b : Nat} {v : Value} {d : DataW H} {p : List MemPlace} (hv : Value.okWide Tryz.prog W .any b 35 v) (h : DataW.Trod enc Tryz.prog W 0 (fun _ => true) true 35 v d p) :
    ∃ m : Pr, v = .agg #[.int .i64 m.1, .int .i64 m.2] := by
  obtain ⟨cs, rfl, hsz⟩ := okWide_array Tryz.underlying35 hv
  have hc : Tryz.prog.cellsOf 35 = 2 := by kernel_rfl
  obtain ⟨c0, c1, rfl⟩ := array2 (hsz.trans hc)
  obtain ⟨fuel, hf⟩ := h
  obtain ⟨xs, m, _, _, _, hl, hx⟩ := DataW.trod_array Tryz.underlying35 hf
  have hci : Tryz.prog.cellsOf 3 = 1 := by kernel_rfl
  match xs, hl with
  | [x0, x1], _ =>
    have g0 := hx 0 (by decide)
    have g1 := hx 1 (by decide)
    simp [hci, Value.cells] at g0 g1
    obtain ⟨z0, e0, _⟩ := DataW.trod_int Tryz.underlying3 g0
    obtain ⟨z1, e1, _⟩ := DataW.trod_int Tryz.underlying3 g1
    exact ⟨(z0, z1), by rw [(List.cons.inj e0).1, (List.cons.inj e1).1]⟩
theorem open_edgesB {n : Nat} {v : Value} {y : DataW H × List MemPlace} (h : DataW.trod enc Tryz.prog W 0 (fun _ => true) true n 22 [v] = some y) (hw : Light Tryz.prog 22 y.1) : ∃ es, PrV W v es ∧ ∀ x ∈ es, (Lit.int .i64 x.1).wf = true ∧ (Lit.int .i64 x.2).wf = true :=
  open_pr Tryz.underlying22 Tryz.underlying43 (by kernel_rfl) rfl rfl (by kernel_rfl) (by kernel_rfl) Tryz.underlying3 Tryz.underlying3 (by kernel_rfl) h hw
theorem open_graphB {b : Nat} {v : Value} {d : DataW H} {p : List MemPlace} (hv : Value.okWide Tryz.prog W .any b 24 v) (h : DataW.Trod enc Tryz.prog W 0 (fun _ => true) true 24 v d p) (hw : Light Tryz.prog 24 d) :
    ∃ N va es, v = .agg #[.int .i64 N, va] ∧ PrV W va es ∧ (Lit.int .i64 N).wf = true ∧ ∀ x ∈ es, (Lit.int .i64 x.1).wf = true ∧ (Lit.int .i64 x.2).wf = true := by
  obtain ⟨v0, v1, y0, y1, n, rfl, rfl, rfl, h0, h1⟩ := open_agg2 Tryz.underlying24 (by kernel_rfl) (by kernel_rfl) hv h
  obtain ⟨_, w1⟩ := light_cons (light_agg Tryz.underlying24 hw)
  obtain ⟨w1, _⟩ := light_cons w1
  obtain ⟨N, hN, _, hNw⟩ := DataW.trod_int Tryz.underlying3 h0
  obtain ⟨es, hes, hew⟩ := open_edgesB h1 w1
  exact ⟨N, v1, es, by rw [(List.cons.inj hN).1], hes, hNw, hew⟩
theorem open_cert {b : Nat} {v : Value} {d : DataW H} {p : List MemPlace} (hv : Value.okWide Tryz.prog W .any b 27 v) (h : DataW.Trod enc Tryz.prog W 0 (fun _ => true) true 27 v d p) (hw : Light Tryz.prog 27 d) (hb : uptoBulk d ≤ 1048576) :
    ∃ pl ls cs v1 v2, v = .agg #[.bool pl, v1, v2] ∧ LsV W v1 ls ∧ PrV W v2 cs ∧ ls.length ≤ 1048576 ∧ ∀ l, l ∈ ls → l.length ≤ 1048576 := by
  obtain ⟨v0, v1, v2, y0, y1, y2, n, rfl, rfl, rfl, h0, h1, h2⟩ := open_agg3 Tryz.underlying27 (by kernel_rfl) (by kernel_rfl) hv h
  obtain ⟨_, w1⟩ := light_cons (light_agg Tryz.underlying27 hw)
  obtain ⟨_, w2⟩ := light_cons w1
  obtain ⟨w2, _⟩ := light_cons w2
  have hb1 : uptoBulk y1.1 ≤ 1048576 := by
    rw [uptoBulk] at hb
    have := bulk_mem (ds := [y0.1, y1.1, y2.1]) (d := y1.1) (by simp)
    omega
  obtain ⟨pl, hp, _⟩ := DataW.trod_bool Tryz.underlying4 h0
  obtain ⟨ls, hls, h3, h4⟩ := open_lists h1 hb1 (Nat.le_refl _)
  obtain ⟨cs, hcs, _⟩ := open_edgesB h2 w2
  exact ⟨pl, ls, cs, v1, v2, by rw [(List.cons.inj hp).1], hls, hcs, h3, h4⟩
theorem laidB : laidOutB Tryz.prog = true := by kernel_rfl
theorem staysB {t : TypeId} {v : Value} {d : DataW H} {p : List MemPlace} {W' : World} {L : List Chunk} (hr : Tryz.prog.readableRec t = true) (hrow : t < Tryz.prog.types.size) (h : DataW.Trod enc Tryz.prog W 0 (fun _ => true) true t v d p)
    (hO : Own W [] W' L) (hlt : ∀ x ∈ p, x.block < W.heap.size) : DataW.Trod enc Tryz.prog W' 0 (fun b => decide (b < W.heap.size)) true t v d p :=
  RowKit.Below.trod laidB hr hrow h (own_belowO hO) hlt
end
/-- What the rows list of package-level variables. -/
def laid3 : List (String × DataW Unit) := [("math/bits.deBruijn32tab", laid_math_bits_deBruijn32tab), ("math/bits.deBruijn64tab", laid_math_bits_deBruijn64tab), ("internal/strconv.uint64pow10", laid_internal_strconv_uint64pow10)]
theorem pow_of {W : World} (h : laidMetH Tryz.prog laid3 W) : Pow W := by
  rw [MakeChecks.laidMetH_plain _ _ _ (by kernel_rfl)] at h
  obtain ⟨g, t, cs, fuel, p, hg, ht, hvar, hd⟩ := Lib.laidMet.reads h (n := "internal/strconv.uint64pow10") (d := laid_internal_strconv_uint64pow10) (by simp [laid3])
  obtain rfl := Option.some.inj ((show Tryz.prog.globalNamed "internal/strconv.uint64pow10" = some 1 by kernel_rfl).symm.trans hg)
  obtain rfl := Option.some.inj ((show (Tryz.prog.globals[1]?).map (·.type) = some 265 by kernel_rfl).symm.trans ht)
  unfold Pow Lib.TabIs
  rw [hvar, ← Lib.cells_of_tab (zs := Lib.pow10Tab) Tryz.underlying265 Tryz.underlying221 (by kernel_rfl) (by kernel_rfl) hd]
end Go.Fl

set_option linter.unusedVariables false
namespace Go.Fl
open Go
section
variable {H : Type} {enc : TypeId × Value → H}
theorem returnsInHanded_of_cond_laid {a : Assume} {C : Checked} {os : Os} {f : FuncId} {fn : Func} {s : OpenSpec} {k : (H : Type) → List (DataW H) → Bool} (hk : s.cond = some k) {F : Stop.Interp} {conds : List PathCond} {apart fresh handsOn again : Bool} {X : World → Prop}
    (hX : ∀ w w' : World, w.heap = w'.heap → X w → X w')
    (own : ownKnob C.prog.godebug = none) (started : os.Started) (noInit : C.prog.inits.idxOf? f = none) (hfn : C.prog.funcs[f]? = some fn)
    (witness : ∃ (w : World) (tape : Tape) (i : Input), w.os = os ∧ (w.forCall tape i).Shaped C.prog ∧ i.vars = [] ∧ Input.okWide C.prog (w.forCall tape i) .any w.heap.size f i ∧
      ((s.pre enc C.prog fn conds apart (w.forCall tape i).memory i.args ∧ X (w.forCall tape i).memory) ∧ sizedMet enc C.prog fn s apart (w.forCall tape i).memory i.args) ∧ a.holds C.prog (lone (Frame.enter C.prog f i.args .normal) [] (w.forCall tape i)))
    (contract : ∀ (W : World) (base : Nat) (args : Array Value) (ds gs : List (DataW H)) (before : List MemPlace),
      (∀ (j : Nat) t v, fn.params[j]? = some t → args[j]? = some v → Value.okWide C.prog W .any base t v) →
      DataW.Whole enc C.prog fn.params.toList s.vars apart W args.toList ds gs before →
      k H (ds ++ gs) = true →
      (DataW.weightsEach C.prog (fn.params.toList ++ s.bare.plain.varTypes C.prog) (ds ++ gs)).all (· ≤ reachBytes) = true → X W →
      Calls C.prog f args W fun e W' => ∃ v, e = .returned v ∧ (s.at F).post enc C.prog fn apart fresh handsOn again W args v W') :
    ReturnsInHanded a C os f .any (fun w args => (s.pre enc C.prog fn conds apart w args ∧ X w) ∧ sizedMet enc C.prog fn s apart w args) ((s.at F).post enc C.prog fn apart fresh handsOn again) := by
  refine returnsInHanded_of_calls own started noInit witness ?_
  intro w tape i _ _ _ hok hpre hholds
  obtain ⟨_, _, _, fn', hfn', _, _, _, _, hval⟩ := hok
  have e : fn' = fn := Option.some.inj (hfn'.symm.trans hfn)
  subst e
  obtain ⟨ds, gs, before, hw, hc, hkk⟩ := (OpenSpec.pre_some hk conds apart _ _).1 hpre.1.1
  have hw' := DataW.Whole.of_heap (w' := w.forCall tape i) (by rfl) hw
  refine (contract (w.forCall tape i) w.heap.size i.args ds gs before hval hw' hkk (hpre.2.weights hw) (hX _ _ (by rfl) hpre.1.2)).mono fun e W' ⟨v, he, hp⟩ => ?_
  subst he
  exact ChangeSpec.post_blind hp
theorem witness_laid {C : Checked} {os : Os} {f : FuncId} {fn : Func} {s : OpenSpec} {k : (H : Type) → List (DataW H) → Bool} (hk : s.cond = some k) {conds : List PathCond} {apart : Bool} {X : World → Prop} (modest : Bool) (w0 : World) (args : Array Value) (fuel : Nat) (hos : w0.os = os)
    (hsh : (w0.forCall (fun _ _ => 0) ⟨#[], args, []⟩).Shaped C.prog)
    (hok : Input.okWideB C.prog (w0.forCall (fun _ _ => 0) ⟨#[], args, []⟩) f ⟨#[], args, []⟩ = true)
    {x : List (DataW H) × List (DataW H) × List MemPlace} (hx : DataW.whole enc C.prog (w0.forCall (fun _ _ => 0) ⟨#[], args, []⟩).memory fn.params.toList s.vars apart args.toList fuel = some x)
    (hconds : conds.all (PathCond.test C.prog ⟨fn.params.toList, x.1, s.bare.plain.varTypes C.prog, x.2.1⟩) = true) (hkk : k H (x.1 ++ x.2.1) = true)
    (hsz : s.bare.sizedB enc C.prog fn apart (w0.forCall (fun _ _ => 0) ⟨#[], args, []⟩).memory args fuel = true)
    (hX : X (w0.forCall (fun _ _ => 0) ⟨#[], args, []⟩).memory) :
    ∃ (w : World) (tape : Tape) (i : Input), w.os = os ∧ (w.forCall tape i).Shaped C.prog ∧ i.vars = [] ∧ Input.okWide C.prog (w.forCall tape i) .any w.heap.size f i ∧
      ((s.pre enc C.prog fn conds apart (w.forCall tape i).memory i.args ∧ X (w.forCall tape i).memory) ∧ sizedMet enc C.prog fn s apart (w.forCall tape i).memory i.args) ∧ ({ modest := modest } : Assume).holds C.prog (lone (Frame.enter C.prog f i.args .normal) [] (w.forCall tape i)) :=
  ⟨w0, fun _ _ => 0, ⟨#[], args, []⟩, hos, hsh, (Input.okWide_of_okWideB (base := 0) hok).1, (Input.okWide_of_okWideB hok).2,
    ⟨⟨(OpenSpec.pre_some hk conds apart _ _).2 ⟨x.1, x.2.1, x.2.2, DataW.Whole_of_whole hx, hconds, hkk⟩, hX⟩, sizedMet_of_sizedB hsz⟩, by
    simp only [Assume.holds]
    exact ⟨by simp, by simp, fun _ => Modest.zero, by simp, by simp⟩⟩
end
end Go.Fl

namespace Go.Proofs.YthjmapekjggdjaaGreatDoor.checkMore
open Go.ChangeShapes Go.WideShapes Go.ChangeAt Go.RowKit
set_option linter.unusedVariables false
set_option maxRecDepth 100000
theorem own : ownKnob Tryz.prog.godebug = none := by kernel_rfl
theorem door_met (os : Os) (args : Array Value) : laidMetH Tryz.prog Fl.laid3 ((World.doorLaid Tryz.prog 400 os).forCall (fun _ _ => 0) ⟨#[], args, []⟩).memory :=
  laidMetH_of_parts3 (fuel := 8) (laidMet_of_run' 8 (by kernel_rfl) (by kernel_rfl)) (by kernel_rfl) (by kernel_rfl)
theorem lifted (os : Os) (started : os.Started) (H : Type) (enc : TypeId × Value → H) (F : Stop.Interp) :
    ReturnsInHanded {} Tryz.checked os 4 .any (fun w args => ((Rows.OpenSpec.upto Rows.checkMoreSpec).pre enc Tryz.prog Tryz.f4 [] false w args ∧ laidMetH Tryz.prog Fl.laid3 w) ∧ sizedMet enc Tryz.prog Tryz.f4 (Rows.OpenSpec.upto Rows.checkMoreSpec) false w args)
      (((Rows.OpenSpec.upto Rows.checkMoreSpec).at F).post enc Tryz.prog Tryz.f4 false true false false) := by
  refine Fl.returnsInHanded_of_cond_laid (C := Tryz.checked) (s := Rows.OpenSpec.upto Rows.checkMoreSpec) (k := Rows.uptoSmall) rfl (X := fun w => laidMetH Tryz.prog Fl.laid3 w) (fun _ _ hh h => h.of_heap hh) own started (by kernel_rfl) Tryz.func4
    (Fl.witness_laid (enc := enc) (C := Tryz.checked) (os := os) (s := Rows.OpenSpec.upto Rows.checkMoreSpec) (k := Rows.uptoSmall) rfl (X := fun w => laidMetH Tryz.prog Fl.laid3 w) false (World.doorLaid Tryz.prog 400 os) #[.agg #[.int .i64 0, .slice none 0 0], .agg #[.bool false, .slice none 0 0, .slice none 0 0], .agg #[.int .i64 0, .int .i64 0]] 8 rfl
      (World.shaped_of_RefB (by kernel_rfl) (by kernel_rfl)) (by kernel_rfl) (x := ([.agg [.lit (.int .i64 0), .nil], .agg [.lit (.bool false), .nil, .nil], .agg [.lit (.int .i64 0), .lit (.int .i64 0)]], [], [])) (by kernel_rfl) (by kernel_rfl) (by kernel_rfl) (by kernel_rfl) (door_met os _)) ?_
  intro W base args ds gs before hval0 hW hbulk hsz0 hL
  have hsz : (DataW.weightsEach Tryz.prog (Tryz.f4.params.toList ++ (Rows.OpenSpec.upto Rows.checkMoreSpec).bare.plain.varTypes Tryz.prog) (ds ++ gs)).all (· ≤ reachBytes) = true := hsz0
  have hval : ∀ (j : Nat) t v, Tryz.f4.params[j]? = some t → args[j]? = some v → Value.okWide Tryz.prog W .any base t v := hval0
  have hp := Fl.pow_of hL
  have hW' := hW
  obtain ⟨p, q, hA0, hV, rfl, hfz, hnd⟩ := hW
  have hA : DataW.TrodAll enc Tryz.prog W 0 (fun _ => true) true Tryz.f4.params.toList args.toList ds p := hA0
  rw [Tryz.params4] at hA hval hsz
  obtain ⟨v0, v1, v2, d0, d1, d2, p0, p1, p2, rfl, rfl, rfl, t0, t1, t2⟩ := trodAll_three hA
  obtain ⟨rfl, rfl⟩ := trodVars_none hV
  clear hA0 hval0 hsz0
  have hbk : Rows.uptoBulkAll [d0, d1, d2] ≤ 1048576 := by simpa [Rows.uptoSmall] using hbulk
  have lt0 : ∀ x ∈ p0, x.block < W.heap.size := fun x hx => by simpa using hW'.lt x (by simp [hx])
  have lt1 : ∀ x ∈ p1, x.block < W.heap.size := fun x hx => by simpa using hW'.lt x (by simp [hx])
  have lt2 : ∀ x ∈ p2, x.block < W.heap.size := fun x hx => by simpa using hW'.lt x (by simp [hx])
  have hli := Fl.light_all hsz
  obtain ⟨w0, hli⟩ := Fl.light_cons hli
  have b0 : Rows.uptoBulk d0 ≤ 1048576 := Nat.le_trans (Fl.bulk_mem (by simp)) hbk
  obtain ⟨N0, va0, es0, rfl, hg0, hN0, hE0⟩ := Fl.open_graphB (hval 0 _ _ rfl rfl) t0 w0
  obtain ⟨w1, hli⟩ := Fl.light_cons hli
  have b1 : Rows.uptoBulk d1 ≤ 1048576 := Nat.le_trans (Fl.bulk_mem (by simp)) hbk
  obtain ⟨pl1, ls1, cs1, x1, y1, rfl, hv1, hu1, hn1, hs1⟩ := Fl.open_cert (hval 1 _ _ rfl rfl) t1 w1 b1
  obtain ⟨w2, hli⟩ := Fl.light_cons hli
  have b2 : Rows.uptoBulk d2 ≤ 1048576 := Nat.le_trans (Fl.bulk_mem (by simp)) hbk
  obtain ⟨m2, rfl⟩ := Fl.open_pair2 (hval 2 _ _ rfl rfl) t2
  refine Calls.mono (Fl.More_calls hg0 hv1 hu1 hp (by omega) (fun l hl => by have := hs1 l hl; omega)) ?_
  rintro _ W' ⟨v, L, rfl, rfl, hO⟩
  exact ⟨_, rfl, _, _, _, [], _, [], hW', trodAll_mk1 (shut_bool Tryz.underlying4 _), trodAll_mk3 (Fl.staysB (by kernel_rfl) (of_decide_eq_true (by kernel_rfl)) t0 hO lt0) (Fl.staysB (by kernel_rfl) (of_decide_eq_true (by kernel_rfl)) t1 hO lt1) (Fl.staysB (by kernel_rfl) (of_decide_eq_true (by kernel_rfl)) t2 hO lt2), rfl, (Fl.own_belowO hO).frame _, fun h => by cases h⟩
theorem row_holds : Rows.checkMoreUptoRow.holds Tryz.pinned (Rows.OpenSpec.upto Rows.checkMoreSpec) :=
  OpenClaim.holds_of_cond 4 Tryz.f4 rfl rfl rfl rfl rfl rfl rfl ⟨rfl, rfl, rfl, rfl, rfl⟩ rfl rfl rfl rfl rfl (by kernel_rfl) Tryz.func4 (by kernel_rfl)
    (of_decide_eq_true (by kernel_rfl)) (by unfold Func.isWrapper; first | (rw [if_pos (by decide +kernel)]; kernel_rfl) | (rw [if_neg (by decide +kernel)]; exact ⟨rfl, rfl⟩))
    (fun os started H enc _ F => lifted os started H enc F)
theorem over : Claim7.holds Tryz.pinned (.plain (Rows.OpenSpec.upto Rows.checkMoreSpec)) Rows.checkMoreUptoCard :=
  Claim7.holds_tied_plain_at .later [] [.data, .data, .data] true (true, "3987e0c40a2bbd31317015edf0e6dfd52ea27bfe98bff0270e2e7a2b6bdbf781") true
    row_holds (fun _ h => by cases h) (by kernel_rfl) (fun _ h => by cases h) checkMoreUpto_row_tie rfl ⟨rfl, rfl⟩ (by kernel_rfl) rfl
    (fun f fn hf hfn => by
      obtain rfl : f = 4 := Option.some.inj ((show Tryz.prog.funcNamed "tangram/tangramlaw18.CheckMore" = some 4 by kernel_rfl).symm.trans hf) |>.symm
      obtain rfl : fn = Tryz.f4 := (Option.some.inj (Tryz.func4.symm.trans hfn)).symm
      exact ⟨by kernel_rfl, fun j t ht => by
        rw [Tryz.params4] at ht
        match j, ht with
        | 0, ht => obtain rfl : t = 24 := by simpa using ht.symm
                   exact (show Tryz.prog.wantsStandIn 24 = false by kernel_rfl)
        | 1, ht => obtain rfl : t = 27 := by simpa using ht.symm
                   exact (show Tryz.prog.wantsStandIn 27 = false by kernel_rfl)
        | 2, ht => obtain rfl : t = 35 := by simpa using ht.symm
                   exact (show Tryz.prog.wantsStandIn 35 = false by kernel_rfl)
        | j + 3, ht => simp at ht⟩)
    (by kernel_rfl)
end Go.Proofs.YthjmapekjggdjaaGreatDoor.checkMore
namespace Go.Proofs.YthjmapekjggdjaaGreatDoor
theorem checkMore_holds : Rows.CheckMoreUptoCardSaid := checkMore.over
#print axioms checkMore_holds
end Go.Proofs.YthjmapekjggdjaaGreatDoor
