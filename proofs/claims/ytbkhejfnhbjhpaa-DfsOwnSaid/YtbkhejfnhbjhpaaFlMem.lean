/- Operations on memory, as facts for a walk: loads, stores, new memory, append, calls. -/
import Derived.Test.YtbkhejfnhbjhpaaFlOps
set_option linter.unusedVariables false
set_option linter.unusedSimpArgs false
namespace Go.Fl
open Go

/-! ### looking a block up in the list of what is owned -/
class Find (L : List Chunk) (g : Nat) (t : outParam Nat) (cs : outParam (Array Value)) : Prop where
  mem : blk g t cs ∈ L
instance (g t : Nat) (cs : Array Value) (L : List Chunk) : Find (blk g t cs :: L) g t cs := ⟨List.mem_cons_self ..⟩
instance (priority := low) (c : Chunk) (L : List Chunk) (g t : Nat) (cs : Array Value) [h : Find L g t cs] : Find (c :: L) g t cs := ⟨List.mem_cons_of_mem _ h.mem⟩

class Up (L : List Chunk) (g : Nat) (t : outParam Nat) (cs : outParam (Array Value)) (up : outParam (Array Value → List Chunk)) : Prop where
  split : ∃ R, L.Perm (blk g t cs :: R) ∧ ∀ cs', (up cs').Perm (blk g t cs' :: R)
instance (g t : Nat) (cs : Array Value) (L : List Chunk) : Up (blk g t cs :: L) g t cs (fun cs' => blk g t cs' :: L) := ⟨L, .refl _, fun _ => .refl _⟩
instance (priority := low) (c : Chunk) (L : List Chunk) (g t : Nat) (cs : Array Value) (up : Array Value → List Chunk) [h : Up L g t cs up] : Up (c :: L) g t cs (fun cs' => c :: up cs') := by
  obtain ⟨R, h1, h2⟩ := h.split
  exact ⟨c :: R, (h1.cons c).trans (.swap _ _ _), fun cs' => ((h2 cs').cons c).trans (.swap _ _ _)⟩

/-- A cell that reads so in every world of this state. -/
def Has (w0 : World) (K : List Nat) (L : List Chunk) (ad : Addr) (v : Value) : Prop := ∀ w, Own w0 K w L → w.cell? ad = some v

section
variable {P : Program} {w0 : World} {K : List Nat} {n : Nat} {ds : List Deferred} {E : Env} {L : List Chunk} {o : Oper} {x y z : Operand} {v u : Value}

theorem add_at (g i j : Nat) : (⟨g, i, none⟩ : Addr).add j = ⟨g, i + j, none⟩ := by unfold Addr.add; split <;> simp_all

def lget : List Value → Nat → Option Value
  | [], _ => none
  | x :: _, 0 => some x
  | _ :: r, n + 1 => lget r n
theorem lget_eq : ∀ (l : List Value) (i : Nat), lget l i = l[i]?
  | [], i => by simp [lget]
  | x :: r, 0 => by simp [lget]
  | x :: r, i + 1 => by simp [lget, lget_eq r i]
theorem has_row {g t i : Nat} {cs : Array Value} [h : Find L g t cs] (hv : cs[i]? = some v) : Has w0 K L ⟨g, i, none⟩ v := by
  intro w hw
  have := hw.holds _ h.mem
  rw [cell_of_row w g i cs t (0, 0) this]; exact hv
theorem has_blk {g t i : Nat} {cs : Array Value} [h : Find L g t cs] (hv : lget cs.toList i = some v) : Has w0 K L ⟨g, i, none⟩ v :=
  has_row (cs := cs) (by rw [lget_eq] at hv; simpa using hv)
theorem has_old {ad : Addr} (h : w0.cell? ad = some v) (hk : ad.block ∉ K) : Has w0 K L ad v := by
  intro w hw
  rw [hw.oldCell (World.block_lt_of_cell? w0 ad h) hk]; exact h
theorem has_old' {ad : Addr} (h : w0.cell? ad = some v) : Has w0 [] L ad v := has_old h (by simp)

theorem v_load {t : TypeId} {ad : Addr} (ho : o.op = .load t x) (hx : ev n E x = some (.pointer (some ad))) (ht : aggT P t = some false) (h : Has w0 K L ad v) : Val P w0 K n ds E L o v := by
  intro a w ha hw
  simp [execOp, ho, ha.ev hx, Instr.loadAt, Instr.sureAddr, loadVar, run_aggT ht, h w hw]

/-- Cells in a row. -/
def Hass (w0 : World) (K : List Nat) (L : List Chunk) (ad : Addr) (vs : List Value) : Prop := ∀ w, Own w0 K w L → ∀ j u, vs[j]? = some u → w.cell? (ad.add j) = some u
theorem hass_blk {g t i : Nat} {cs : Array Value} {vs : List Value} [h : Find L g t cs] (hv : (cs.toList.drop i).take vs.length = vs) : Hass w0 K L ⟨g, i, none⟩ vs := by
  intro w hw j u hu
  have := hw.holds _ h.mem
  rw [add_at, cell_of_row w g _ cs t (0, 0) this]
  rw [← hv, List.getElem?_take] at hu
  split at hu
  · rw [List.getElem?_drop] at hu; simpa using hu
  · cases hu
theorem hass_old {ad : Addr} {vs : List Value} (h : ∀ j u, vs[j]? = some u → w0.cell? (ad.add j) = some u) (hk : ad.block ∉ K) : Hass w0 K L ad vs := by
  intro w hw j u hu
  have h1 := h j u hu
  rw [hw.oldCell (World.block_lt_of_cell? w0 _ h1) (by unfold Addr.add; split <;> exact hk)]; exact h1
theorem v_loads {t : TypeId} {ad : Addr} {vs : List Value} {cs : Array Value} (ho : o.op = .load t x) (hx : ev n E x = some (.pointer (some ad))) (ht : aggT P t = some true) (hs : sizeT P t = some vs.length)
    (hc : vs.toArray = cs) (h : Hass w0 K L ad vs) : Val P w0 K n ds E L o (.agg cs) := by
  intro a w ha hw
  subst hc
  have := run_loadCells_list (P := P) w ad vs (h w hw)
  simp [execOp, ho, ha.ev hx, Instr.loadAt, Instr.sureAddr, loadVar, run_aggT ht, run_sizeT hs, this]

/-! ### stores -/
theorem own_up {w : World} {g t : Nat} {cs : Array Value} {up : Array Value → List Chunk} [h : Up L g t cs up] (hw : Own w0 K w L) (i : Nat) (u : Value) :
    Own w0 K (w.setCell ⟨g, i, none⟩ u) (up (cs.setIfInBounds i u)) := by
  obtain ⟨R, h1, h2⟩ := h.split
  exact ((hw.perm h1.symm).set i u).perm (h2 _)
theorem holds_up {w : World} {g t : Nat} {cs : Array Value} {up : Array Value → List Chunk} [h : Up L g t cs up] (hw : Own w0 K w L) : w.heap[g]? = some (.cells cs t (0, 0)) := by
  obtain ⟨R, h1, h2⟩ := h.split
  exact hw.holds _ (h1.mem_iff.2 (List.mem_cons_self ..))

def one (v : Value) : Bool := v.oneCell'
theorem s_store {t tb g i : Nat} {cs cs' : Array Value} {up : Array Value → List Chunk} [h : Up L g tb cs up] (ho : o.op = .store t x y) (hx : ev n E x = some (.pointer (some ⟨g, i, none⟩)))
    (hy : ev n E y = some u) (hs : sizeT P t = some 1) (h1 : u.oneCell' = true) (hi : i < cs.size) (hc : cs.setIfInBounds i u = cs') : Sto P w0 K n ds E L o (up cs') := by
  intro a w ha hw
  subst hc
  have hb := holds_up (g := g) hw
  have hcell : w.cell? ⟨g, i, none⟩ = some cs[i] := by rw [cell_of_row w g i cs tb (0, 0) hb]; simp [hi]
  have hfr := frozen_of_row w g i cs tb hb
  have hcells : u.cells = #[u] := by cases u <;> first | rfl | cases h1
  have hst : (store (Addr.add ⟨g, i, none⟩ 0) u).run P w = .ok () (w.setCell ⟨g, i, none⟩ u) := by
    rw [add_at, run_store P w _ u _ h1]
    simp only [Nat.add_zero, hcell, hfr]; simp
  refine ⟨w.setCell ⟨g, i, none⟩ u, ?_, own_up hw i u⟩
  simp [execOp, ho, ha.ev hx, ha.ev hy, Instr.storeAt, Instr.sureAddr, storeVar, hcells, run_sizeT hs, storeCells, hst]

theorem heap_setRow (w : World) (g : Nat) (cs cs' : Array Value) (t : Nat) (hb : w.heap[g]? = some (.cells cs t (0, 0))) : Own w [g] (w.setRow g cs') [blk g t cs'] := by
  have hlt : g < w.heap.size := (Array.getElem?_eq_some_iff.1 hb).1
  refine ⟨rfl, rfl, rfl, by simp, fun k hk hn => ?_, by simp [blk], fun x hx => ?_, fun x hx => ?_, fun c hc => ?_⟩
  · simp at hn
    simp only [World.setRow, Array.getElem?_modify]
    rw [if_neg (by omega)]
  · simp [blk] at hx; subst hx; exact .inl (by simp)
  · simp [blk] at hx; subst hx; simpa using hlt
  · simp at hc; subst hc
    simp [blk, World.setRow, Array.getElem?_modify, hb]
theorem own_upRow {w : World} {g t : Nat} {cs : Array Value} {up : Array Value → List Chunk} [h : Up L g t cs up] (hw : Own w0 K w L) (cs' : Array Value) :
    Own w0 K (w.setRow g cs') (up cs') := by
  have hb := holds_up (g := g) hw
  obtain ⟨R, h1, h2⟩ := h.split
  exact (Own.frame (Lc := [blk g t cs]) (hw.perm h1.symm) (heap_setRow w g cs cs' t hb) (fun k hk => by simp [blk] at hk ⊢; exact hk)).perm (h2 _)

/-- A struct or an array is stored: into a part of a block. -/
theorem s_stores {t tb g i : Nat} {cs cs' us : Array Value} {up : Array Value → List Chunk} [h : Up L g tb cs up] (ho : o.op = .store t x y) (hx : ev n E x = some (.pointer (some ⟨g, i, none⟩)))
    (hy : ev n E y = some (.agg us)) (hs : sizeT P t = some us.size) (h1 : us.toList.all Value.oneCell' = true) (hi : i + us.size ≤ cs.size)
    (hc : (cs.toList.take i ++ us.toList ++ cs.toList.drop (i + us.size)).toArray = cs') : Sto P w0 K n ds E L o (up cs') := by
  intro a w ha hw
  have hb := holds_up (g := g) hw
  have hst := run_storeCells_at P g i tb us.toList 0 cs w hb (by simpa using hi) (fun v hv => List.all_eq_true.1 h1 v hv)
  simp only [Nat.add_zero, Array.length_toList] at hst
  rw [hc] at hst
  refine ⟨w.setRow g cs', ?_, own_upRow (g := g) hw cs'⟩
  simp [execOp, ho, ha.ev hx, ha.ev hy, Instr.storeAt, Instr.sureAddr, storeVar, Value.cells, run_sizeT hs, hst]

/-! ### new memory -/
theorem n_alloc {t : Nat} {zv : Value} {cs : Array Value} (ho : o.op = .alloc t) (hz : zeroT P t = some zv) (hc : zv.cells = cs) : New P n ds E o .ptr t cs := by
  intro a w ha
  subst hc
  simp [execOp, ho, Instr.alloc, run_zeroT hz, newVar, newRow, NewV.val]
theorem n_box {t : Nat} {cs : Array Value} (ho : o.op = .box t x) (hx : ev n E x = some v) (hc : v.cells = cs) : New P n ds E o .ptr t cs := by
  intro a w ha
  subst hc
  simp [execOp, ho, ha.ev hx, Instr.box, newVar, newRow, NewV.val]
theorem info_of {t m b : Nat} {zv : Value} (hm : sizeT P t = some m) (hb : bytesT P t = some b) (hz : zeroT P t = some zv) : ∃ i, P.info? t = some i ∧ i.size = m ∧ i.bytes = b ∧ i.zero = some zv := by
  unfold sizeT at hm; unfold bytesT at hb; unfold zeroT at hz
  cases hi : P.info? t with
  | none => rw [hi] at hm; cases hm
  | some i => rw [hi] at hm hb hz; exact ⟨i, rfl, by simpa using hm, by simpa using hb, by simpa using hz⟩
theorem n_make {t e m b : Nat} {zv : Value} {len : Int} {k : Nat} {cs : Array Value} (ho : o.op = .makeSlice t x y) (hx : ev n E x = some (.int .i64 len)) (hy : ev n E y = some (.int .i64 len))
    (ht : P.underlying t = some (.slice e)) (hm : sizeT P e = some m) (hb : bytesT P e = some b) (hz : zeroT P e = some zv) (hk : len = (k : Nat)) (hbytes : b * k ≤ 281474976710656) (h63 : k ≤ 9223372036854775807)
    (hc : madeCells zv.cells (k * m) = cs) : New P n ds E o (.sl k k) e cs := by
  intro a w ha
  subst hk hc
  obtain ⟨i, hi, h1, h2, h3⟩ := info_of hm hb hz
  subst h1 h2
  have := run_make (P := P) w t e i zv ht hi h3 .i64 .i64 k k (by omega) (by omega) (by rw [← Int.natCast_mul]; omega) (by omega)
  simp only [Int.toNat_natCast] at this
  simp [execOp, ho, ha.ev hx, ha.ev hy, this, NewV.val]
theorem made_one (z : Value) (h : z.oneCell' = true) (k : Nat) : madeCells z.cells (k * 1) = (List.replicate k z).toArray := by
  have hz : z.cells = #[z] := by cases z <;> first | rfl | cases h
  rw [hz]
  apply Array.ext'
  simp [madeCells, Nat.mod_one, List.map_const']
/-- The operands of a list of places. -/
def evs (n : Nat) (E : Env) : List Operand → Option (List Value)
  | [] => some []
  | x :: r => match ev n E x, evs n E r with
    | some v, some vs => some (v :: vs)
    | _, _ => none
theorem evs_eval {a : Act} (ha : Sat n ds E a) : ∀ {xs : List Operand} {vs : List Value}, evs n E xs = some vs → xs.map a.eval = vs
  | [], vs, h => by cases h; rfl
  | x :: r, vs, h => by
    unfold evs at h
    split at h
    · rename_i v vs' h1 h2
      cases h
      rw [List.map_cons, ha.ev h1, evs_eval ha h2]
    · cases h
def evps (n : Nat) (E : Env) : List (Nat × Operand) → Option (List (Nat × Value))
  | [] => some []
  | (k, x) :: r => match ev n E x, evps n E r with
    | some v, some vs => some ((k, v) :: vs)
    | _, _ => none
theorem evps_eval {a : Act} (ha : Sat n ds E a) : ∀ {xs : List (Nat × Operand)} {vs : List (Nat × Value)}, evps n E xs = some vs → xs.map (fun p => (p.1, a.eval p.2)) = vs
  | [], vs, h => by cases h; rfl
  | (k, x) :: r, vs, h => by
    unfold evps at h
    split at h
    · rename_i v vs' h1 h2
      cases h
      rw [List.map_cons, ha.ev h1, evps_eval ha h2]
    · cases h
theorem p_build {t : Nat} {ps : Array (Nat × Operand)} {vs : List (Nat × Value)} {cs : Array Value} (ho : o.op = .build t ps) (hp : evps n E ps.toList = some vs) (hb : P.built t vs = some cs) :
    Pur P n ds E o (.agg cs) := by
  intro a w ha
  have h1 : (ps.map fun (p : Nat × Operand) => (p.1, a.eval p.2)) = vs.toArray := by
    apply Array.ext'; rw [Array.toList_map]; exact evps_eval ha hp
  have h2 : (ps.map fun (i, x) => (i, a.eval x)) = vs.toArray := h1
  simp only [execOp, ho, h2]
  simp [run_build w t vs.toArray cs (by simpa using hb)]
theorem n_buildSlice {t e m len : Nat} {ps : Array (Nat × Operand)} {vs : List (Nat × Value)} {zv : Value} {cs : Array Value} (ho : o.op = .buildSlice t len ps) (hp : evps n E ps.toList = some vs)
    (ht : P.underlying t = some (.slice e)) (hm : sizeT P e = some m) (hz : zeroT P e = some zv) (hl : len * m ≤ 16777216)
    (hb : Instr.fill (fun i => some (i * m, m)) ((Array.range (len * m)).map (zv.cells[· % zv.cells.size]!)) vs = some cs) : New P n ds E o (.sl len len) e cs := by
  intro a w ha
  have h1 : (ps.map fun (p : Nat × Operand) => (p.1, a.eval p.2)) = vs.toArray := by
    apply Array.ext'; rw [Array.toList_map]; exact evps_eval ha hp
  have h2 : (ps.map fun (i, x) => (i, a.eval x)) = vs.toArray := h1
  simp only [execOp, ho, h2]
  by_cases h0 : len * m = 0
  · rw [h0] at hb
    have hz0 : ∀ f : Nat → Value, (Array.range 0).map f = #[] := fun f => by simp
    rw [hz0] at hb
    simp [Instr.buildSlice, run_underlying ht, run_sizeT hm, h0, newRow, NewV.val, hz0, hb]
  · have h4 : ¬ (16777216 < len * m) := by omega
    simp [Instr.buildSlice, run_underlying ht, run_sizeT hm, h0, h4, run_zeroT hz, newRow, NewV.val, hb]
theorem p_len {t : Nat} {ad : Option Addr} {len cap : Nat} {e : Nat} (ho : o.op = .call ⟨.builtin .len, #[x], #[t]⟩) (hx : ev n E x = some (.slice ad len cap)) (ht : P.underlying t = some (.slice e)) :
    Pur P n ds E o (.int .i64 len) := by
  intro a w ha
  simp [execOp, ho, resolve, ha.ev hx, invoke, builtin, Builtin.len_, run_underlying ht, goInt]

/-! ### calls -/
theorem evs_arr {a : Act} (ha : Sat n ds E a) {xs : Array Operand} {vs : List Value} (h : evs n E xs.toList = some vs) : xs.map a.eval = vs.toArray := by
  apply Array.ext'; rw [Array.toList_map]; exact evs_eval ha h
structure Ent (P : Program) (f : FuncId) : Prop where
  go : ∃ fn, P.funcs[f]? = some fn ∧ (fn.name == "runtime.NumGoroutine") = false ∧ fn.body.isNone = false
theorem run_call {f : FuncId} {xs : Array Operand} {ts : Array Nat} {vs : List Value} {cap : Array Value} {a : Act} {w : World} (hf : Ent P f) (ho : o.op = .call ⟨.value x, xs, ts⟩) (ha : Sat n ds E a)
    (hx : ev n E x = some (.func (.func f) #[] cap)) (hxs : evs n E xs.toList = some vs) : (execOp a.eval o).run P w = .ok (.enter f (vs.toArray ++ cap)) w := by
  obtain ⟨fn, h1, h2, h3⟩ := hf.go
  simp only [execOp, ho, resolve, evs_arr ha hxs, ha.ev hx]
  have h4 : ¬ fn.name = "runtime.NumGoroutine" := by simpa using h2
  have h5 : ¬ fn.body = none := fun e => by rw [e] at h3; cases h3
  simp [Deferred.ofValue, invoke, callFunc, h1, h4, h5]
theorem r_call {f : FuncId} {xs : Array Operand} {ts : Array Nat} {vs : List Value} {cap : Array Value} {C : Value → List Chunk → Prop} (hf : Ent P f) (ho : o.op = .call ⟨.value x, xs, ts⟩)
    (hx : ev n E x = some (.func (.func f) #[] cap)) (hxs : evs n E xs.toList = some vs) (hcon : ∀ w, Own w0 K w L → Calls P f (vs.toArray ++ cap) w (Ret w [] C)) : Rel P w0 K n ds E L o C := by
  intro a w ha hw
  unfold RunsTo
  rw [run_call hf ho ha hx hxs]
  refine Calls.mono (hcon w hw) ?_
  rintro e w' ⟨v, L', he, hC, hO⟩
  exact ⟨v, he, L', hC, hO⟩
/-- A call that works on memory of ours: the pieces Lc (in front) are handed over, the rest stays. -/
theorem g_call {f : FuncId} {xs : Array Operand} {ts : Array Nat} {vs : List Value} {cap : Array Value} {C : Value → List Chunk → Prop} {K' : List Nat} {Lc F : List Chunk} (hf : Ent P f) (ho : o.op = .call ⟨.value x, xs, ts⟩)
    (hx : ev n E x = some (.func (.func f) #[] cap)) (hxs : evs n E xs.toList = some vs) (hL : L.Perm (Lc ++ F)) (hK : ∀ k, k ∈ K' → k ∈ idsOf Lc)
    (hcon : ∀ w, Own w0 K w L → Calls P f (vs.toArray ++ cap) w (Ret w K' C)) : Gen P w0 K n ds E L o (fun v M => ∃ L', C v L' ∧ M = L' ++ F) := by
  intro a w ha hw
  unfold RunsTo
  rw [run_call hf ho ha hx hxs]
  refine Calls.mono (hcon w hw) ?_
  rintro e w' ⟨v, L', he, hC, hO⟩
  exact ⟨v, he, L' ++ F, ⟨L', hC, rfl⟩, Own.frame (hw.perm hL.symm) hO hK⟩
end
end Go.Fl
