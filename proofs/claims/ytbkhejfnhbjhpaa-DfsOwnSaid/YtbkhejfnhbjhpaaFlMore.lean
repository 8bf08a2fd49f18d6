/- More rules of a walk: literals of structs and slices, guards that are told apart, joins, captured variables. -/
import Derived.Test.YtbkhejfnhbjhpaaFlSlc
set_option linter.unusedVariables false
set_option linter.unusedSimpArgs false
namespace Go.Fl
open Go

/-! ### literals -/
def fillL (place : Nat → Option (Nat × Nat)) (cells : List Value) : List (Nat × Value) → Option (List Value)
  | [] => some cells
  | (i, v) :: r =>
    match place i with
    | none => none
    | some (off, size) => bif Nat.beq v.cells.toList.length size && Nat.ble (off + v.cells.toList.length) cells.length then
        fillL place (cells.take off ++ (v.cells.toList ++ cells.drop (off + v.cells.toList.length))) r else none

theorem splice (off : Nat) : ∀ (l : List Value) (k : Nat) (cells : Array Value), off + k + l.length ≤ cells.size →
    ((l.zipIdx k).foldl (fun (cs : Array Value) (p : Value × Nat) => cs.setIfInBounds (off + p.2) p.1) cells).toList = cells.toList.take (off + k) ++ (l ++ cells.toList.drop (off + k + l.length))
  | [], k, cells, _ => by simp
  | x :: l, k, cells, h => by
    simp only [List.zipIdx_cons, List.foldl_cons]
    rw [splice off l (k + 1) _ (by simp at h ⊢; omega)]
    have e := list_seg_step cells.toList (off + k) x l (by simp at h ⊢; omega)
    simpa [Array.toList_setIfInBounds, Nat.add_assoc] using e

theorem fill_of {place : Nat → Option (Nat × Nat)} : ∀ {parts : List (Nat × Value)} {cells : Array Value} {l : List Value}, fillL place cells.toList parts = some l → Instr.fill place cells parts = some l.toArray
  | [], cells, l, h => by cases h; rfl
  | (i, v) :: r, cells, l, h => by
    unfold fillL at h
    unfold Instr.fill
    cases hp : place i with
    | none => rw [hp] at h; cases h
    | some q =>
      obtain ⟨off, size⟩ := q
      rw [hp] at h
      simp only at h ⊢
      cases hb : (Nat.beq v.cells.toList.length size && Nat.ble (off + v.cells.toList.length) cells.toList.length) with
      | false => rw [hb] at h; cases h
      | true =>
        rw [hb] at h
        rw [Bool.and_eq_true] at hb
        have h1 : v.cells.size = size := by have := Nat.eq_of_beq_eq_true hb.1; simpa using this
        have h2 : off + v.cells.size ≤ cells.size := by have := Nat.le_of_ble_eq_true hb.2; simpa using this
        rw [if_neg (by simp only [Bool.or_eq_true, decide_eq_true_eq]; omega)]
        apply fill_of
        have hs := splice off v.cells.toList 0 cells (by simpa using h2)
        have e : (v.cells.zipIdx.foldl (fun cs (x : Value × Nat) => cs.setIfInBounds (off + x.2) x.1) cells) = ((v.cells.toList.zipIdx 0).foldl (fun (cs : Array Value) (p : Value × Nat) => cs.setIfInBounds (off + p.2) p.1) cells) := by
          rw [← Array.foldl_toList]; simp
        rw [e, hs]
        simpa using h

def builtSt (P : Program) (t : TypeId) : Option (List (Nat × Nat) × List Value) :=
  match P.info? t, P.underlying t with
  | some it, some (.struct fields) =>
    match it.zero, fields.toList.mapM (fun f => (P.info? f.type).map fun i => (f.offset, i.size)) with
    | some z, some places => some (places, z.cells.toList)
    | _, _ => none
  | _, _ => none
theorem built_of {P : Program} {t : TypeId} {places : List (Nat × Nat)} {z l : List Value} {vs : List (Nat × Value)} (h : builtSt P t = some (places, z)) (hf : fillL (fun (i : Nat) => places[i]?) z vs = some l) : P.built t vs = some l.toArray := by
  unfold builtSt at h
  unfold Program.built
  split at h
  · rename_i it fields hi hu
    rw [hi, hu]
    simp only
    split at h
    · rename_i zz pl hz hp
      obtain ⟨rfl, rfl⟩ : pl = places ∧ zz.cells.toList = z := by
        have h2 := Option.some.inj h
        exact ⟨congrArg Prod.fst h2, congrArg Prod.snd h2⟩
      rw [hz, hp]
      simp only
      have : Instr.fill (fun (i : Nat) => pl.toArray[i]?) zz.cells vs = some l.toArray := by
        apply fill_of
        have e : (fun (i : Nat) => pl.toArray[i]?) = (fun (i : Nat) => pl[i]?) := by funext i; simp
        rw [e]; exact hf
      exact this
    · cases h
  · cases h

section
variable {P : Program} {ops : Array Oper} {w0 : World} {K : List Nat} {n : Nat} {ds : List Deferred} {E : Env} {L F : List Chunk} {o : Oper} {x y z : Operand} {v u : Value} {w : World} {d : Nat} {r : List Oper} {Q : Exit → Act → World → Prop}

theorem p_struct {t : Nat} {ps : Array (Nat × Operand)} {vs : List (Nat × Value)} {places : List (Nat × Nat)} {zs l : List Value} {cs : Array Value} (ho : o.op = .build t ps) (hp : evps n E ps.toList = some vs)
    (hb : builtSt P t = some (places, zs)) (hf : fillL (fun (i : Nat) => places[i]?) zs vs = some l) (hc : l.toArray = cs) : Pur P n ds E o (.agg cs) := by
  subst hc; exact p_build ho hp (built_of hb hf)

theorem n_slit {t e m len : Nat} {ps : Array (Nat × Operand)} {vs : List (Nat × Value)} {zv : Value} {l : List Value} {cs : Array Value} (ho : o.op = .buildSlice t len ps) (hp : evps n E ps.toList = some vs)
    (ht : P.underlying t = some (.slice e)) (hm : sizeT P e = some m) (hz : zeroT P e = some zv) (hzs : zv.cells.size = m) (hm0 : 0 < m) (hl : len * m ≤ 16777216)
    (hb : fillL (fun i => some (i * m, m)) (List.flatten (List.replicate len zv.cells.toList)) vs = some l) (hc : l.toArray = cs) : New P n ds E o (.sl len len) e cs := by
  subst hc
  refine n_buildSlice ho hp ht hm hz hl (fill_of ?_)
  have : ((Array.range (len * m)).map (zv.cells[· % zv.cells.size]!)).toList = List.flatten (List.replicate len zv.cells.toList) := by
    rw [Array.toList_map]
    have hs : zv.cells.toList.length = m := by simp [hzs]
    clear hb hl hp ho
    induction len with
    | zero => simp
    | succ k ih =>
      have e1 : (Array.range ((k + 1) * m)).toList = List.range (k * m + m) := by simp [Nat.succ_mul]
      rw [e1, List.range_add, List.map_append, List.replicate_succ']
      simp only [Array.toList_range] at ih
      rw [ih, List.flatten_append]
      congr 1
      simp only [List.flatten_cons, List.flatten_nil, List.append_nil, List.map_map]
      apply List.ext_getElem
      · simp [hs, hzs]
      · intro i h1 h2
        simp at h1 h2 ⊢
        have : (k * m + i) % zv.cells.size = i := by rw [hzs, Nat.add_comm, Nat.add_mul_mod_self_right, Nat.mod_eq_of_lt h1]
        rw [this]; simp [h2]
  rw [this]; exact hb

/-! ### guards that are told apart -/
theorem sat_dup {a : Act} {d : Nat} (h : Sat n ds E a) (hd : E.get d = some v) : Sat n ds ((d, v) :: E) a :=
  h.mono fun t u hu => by
    rw [Env.get_cons] at hu
    split at hu
    · rename_i e; subst e; cases hu; exact hd
    · exact hu
theorem Seq.split (d : Nat) {b : Bool} (hd : E.get d = some (.bool b)) (h1 : b = true → Seq P ops w0 K n ds Q r ((d, .bool true) :: E) L) (h2 : b = false → Seq P ops w0 K n ds Q r ((d, .bool false) :: E) L) :
    Seq P ops w0 K n ds Q r E L := by
  intro a w ha hw
  cases b with
  | true => exact h1 rfl a w (sat_dup ha hd) hw
  | false => exact h2 rfl a w (sat_dup ha hd) hw
variable {Lf : List Chunk} {cl : List Cls} {A : List Nat} {Qa : Act → World → Prop} {i : Nat} {ri : List Nat} {Ls : List Chunk} {Ln : List (Nat × Chunk)}
theorem Flow.dup {l : List Nat} {E : Env} (h : Flow P ops w0 K n ds Lf cl A Qa l E Ls Ln) {E' : Env} (he : ∀ t, E'.get t = E.get t) : Flow P ops w0 K n ds Lf cl A Qa l E' Ls Ln := h.congr he (.refl _)
theorem Flow.split (d : Nat) {b : Bool} (hd : E.get d = some (.bool b)) (h1 : b = true → Flow P ops w0 K n ds Lf cl A Qa ri ((d, .bool true) :: E) Ls Ln) (h2 : b = false → Flow P ops w0 K n ds Lf cl A Qa ri ((d, .bool false) :: E) Ls Ln) :
    Flow P ops w0 K n ds Lf cl A Qa ri E Ls Ln := by
  have key : ∀ t, E.get t = Env.get ((d, .bool b) :: E) t := by
    intro t
    rw [Env.get_cons]
    split
    · rename_i e; subst e; exact hd
    · rfl
  cases b with
  | true => exact (h1 rfl).dup key
  | false => exact (h2 rfl).dup key
theorem Flow.valS (ho : ops[i]? = some o) (hc : cl.getD i .q = .v) (hd : o.dst = some d) (hw : want n E ops o = some true) (hv : Val P w0 K n ds E Ls o v)
    (h : Flow P ops w0 K n ds Lf cl A Qa ri ((d, v) :: E) Ls Ln) : Flow P ops w0 K n ds Lf cl A Qa (i :: ri) E Ls Ln :=
  Flow.val' ho hc hd hw rfl (fun a w ha hw => hv a w ha (hw.sub (List.sublist_append_right _ _))) h
theorem Flow.relS (ho : ops[i]? = some o) (hc : cl.getD i .q = .r) (hd : o.dst = some d) (hw : want n E ops o = some true) {C : Value → List Chunk → Prop}
    (hx : Rel P w0 K n ds E Ls o C) (h : ∀ v L', C v L' → Flow P ops w0 K n ds Lf cl A Qa ri ((d, v) :: E) Ls (L'.map (fun c => (i, c)) ++ Ln)) : Flow P ops w0 K n ds Lf cl A Qa (i :: ri) E Ls Ln :=
  Flow.rel' ho hc hd hw rfl (fun a w ha hw => hx a w ha (hw.sub (List.sublist_append_right _ _))) h

/-- A call that makes nothing. -/
theorem Seq.rel0 (hd : o.dst = some d) (hw : want n E ops o = some true) {D : Value → Prop} (hx : Rel P w0 K n ds E L o (fun v M => M = [] ∧ D v))
    (h : ∀ v, D v → Seq P ops w0 K n ds Q r ((d, v) :: E) L) : Seq P ops w0 K n ds Q (o :: r) E L :=
  Seq.rel hd hw hx fun v L' hC => by obtain ⟨rfl, hD⟩ := hC; exact h v hD
theorem Flow.rel0 (ho : ops[i]? = some o) (hc : cl.getD i .q = .r) (hd : o.dst = some d) (hw : want n E ops o = some true) {D : Value → Prop}
    (hx : Rel P w0 K n ds E Ls o (fun v M => M = [] ∧ D v)) (h : ∀ v, D v → Flow P ops w0 K n ds Lf cl A Qa ri ((d, v) :: E) Ls Ln) : Flow P ops w0 K n ds Lf cl A Qa (i :: ri) E Ls Ln :=
  Flow.relS ho hc hd hw hx fun v L' hC => by obtain ⟨rfl, hD⟩ := hC; exact h v hD
/-- Where the region has made nothing yet. -/
theorem Flow.gen0 (ho : ops[i]? = some o) (hc : cl.getD i .q = .g) (hd : o.dst = some d) (hw : want n E ops o = some true) {C : Value → List Chunk → Prop}
    (hx : Gen P w0 K n ds E Ls o C) (hl : ∀ v L', C v L' → ∀ w, Own w0 K w L' → Own w0 K w Lf) (h : ∀ v L', C v L' → Flow P ops w0 K n ds Lf cl A Qa ri ((d, v) :: E) L' []) : Flow P ops w0 K n ds Lf cl A Qa (i :: ri) E Ls [] :=
  Flow.gen' (V := Ls) ho hc hd hw rfl hx hl h
theorem Flow.genN (ho : ops[i]? = some o) (hc : cl.getD i .q = .g) (hd : o.dst = none) (hw : want n E ops o = some true) {C : Value → List Chunk → Prop}
    (hx : Gen P w0 K n ds E Ls o C) (hl : ∀ v L', C v L' → ∀ w, Own w0 K w L' → Own w0 K w Lf) (h : ∀ v L', C v L' → Flow P ops w0 K n ds Lf cl A Qa ri E L' []) : Flow P ops w0 K n ds Lf cl A Qa (i :: ri) E Ls [] :=
  .gen ho hc (fun a ha => want_spec hw ha) C (fun a w ha hw' => hx a w ha hw') hl (by rw [hd]; exact h)
theorem Flow.sto0 (ho : ops[i]? = some o) (hc : cl.getD i .q = .g) (hd : o.dst = none) (hw : want n E ops o = some true) {L' : List Chunk}
    (hx : Sto P w0 K n ds E Ls o L') (hl : ∀ w, Own w0 K w L' → Own w0 K w Lf) (h : Flow P ops w0 K n ds Lf cl A Qa ri E L' []) : Flow P ops w0 K n ds Lf cl A Qa (i :: ri) E Ls [] :=
  Flow.sto (V := Ls) ho hc hd hw rfl hx hl h

theorem DC.cond_t {c : Operand} {xc yc : Code} (hc : ev n E c = some (.bool true)) (h : DC P w0 K n ds Q xc E L) : DC P w0 K n ds Q (.cond c xc yc) E L := DC.cond hc (fun _ => h) (fun e => by cases e)
theorem DC.cond_f {c : Operand} {xc yc : Code} (hc : ev n E c = some (.bool false)) (h : DC P w0 K n ds Q yc E L) : DC P w0 K n ds Q (.cond c xc yc) E L := DC.cond hc (fun e => by cases e) (fun _ => h)

theorem Own.self {w0 w : World} {K : List Nat} {L : List Chunk} (h : Own w0 K w L) : Own w (idsOf L) w L :=
  ⟨rfl, rfl, rfl, Nat.le_refl _, fun _ _ _ => rfl, h.nodup, fun g hg => .inl hg, h.lt, h.holds⟩

/-! ### a slice of ours is looked at -/
theorem Seq.open {t m : Nat} {vs : List Value} (h1 : v = .slice none 0 0 → vs = [] → Seq P ops w0 K n ds Q r E F)
    (h2 : ∀ g len cap sp, v = .slice (some ⟨g, 0, none⟩) len cap → vs.length = len * m → len ≤ cap → cap ≤ 9223372036854775807 → vs.length + sp.length = cap * m → Seq P ops w0 K n ds Q r E (blk g t (vs ++ sp).toArray :: F)) :
    Seq P ops w0 K n ds Q r E (slc v t m vs :: F) := by
  intro a w ha hw
  rcases own_open hw with ⟨e1, e2, hw'⟩ | ⟨g, len, cap, sp, e1, e2, e3, e4, e5, hw'⟩
  · exact h1 e1 e2 a w ha hw'
  · exact h2 g len cap sp e1 e2 e3 e4 e5 a w ha hw'
theorem DC.open {t m : Nat} {vs : List Value} {c : Code} (h1 : v = .slice none 0 0 → vs = [] → DC P w0 K n ds Q c E F)
    (h2 : ∀ g len cap sp, v = .slice (some ⟨g, 0, none⟩) len cap → vs.length = len * m → len ≤ cap → cap ≤ 9223372036854775807 → vs.length + sp.length = cap * m → DC P w0 K n ds Q c E (blk g t (vs ++ sp).toArray :: F)) :
    DC P w0 K n ds Q c E (slc v t m vs :: F) := by
  intro a w ha hw
  rcases own_open hw with ⟨e1, e2, hw'⟩ | ⟨g, len, cap, sp, e1, e2, e3, e4, e5, hw'⟩
  · exact h1 e1 e2 a w ha hw'
  · exact h2 g len cap sp e1 e2 e3 e4 e5 a w ha hw'
theorem Fin.open {t m : Nat} {vs : List Value} {Qb : Act → World → Prop} (h1 : v = .slice none 0 0 → vs = [] → Fin w0 K n ds Qb E F)
    (h2 : ∀ g len cap sp, v = .slice (some ⟨g, 0, none⟩) len cap → vs.length = len * m → len ≤ cap → cap ≤ 9223372036854775807 → vs.length + sp.length = cap * m → Fin w0 K n ds Qb E (blk g t (vs ++ sp).toArray :: F)) :
    Fin w0 K n ds Qb E (slc v t m vs :: F) := by
  intro a w ha hw
  rcases own_open hw with ⟨e1, e2, hw'⟩ | ⟨g, len, cap, sp, e1, e2, e3, e4, e5, hw'⟩
  · exact h1 e1 e2 a w ha hw'
  · exact h2 g len cap sp e1 e2 e3 e4 e5 a w ha hw'
theorem Pick.cons' {M : List Chunk} {c c0 : Chunk} {L' : List Chunk} (i : Nat) (h : M[i]? = some c0) (e : c0 = c) (r : Pick (M.eraseIdx i) L') : Pick M (c :: L') := .cons i (e ▸ h) r

/-! ### joins -/
def Met (w0 : World) (K : List Nat) (n : Nat) (ds : List Deferred) {ι : Type} (Inv : ι → Prop) (Es : ι → Env) (Ls : ι → List Chunk) (a : Act) (w : World) : Prop := ∃ j, Inv j ∧ Sat n ds (Es j) a ∧ Own w0 K w (Ls j)
theorem DC.cut {ι : Type} (Inv : ι → Prop) (Es : ι → Env) (Lc : ι → List Chunk) {xc yc : Code} (first : DC P w0 K n ds (Exit.then (Met w0 K n ds Inv Es Lc) Q) xc E L)
    (rest : ∀ i, Inv i → DC P w0 K n ds Q yc (Es i) (Lc i)) : DC P w0 K n ds Q (.seq xc yc) E L := by
  refine DC.seq fun a w ha hw => wp_mono (first a w ha hw) ?_
  intro e a w h
  cases e with
  | normal => obtain ⟨j, hj, hs, ho⟩ := h; exact rest j hj a w hs ho
  | exit id => exact h
  | goto l => exact h
  | ret => exact h
  | panic ch => exact h
  | outgrown => exact h
theorem Fin.meet {ι : Type} {Inv : ι → Prop} {Es : ι → Env} {Lc : ι → List Chunk} (j : ι) (hj : Inv j) (hE : Sub E (Es j)) (hL : Pick L (Lc j)) : Fin w0 K n ds (Exit.then (Met w0 K n ds Inv Es Lc) Q .normal) E L :=
  fun a w ha hO => ⟨j, hj, ha.mono hE.get, hO.pick hL⟩
theorem Sub.nil : Sub E [] := trivial
theorem Sub.cons {t : Nat} {r : Env} (h : E.get t = some v) (hr : Sub E r) : Sub E ((t, v) :: r) := ⟨h, hr⟩

/-! ### further operations -/
theorem p_func {f : Fn} {first cap : Array Operand} {vs ws : List Value} (ho : o.op = .makeFunc f first cap) (h1 : evs n E first.toList = some ws) (hc : evs n E cap.toList = some vs) : Pur P n ds E o (.func f ws.toArray vs.toArray) := by
  intro a w ha
  simp [execOp, ho, Instr.makeFunc, evs_arr ha hc, evs_arr ha h1]
theorem p_eql_nil {t t' e : Nat} {p : Option Addr} (ho : o.op = .binOp .eql t x y t') (hx : ev n E x = some (.pointer p)) (hy : ev n E y = some (.pointer none)) (ht : P.underlying t = some (.pointer e)) :
    Pur P n ds E o (.bool p.isNone) := by
  intro a w ha
  have h : P.underlying t = some (.pointer (P.pointee t)) := by simp [Program.pointee, ht]
  simp [execOp, ho, ha.ev hx, ha.ev hy, eqGuard_at_pointer, run_eql_pointer_nil w t p h]
theorem p_neq_nil {t t' e : Nat} {p : Option Addr} (ho : o.op = .binOp .neq t x y t') (hx : ev n E x = some (.pointer p)) (hy : ev n E y = some (.pointer none)) (ht : P.underlying t = some (.pointer e)) :
    Pur P n ds E o (.bool (!p.isNone)) := by
  intro a w ha
  have h : P.underlying t = some (.pointer (P.pointee t)) := by simp [Program.pointee, ht]
  simp [execOp, ho, ha.ev hx, ha.ev hy, eqGuard_at_pointer, run_neq_pointer_nil w t p h]
theorem p_eql_b {t t' : Nat} {b c : Bool} (ho : o.op = .binOp .eql t x y t') (hx : ev n E x = some (.bool b)) (hy : ev n E y = some (.bool c)) (ht : P.underlying t = some .bool) : Pur P n ds E o (.bool (b == c)) := by
  intro a w ha
  simp [execOp, ho, ha.ev hx, ha.ev hy, eqGuard_at_bool, run_eql_bool w t b c ht]
theorem p_neq_b {t t' : Nat} {b c : Bool} (ho : o.op = .binOp .neq t x y t') (hx : ev n E x = some (.bool b)) (hy : ev n E y = some (.bool c)) (ht : P.underlying t = some .bool) : Pur P n ds E o (.bool (!(b == c))) := by
  intro a w ha
  simp [execOp, ho, ha.ev hx, ha.ev hy, eqGuard_at_bool, run_neq_bool w t b c ht]
theorem p_xor1 {t t' : Nat} {i : Int} (ho : o.op = .binOp .xor t x y t') (hx : ev n E x = some (.int .i64 i)) (hy : ev n E y = some (.int .i64 1)) (hi : 0 ≤ i ∧ i ≤ 9223372036854775807) :
    Pur P n ds E o (.int .i64 (if i % 2 = 0 then i + 1 else i - 1)) := by
  refine p_bin (r := 0) ho hx hy fun w => ?_
  have h : (binOp .xor t (.int .i64 i) (.int .i64 1)) = Op.intBits .xor .i64 i 1 := binOp_xor ..
  rw [h]
  obtain ⟨k, rfl⟩ := Int.eq_ofNat_of_zero_le hi.1
  have hk : k < 2 ^ 63 := by have := hi.2; omega
  have e1 : BitVec.ofInt 64 (k : Int) = BitVec.ofNat 64 k := by simp
  have e2 : (BitVec.ofNat 64 k ^^^ BitVec.ofInt 64 1).toNat = k ^^^ 1 := by
    rw [BitVec.toNat_xor]
    have : (BitVec.ofInt 64 1).toNat = 1 := by decide
    rw [this, BitVec.toNat_ofNat, Nat.mod_eq_of_lt (by omega)]
  have e3 : ((k ^^^ 1 : Nat) : Int) = (if (k : Int) % 2 = 0 then (k : Int) + 1 else (k : Int) - 1) := by
    have h1 : (k ^^^ 1) / 2 = k / 2 := by rw [Nat.xor_div_two]; simp
    have h2 : ((k ^^^ 1) % 2 = 1) ↔ ¬ ((k % 2 = 1) ↔ (1 % 2 = 1)) := Nat.xor_mod_two_eq_one
    by_cases h3 : k % 2 = 1
    · have h4 : ¬ ((k ^^^ 1) % 2 = 1) := fun h5 => (h2.1 h5) ⟨fun _ => rfl, fun _ => h3⟩
      rw [if_neg (by omega)]; omega
    · have h4 : (k ^^^ 1) % 2 = 1 := h2.2 fun h5 => h3 (h5.2 rfl)
      rw [if_pos (by omega)]; omega
  have e4 : (Op.intBits .xor .i64 (k : Int) 1).run P w = .ok (.int .i64 (IntKind.i64.wrap ((BitVec.ofInt 64 (k : Int) ^^^ BitVec.ofInt 64 1).toNat : Int))) w := rfl
  rw [e4, e1, e2, wrap_of (i := ((k ^^^ 1 : Nat) : Int)) (by rw [e3]; split <;> omega), e3]
theorem p_neg {t : Nat} {i : Int} (ho : o.op = .unOp .neg t x) (hx : ev n E x = some (.int .i64 i)) (hi : -9223372036854775807 ≤ i ∧ i ≤ 9223372036854775807) : Pur P n ds E o (.int .i64 (-i)) := by
  intro a w ha
  have : IntKind.i64.wrap (0 - i) = -i := by rw [wrap_of (by omega)]; omega
  simp [execOp, ho, ha.ev hx, Op.unary, Op.intArith]
  simpa using this
theorem p_max {ts : Array Nat} {i j : Int} (ho : o.op = .call ⟨.builtin .max, #[x, y], ts⟩) (hx : ev n E x = some (.int .i64 i)) (hy : ev n E y = some (.int .i64 j)) : Pur P n ds E o (.int .i64 (max i j)) := by
  intro a w ha
  have : (if j > i then j else i) = max i j := by split <;> omega
  simp [execOp, ho, resolve, ha.ev hx, ha.ev hy, invoke, builtin, Builtin.max_, Builtin.max2]
  omega
theorem p_min {ts : Array Nat} {i j : Int} (ho : o.op = .call ⟨.builtin .min, #[x, y], ts⟩) (hx : ev n E x = some (.int .i64 i)) (hy : ev n E y = some (.int .i64 j)) : Pur P n ds E o (.int .i64 (min i j)) := by
  intro a w ha
  simp [execOp, ho, resolve, ha.ev hx, ha.ev hy, invoke, builtin, Builtin.min_, Builtin.min2]
  omega
theorem p_fieldv {s k off ft : Nat} {cs : Array Value} (ho : o.op = .field s x k) (hx : ev n E x = some (.agg cs)) (hf : fieldT P s k = some (off, ft)) (hagg : aggT P ft = some false) (hv : cs[off]? = some v) : Pur P n ds E o v := by
  intro a w ha
  unfold fieldT at hf
  split at hf
  · rename_i fs hu
    split at hf
    · rename_i f hff
      split at hf
      · cases hf
        simp [execOp, ho, ha.ev hx, Instr.field, run_underlying hu, hff, asAgg, part, run_aggT hagg, hv]
      · cases hf
    · cases hf
  · cases hf
theorem p_eql_nilf {t t' : Nat} {p q : List Nat} {f : Fn} {c1 c2 : Array Value} {i1 i2 i3} (ho : o.op = .binOp .eql t x y t') (hx : ev n E x = some (.func f c1 c2)) (hy : ev n E y = some .nilFunc) (ht : P.underlying t = some (.func i1 i2 i3)) :
    Pur P n ds E o (.bool false) := by
  intro a w ha
  have h1 : (Op.equal t (.func f c1 c2) .nilFunc).run P w = .ok false w := by
    have h0 : ∀ m, (Op.equalIn (m + 1) t (.func f c1 c2) .nilFunc).run P w = .ok false w := fun m => by
      unfold Op.equalIn
      rw [Sem.run_bind, run_underlying ht w]
      rfl
    exact h0 9999
  have h2 : (binOp .eql t (.func f c1 c2) .nilFunc).run P w = .ok (.bool false) w := by
    simp only [binOp]; simp [h1]
  simp [execOp, ho, ha.ev hx, ha.ev hy, eqGuard_at_func, h2]
end
end Go.Fl
