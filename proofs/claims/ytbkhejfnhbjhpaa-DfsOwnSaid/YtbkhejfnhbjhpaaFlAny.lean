/- A region that draws its order, by a walk in one order; regions in the text's order; the rules of statements; loops; calls. -/
import Derived.Test.YtbkhejfnhbjhpaaFlFlow
import Derived.Deep.LoopGhost
set_option linter.unusedVariables false
set_option linter.unusedSimpArgs false
namespace Go.Fl
open Go

def needs (o : Oper) : List Nat := (o.after.toList.filter (Region.binds .any)).map (·.on)

def pairOk (ops : Array Oper) (cl : List Cls) (A : List Nat) (x y : Nat) : Bool :=
  match ops[x]?, ops[y]? with
  | some ox, some oy => x != y && !(needs ox).contains y && ((A.getD y 0).testBit x || (ox.apart ops oy && clOk (cl.getD x .q) (cl.getD y .q) && !(A.getD x 0).testBit y))
  | _, _ => false

def pairsOk (ops : Array Oper) (cl : List Cls) (A : List Nat) : List Nat → Bool
  | [] => true
  | x :: r => r.all (pairOk ops cl A x) && pairsOk ops cl A r

def needsOk (ops : Array Oper) (x : Nat) : Bool :=
  match ops[x]? with
  | some o => (needs o).all fun m => Nat.blt m ops.size && m != x
  | none => false

def soundOk (ops : Array Oper) (A : List Nat) (d : Nat) : Bool :=
  match ops[d]? with
  | some o => (List.range ops.size).all fun i => !(A.getD d 0).testBit i || (needs o).any fun m => m == i || (A.getD m 0).testBit i
  | none => false

def flowChk (ops : Array Oper) (cl : List Cls) (A order : List Nat) : Bool :=
  Region.noSelect ops && (List.range ops.size).all (order.contains ·) && order.all (needsOk ops) && pairsOk ops cl A order && (List.range ops.size).all (soundOk ops A)

section
variable {P : Program} {ops : Array Oper} {w0 : World} {K : List Nat} {n : Nat} {ds : List Deferred} {Lf : List Chunk} {cl : List Cls} {A : List Nat} {Q : Act → World → Prop}

theorem Flow.under {l l' : List Nat} {y : Nat} (hl : ∀ E Ls Ln, Flow P ops w0 K n ds Lf cl A Q l E Ls Ln → Flow P ops w0 K n ds Lf cl A Q l' E Ls Ln)
    {E : Env} {Ls : List Chunk} {Ln : List (Nat × Chunk)} (h : Flow P ops w0 K n ds Lf cl A Q (y :: l) E Ls Ln) : Flow P ops w0 K n ds Lf cl A Q (y :: l') E Ls Ln := by
  cases h with
  | void hd => exact .void hd
  | val ml ho hm hv hr => exact .val ml ho hm hv (hl _ _ _ hr)
  | new ho hc hw nv t cs hx hr => exact .new ho hc hw nv t cs hx fun g => hl _ _ _ (hr g)
  | rel ho hc hw C hx hr => exact .rel ho hc hw C hx fun v L' hC => hl _ _ _ (hr v L' hC)
  | gen ho hc hw C hx hl' hr => exact .gen ho hc hw C hx hl' fun v L' hC => hl _ _ _ (hr v L' hC)

theorem Flow.front {i : Nat} {c2 : List Nat} (hns : Region.noSelect ops = true) : ∀ {c1 : List Nat}, (∀ y, y ∈ c1 → pairOk ops cl A y i = true ∧ (A.getD i 0).testBit y = false) →
    ∀ {E Ls Ln}, Flow P ops w0 K n ds Lf cl A Q (c1 ++ i :: c2) E Ls Ln → Flow P ops w0 K n ds Lf cl A Q (i :: (c1 ++ c2)) E Ls Ln
  | [], _, _, _, _, h => h
  | y :: c1, hp, E, Ls, Ln, h => by
    have h1 : Flow P ops w0 K n ds Lf cl A Q (y :: (i :: (c1 ++ c2))) E Ls Ln := Flow.under (fun E Ls Ln hh => Flow.front hns (fun z hz => hp z (List.mem_cons_of_mem _ hz)) hh) h
    obtain ⟨h2, h3⟩ := hp y (List.mem_cons_self ..)
    unfold pairOk at h2
    split at h2
    · rename_i ox oy hox hoy
      simp only [Bool.and_eq_true, Bool.or_eq_true, Bool.not_eq_true', bne_iff_ne, ne_eq] at h2
      obtain ⟨_, h4⟩ := h2
      rcases h4 with h4 | ⟨⟨h4, h5⟩, h6⟩
      · rw [h4] at h3; cases h3
      · exact Flow.swap hox hoy (fun cs b => Region.noSelect_spec hns y ox cs b hox) (fun cs b => Region.noSelect_spec hns i oy cs b hoy) h4 h5 h3 h6 h1
    · cases h2

theorem pairsOk_split {c1 c2 : List Nat} {i : Nat} (h : pairsOk ops cl A (c1 ++ i :: c2) = true) : (∀ y, y ∈ c1 → pairOk ops cl A y i = true) ∧ pairsOk ops cl A (c1 ++ c2) = true := by
  induction c1 with
  | nil => simp [pairsOk] at h ⊢; exact h.2
  | cons y c1 ih =>
    simp only [List.cons_append, pairsOk, Bool.and_eq_true] at h ⊢
    obtain ⟨h1, h2⟩ := h
    have := ih h2
    rw [List.all_append, Bool.and_eq_true] at h1
    simp only [List.all_cons, Bool.and_eq_true] at h1
    refine ⟨fun z hz => ?_, ?_, this.2⟩
    · rcases List.mem_cons.1 hz with rfl | hz
      · exact h1.2.1
      · exact this.1 z hz
    · rw [List.all_append, Bool.and_eq_true]; exact ⟨h1.1, h1.2.2⟩

theorem pairsOk_head {c : List Nat} {x : Nat} {ox : Oper} (hox : ops[x]? = some ox) (h : pairsOk ops cl A (x :: c) = true) : ∀ y, y ∈ c → y ∉ needs ox := by
  intro y hy
  simp only [pairsOk, Bool.and_eq_true, List.all_eq_true] at h
  have := h.1 y hy
  unfold pairOk at this
  rw [hox] at this
  split at this
  · rename_i a b ha hb
    cases ha
    simp only [Bool.and_eq_true, Bool.not_eq_true'] at this
    have h3 := this.1.2
    intro hm
    rw [List.contains_iff_mem.2 hm] at h3; cases h3
  · cases this

theorem mem_needs {o : Oper} {m : Nat} : m ∈ needs o ↔ ∃ e ∈ o.after, Region.binds .any e = true ∧ e.on = m := by
  simp [needs, and_assoc]

theorem getD_true_of {listed : Array Bool} {j : Nat} (h : j < listed.size) (hn : ¬ listed.getD j true = false) : listed.getD j false = true := by
  simp [h] at hn ⊢; exact hn

theorem flow_any {Qx : Exit → Act → World → Prop} (hns : Region.noSelect ops = true) (hA : ∀ d, d < ops.size → soundOk ops A d = true) :
    ∀ (m : Nat) (c : List Nat) (listed : Array Bool) (E : Env) (Ls : List Chunk) (Ln : List (Nat × Chunk)), c.length = m → Flow P ops w0 K n ds Lf cl A (Qx .normal) c E Ls Ln →
      listed.size = ops.size → (∀ j, j ∈ c ↔ (j < ops.size ∧ listed.getD j true = false)) → pairsOk ops cl A c = true → (∀ x, x ∈ c → needsOk ops x = true) →
      (∀ z i, z < ops.size → i < ops.size → listed.getD z true = true → (A.getD z 0).testBit i = true → listed.getD i true = true) →
      ∀ a w, Sat n ds E a → Own w0 K w (Ln.map (·.2) ++ Ls) → Own w0 K w Lf → wpAny P .any ops Qx m listed a w := by
  intro m
  induction m with
  | zero =>
    intro c listed E Ls Ln hl h hsz hc hp hn hcl a w ha hw hlf
    have : c = [] := List.eq_nil_of_length_eq_zero hl
    subst this
    refine ⟨?_, ?_⟩
    · rw [List.eq_nil_iff_forall_not_mem]
      intro j hj
      obtain ⟨h1, o, ho, _⟩ := mem_ready.1 hj
      have := (hc j).2 ⟨(Array.getElem?_eq_some_iff.1 ho).1, h1⟩
      simp at this
    · cases h with
      | void hd => exact (hd a w ha hw hlf).elim
      | done hd => exact hd a w ha hw
  | succ m ih =>
    intro c listed E Ls Ln hl h hsz hc hp hn hcl a w ha hw hlf
    refine ⟨fun hr => ?_, fun i hi => ?_⟩
    · exfalso
      match c, hl with
      | x :: r, hl =>
        have hx := (hc x).1 (List.mem_cons_self ..)
        obtain ⟨o, ho⟩ : ∃ o, ops[x]? = some o := ⟨ops[x]'hx.1, by simp [hx.1]⟩
        have : x ∈ Region.ready .any ops listed := by
          rw [mem_ready]
          refine ⟨hx.2, o, ho, fun e he hb => ?_⟩
          have hm : e.on ∈ needs o := mem_needs.2 ⟨e, he, hb, rfl⟩
          have hno := hn x (List.mem_cons_self ..)
          unfold needsOk at hno
          rw [ho] at hno
          simp only [List.all_eq_true, Bool.and_eq_true, bne_iff_ne, ne_eq, Nat.blt_eq] at hno
          obtain ⟨hlt, hne⟩ := hno _ hm
          refine getD_true_of (by rw [hsz]; exact hlt) fun hf => ?_
          have hmem := (hc e.on).2 ⟨hlt, hf⟩
          rcases List.mem_cons.1 hmem with h1 | h1
          · exact hne h1
          · exact pairsOk_head ho hp _ h1 hm
        rw [hr] at this
        cases this
    · obtain ⟨hli, o, ho, hall⟩ := mem_ready.1 hi
      have hlt : i < ops.size := (Array.getElem?_eq_some_iff.1 ho).1
      have hic := (hc i).2 ⟨hlt, hli⟩
      obtain ⟨c1, c2, rfl⟩ := List.append_of_mem hic
      obtain ⟨hp1, hp2⟩ := pairsOk_split hp
      -- what stands ahead of i in the list is none of its elders
      have hbits : ∀ y, y < ops.size → (A.getD i 0).testBit y = true → listed.getD y true = true := by
        intro y hy hb
        have hs := hA i hlt
        unfold soundOk at hs
        rw [ho] at hs
        simp only [List.all_eq_true, List.mem_range, Bool.or_eq_true, Bool.not_eq_true', List.any_eq_true, beq_iff_eq] at hs
        rcases hs y hy with h1 | ⟨k, hk, h1⟩
        · rw [h1] at hb; cases hb
        · obtain ⟨e, he, hbe, rfl⟩ := mem_needs.1 hk
          have hle := hall e he hbe
          have hle' : e.on < ops.size := by
            rcases Nat.lt_or_ge e.on listed.size with h2 | h2
            · rw [hsz] at h2; exact h2
            · simp [Array.getElem?_eq_none h2] at hle
          have hlt2 : listed.getD e.on true = true := by
            have : e.on < listed.size := by rw [hsz]; exact hle'
            simp [this] at hle ⊢; exact hle
          rcases h1 with h1 | h1
          · rw [← h1]; exact hlt2
          · exact hcl e.on y hle' hy hlt2 h1
      have hfront := Flow.front hns (c1 := c1) (c2 := c2) (i := i) (fun y hy => ⟨hp1 y hy, by
        have hyc := (hc y).1 (List.mem_append_left _ hy)
        rw [Bool.eq_false_iff]
        intro hb
        have := hbits y hyc.1 hb
        rw [hyc.2] at this; cases this⟩) h
      have hlen : (c1 ++ c2).length = m := by simp at hl ⊢; omega
      have hnd : i ∉ c1 ++ c2 := by
        intro hm
        have hself : ∀ y, y ∈ c1 ++ c2 → y ≠ i := by
          intro y hy
          rcases List.mem_append.1 hy with h1 | h1
          · have := hp1 y h1
            unfold pairOk at this
            split at this
            · simp only [Bool.and_eq_true, bne_iff_ne] at this; exact this.1.1
            · cases this
          · have : ∀ l1, pairsOk ops cl A (l1 ++ i :: c2) = true → i ≠ y := by
              intro l1
              induction l1 with
              | nil =>
                intro hh
                simp only [List.nil_append, pairsOk, Bool.and_eq_true, List.all_eq_true] at hh
                have := hh.1 y h1
                unfold pairOk at this
                split at this
                · simp only [Bool.and_eq_true, bne_iff_ne] at this; exact this.1.1
                · cases this
              | cons z l1 ih => intro hh; simp only [List.cons_append, pairsOk, Bool.and_eq_true] at hh; exact ih hh.2
            exact (this c1 hp).symm
        exact hself i hm rfl
      have hsz' : (listed.setIfInBounds i true).size = ops.size := by simpa using hsz
      have hset : ∀ j, (listed.setIfInBounds i true).getD j true = (if i = j then true else listed.getD j true) := by
        intro j
        by_cases hij : i = j
        · subst hij; have : i < listed.size := by rw [hsz]; exact hlt
          simp [this]
        · rw [getD_set_ne true hij, if_neg hij]
      have hc' : ∀ j, j ∈ c1 ++ c2 ↔ (j < ops.size ∧ (listed.setIfInBounds i true).getD j true = false) := by
        intro j
        rw [hset]
        by_cases hij : i = j
        · subst hij; simp only [if_true]; exact ⟨fun hm => (hnd hm).elim, fun hm => by simp at hm⟩
        · rw [if_neg hij, ← hc j]; simp [Ne.symm hij]
      have hn' : ∀ x, x ∈ c1 ++ c2 → needsOk ops x = true := fun x hx => hn x (by
        rcases List.mem_append.1 hx with h1 | h1
        · exact List.mem_append_left _ h1
        · exact List.mem_append_right _ (List.mem_cons_of_mem _ h1))
      have hcl' : ∀ z k, z < ops.size → k < ops.size → (listed.setIfInBounds i true).getD z true = true → (A.getD z 0).testBit k = true → (listed.setIfInBounds i true).getD k true = true := by
        intro z k hz hk hlz hb
        rw [hset] at hlz ⊢
        by_cases hik : i = k
        · rw [if_pos hik]
        · rw [if_neg hik]
          by_cases hiz : i = z
          · subst hiz; exact hbits k hk hb
          · rw [if_neg hiz] at hlz; exact hcl z k hz hk hlz hb
      have next : ∀ {E' Ls' Ln'}, Flow P ops w0 K n ds Lf cl A (Qx .normal) (c1 ++ c2) E' Ls' Ln' → ∀ a w, Sat n ds E' a → Own w0 K w (Ln'.map (·.2) ++ Ls') → Own w0 K w Lf → wpAny P .any ops Qx m (listed.setIfInBounds i true) a w :=
        fun hf => ih (c1 ++ c2) _ _ _ _ hlen hf hsz' hc' hp2 hn' hcl'
      unfold wpOp
      rw [ho]
      simp only
      cases hfront with
      | void hd => exact (hd a w ha hw hlf).elim
      | val ml ho' hm hv hr =>
        rw [ho] at ho'; cases ho'
        rcases hv a w ha hlf (.inr (own_vis i hw)) with ⟨h1, h2⟩ | ⟨h1, rfl⟩
        · rw [if_pos h1]
          refine .inl ?_
          unfold Oper.wp
          rw [h2]
          exact next hr _ _ (ha.put _ _) hw hlf
        · rw [if_neg (by rw [h1]; simp)]
          exact next hr _ _ (ha.put _ _) hw hlf
      | new ho' hc hwt nv t cs hx hr =>
        rw [ho] at ho'; cases ho'
        rw [if_pos (hwt a ha)]
        refine .inl ?_
        unfold Oper.wp
        rw [hx a w ha]
        exact next (hr _) _ _ (ha.put _ _) (by have := hw.alloc t cs; simpa using this) ((hlf.alloc t cs).sub (List.sublist_cons_self ..))
      | rel ho' hc hwt C hx hr =>
        rw [ho] at ho'; cases ho'
        rw [if_pos (hwt a ha)]
        refine .inl ((hx a w ha (own_vis i hw)).wp ?_)
        rintro v w' ⟨L', hC, hO⟩
        exact next (hr v L' hC) _ _ (ha.put _ _) (by have := hw.add hO; simpa [Function.comp_def] using this) ((hlf.add hO).sub (List.sublist_append_right _ _))
      | gen ho' hc hwt C hx hl' hr =>
        rw [ho] at ho'; cases ho'
        rw [if_pos (hwt a ha)]
        refine .inl ((hx a w ha hw).wp ?_)
        rintro v w' ⟨L', hC, hO⟩
        exact next (hr v L' hC) _ _ (ha.put _ _) (by simpa using hO) (hl' v L' hC _ hO)

theorem flowChk_spec {order : List Nat} (h : flowChk ops cl A order = true) : Region.noSelect ops = true ∧ (∀ j, j < ops.size → j ∈ order) ∧ (∀ x, x ∈ order → needsOk ops x = true) ∧
    pairsOk ops cl A order = true ∧ (∀ d, d < ops.size → soundOk ops A d = true) := by
  simp only [flowChk, Bool.and_eq_true, List.all_eq_true, List.mem_range] at h
  obtain ⟨⟨⟨⟨h1, h2⟩, h3⟩, h4⟩, h5⟩ := h
  exact ⟨h1, fun j hj => List.contains_iff_mem.1 (h2 j hj), h3, h4, h5⟩

theorem pairsOk_nodup {c : List Nat} (h : pairsOk ops cl A c = true) : c.Nodup := by
  induction c with
  | nil => simp
  | cons x r ih =>
    simp only [pairsOk, Bool.and_eq_true, List.all_eq_true] at h
    refine List.nodup_cons.2 ⟨fun hm => ?_, ih h.2⟩
    have := h.1 x hm
    unfold pairOk at this
    split at this
    · simp at this
    · cases this

theorem length_of_all {c : List Nat} {m : Nat} (hn : c.Nodup) (h : ∀ j, j ∈ c ↔ j < m) : c.length = m := by
  have h1 : c.Perm (List.range m) := by
    rw [List.perm_ext_iff_of_nodup hn List.nodup_range]
    intro a; rw [h a, List.mem_range]
  rw [h1.length_eq, List.length_range]

/-- A region that draws its order, by a walk in one order. -/
theorem wp_region_flow {Qx : Exit → Act → World → Prop} {id : Nat} {order : List Nat} (hm : P.follows .mixedOrders = true) (hchk : flowChk ops cl A order = true)
    {E : Env} {L : List Chunk} (hLf : ∀ w, Own w0 K w L → Own w0 K w Lf) (h : Flow P ops w0 K n ds Lf cl A (Qx .normal) order E L []) : ∀ a w, Sat n ds E a → Own w0 K w L → (Code.region id ops true).wp P Qx a w := by
  intro a w ha hw
  obtain ⟨h1, h2, h3, h4, h5⟩ := flowChk_spec hchk
  have hlt : ∀ x, x ∈ order → x < ops.size := fun x hx => by
    have := h3 x hx
    unfold needsOk at this
    split at this
    · rename_i o ho; exact (Array.getElem?_eq_some_iff.1 ho).1
    · cases this
  refine wp_region_any hm ?_
  have hlen := length_of_all (pairsOk_nodup h4) (fun j => ⟨hlt j, h2 j⟩)
  rw [← hlen]
  rw [hlen]
  refine flow_any h1 h5 ops.size order (Array.replicate ops.size false) E L [] hlen h (by simp) (fun j => ⟨fun hj => ⟨hlt j hj, by simp [hlt j hj]⟩, fun hj => h2 j hj.1⟩) h4 h3 ?_ a _ ha (by simpa using hw.drew) ((hLf w hw).drew)
  intro z i hz hi hl
  simp [hz] at hl
end
end Go.Fl
