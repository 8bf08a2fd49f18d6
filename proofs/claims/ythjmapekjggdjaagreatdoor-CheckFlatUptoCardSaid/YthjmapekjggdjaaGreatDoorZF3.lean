/- Part 3 of the proof: the library of the walk and the walks, in build order; no condition. -/
import Derived.Test.YthjmapekjggdjaaGreatDoorZF2
set_option linter.unusedVariables false
set_option linter.unusedSimpArgs false
set_option linter.unusedSectionVars false
set_option maxRecDepth 100000
namespace Go.Fl
open Go Go.Proofs
/-- A builder in block b, its buffer v, that holds these bytes. -/
def bldr (b : Nat) (v : Value) (bs : List UInt8) : Chunk :=
 ⟨b :: v.ownBlock.toList, fun w => ∃ p, (p = .pointer none ∨ p = .pointer (some ⟨b, 0, none⟩)) ∧ w.heap[b]? = some (.cells #[p, v] 95 (0, 0)) ∧
   w.ownsRow b 5 1 v (Lib.byteCells bs).length (Lib.byteCells bs) ∧ v.ownBlock ≠ some b,
  fun w w' h hh => by
   obtain ⟨p, h1, h2, h3, h4⟩ := hh
   exact ⟨p, h1, (h b (List.mem_cons_self ..)).trans h2, Gw h3 fun g hg => h g (by rw [hg]; simp), h4⟩⟩
theorem Iz {b : Nat} {v : Value} {bs : List UInt8} {w : World} (h : (bldr b v bs).holds w) : Lib.IsBuilder 95 5 b b (Lib.byteCells bs) w := by
 obtain ⟨p, rfl | rfl, h2, h3, h4⟩ := h
 ·exact .inl ⟨Nat.le_refl _, v, h2, h3, h4⟩
 ·exact .inr ⟨Nat.le_refl _, v, h2, h3, h4⟩
section
variable {w0 w w' : World} {K : List Nat} {n : Nat} {ds : List Deferred} {E : Env} {L F : List Chunk} {o : Oper} {x : Operand} {v : Value} {b : Nat} {bs s : List UInt8}
theorem own_bldr (hw : Own w0 K w (blk b 95 #[.pointer none, .slice none 0 0] :: F)) : Own w0 K w (bldr b (.slice none 0 0) [] :: F) :=
 FZ (c' := bldr b (.slice none 0 0) []) (by rfl) (fun w hh => ⟨_, .inl rfl, hh, ⟨rfl, .inl ⟨rfl, rfl⟩⟩, by simp [Value.ownBlock]⟩) hw
/-- What a call on a builder leaves: the builder LE. -/
theorem L6 (hw : Own w0 [] w (bldr b v bs :: F)) (hb : RowKit.Below b w w') {v' : Value} (h : (bldr b v' s).holds w') : Own w0 [] w' [bldr b v' s] := by
 have hbf : w0.heap.size ≤ b := by
  rcases hw.fresh b (by simp [bldr]) with h1 | h1
  ·simp at h1
  ·exact h1
 obtain ⟨p, h1, h2, h3, h4⟩ := h
 refine ⟨hb.os.trans hw.os, hb.tape.trans hw.tape, hb.output.trans hw.output, .inl trivial, Nat.le_trans hw.size hb.size, fun k hk hn => ?_, ?_, fun g hg => .inr ?_, fun g hg => ?_, fun c hc => ?_⟩
 ·rw [hb.block k (by omega)]; exact hw.old k hk hn
 ·simp only [idsOf_cons, idsOf_nil, List.append_nil, bldr, List.nodup_cons]
  refine ⟨fun hm => h4 (by simpa [eq_comm] using hm), ?_⟩
  cases v'.ownBlock <;> simp
 ·simp only [idsOf_cons, idsOf_nil, List.append_nil, bldr, List.mem_cons] at hg
  rcases hg with rfl | hg
  ·exact hbf
  ·have := (h3.lt g (by simpa [eq_comm] using hg)).1; omega
 ·simp only [idsOf_cons, idsOf_nil, List.append_nil, bldr, List.mem_cons] at hg
  rcases hg with rfl | hg
  ·exact (Array.getElem?_eq_some_iff.1 h2).1
  ·exact (h3.lt g (by simpa [eq_comm] using hg)).2
 ·simp at hc; subst hc
  exact ⟨p, h1, h2, h3, h4⟩
theorem own_gone (hw : Own w0 [] w (bldr b v bs :: F)) (hb : RowKit.Below b w w') : Own w0 [] w' [] := by
 have hbf : w0.heap.size ≤ b := by
  rcases hw.fresh b (by simp [bldr]) with h1 | h1
  ·simp at h1
  ·exact h1
 exact ⟨hb.os.trans hw.os, hb.tape.trans hw.tape, hb.output.trans hw.output, .inl trivial, Nat.le_trans hw.size hb.size, fun k hk hn => (hb.block k (by omega)).trans (hw.old k hk hn), by simp, by simp, by simp, by simp⟩
theorem GU (h : (bldr b v bs).holds w) : Calls Tryz.prog 44 #[.pointer (some ⟨b, 0, none⟩)] w (Ret w [] fun u L => L = [] ∧ u = .int .i64 bs.length) := by
 refine (Tryz.Builder_Len b b _ w (Iz h)).mono ?_
 rintro e w' ⟨rfl, rfl⟩
 exact ⟨_, [], rfl, ⟨rfl, by rw [Lib.byteCells_length]⟩, Own.start _ _⟩
theorem Lr {ts : Array Nat} {xs : Array Operand} (ho : o.op = .call ⟨.value x, xs, ts⟩) (hx : ev n E x = some (.func (.func 42) #[] #[]))
  (hxs : evs n E xs.toList = some [.pointer (some ⟨b, 0, none⟩), str s]) (hL : ∀ w, Own w0 [] w L → Own w0 [] w (bldr b v bs :: F)) (hl : bs.length + s.length ≤ 140737488355328) :
  Gen Tryz.prog w0 [] n ds E L o (fun u M => ∃ v', M = [bldr b v' (bs ++ s)]) := by
 intro a w ha hw
 have hw1 := hL w hw
 have hh := hw1.holds _ (List.mem_cons_self ..)
 unfold RunsTo
 rw [DS en42 ho ha hx hxs]
 have hlt := hw1.lt b (by simp [bldr])
 refine Calls.mono (Tryz.Builder_WriteString b b _ ⟨s.toArray⟩ w (Iz hh) (by rw [Lib.byteCells_length]; simpa [ByteArray.size] using hl) (by omega)) ?_
 rintro e w' ⟨rfl, ⟨_, v', h1, h2, h3⟩, hb⟩
 have e1 : Lib.strCells ⟨s.toArray⟩ = Lib.byteCells s := rfl
 rw [e1, ← Lib.byteCells_append] at h2
 exact ⟨_, rfl, _, ⟨v', rfl⟩, L6 hw1 hb ⟨_, .inr rfl, h1, h2, h3⟩⟩
theorem g_string {ts : Array Nat} {xs : Array Operand} (ho : o.op = .call ⟨.value x, xs, ts⟩) (hx : ev n E x = some (.func (.func 45) #[] #[]))
  (hxs : evs n E xs.toList = some [.pointer (some ⟨b, 0, none⟩)]) (hL : ∀ w, Own w0 [] w L → Own w0 [] w (bldr b v bs :: F)) :
  Gen Tryz.prog w0 [] n ds E L o (fun u M => u = str bs ∧ M = []) := by
 intro a w ha hw
 have hw1 := hL w hw
 have hh := hw1.holds _ (List.mem_cons_self ..)
 unfold RunsTo
 rw [DS en45 ho ha hx hxs]
 have hlt := hw1.lt b (by simp [bldr])
 refine Calls.mono (Tryz.Builder_String_any b b bs w (Iz hh) (by omega)) ?_
 rintro e w' ⟨rfl, hb⟩
 exact ⟨_, rfl, _, ⟨rfl, rfl⟩, own_gone hw1 hb⟩
end
end Go.Fl

namespace Go.Fl
open Go Go.Proofs
theorem EI (a : Int) (w : World) : Calls Tryz.prog 85 #[.int .i64 a] w (Ret w [] fun v L => L = [] ∧ ∃ b, v = .bool b ∧ (b = true ↔ Fits a)) := by
 refine At (args := [_]) (L := []) Tryz.func85 rfl Tryz.ntmps85 rfl (Own.start _ _) ?_
 refine Zs ?_
 refine Za ?_
 refine Zx <| Zs ?_
 refine Zm ?_
 refine Zo (Ck rfl rfl rfl) ?_
 refine Zm ?_
 refine Seq.split 5 rfl (fun k1_2 => ?_) (fun k1_2 => ?_)
 ·refine Zm ?_
  refine Zo (p_leq rfl rfl rfl) ?_
  refine Zt ?_
  refine Za ?_
  refine Zx <| DC.ret ?_
  refine Aj (.inl rfl) rfl rfl ?_
  refine ⟨rfl, _, rfl, ?_⟩
  unfold Fits
  simp_all
  try omega
 ·refine Zk ?_
  refine Zk ?_
  refine Zg ?_
  refine Za ?_
  refine Zx <| DC.ret ?_
  refine Aj (.inl rfl) rfl rfl ?_
  refine ⟨rfl, _, rfl, ?_⟩
  unfold Fits
  simp_all
  try omega
theorem JQ (a b c d : Int) (w : World) : Calls Tryz.prog 86 #[.agg #[.int .i64 a, .int .i64 b], .agg #[.int .i64 c, .int .i64 d]] w (Ret w [] fun v L => L = [] ∧ ∃ r, v = .bool r ∧ (r = true ↔ Lex (a, b) (c, d))) := by
 refine At (args := [_, _]) (L := []) Tryz.func86 rfl Tryz.ntmps86 rfl (Own.start _ _) ?_
 refine Zs ?_
 refine Zw (AS rfl rfl rfl) fun g2 => ?_
 refine Zw (AS rfl rfl rfl) fun g3 => ?_
 refine Za ?_
 refine Zx <| Zs ?_
 refine Zf Bd ?_
 refine Zl AO ?_
 refine Zf Bd ?_
 refine Zl AO ?_
 refine Zo (BH rfl rfl rfl) ?_
 refine Zm ?_
 refine Seq.split 10 rfl (fun k1_5 => ?_) (fun k1_5 => ?_)
 ·refine Zk ?_
  refine Zk ?_
  refine Zk ?_
  refine Zk ?_
  refine Zk ?_
  refine Zk ?_
  refine Zk ?_
  refine Zk ?_
  refine Zk ?_
  refine Zk ?_
  refine Zk ?_
  refine Zk ?_
  refine Zt ?_
  refine Za ?_
  refine Zx <| DC.ret ?_
  refine Fin.weak (E' := [(4, _)]) ⟨rfl, trivial⟩ .nil ?_
  refine Aj (.inl rfl) rfl rfl ?_
  refine ⟨rfl, _, rfl, ?_⟩
  unfold Lex
  simp_all
  try omega
 ·refine Zf Bd ?_
  refine Zl AO ?_
  refine Zf Bd ?_
  refine Zl AO ?_
  refine Zo (AX rfl rfl rfl) ?_
  refine Zm ?_
  refine Seq.split 16 rfl (fun k1_11 => ?_) (fun k1_11 => ?_)
  ·refine Zf Bu ?_
   refine Zl AO ?_
   refine Zf Bu ?_
   refine Zl AO ?_
   refine Zo (BH rfl rfl rfl) ?_
   refine Zt ?_
   refine Zg ?_
   refine Za ?_
   refine Zx <| DC.ret ?_
   refine Fin.weak (E' := [(4, _)]) ⟨rfl, trivial⟩ .nil ?_
   refine Aj (.inl rfl) rfl rfl ?_
   refine ⟨rfl, _, rfl, ?_⟩
   unfold Lex
   simp_all
   try omega
  ·refine Zk ?_
   refine Zk ?_
   refine Zk ?_
   refine Zk ?_
   refine Zk ?_
   refine Zg ?_
   refine Zg ?_
   refine Za ?_
   refine Zx <| DC.ret ?_
   refine Fin.weak (E' := [(4, _)]) ⟨rfl, trivial⟩ .nil ?_
   refine Aj (.inl rfl) rfl rfl ?_
   refine ⟨rfl, _, rfl, ?_⟩
   unfold Lex
   simp_all
   try omega
theorem H8 (A : Option Addr) (len cap : Nat) (w : World) : Calls Tryz.prog 220 #[.slice A len cap] w (Ret w [] fun v L => L = [] ∧ v = .int .i64 len) := by
 refine At (args := [_]) (L := []) Tryz.func220 rfl Tryz.ntmps220 rfl (Own.start _ _) ?_
 refine Zs ?_
 refine Za ?_
 refine Zx <| Zs ?_
 refine Zm ?_
 refine Zn Tryz.underlying153 ?_
 refine Za ?_
 refine Zx <| DC.ret ?_
 refine Aj (.inl rfl) rfl rfl ?_
 exact ⟨rfl, rfl⟩
theorem Ip (A : Option Addr) (len cap : Nat) (w : World) : Calls Tryz.prog 221 #[.slice A len cap] w (Ret w [] fun v L => L = [] ∧ v = .int .i64 len) := by
 refine At (args := [_]) (L := []) Tryz.func221 rfl Tryz.ntmps221 rfl (Own.start _ _) ?_
 refine Zs ?_
 refine Za ?_
 refine Zx <| Zs ?_
 refine Zm ?_
 refine Zn Tryz.underlying154 ?_
 refine Za ?_
 refine Zx <| DC.ret ?_
 refine Aj (.inl rfl) rfl rfl ?_
 exact ⟨rfl, rfl⟩
/-- The form of a certificate. -/
theorem Ie (b : Bool) (A A' : Option Addr) (n m cap cap' : Nat) (w : World) :
  Calls Tryz.prog 46 #[.agg #[.bool b, .slice A n cap, .slice A' m cap']] w (Ret w [] fun v L => L = [] ∧
   v = if b then .tuple #[.iface 153 (.slice A n cap), .bool (decide (m = 0))] else .tuple #[.iface 154 (.slice A' m cap'), .bool (decide (n = 0))]) := by
 refine At (args := [_]) (L := []) Tryz.func46 rfl Tryz.ntmps46 rfl (Own.start _ _) ?_
 refine Zs ?_
 refine Zw (AS rfl rfl rfl) fun g1 => ?_
 refine Za ?_
 refine Za ?_
 refine Zx <| DC.seq <| Zs ?_
 refine Zf KD ?_
 refine Zl ag4 ?_
 refine Zx ?_
 refine Zd (fun c1 => ?_) fun c1 => ?_
 ·refine DC.seq ?_
  refine AG (cl := [.q, .v, .q, .q, .v, .q, .q, .q, .q]) (A := [0, 1, 3, 0, 8, 24, 56, 7, 255]) (order := [0, 1, 2, 3, 4, 5, 6, 7, 8]) [] mixed (by kernel_rfl) (fun w hw => hw.pick .nil) ?_
  refine Yf D9 ?_
  refine Yl FS ?_
  refine Yo rfl (ED (v := .iface 153 (.slice A n cap)) rfl rfl (fun w => by kernel_rfl)) ?_
  refine Yf GK ?_
  refine Yl BO ?_
  refine Yo rfl (BM rfl rfl Tryz.underlying22) ?_
  refine Yo rfl (AX rfl rfl rfl) ?_
  refine Yo rfl (Aw rfl rfl) ?_
  refine Yo rfl (Aw rfl rfl) ?_
  refine Flow.end rfl ?_
  simp only [zq, zr]
  refine Fin.then <| DC.ret <| Aa ?_
  refine Fin.weak (E' := [(2, _), (3, _)]) ⟨rfl, rfl, trivial⟩ .nil ?_
  refine AJ (.inl rfl) rfl rfl rfl ?_
  exact ⟨rfl, by subst c1; simp⟩
 ·refine DC.skip <| Fin.then <| DC.seq ?_
  refine AG (cl := [.q, .v, .q, .q, .v, .q, .q, .q, .q]) (A := [0, 1, 3, 0, 8, 24, 56, 7, 255]) (order := [0, 1, 2, 3, 4, 5, 6, 7, 8]) [] mixed (by kernel_rfl) (fun w hw => hw.pick .nil) ?_
  refine Yf GK ?_
  refine Yl BO ?_
  refine Yo rfl (ED (v := .iface 154 (.slice A' m cap')) rfl rfl (fun w => by kernel_rfl)) ?_
  refine Yf D9 ?_
  refine Yl FS ?_
  refine Yo rfl (BM rfl rfl Tryz.underlying25) ?_
  refine Yo rfl (AX rfl rfl rfl) ?_
  refine Yo rfl (Aw rfl rfl) ?_
  refine Yo rfl (Aw rfl rfl) ?_
  refine Flow.end rfl ?_
  simp only [zq, zr]
  refine Fin.then <| DC.ret ?_
  refine Fin.weak (E' := [(2, _), (3, _)]) ⟨rfl, rfl, trivial⟩ .nil ?_
  refine AJ (.inl rfl) rfl rfl rfl ?_
  exact ⟨rfl, by subst c1; simp⟩
theorem Js (ls : List (List Int)) (v : Value) (w : World) (hv : LsV w v ls) :
  Calls Tryz.prog 47 #[.iface 153 v] w (Ret w [] fun r L => L = [] ∧ ∃ b, r = .tuple #[str [112], .int .i64 1048576, .bool b] ∧ (b = true ↔ ListsOk ls)) := by
 obtain ⟨A, cap, rfl, hr, hlc, hcm, hle⟩ := hv
 refine At (args := [_]) (L := []) Tryz.func47 rfl Tryz.ntmps47 rfl (Own.start _ _) ?_
 refine Zs ?_
 refine Za ?_
 refine Za ?_
 refine Za ?_
 refine Zx <| DC.seq <| Zs ?_
 refine Zm ?_
 refine Zx <| DC.block <| Zs ?_
 refine Zo (CB (v := .tuple #[.slice A ls.length cap, .bool true]) rfl rfl (fun w => by kernel_rfl)) ?_
 refine Ze ?_
 refine Ze ?_
 refine Zx ?_
 refine AM rfl ?_
 refine Zs ?_
 refine Za ?_
 refine Zx <| DC.seq <| Zs ?_
 refine Zm ?_
 refine Zn Tryz.underlying153 ?_
 refine Zo (BH rfl rfl rfl) ?_
 refine Zx ?_
 refine Zd (fun c4 => ?_) fun c4 => ?_
 ·refine Zs ?_
  refine Za ?_
  refine Za ?_
  refine Za ?_
  refine Zx <| DC.ret <| Aa <| Ae <| Aa ?_
  refine Fin.weak (E' := [(2, _), (3, _), (4, _)]) ⟨rfl, rfl, rfl, trivial⟩ .nil ?_
  refine BG (.inl rfl) rfl rfl rfl rfl ?_
  exact ⟨rfl, false, rfl, by simp; rintro ⟨h1, _⟩; simp at c4; omega⟩
 ·refine DC.skip <| Fin.then <| DC.seq <| Zs ?_
  refine Zm ?_
  refine Zn Tryz.underlying153 ?_
  refine Zm ?_
  refine Zx <| DC.block ?_
  refine DC.loop (ι := Nat) (fun i => i ≤ ls.length ∧ ∀ (j : Nat) l, j < i → ls[j]? = some l → ListOk l)
   (fun i => [(20, .slice A ls.length cap), (21, .int .i64 ls.length), (22, .int .i64 i)])
   (fun i => []) (fun i => ls.length - i) 0 ⟨Nat.zero_le _, fun _ _ h => absurd h (Nat.not_lt_zero _)⟩ ⟨rfl, rfl, rfl, trivial⟩ .nil ?_
  rintro i ⟨hi, hok⟩
  refine Zs ?_
  refine Zc ?_
  refine Zx <| DC.seq ?_
  refine Zd (fun c7 => ?_) fun c7 => ?_
  ·have hlt : i < ls.length := by simpa using c7
   obtain ⟨l, hl⟩ : ∃ l, ls[i]? = some l := ⟨_, List.getElem?_eq_getElem hlt⟩
   obtain ⟨ad, lv, rfl, hc, Al, capl, rfl, hrl, hl1, hl2, hl3⟩ := hr i l hl
   refine DC.skip <| Fin.then <| DC.seq <| DC.block <| Zs ?_
   refine Zi Tryz.underlying153 Bn ?_
   refine Zu (Ah rfl rfl Bo (AE hc)) ?_
   refine Za ?_
   refine Zx <| Zs ?_
   refine Zm ?_
   refine Zn Tryz.underlying44 ?_
   refine Zm ?_
   refine Zx <| DC.block ?_
   refine DC.loop (ι := Nat) (fun k => k ≤ l.length ∧ ∀ (j : Nat) x a, j < k → l[j]? = some x → l[0]? = some a → Fits x ∧ a ≤ x)
    (fun k => [(7, .slice Al l.length capl), (20, .slice (some ad) ls.length cap), (21, .int .i64 ls.length), (22, .int .i64 i), (26, .slice Al l.length capl), (27, .int .i64 l.length), (28, .int .i64 k)])
    (fun k => []) (fun k => l.length - k) 0 ⟨Nat.zero_le _, fun _ _ _ h => absurd h (Nat.not_lt_zero _)⟩ ⟨rfl, rfl, rfl, rfl, rfl, rfl, rfl, trivial⟩ .nil ?_
   rintro k ⟨hk, hokl⟩
   refine Zs ?_
   refine Zc ?_
   refine Zx <| DC.seq ?_
   refine Zd (fun c10 => ?_) fun c10 => ?_
   ·have hlt2 : k < l.length := by simpa using c10
    obtain ⟨x, hx⟩ : ∃ x, l[k]? = some x := ⟨_, List.getElem?_eq_getElem hlt2⟩
    obtain ⟨a, ha⟩ : ∃ a, l[0]? = some a := ⟨_, List.getElem?_eq_getElem (by omega)⟩
    obtain ⟨adl, rfl, hcx⟩ := hrl.int hx
    obtain ⟨adl', e', hca⟩ := hrl.int ha
    cases e'
    refine DC.skip <| Fin.then <| DC.seq <| DC.block <| Zs ?_
    refine Zi Tryz.underlying44 AN ?_
    refine Zu (Ah rfl rfl AO (AE hcx)) ?_
    refine Za ?_
    refine Zx <| Zs ?_
    refine Zm ?_
    refine Seq.rel0 rfl rfl (Aq en85 rfl rfl rfl (fun w hw => EI x w)) ?_
    rintro _ ⟨b1, rfl, hb1⟩
    refine Zo (Bh rfl rfl) ?_
    refine Zm ?_
    refine Seq.split 35 rfl (fun k12_3 => ?_) (fun k12_3 => ?_)
    ·refine Zk ?_
     refine Zk ?_
     refine Zk ?_
     refine Zk ?_
     refine Zk ?_
     refine Zt ?_
     refine Zx ?_
     refine AM rfl ?_
     refine Zs ?_
     refine Za ?_
     refine Za ?_
     refine Za ?_
     refine Zx <| DC.ret <| Ae <| Aa <| Aa <| Ae <| Ae <| Aa <| Aa <| Ae <| Aa <| Ae <| Aa ?_
     refine Fin.weak (E' := [(2, _), (3, _), (4, _)]) ⟨rfl, rfl, rfl, trivial⟩ .nil ?_
     refine BG (.inl rfl) rfl rfl rfl rfl ?_
     refine ⟨rfl, false, rfl, by simp; rintro ⟨_, h2⟩; have := h2 i l hl k x a hx ha; simp_all⟩
    ·refine Zm ?_
     refine Zm ?_
     refine Zi Tryz.underlying44 AN ?_
     refine Zu (Ah rfl rfl AO (AE hca)) ?_
     refine Zc ?_
     refine Zg ?_
     refine Zx ?_
     refine Zd (fun c12 => ?_) fun c12 => ?_
     ·refine Zs ?_
      refine Za ?_
      refine Za ?_
      refine Za ?_
      refine Zx <| DC.ret <| Ae <| Aa <| Aa <| Ae <| Ae <| Aa <| Aa <| Ae <| Aa <| Ae <| Aa ?_
      refine Fin.weak (E' := [(2, _), (3, _), (4, _)]) ⟨rfl, rfl, rfl, trivial⟩ .nil ?_
      refine BG (.inl rfl) rfl rfl rfl rfl ?_
      refine ⟨rfl, false, rfl, by simp; rintro ⟨_, h2⟩; have := h2 i l hl k x a hx ha; simp_all; omega⟩
     ·refine DC.skip <| Fin.inBlock <| Fin.then <| DC.region ?_
      refine Zp ?_
      refine Zm ?_
      refine Seq.nil ?_
      refine Fin.again (k + 1) (by omega) ⟨by omega, ?_⟩ ⟨rfl, rfl, rfl, rfl, rfl, rfl, rfl, trivial⟩ .nil
      intro j x' a' hj hx' ha'
      rcases Nat.lt_succ_iff_lt_or_eq.1 hj with hj | rfl
      ·exact hokl j x' a' hj hx' ha'
      ·rw [hx] at hx'; cases hx'; rw [ha] at ha'; cases ha'
       simp at k12_3 c12
       exact ⟨hb1.1 k12_3, by omega⟩
   ·refine DC.exit <| Ad <| Ad <| Ag <| Fin.inBlock <| Fin.then <| DC.region ?_
    refine Zp ?_
    refine Zm ?_
    refine Seq.nil ?_
    have hkl : k = l.length := by simp at c10; omega
    subst hkl
    refine Fin.again (i + 1) (by omega) ⟨by omega, ?_⟩ ⟨rfl, rfl, rfl, trivial⟩ .nil
    intro j l' hj hl'
    rcases Nat.lt_succ_iff_lt_or_eq.1 hj with hj | rfl
    ·exact hok j l' hj hl'
    ·rw [hl] at hl'; cases hl'
     intro q x' a' hq ha'
     exact hokl q x' a' (List.getElem?_eq_some_iff.1 hq).1 hq ha'
  ·refine DC.exit <| Ad <| Ad <| Ag <| Fin.then <| Zs ?_
   refine Za ?_
   refine Za ?_
   refine Za ?_
   refine Zx <| DC.ret <| Ae <| Aa ?_
   refine Fin.weak (E' := [(2, _), (3, _), (4, _)]) ⟨rfl, rfl, rfl, trivial⟩ .nil ?_
   refine BG (.inl rfl) rfl rfl rfl rfl ?_
   have hil : i = ls.length := by simp at c7; omega
   subst hil
   refine ⟨rfl, true, rfl, by simp; exact ⟨by simp at c4; omega, fun j l hl => hok j l (List.getElem?_eq_some_iff.1 hl).1 hl⟩⟩
theorem Jt (es : List Pr) (v : Value) (w : World) (hv : PrV w v es) :
  Calls Tryz.prog 47 #[.iface 154 v] w (Ret w [] fun r L => L = [] ∧ ∃ b, r = .tuple #[str [110], .int .i64 4194304, .bool b] ∧ (b = true ↔ EdgesOk es)) := by
 obtain ⟨A, cap, rfl, hr, hlc, hcm, hle⟩ := hv
 refine At (args := [_]) (L := []) Tryz.func47 rfl Tryz.ntmps47 rfl (Own.start _ _) ?_
 refine Zs ?_
 refine Za ?_
 refine Za ?_
 refine Za ?_
 refine Zx <| DC.seq <| Zs ?_
 refine Zm ?_
 refine Zx <| DC.block <| Zs ?_
 refine Zo (CB (v := .tuple #[.slice none 0 0, .bool false]) rfl rfl (fun w => by kernel_rfl)) ?_
 refine Ze ?_
 refine Ze ?_
 refine Zx ?_
 refine Bw rfl ?_
 refine Zs ?_
 refine Zo (CB (v := .tuple #[.slice A es.length cap, .bool true]) rfl rfl (fun w => by kernel_rfl)) ?_
 refine Ze ?_
 refine Ze ?_
 refine Zx ?_
 refine AM rfl ?_
 refine Zs ?_
 refine Za ?_
 refine Zx <| DC.seq <| Zs ?_
 refine Zm ?_
 refine Zn Tryz.underlying154 ?_
 refine Zo (BH rfl rfl rfl) ?_
 refine Zx ?_
 refine Zd (fun c19 => ?_) fun c19 => ?_
 ·refine Zs ?_
  refine Za ?_
  refine Za ?_
  refine Za ?_
  refine Zx <| DC.ret <| Aa <| Ae <| Aa ?_
  refine Fin.weak (E' := [(2, _), (3, _), (4, _)]) ⟨rfl, rfl, rfl, trivial⟩ .nil ?_
  refine BG (.inl rfl) rfl rfl rfl rfl ?_
  exact ⟨rfl, false, rfl, by simp; intro h; have := h.few; simp at c19; omega⟩
 ·refine DC.skip <| Fin.then <| DC.seq <| Zs ?_
  refine Zm ?_
  refine Zn Tryz.underlying154 ?_
  refine Zm ?_
  refine Zx <| DC.block ?_
  refine DC.loop (ι := Nat) (fun i => i ≤ es.length ∧ (∀ (j : Nat) e, j < i → es[j]? = some e → Fits e.1 ∧ Fits e.2 ∧ e.1 < e.2) ∧ ∀ (j : Nat) a b, j + 1 < i → es[j]? = some a → es[j + 1]? = some b → Lex a b)
   (fun i => [(10, .slice A es.length cap), (50, .slice A es.length cap), (51, .int .i64 es.length), (52, .int .i64 i)])
   (fun i => []) (fun i => es.length - i) 0 ⟨Nat.zero_le _, fun _ _ h => absurd h (Nat.not_lt_zero _), fun _ _ _ h => absurd h (Nat.not_lt_zero _)⟩ ⟨rfl, rfl, rfl, rfl, trivial⟩ .nil ?_
  rintro i ⟨hi, hok, hup⟩
  refine Zs ?_
  refine Zc ?_
  refine Zx <| DC.seq ?_
  refine Zd (fun c22 => ?_) fun c22 => ?_
  ·have hlt : i < es.length := by simpa using c22
   obtain ⟨e, he⟩ : ∃ e, es[i]? = some e := ⟨_, List.getElem?_eq_getElem hlt⟩
   obtain ⟨ad, rfl, hU, hV⟩ := hr.pair he
   refine DC.skip <| Fin.then <| DC.seq <| DC.block <| Zs ?_
   refine Zm ?_
   refine Zo (AQ rfl rfl rfl Tryz.underlying154 Bb (by omega) (by omega) (by first | exact AC _ _ | exact AW _ _ _ | rfl)) ?_
   refine Zu (Ay (vs := [_, _]) rfl rfl CP Bb rfl (CD hU hV (by simp))) ?_
   refine Zw (AH rfl CI rfl) fun g12 => ?_
   refine Za ?_
   refine Zy (AA (cs' := #[_, _]) rfl rfl rfl Bb rfl (Nat.le_of_ble_eq_true rfl) rfl) ?_
   refine Zx <| DC.seq ?_
   refine AG (cl := [.q, .v, .r, .q, .q, .q, .v, .r, .q, .q, .q, .q, .v, .q, .v, .q, .q, .q, .q, .q, .q, .q, .q, .q, .q, .v, .v, .r, .q, .q, .q]) (A := [0, 1, 3, 7, 15, 31, 63, 127, 255, 511, 1023, 2047, 4095, 2047, 10239, 32767, 65535, 131071, 262143, 524287, 1048575, 2097151, 2097151, 6291455, 16777215, 33554431, 2097151, 134217727, 268435455, 536870911, 1073741823]) (order := [0, 1, 2, 3, 4, 5, 6, 7, 8, 9, 10, 11, 12, 13, 14, 15, 16, 17, 18, 19, 20, 21, 22, 23, 24, 25, 26, 27, 28, 29, 30]) [] mixed (by kernel_rfl) (fun w hw => hw.pick .nil) ?_
   refine Yf Bd ?_
   refine Yl AO ?_
   refine Flow.rel0 rfl rfl rfl rfl (Aq en85 rfl rfl rfl (fun w hw => EI e.1 w)) ?_
   rintro _ ⟨b1, rfl, hb1⟩
   refine Yo rfl (Bh rfl rfl) ?_
   refine Ym ?_
   refine Flow.split 61 rfl (fun k24_4 => ?_) (fun k24_4 => ?_)
   ·refine Yk ?_
    refine Yk ?_
    refine Yk ?_
    refine Yk ?_
    refine Yo rfl (Bg rfl rfl rfl) ?_
    refine Ym ?_
    refine Yk ?_
    refine Yk ?_
    refine Yk ?_
    refine Yk ?_
    refine Yk ?_
    refine Yo rfl (Bg rfl rfl rfl) ?_
    refine Ym ?_
    refine Yk ?_
    refine Yk ?_
    refine Yk ?_
    refine Yk ?_
    refine Yk ?_
    refine Yk ?_
    refine Yk ?_
    refine Yk ?_
    refine Yk ?_
    refine Yk ?_
    refine Yk ?_
    refine Yk ?_
    refine Yo rfl (Bg rfl rfl rfl) ?_
    refine Flow.end rfl ?_
    simp only [zq, zr]
    refine Fin.then ?_
    refine AM rfl ?_
    refine Zs ?_
    refine Za ?_
    refine Za ?_
    refine Za ?_
    refine Zx <| DC.ret <| Ae <| Aa <| Aa <| Ae <| Aa <| Ae <| Aa ?_
    refine Fin.weak (E' := [(2, _), (3, _), (4, _)]) ⟨rfl, rfl, rfl, trivial⟩ .nil ?_
    refine BG (.inl rfl) rfl rfl rfl rfl ?_
    exact ⟨rfl, false, rfl, by simp; intro h; have := h.ok i e he; simp_all⟩
   ·refine Yf Bu ?_
    refine Yl AO ?_
    refine Flow.rel0 rfl rfl rfl rfl (Aq en85 rfl rfl rfl (fun w hw => EI e.2 w)) ?_
    rintro _ ⟨b2, rfl, hb2⟩
    refine Yo rfl (Bh rfl rfl) ?_
    refine Yo rfl (Bl rfl rfl rfl) ?_
    refine Ym ?_
    refine Flow.split 67 rfl (fun k24_10 => ?_) (fun k24_10 => ?_)
    ·refine Yk ?_
     refine Yk ?_
     refine Yk ?_
     refine Yk ?_
     refine Yk ?_
     refine Yo rfl (Bg rfl rfl rfl) ?_
     refine Ym ?_
     refine Yk ?_
     refine Yk ?_
     refine Yk ?_
     refine Yk ?_
     refine Yk ?_
     refine Yk ?_
     refine Yk ?_
     refine Yk ?_
     refine Yk ?_
     refine Yk ?_
     refine Yk ?_
     refine Yk ?_
     refine Yo rfl (Bg rfl rfl rfl) ?_
     refine Flow.end rfl ?_
     simp only [zq, zr]
     refine Fin.then ?_
     refine AM rfl ?_
     refine Zs ?_
     refine Za ?_
     refine Za ?_
     refine Za ?_
     refine Zx <| DC.ret <| Ae <| Aa <| Aa <| Ae <| Aa <| Ae <| Aa ?_
     refine Fin.weak (E' := [(2, _), (3, _), (4, _)]) ⟨rfl, rfl, rfl, trivial⟩ .nil ?_
     refine BG (.inl rfl) rfl rfl rfl rfl ?_
     exact ⟨rfl, false, rfl, by simp; intro h; have := h.ok i e he; simp_all⟩
    ·refine Yf Bd ?_
     refine Yl AO ?_
     refine Yf Bu ?_
     refine Yl AO ?_
     refine Yo rfl (Ck rfl rfl rfl) ?_
     refine Yo rfl (Bl rfl rfl rfl) ?_
     refine Ym ?_
     refine Flow.split 74 rfl (fun k24_17 => ?_) (fun k24_17 => ?_)
     ·refine Yk ?_
      refine Yk ?_
      refine Yk ?_
      refine Yk ?_
      refine Yk ?_
      refine Yk ?_
      refine Yk ?_
      refine Yk ?_
      refine Yk ?_
      refine Yk ?_
      refine Yk ?_
      refine Yk ?_
      refine Yo rfl (Bg rfl rfl rfl) ?_
      refine Flow.end rfl ?_
      simp only [zq, zr]
      refine Fin.then ?_
      refine AM rfl ?_
      refine Zs ?_
      refine Za ?_
      refine Za ?_
      refine Za ?_
      refine Zx <| DC.ret <| Ae <| Aa <| Aa <| Ae <| Aa <| Ae <| Aa ?_
      refine Fin.weak (E' := [(2, _), (3, _), (4, _)]) ⟨rfl, rfl, rfl, trivial⟩ .nil ?_
      refine BG (.inl rfl) rfl rfl rfl rfl ?_
      exact ⟨rfl, false, rfl, by simp; intro h; have := h.ok i e he; simp_all; omega⟩
     ·refine Ym ?_
      refine Yo rfl (BH rfl rfl rfl) ?_
      refine Ym ?_
      refine Flow.split 77 rfl (fun k24_20 => ?_) (fun k24_20 => ?_)
      ·have hpos : 0 < i := by simpa using k24_20
       obtain ⟨d, hd⟩ : ∃ d, es[i - 1]? = some d := ⟨_, List.getElem?_eq_getElem (by omega)⟩
       obtain ⟨ad', h', hU', hV'⟩ := hr.pair hd
       cases h'
       have hii : ((i : Int) - 1).toNat = i - 1 := by omega
       refine Ym ?_
       refine Ym ?_
       refine Yo rfl (Ca rfl rfl rfl (by omega)) ?_
       refine Yo rfl (AQ (ad' := ad.add ((i - 1) * 2)) rfl rfl rfl Tryz.underlying154 Bb (by omega) (by omega) (by rw [hii])) ?_
       refine Am rfl rfl rfl rfl (Ay (vs := [_, _]) rfl rfl CP Bb rfl (CD hU' hV' (by simp))) ?_
       refine Am rfl rfl rfl rfl (Ay (vs := [_, _]) rfl rfl CP Bb rfl (Ak rfl)) ?_
       refine Flow.rel0 rfl rfl rfl rfl (Aq en86 rfl rfl rfl (fun w hw => JQ d.1 d.2 e.1 e.2 w)) ?_
       rintro _ ⟨b3, rfl, hb3⟩
       refine Yo rfl (Bh rfl rfl) ?_
       refine Yo rfl (Bg rfl rfl rfl) ?_
       refine Yo rfl (Bl rfl rfl rfl) ?_
       refine Flow.end rfl ?_
       simp only [zq, zr]
       refine Fin.then ?_
       refine Zd (fun c24 => ?_) fun c24 => ?_
       ·refine Zs ?_
        refine Za ?_
        refine Za ?_
        refine Za ?_
        refine Zx <| DC.ret <| Ae <| Aa <| Aa <| Ae <| Aa <| Ae <| Aa ?_
        refine Fin.weak (E' := [(2, _), (3, _), (4, _)]) ⟨rfl, rfl, rfl, trivial⟩ .nil ?_
        refine BG (.inl rfl) rfl rfl rfl rfl ?_
        refine ⟨rfl, false, rfl, by simp; intro h; have := h.up (i - 1) d e hd (by rw [show i - 1 + 1 = i by omega]; exact he); simp_all⟩
       ·refine DC.skip <| Fin.inBlock <| Fin.then <| DC.region ?_
        refine Zp ?_
        refine Zm ?_
        refine Seq.nil ?_
        refine Fin.again (i + 1) (by omega) ⟨by omega, ?_, ?_⟩ ⟨rfl, rfl, rfl, rfl, trivial⟩ .nil
        ·intro j x hj hx
         rcases Nat.lt_succ_iff_lt_or_eq.1 hj with hj | rfl
         ·exact hok j x hj hx
         ·rw [he] at hx; cases hx
          simp at k24_4 k24_10 k24_17
          exact ⟨hb1.1 k24_4, hb2.1 k24_10, by omega⟩
        ·intro j a b hj ha hb
         rcases Nat.lt_succ_iff_lt_or_eq.1 hj with hj | hj
         ·exact hup j a b hj ha hb
         ·obtain rfl : j = i - 1 := by omega
          rw [hd] at ha; cases ha
          rw [show i - 1 + 1 = i by omega, he] at hb; cases hb
          exact hb3.1 (by simpa using c24)
      ·refine Yk ?_
       refine Yk ?_
       refine Yk ?_
       refine Yk ?_
       refine Yk ?_
       refine Yk ?_
       refine Yk ?_
       refine Yk ?_
       refine Yo rfl (Bl rfl rfl rfl) ?_
       refine Yo rfl (Bl rfl rfl rfl) ?_
       refine Flow.end rfl ?_
       simp only [zq, zr]
       refine Fin.then ?_
       refine Bw rfl ?_
       refine DC.skip <| Fin.inBlock <| Fin.then <| DC.region ?_
       refine Zp ?_
       refine Zm ?_
       refine Seq.nil ?_
       have h0 : i = 0 := by simp at k24_20; omega
       subst h0
       refine Fin.again 1 (by omega) ⟨by omega, ?_, ?_⟩ ⟨rfl, rfl, rfl, rfl, trivial⟩ .nil
       ·intro j x hj hx
        obtain rfl : j = 0 := by omega
        rw [he] at hx; cases hx
        simp at k24_4 k24_10 k24_17
        exact ⟨hb1.1 k24_4, hb2.1 k24_10, by omega⟩
       ·intro j a b hj; omega
  ·refine DC.exit <| Ad <| Ad <| Ag <| Fin.then <| Zs ?_
   refine Za ?_
   refine Za ?_
   refine Za ?_
   refine Zx <| DC.ret <| Ae <| Aa ?_
   refine Fin.weak (E' := [(2, _), (3, _), (4, _)]) ⟨rfl, rfl, rfl, trivial⟩ .nil ?_
   refine BG (.inl rfl) rfl rfl rfl rfl ?_
   have hil : i = es.length := by simp at c22; omega
   subst hil
   refine ⟨rfl, true, rfl, by simp; exact ⟨by simp at c19; omega, fun j e h => hok j e (List.getElem?_eq_some_iff.1 h).1 h, fun j a b ha hb => hup j a b (List.getElem?_eq_some_iff.1 hb).1 ha hb⟩⟩
theorem Fits.i64 {a : Int} (h : Fits a) : I64 a := by unfold Fits at h; unfold I64; omega
theorem Ji {ls : List (List Int)} {v : Value} {w : World} {i : Nat} {l : List Int} (hv : LsV w v ls) (hl : ls[i]? = some l) (hi : ∀ a, a ∈ l → I64 a) (hp : Pow w) (hf : l.length ≤ 2199023255552) :
  Calls Tryz.prog 48 #[.iface 153 v, .int .i64 i] w (Ret w [] fun v L => L = [] ∧ v = str (lineB l)) := by
 obtain ⟨A, cap, rfl, hr, hlc, hcm, hle⟩ := hv
 have hlt := (List.getElem?_eq_some_iff.1 hl).1
 obtain ⟨ad, lv, rfl, hc, hs⟩ := hr i l hl
 refine At (args := [_, _]) (L := []) Tryz.func48 rfl Tryz.ntmps48 rfl (Own.start _ _) ?_
 refine Zs ?_
 refine Za ?_
 refine Zx <| DC.seq <| Zs ?_
 refine Zm ?_
 refine Zx <| DC.block <| Zs ?_
 refine Zo (CB (v := .tuple #[.slice (some ad) ls.length cap, .bool true]) rfl rfl (fun w => by kernel_rfl)) ?_
 refine Ze ?_
 refine Ze ?_
 refine Zx ?_
 refine AM rfl ?_
 refine Zs ?_
 refine Za ?_
 refine Zx <| Zs ?_
 refine Zm ?_
 refine Zm ?_
 refine Zi Tryz.underlying153 Bn ?_
 refine Zu (Ah rfl rfl Bo (AE hc)) ?_
 refine Seq.rel0 rfl rfl (Aq en43 rfl rfl rfl (fun w hw => EF (hs.keep0 hw) hi (hp.keep0 hw) hf)) ?_
 rintro _ rfl
 refine Za ?_
 refine Zx <| DC.ret <| Ae <| Aa ?_
 refine Aj (.inl rfl) rfl rfl ?_
 exact ⟨rfl, rfl⟩
theorem Jj {es : List Pr} {v : Value} {w : World} {i : Nat} {e : Pr} (hv : PrV w v es) (he : es[i]? = some e) (h1 : I64 e.1) (h2 : I64 e.2) (hp : Pow w) :
  Calls Tryz.prog 48 #[.iface 154 v, .int .i64 i] w (Ret w [] fun v L => L = [] ∧ v = str (lineB [e.1, e.2])) := by
 obtain ⟨A, cap, rfl, hr, hlc, hcm, hle⟩ := hv
 have hlt := (List.getElem?_eq_some_iff.1 he).1
 obtain ⟨ad, rfl, hU, hV⟩ := hr.pair he
 refine At (args := [_, _]) (L := []) Tryz.func48 rfl Tryz.ntmps48 rfl (Own.start _ _) ?_
 refine Zs ?_
 refine Za ?_
 refine Zx <| DC.seq <| Zs ?_
 refine Zm ?_
 refine Zx <| DC.block <| Zs ?_
 refine Zo (CB (v := .tuple #[.slice none 0 0, .bool false]) rfl rfl (fun w => by kernel_rfl)) ?_
 refine Ze ?_
 refine Ze ?_
 refine Zx ?_
 refine Bw rfl ?_
 refine Zs ?_
 refine Zo (CB (v := .tuple #[.slice (some ad) es.length cap, .bool true]) rfl rfl (fun w => by kernel_rfl)) ?_
 refine Ze ?_
 refine Ze ?_
 refine Zx ?_
 refine AM rfl ?_
 refine Zs ?_
 refine Za ?_
 refine Zx <| DC.seq ?_
 refine AG (cl := [.q, .q, .q, .q, .v, .q, .q, .q, .q, .v, .n, .r, .q]) (A := [0, 0, 3, 7, 15, 0, 0, 96, 224, 480, 1023, 2047, 4095]) (order := [0, 1, 2, 3, 4, 5, 6, 7, 8, 9, 10, 11, 12]) [] mixed (by kernel_rfl) (fun w hw => hw.pick .nil) ?_
 refine Ym ?_
 refine Ym ?_
 refine Yo rfl (AQ rfl rfl rfl Tryz.underlying154 Bb (by omega) (by omega) (by first | exact AC _ _ | exact AW _ _ _ | rfl)) ?_
 refine Yf Bd ?_
 refine Am rfl rfl rfl rfl (Ah rfl rfl AO (AE (by rw [add_0]; exact hU))) ?_
 refine Ym ?_
 refine Ym ?_
 refine Yo rfl (AQ rfl rfl rfl Tryz.underlying154 Bb (by omega) (by omega) (by first | exact AC _ _ | exact AW _ _ _ | rfl)) ?_
 refine Yf Bu ?_
 refine Am rfl rfl rfl rfl (Ah rfl rfl AO (AE (by rw [DK _ _ _ (by decide)]; exact hV))) ?_
 refine AY rfl rfl rfl rfl (AP (cs := #[_, _]) rfl rfl Tryz.underlying44 AN B6 rfl (by decide) (by decide) rfl rfl) fun g29 => ?_
 refine Cs (V := [blk g29 3 #[.int .i64 e.1, .int .i64 e.2]]) rfl rfl rfl rfl (by kernel_rfl) (Aq en43 rfl rfl rfl (fun w hw => EF (ns := [e.1, e.2]) (Ch (g := g29) hw rfl rfl (by decide)) (by simp; exact ⟨h1, h2⟩) (hp.keep0 hw) (by simp))) ?_
 rintro _ rfl
 refine Yo rfl (Aw rfl rfl) ?_
 refine Flow.end rfl ?_
 simp only [zq, zr]
 refine Fin.then <| DC.ret <| Ae <| Aa ?_
 refine Fin.weak (E' := [(4, _)]) ⟨rfl, trivial⟩ .nil ?_
 refine Aj (.inl rfl) rfl rfl ?_
 exact ⟨rfl, rfl⟩
/-- What a form of a certificate says: its letter, the most lines, whether its text may be written, its lines. -/
structure FormC (w0 : World) (T : Nat) (v : Value) (letter : List UInt8) (lim : Int) (ok : Prop) (lines : List (List UInt8)) : Prop where
 head : ∀ w L, Own w0 [] w L → Calls Tryz.prog 47 #[.iface T v] w (Ret w [] fun r L => L = [] ∧ ∃ b, r = .tuple #[str letter, .int .i64 lim, .bool b] ∧ (b = true ↔ ok))
 meth : ∃ fm, Ent Tryz.prog fm ∧ (∀ w, (method (Tryz.prog.types.size + Made.depth) T v "tangram/cert.lines").run Tryz.prog w = .ok (fm, v) w) ∧ ∀ w, Calls Tryz.prog fm #[v] w (Ret w [] fun r L => L = [] ∧ r = .int .i64 lines.length)
 line : ok → ∀ (i : Nat) l, lines[i]? = some l → ∀ w L, Own w0 [] w L → Calls Tryz.prog 48 #[.iface T v, .int .i64 i] w (Ret w [] fun r L => L = [] ∧ r = str l)
 few : lines.length ≤ 17592186044416
 one : letter.length = 1
 small : ok → ∀ l, l ∈ lines → l.length ≤ 1099511627776
def headB (letter : List UInt8) (n : Nat) : List UInt8 := (letter ++ [32]) ++ lineB [(n : Int)]
def textB (letter : List UInt8) (lines : List (List UInt8)) : List UInt8 := headB letter lines.length ++ lines.flatten
theorem El {letter : List UInt8} {n : Nat} (h1 : letter.length = 1) (hn : n ≤ 17592186044416) : (headB letter n).length ≤ 100 := by
 have := Ej (ns := [(n : Int)]) (by simp; unfold I64; omega)
 simp [headB, h1] at this ⊢; omega
theorem Dz {l : List (List UInt8)} {i : Nat} {x : List UInt8} (h : l[i]? = some x) : (l.take (i + 1)).flatten = (l.take i).flatten ++ x := by
 rw [List.take_add_one, h]; simp
theorem KB (l : List (List UInt8)) (i : Nat) : (l.take i).flatten.length ≤ l.flatten.length := by
 conv => rhs; rw [← List.take_append_drop i l]
 rw [List.flatten_append, List.length_append]; omega
structure PrintI where
 i : Nat
 v : Value
theorem Gs {c v : Value} {w : World} {T : Nat} {is : Bool} {letter : List UInt8} {lim : Int} {ok : Prop} {lines : List (List UInt8)} {cs : Array Value} (hc : c = .agg cs) (hcs : ∃ x y z, cs = #[x, y, z] ∧ x.oneCell' = true ∧ y.oneCell' = true ∧ z.oneCell' = true)
  (hfo : ∀ w, Calls Tryz.prog 46 #[c] w (Ret w [] fun r L => L = [] ∧ r = .tuple #[.iface T v, .bool is])) (hF : FormC w T v letter lim ok lines) (hp : Pow w) :
  Calls Tryz.prog 24 #[c] w (Ret w [] fun r L => L = [] ∧ ∃ s e, r = .tuple #[str s, .int .i64 e] ∧
   ((e = 0 ∧ is = true ∧ ok ∧ (textB letter lines).length ≤ 33554432 ∧ s = textB letter lines) ∨ (e = 170 ∧ ¬ (is = true ∧ ok) ∧ s = []) ∨ (e = 10 ∧ is = true ∧ ok ∧ 33554432 < (textB letter lines).length ∧ s = []))) := by
 subst hc
 obtain ⟨x, y, z, rfl, x1, y1, z1⟩ := hcs
 obtain ⟨fm, hfm, hme, hln⟩ := hF.meth
 have hfew := hF.few
 have hhl := El hF.one hfew
 refine At (args := [_]) (L := []) Tryz.func24 rfl Tryz.ntmps24 rfl (Own.start _ _) ?_
 refine Zs ?_
 refine Zw (AS (cs := #[x, y, z]) rfl rfl (cells3 x1 y1 z1)) fun g1 => ?_
 refine Za ?_
 refine Za ?_
 refine Zx <| Zs ?_
 refine Zu (Ay (vs := [_, _, _]) rfl rfl Fa De rfl (Ak rfl)) ?_
 refine Seq.rel0 rfl rfl (Aq en46 rfl rfl rfl (fun w hw => hfo w)) ?_
 rintro _ rfl
 refine Zm ?_
 refine Ze ?_
 refine Ze ?_
 refine Za ?_
 refine Za ?_
 refine Zx <| DC.seq <| Zs ?_
 refine Zm ?_
 refine Zo (Bh rfl rfl) ?_
 refine Zx ?_
 refine Zd (fun c2 => ?_) fun c2 => ?_
 ·refine Zs ?_
  refine Za ?_
  refine Za ?_
  refine Zx <| DC.ret <| Aa ?_
  refine Fin.weak (E' := [(2, _), (3, _)]) ⟨rfl, rfl, trivial⟩ .nil ?_
  refine AJ (.inl rfl) rfl rfl rfl ?_
  exact ⟨rfl, [], 170, rfl, .inr (.inl ⟨rfl, by simp at c2; simp [c2], rfl⟩)⟩
 ·refine DC.skip <| Fin.then <| Zs ?_
  refine Zm ?_
  refine Seq.rel0 rfl rfl (Aq en47 rfl rfl rfl (fun w hw => hF.head w _ hw)) ?_
  rintro _ ⟨b, rfl, hb⟩
  refine Zm ?_
  refine Ze ?_
  refine Ze ?_
  refine Ze ?_
  refine Za ?_
  refine Za ?_
  refine Za ?_
  refine Zx <| DC.seq <| Zs ?_
  refine Zm ?_
  refine Zo (Bh rfl rfl) ?_
  refine Zx ?_
  refine Zd (fun c5 => ?_) fun c5 => ?_
  ·refine Zs ?_
   refine Za ?_
   refine Za ?_
   refine Zx <| DC.ret <| Aa ?_
   refine Fin.weak (E' := [(2, _), (3, _)]) ⟨rfl, rfl, trivial⟩ .nil ?_
   refine AJ (.inl rfl) rfl rfl rfl ?_
   exact ⟨rfl, [], 170, rfl, .inr (.inl ⟨rfl, by simp at c5; simp [← hb, c5], rfl⟩)⟩
  ·refine DC.skip <| Fin.then <| Zs ?_
   refine Zw (AH rfl ze95 rfl) fun g9 => ?_
   refine Zx <| Zs ?_
   refine Zm ?_
   refine Zo (Gv (a := letter) (b := [32]) rfl rfl rfl (by rw [hF.one]; decide)) ?_
   refine Zm ?_
   refine Seq.rel rfl rfl (IX hfm rfl rfl hme (fun w hw => hln w)) ?_
   rintro _ _ ⟨rfl, rfl⟩
   refine Zw (AP (cs := #[_]) rfl rfl Tryz.underlying44 AN B6 rfl (by decide) (by decide) rfl rfl) fun g30 => ?_
   refine Seq.rel0 rfl rfl (Aq en43 rfl rfl rfl (fun w hw => EF (ns := [(lines.length : Int)]) (Ch (g := g30) hw rfl rfl (by decide)) (by simp; unfold I64; omega) (hp.keep0 hw) (by simp))) ?_
   rintro _ rfl
   refine Zo (Gv (a := letter ++ [32]) (b := lineB [(lines.length : Int)]) rfl rfl rfl (by have := hhl; simp [headB] at this ⊢; omega)) ?_
   refine Seq.gen rfl rfl (Lr rfl rfl rfl (fun w hw => own_bldr (hw.pick (.cons 1 rfl .nil))) (by have := hhl; simp [headB] at this ⊢; omega)) ?_
   rintro _ _ ⟨v9, rfl⟩
   refine Zx <| DC.seq <| Zs ?_
   refine Zm ?_
   refine Seq.rel rfl rfl (IX hfm rfl rfl hme (fun w hw => hln w)) ?_
   rintro _ _ ⟨rfl, rfl⟩
   refine Zm ?_
   refine Zx <| DC.block ?_
   have hc2 : is = true := by simpa using c2
   have hc5 : ok := hb.1 (by simpa using c5)
   refine DC.loop (ι := PrintI) (fun j => j.i ≤ lines.length ∧ (headB letter lines.length ++ (lines.take j.i).flatten).length ≤ 33554432)
    (fun j => [(4, .iface T v), (9, .pointer (some ⟨g9, 0, none⟩)), (35, .int .i64 lines.length), (36, .int .i64 j.i)])
    (fun j => [bldr g9 j.v (headB letter lines.length ++ (lines.take j.i).flatten)]) (fun j => lines.length - j.i) ⟨0, v9⟩ ⟨Nat.zero_le _, by simp; omega⟩ ⟨rfl, rfl, rfl, rfl, trivial⟩ (.cons' 0 rfl (by simp [headB]) .nil) ?_
   rintro ⟨i, vi⟩ ⟨hi, hle⟩
   dsimp only at hi hle ⊢
   refine Zs ?_
   refine Zc ?_
   refine Zx <| DC.seq ?_
   refine Zd (fun c10 => ?_) fun c10 => ?_
   ·have hlt : i < lines.length := by simpa using c10
    obtain ⟨l, hl⟩ : ∃ l, lines[i]? = some l := ⟨_, List.getElem?_eq_getElem hlt⟩
    have hsm := hF.small hc5 l (List.mem_of_getElem? hl)
    refine DC.skip <| Fin.then <| DC.seq <| DC.block <| Zs ?_
    refine Zm ?_
    refine Za ?_
    refine Zx <| Zs ?_
    refine Zm ?_
    refine Zm ?_
    refine Seq.rel0 rfl rfl (Aq en48 rfl rfl rfl (fun w hw => hF.line hc5 i l hl w _ hw)) ?_
    rintro _ rfl
    refine Seq.gen rfl rfl (Lr rfl rfl rfl (fun w hw => hw) (by omega)) ?_
    rintro _ _ ⟨v42, rfl⟩
    refine Zx <| Zs ?_
    refine Seq.rel0 rfl rfl (Aq en44 rfl rfl rfl (fun w hw => GU (hw.holds _ (List.mem_cons_self ..)))) ?_
    rintro _ rfl
    refine Zo (BH rfl rfl rfl) ?_
    refine Zx ?_
    refine Zd (fun c13 => ?_) fun c13 => ?_
    ·refine Zs ?_
     refine Za ?_
     refine Za ?_
     refine Zx <| DC.ret <| Ae <| Aa <| Aa <| Ae <| Aa ?_
     refine Fin.weak (E' := [(2, _), (3, _)]) ⟨rfl, rfl, trivial⟩ .nil ?_
     refine AJ (.inl rfl) rfl rfl rfl ?_
     refine ⟨rfl, [], 10, rfl, .inr (.inr ⟨rfl, hc2, hc5, ?_, rfl⟩)⟩
     have := KB lines (i + 1)
     rw [Dz hl] at this
     simp at c13
     simp [textB] at c13 this ⊢; omega
    ·refine DC.skip <| Fin.inBlock <| Fin.then <| DC.region ?_
     refine Zp ?_
     refine Zm ?_
     refine Seq.nil ?_
     refine Fin.again ⟨i + 1, v42⟩ (by dsimp only; omega) ⟨by dsimp only; omega, ?_⟩ ⟨rfl, rfl, rfl, rfl, trivial⟩ (.cons' 0 rfl (by dsimp only; rw [Dz hl, List.append_assoc]) .nil)
     dsimp only
     rw [Dz hl, ← List.append_assoc]
     simp only [decide_eq_false_iff_not] at c13
     omega
   ·refine DC.exit <| Ad <| Ad <| Ag <| Fin.then <| DC.seq <| DC.seq ?_
    have hin : i = lines.length := by simp at c10; omega
    subst hin
    rw [List.take_length] at hle ⊢
    refine DC.region ?_
    refine Seq.rel0 rfl rfl (Aq en44 rfl rfl rfl (fun w hw => GU (hw.holds _ (List.mem_cons_self ..)))) ?_
    rintro _ rfl
    refine Zo (BH rfl rfl rfl) ?_
    refine Zx ?_
    refine Zd (fun c16 => ?_) fun c16 => ?_
    ·refine Zs ?_
     refine Za ?_
     refine Za ?_
     refine Zx <| DC.ret <| Aa ?_
     refine Fin.weak (E' := [(2, _), (3, _)]) ⟨rfl, rfl, trivial⟩ .nil ?_
     refine AJ (.inl rfl) rfl rfl rfl ?_
     exact ⟨rfl, [], 10, rfl, .inr (.inr ⟨rfl, hc2, hc5, by simp only [decide_eq_true_eq] at c16; unfold textB; omega, rfl⟩)⟩
    ·refine DC.skip <| Fin.then <| Zs ?_
     refine Seq.gen rfl rfl (g_string rfl rfl rfl (fun w hw => hw)) ?_
     rintro _ _ ⟨rfl, rfl⟩
     refine Za ?_
     refine Za ?_
     refine Zx <| DC.ret ?_
     refine Fin.weak (E' := [(2, _), (3, _)]) ⟨rfl, rfl, trivial⟩ .nil ?_
     refine AJ (.inl rfl) rfl rfl rfl ?_
     exact ⟨rfl, _, 0, rfl, .inl ⟨rfl, hc2, hc5, hle, rfl⟩⟩
/-! ### the certificate's text -/
def HasForm (pl : Bool) (ls : List (List Int)) (es : List Pr) : Prop := if pl then es = [] ∧ ListsOk ls else ls = [] ∧ EdgesOk es
def certB (pl : Bool) (ls : List (List Int)) (es : List Pr) : List UInt8 := if pl then textB [112] (ls.map lineB) else textB [110] (es.map fun e => lineB [e.1, e.2])
theorem ListsOk.fits {ls : List (List Int)} (h : ListsOk ls) {l : List Int} (hl : l ∈ ls) {a : Int} (ha : a ∈ l) : Fits a := by
 obtain ⟨i, hi⟩ := List.mem_iff_getElem?.1 hl
 obtain ⟨j, hj⟩ := List.mem_iff_getElem?.1 ha
 obtain ⟨b, hb⟩ : ∃ b, l[0]? = some b := ⟨_, List.getElem?_eq_getElem (by have := (List.getElem?_eq_some_iff.1 hj).1; omega)⟩
 exact (h.2 i l hi j a b hj hb).1
theorem formL {ls : List (List Int)} {v : Value} {w : World} (hv : LsV w v ls) (hp : Pow w) (hs : ∀ l, l ∈ ls → l.length ≤ 2097152) : FormC w 153 v [112] 1048576 (ListsOk ls) (ls.map lineB) := by
 refine ⟨fun w' L hw => Js ls v w' (hv.keep0 hw), ?_, ?_, ?_, rfl, ?_⟩
 ·obtain ⟨A, cap, rfl, _, _, _, hle⟩ := hv
  refine ⟨220, en220, fun w => by kernel_rfl, fun w => ?_⟩
  rw [List.length_map]
  exact H8 A _ cap w
 ·intro hok i l hl w' L hw
  simp only [List.getElem?_map, Option.map_eq_some_iff] at hl
  obtain ⟨l', hl', rfl⟩ := hl
  have hm := List.mem_of_getElem? hl'
  exact Ji (hv.keep0 hw) hl' (fun a ha => (hok.fits hm ha).i64) (hp.keep0 hw) (by have := hs l' hm; omega)
 ·obtain ⟨A, cap, rfl, _, _, _, hle⟩ := hv
  simpa using hle
 ·intro hok l hl
  simp only [List.mem_map] at hl
  obtain ⟨l', hm, rfl⟩ := hl
  have := Ej (ns := l') (fun a ha => (hok.fits hm ha).i64)
  have := hs l' hm
  omega
theorem formE {es : List Pr} {v : Value} {w : World} (hv : PrV w v es) (hp : Pow w) : FormC w 154 v [110] 4194304 (EdgesOk es) (es.map fun e => lineB [e.1, e.2]) := by
 have i64 : ∀ {e : Pr}, EdgesOk es → e ∈ es → I64 e.1 ∧ I64 e.2 := fun hok hm => by
  obtain ⟨i, hi⟩ := List.mem_iff_getElem?.1 hm
  have := hok.ok i _ hi
  exact ⟨this.1.i64, this.2.1.i64⟩
 refine ⟨fun w' L hw => Jt es v w' (hv.keep0 hw), ?_, ?_, ?_, rfl, ?_⟩
 ·obtain ⟨A, cap, rfl, _, _, _, hle⟩ := hv
  refine ⟨221, en221, fun w => by kernel_rfl, fun w => ?_⟩
  rw [List.length_map]
  exact Ip A _ cap w
 ·intro hok i l hl w' L hw
  simp only [List.getElem?_map, Option.map_eq_some_iff] at hl
  obtain ⟨e, he, rfl⟩ := hl
  have hm := i64 hok (List.mem_of_getElem? he)
  exact Jj (hv.keep0 hw) he hm.1 hm.2 (hp.keep0 hw)
 ·obtain ⟨A, cap, rfl, _, _, _, hle⟩ := hv
  simp; omega
 ·intro hok l hl
  simp only [List.mem_map] at hl
  obtain ⟨e, hm, rfl⟩ := hl
  have h2 := i64 hok hm
  have := Ej (ns := [e.1, e.2]) (by simp; exact h2)
  simp at this; omega
/-- cert.Print. -/
theorem FM {pl : Bool} {ls : List (List Int)} {es : List Pr} {v u : Value} {w : World} (hv : LsV w v ls) (hu : PrV w u es) (hp : Pow w) (hs : ∀ l, l ∈ ls → l.length ≤ 2097152) :
  Calls Tryz.prog 24 #[.agg #[.bool pl, v, u]] w (Ret w [] fun r L => L = [] ∧ ∃ s e, r = .tuple #[str s, .int .i64 e] ∧
   ((e = 0 ∧ HasForm pl ls es ∧ (certB pl ls es).length ≤ 33554432 ∧ s = certB pl ls es) ∨ (e = 170 ∧ ¬ HasForm pl ls es ∧ s = []) ∨ (e = 10 ∧ HasForm pl ls es ∧ 33554432 < (certB pl ls es).length ∧ s = []))) := by
 obtain ⟨A, cap, ev, _⟩ := id hv
 obtain ⟨B, cap', eu, _⟩ := id hu
 have hfo := fun w => Ie pl A B ls.length es.length cap cap' w
 rw [← ev, ← eu] at hfo
 have hcs : ∃ x y z, #[Value.bool pl, v, u] = #[x, y, z] ∧ x.oneCell' = true ∧ y.oneCell' = true ∧ z.oneCell' = true := ⟨_, _, _, rfl, rfl, by rw [ev]; rfl, by rw [eu]; rfl⟩
 unfold HasForm certB
 cases pl with
 | true =>
  simp only [if_true] at hfo ⊢
  have := Gs rfl hcs hfo (formL hv hp hs) hp
  simpa [List.length_eq_zero_iff, and_assoc] using this
 | false =>
  simp only [Bool.false_eq_true, if_false] at hfo ⊢
  have := Gs rfl hcs hfo (formE hu hp) hp
  simpa [List.length_eq_zero_iff, and_assoc] using this
/-- A certificate that has a text. -/
def TextOk (pl : Bool) (ls : List (List Int)) (cs : List Pr) : Prop := HasForm pl ls cs ∧ (certB pl ls cs).length ≤ 33554432
theorem Ja {pl : Bool} {N : Int} {ls : List (List Int)} {cs : List Pr} {va v u : Value} {w : World} (hv : LsV w v ls) (hu : PrV w u cs) (hp : Pow w) (hs : ∀ l, l ∈ ls → l.length ≤ 2097152) :
  Calls Tryz.prog 55 #[.agg #[.int .i64 N, va], .agg #[.bool pl, v, u]] w (Ret w [] fun r L => L = [] ∧ ∃ b, r = .bool b ∧ (b = true ↔ TextOk pl ls cs)) := by
 refine At (args := [_, _]) (L := []) Tryz.func55 rfl Tryz.ntmps55 rfl (Own.start _ _) ?_
 refine Zs ?_
 refine Zw (AS rfl rfl rfl) fun g2 => ?_
 refine Zw (AS rfl rfl rfl) fun g3 => ?_
 refine Za ?_
 refine Zx <| Zs ?_
 refine Zu (Ay (vs := [_, _, _]) rfl rfl Fa De rfl (Ak rfl)) ?_
 refine Seq.rel0 rfl rfl (Aq en24 rfl rfl rfl (fun w' hw => FM (hv.keep0 hw) (hu.keep0 hw) (hp.keep0 hw) hs)) ?_
 rintro _ ⟨s, e, rfl, hse⟩
 refine Zm ?_
 refine Ze ?_
 refine Ze ?_
 refine Za ?_
 refine Za ?_
 refine Zx <| Zs ?_
 refine Zm ?_
 refine Zo (AX rfl rfl rfl) ?_
 refine Za ?_
 refine Zx <| DC.ret ?_
 refine Fin.weak (E' := [(4, _)]) ⟨rfl, trivial⟩ .nil ?_
 refine Aj (.inl rfl) rfl rfl ?_
 refine ⟨rfl, _, rfl, ?_⟩
 unfold TextOk
 rcases hse with ⟨rfl, h1, h2, _⟩ | ⟨rfl, h1, _⟩ | ⟨rfl, h1, h2, _⟩
 ·simp [h1, h2]
 ·simp [h1]
 ·simp [h1]; omega
theorem IN {pl : Bool} {N : Int} {es : List Pr} {ls : List (List Int)} {va v u : Value} {w : World} (hg : PrV w va es) (hv : LsV w v ls) :
  Calls Tryz.prog 56 #[.agg #[.int .i64 N, va], .agg #[.bool pl, v, u]] w (Ret w [] fun r L => L = [] ∧ ∃ b, r = .bool b ∧ (b = true ↔ RotOk N es ls)) := by
 refine At (args := [_, _]) (L := []) Tryz.func56 rfl Tryz.ntmps56 rfl (Own.start _ _) ?_
 refine Zs ?_
 refine Zw (AS rfl rfl rfl) fun g2 => ?_
 refine Zw (AS rfl rfl rfl) fun g3 => ?_
 refine Za ?_
 refine Zx <| Zs ?_
 refine Zu (Ay (vs := [_, _]) rfl rfl Bj Bc rfl (Ak rfl)) ?_
 refine Zf D9 ?_
 refine Zl FS ?_
 refine Seq.rel rfl rfl (Aq en94 rfl rfl rfl (fun w' hw => FL (hg.keep0 hw) (hv.keep0 hw))) ?_
 intro v12 L12 hC12
 obtain ⟨x0, x1, e, rfl, he⟩ : ∃ x0 x1 e, v12 = .tuple #[x0, x1, .int .i64 e] ∧ (e = 0 ↔ RotOk N es ls) := by
  rcases hC12 with ⟨hok, g, rs, rfl, _⟩ | ⟨hno, _, x, e, rfl, hne⟩
  ·exact ⟨_, _, _, rfl, by simp [hok]⟩
  ·exact ⟨_, _, _, rfl, by simp [hno, hne]⟩
 clear hC12
 refine Zm ?_
 refine Ze ?_
 refine Ze ?_
 refine Ze ?_
 refine Za ?_
 refine Za ?_
 refine Za ?_
 refine Zx <| Zs ?_
 refine Zm ?_
 refine Zo (AX rfl rfl rfl) ?_
 refine Za ?_
 refine Zx <| DC.ret ?_
 refine Fin.weak (E' := [(4, _)]) ⟨rfl, trivial⟩ .nil ?_
 refine Aj (.inl rfl) rfl rfl ?_
 exact ⟨rfl, _, rfl, by simpa using he⟩
/-- The numbers of a certificate's edges in a graph. -/
def NumR (es cs : List Pr) (ns : List Int) : Prop := ns.length = cs.length ∧ ∀ (j : Nat) c m, cs[j]? = some c → ns[j]? = some m → (m = -1 ∧ c ∉ es) ∨ ∃ i : Nat, m = i ∧ es[i]? = some c
def NumM (es : List Pr) (i : Nat) (f : Pr → Option Value) : Prop := ∀ p, (f p = none ∧ p ∉ es.take i) ∨ ∃ k : Nat, k < i ∧ es[k]? = some p ∧ f p = some (.int .i64 ((k : Int) + 1))
structure NumbI where
 i : Nat
 m : List (Pr × Value)
structure NumbJ where
 i : Nat
 ns : List Int
theorem D2 {pl : Bool} {N : Int} {es cs : List Pr} {va v u : Value} {w : World} (hg : PrV w va es) (hu : PrV w u cs) :
  Calls Tryz.prog 96 #[.agg #[.int .i64 N, va], .agg #[.bool pl, v, u]] w (Ret w [] fun r M => ∃ g ns, r = .slice (some ⟨g, 0, none⟩) cs.length cs.length ∧ NumR es cs ns ∧ M = [blk g 3 (ints ns).toArray]) := by
 obtain ⟨A, cap, rfl, hr, hlc, hcm, hle⟩ := hg
 obtain ⟨B, capb, rfl, hrb, hlb, hcb, hleb⟩ := hu
 refine At (args := [_, _]) (L := []) Tryz.func96 rfl Tryz.ntmps96 rfl (Own.start _ _) ?_
 refine Zs ?_
 refine Zw (AS rfl rfl rfl) fun g2 => ?_
 refine Zw (AS rfl rfl rfl) fun g3 => ?_
 refine Za ?_
 refine Zx <| Zs ?_
 refine Seq.rel rfl rfl (Df (enc := encP) rfl) ?_
 rintro _ _ ⟨gm, rfl, rfl⟩
 simp only [List.cons_append, List.nil_append]
 refine Za ?_
 refine Zx <| DC.seq <| Zs ?_
 refine Zf Be ?_
 refine Zl BO ?_
 refine Zn Tryz.underlying22 ?_
 refine Zm ?_
 refine Zx <| DC.block ?_
 refine DC.loop (ι := NumbI) (fun j => j.i ≤ es.length ∧ NumM es j.i (lkM j.m))
  (fun j => [(3, .pointer (some ⟨g3, 0, none⟩)), (5, .map (some gm)), (13, .slice A es.length cap), (14, .int .i64 es.length), (15, .int .i64 j.i)])
  (fun j => [mpc encP gm j.m, blk g3 27 #[.bool pl, v, .slice B cs.length capb]]) (fun j => es.length - j.i) ⟨0, []⟩ ⟨Nat.zero_le _, fun p => .inl ⟨rfl, by simp⟩⟩ ⟨rfl, rfl, rfl, rfl, rfl, trivial⟩ (.cons 0 rfl (.cons 0 rfl .nil)) ?_
 rintro ⟨i, m⟩ ⟨hi, hm⟩
 dsimp only at hi hm ⊢
 refine Zs ?_
 refine Zc ?_
 refine Zx <| DC.seq ?_
 refine Zd (fun c3 => ?_) fun c3 => ?_
 ·have hlt : i < es.length := by simpa using c3
  obtain ⟨e, he⟩ : ∃ e, es[i]? = some e := ⟨_, List.getElem?_eq_getElem hlt⟩
  obtain ⟨ad, rfl, hU, hVe⟩ := hr.pair he
  refine DC.skip <| Fin.then <| DC.seq <| DC.block <| Zs ?_
  refine Zm ?_
  refine Zo (AQ rfl rfl rfl Tryz.underlying22 Bb (by omega) (by omega) (by first | exact AC _ _ | exact AW _ _ _ | rfl)) ?_
  refine Zu (Ay (vs := [_, _]) rfl rfl CP Bb rfl (CD hU hVe (by simp))) ?_
  refine Zw (AH rfl CI rfl) fun g7 => ?_
  refine Za ?_
  refine Zy (AA (cs' := #[_, _]) rfl rfl rfl Bb rfl (Nat.le_of_ble_eq_true rfl) rfl) ?_
  refine Zx <| DC.region ?_
  refine Zm ?_
  refine Zu (Ay (vs := [_, _]) rfl rfl CP Bb rfl (Ak rfl)) ?_
  refine Zm ?_
  refine Zp ?_
  refine Zy (BR (k := e) 1 rfl Lm rfl rfl rfl rfl Tryz.underlying196 rfl) ?_
  refine Seq.nil <| Fin.inBlock <| Fin.then <| DC.region ?_
  refine Zp ?_
  refine Zm ?_
  refine Seq.nil ?_
  refine Fin.again ⟨i + 1, putM e (.int .i64 ((i : Int) + 1)) m⟩ (by dsimp only; omega) ⟨by dsimp only; omega, ?_⟩ ⟨rfl, rfl, rfl, rfl, rfl, trivial⟩ (.cons 1 rfl (.cons 1 rfl .nil))
  intro p
  dsimp only
  rw [Du]
  by_cases hp : p = e
  ·subst hp
   rw [if_pos rfl]
   exact .inr ⟨i, by omega, he, rfl⟩
  ·rw [if_neg hp]
   rcases hm p with ⟨h1, h2⟩ | ⟨k, h1, h2, h3⟩
   ·refine .inl ⟨h1, ?_⟩
    rw [List.take_add_one, he, List.mem_append]
    simp [h2, hp]
   ·exact .inr ⟨k, by omega, h2, h3⟩
 ·refine DC.exit <| Ad <| Ad <| Ag <| Fin.then <| DC.seq ?_
  have hie : i = es.length := by simp at c3; omega
  subst hie
  refine DC.region ?_
  refine Zf GK ?_
  refine Zl BO ?_
  refine Zn Tryz.underlying22 ?_
  refine Zw (BI (k := cs.length) (cs := (ints (List.replicate cs.length 0)).toArray) rfl rfl rfl Tryz.underlying44 AN DP B6 rfl (by omega) (by omega) (Hv _)) fun g28 => ?_
  refine Za ?_
  refine Zx <| DC.seq <| Zs ?_
  refine Zf GK ?_
  refine Zl BO ?_
  refine Zn Tryz.underlying22 ?_
  refine Zm ?_
  refine Zx <| DC.block ?_
  refine DC.loop (ι := NumbJ) (fun j => j.i ≤ cs.length ∧ j.ns.length = cs.length ∧ ∀ (q : Nat) c x, q < j.i → cs[q]? = some c → j.ns[q]? = some x → (x = -1 ∧ c ∉ es) ∨ ∃ i : Nat, x = i ∧ es[i]? = some c)
   (fun j => [(5, .map (some gm)), (8, .slice (some ⟨g28, 0, none⟩) cs.length cs.length), (30, .slice B cs.length capb), (31, .int .i64 cs.length), (32, .int .i64 j.i)])
   (fun j => [mpc encP gm m, blk g28 3 (ints j.ns).toArray]) (fun j => cs.length - j.i) ⟨0, List.replicate cs.length 0⟩ ⟨Nat.zero_le _, by simp, fun _ _ _ h => absurd h (Nat.not_lt_zero _)⟩ ⟨rfl, rfl, rfl, rfl, rfl, trivial⟩ (.cons 1 rfl (.cons 0 rfl .nil)) ?_
  rintro ⟨i, ns⟩ ⟨hi2, hns, hn⟩
  dsimp only at hi2 hns hn ⊢
  refine Zs ?_
  refine Zc ?_
  refine Zx <| DC.seq ?_
  refine Zd (fun c9 => ?_) fun c9 => ?_
  ·have hlt : i < cs.length := by simpa using c9
   obtain ⟨c, hc⟩ : ∃ c, cs[i]? = some c := ⟨_, List.getElem?_eq_getElem hlt⟩
   obtain ⟨adb, rfl, hU, hVe⟩ := hrb.pair hc
   refine DC.skip <| Fin.then <| DC.seq <| DC.block <| Zs ?_
   refine Zm ?_
   refine Zo (AQ rfl rfl rfl Tryz.underlying22 Bb (by omega) (by omega) (by first | exact AC _ _ | exact AW _ _ _ | rfl)) ?_
   refine Zu (Ay (vs := [_, _]) rfl rfl CP Bb rfl (CD hU hVe (by simp))) ?_
   refine Zw (AH rfl CI rfl) fun g10 => ?_
   refine Za ?_
   refine Zy (AA (cs' := #[_, _]) rfl rfl rfl Bb rfl (Nat.le_of_ble_eq_true rfl) rfl) ?_
   refine Zx <| DC.region ?_
   refine Zm ?_
   refine Zm ?_
   refine Zm ?_
   refine Zu (Ay (vs := [_, _]) rfl rfl CP Bb rfl (Ak rfl)) ?_
   obtain ⟨x, hx, hx0, hx1, hxr⟩ : ∃ x : Int, (if false then (.tuple #[(lkM m c).getD (.int .i64 0), .bool (lkM m c).isSome] : Value) else (lkM m c).getD (.int .i64 0)) = .int .i64 x ∧ 0 ≤ x ∧ x ≤ es.length ∧ ((x - 1 = -1 ∧ c ∉ es) ∨ ∃ i : Nat, x - 1 = i ∧ es[i]? = some c) := by
    rcases hm c with ⟨h1, h2⟩ | ⟨k, h1, h2, h3⟩
    ·exact ⟨0, by rw [h1]; rfl, by omega, by omega, .inl ⟨rfl, by simpa using h2⟩⟩
    ·exact ⟨(k : Int) + 1, by rw [h3]; rfl, by omega, by omega, .inr ⟨k, by omega, h2⟩⟩
   refine Zu (CA (k := c) 1 rfl Lm rfl rfl rfl Tryz.underlying196 B6 hx) ?_
   refine Zo (Ca rfl rfl rfl (by omega)) ?_
   refine Zi Tryz.underlying44 AN ?_
   refine Zy (AF (cs' := (ints (ns.set i (x - 1))).toArray) rfl rfl rfl AN rfl (by simp; omega) DU) ?_
   refine Seq.nil <| Fin.inBlock <| Fin.then <| DC.region ?_
   refine Zp ?_
   refine Zm ?_
   refine Seq.nil ?_
   refine Fin.again ⟨i + 1, ns.set i (x - 1)⟩ (by dsimp only; omega) ⟨by dsimp only; omega, by simp [hns], ?_⟩ ⟨rfl, rfl, rfl, rfl, rfl, trivial⟩ (.cons 1 rfl (.cons 1 rfl .nil))
   intro q c' x' hq hc' hx'
   dsimp only at hq hx'
   rw [List.getElem?_set] at hx'
   split at hx'
   ·rename_i e; subst e
    rw [if_pos (by omega)] at hx'; cases hx'
    rw [hc] at hc'; cases hc'
    exact hxr
   ·exact hn q c' x' (by omega) hc' hx'
  ·refine DC.exit <| Ad <| Ad <| Ag <| Fin.then <| Zs ?_
   refine Zm ?_
   refine Za ?_
   refine Zx <| DC.ret ?_
   have hie : i = cs.length := by simp at c9; omega
   subst hie
   refine Fin.weak (E' := [(4, _)]) ⟨rfl, trivial⟩ (.cons 1 rfl .nil) ?_
   refine Aj (.inl rfl) rfl rfl ?_
   exact ⟨g28, ns, rfl, ⟨hns, fun j c x hj hx => hn j c x (List.getElem?_eq_some_iff.1 hj).1 hj hx⟩, rfl⟩
theorem HK {pl : Bool} {N : Int} {es cs : List Pr} {va v u : Value} {w : World} (hg : PrV w va es) (hu : PrV w u cs) :
  Calls Tryz.prog 58 #[.agg #[.int .i64 N, va], .agg #[.bool pl, v, u]] w (Ret w [] fun r M => M = [] ∧ ∃ b, r = .bool b ∧ (b = true ↔ ∀ c, c ∈ cs → c ∈ es)) := by
 obtain ⟨B, capb, eu, _, _, _, hleb⟩ := id hu
 refine At (args := [_, _]) (L := []) Tryz.func58 rfl Tryz.ntmps58 rfl (Own.start _ _) ?_
 refine Zs ?_
 refine Zw (AS rfl rfl rfl) fun g2 => ?_
 refine Zw (AS rfl rfl rfl) fun g3 => ?_
 refine Za ?_
 refine Zx <| DC.seq <| Zs ?_
 refine Zu (Ay (vs := [_, _]) rfl rfl Bj Bc rfl (Ak rfl)) ?_
 refine Zu (Ay (vs := [_, _, _]) rfl rfl Fa De rfl (Ak rfl)) ?_
 refine Seq.rel rfl rfl (Aq en96 rfl rfl rfl (fun w' hw => D2 (hg.keep0 hw) (hu.keep0 hw))) ?_
 rintro _ _ ⟨g, ns, rfl, ⟨hns, hn⟩, rfl⟩
 simp only [List.cons_append, List.nil_append]
 refine Zn Tryz.underlying44 ?_
 refine Zm ?_
 refine Zx <| DC.block ?_
 refine DC.loop (ι := Nat) (fun i => i ≤ cs.length ∧ ∀ (j : Nat) c, j < i → cs[j]? = some c → c ∈ es)
  (fun i => [(9, .slice (some ⟨g, 0, none⟩) cs.length cs.length), (10, .int .i64 cs.length), (11, .int .i64 i)])
  (fun i => [blk g 3 (ints ns).toArray]) (fun i => cs.length - i) 0 ⟨Nat.zero_le _, fun _ _ h => absurd h (Nat.not_lt_zero _)⟩ ⟨rfl, rfl, rfl, trivial⟩ (.cons 0 rfl .nil) ?_
 rintro i ⟨hi, hin⟩
 refine Zs ?_
 refine Zc ?_
 refine Zx <| DC.seq ?_
 refine Zd (fun c2 => ?_) fun c2 => ?_
 ·have hlt : i < cs.length := by simpa using c2
  obtain ⟨c, hc⟩ : ∃ c, cs[i]? = some c := ⟨_, List.getElem?_eq_getElem hlt⟩
  obtain ⟨x, hx⟩ : ∃ x, ns[i]? = some x := ⟨_, List.getElem?_eq_getElem (by omega)⟩
  have hcase := hn i c x hc hx
  refine DC.skip <| Fin.then <| DC.seq <| DC.block <| Zs ?_
  refine Zi Tryz.underlying44 AN ?_
  refine Zu (Ah rfl rfl AO (AU (BC hx))) ?_
  refine Za ?_
  refine Zx <| Zs ?_
  refine Zm ?_
  refine Zc ?_
  refine Zx ?_
  refine Zd (fun c4 => ?_) fun c4 => ?_
  ·refine Zs ?_
   refine Za ?_
   refine Zx <| DC.ret <| Ae <| Aa <| Aa <| Ae <| Aa ?_
   refine Fin.weak (E' := [(4, _)]) ⟨rfl, trivial⟩ .nil ?_
   refine Aj (.inl rfl) rfl rfl ?_
   refine ⟨rfl, false, rfl, ?_⟩
   simp only [Bool.false_eq_true, false_iff]
   intro h
   rcases hcase with ⟨_, h1⟩ | ⟨k, h1, _⟩
   ·exact h1 (h c (List.mem_of_getElem? hc))
   ·simp at c4; omega
  ·refine DC.skip <| Fin.inBlock <| Fin.then <| DC.region ?_
   refine Zp ?_
   refine Zm ?_
   refine Seq.nil ?_
   refine Fin.again (i + 1) (by omega) ⟨by omega, ?_⟩ ⟨rfl, rfl, rfl, trivial⟩ (.cons 0 rfl .nil)
   intro j c' hj hc'
   rcases Nat.lt_succ_iff_lt_or_eq.1 hj with hj | rfl
   ·exact hin j c' hj hc'
   ·rw [hc] at hc'; cases hc'
    rcases hcase with ⟨h1, _⟩ | ⟨k, _, h2⟩
    ·subst h1; simp at c4
    ·exact List.mem_of_getElem? h2
 ·refine DC.exit <| Ad <| Ad <| Ag <| Fin.then <| Zs ?_
  refine Za ?_
  refine Zx <| DC.ret ?_
  refine Fin.weak (E' := [(4, _)]) ⟨rfl, trivial⟩ .nil ?_
  refine Aj (.inl rfl) rfl rfl ?_
  have hie : i = cs.length := by simp at c2; omega
  subst hie
  refine ⟨rfl, true, rfl, ?_⟩
  simp only [true_iff]
  intro c hc
  obtain ⟨j, hj⟩ := List.mem_iff_getElem?.1 hc
  exact hin j c (List.getElem?_eq_some_iff.1 hj).1 hj
end Go.Fl

namespace Go.Fl
open Go
open Classical
def VH (es : List Pr) (h : Int) : Prop := 0 ≤ h ∧ h < es.length * 2
def degV (es : List Pr) (v : Int) : Nat := (outs es v).length
/-- The half-edge by which one goes on behind h. -/
def nxtH (es : List Pr) (h : Int) : Int :=
 if ((outs es (toV es h))[0]?).getD (-1) = tw h then ((outs es (toV es h))[1]?).getD (-1) else ((outs es (toV es h))[0]?).getD (-1)
def contH (es : List Pr) (b h : Int) : Prop := degV es (toV es h) = 2 ∧ toV es h ≠ b
def wI (es : List Pr) (h : Int) : Nat → Int
 | 0 => h
 | k + 1 => nxtH es (wI es h k)
structure Way (es : List Pr) (h : Int) (t : Nat) : Prop where
 vh : VH es h
 cont : ∀ i, i < t → contH es (fromV es h) (wI es h i)
def wayL (es : List Pr) (h : Int) (t : Nat) : List Int := (List.range (t + 1)).map (wI es h)
structure Stops (es : List Pr) (h : Int) (t : Nat) : Prop where
 way : Way es h t
 stop : ¬ contH es (fromV es h) (wI es h t)
section
variable {N : Int} {es : List Pr} {h k : Int}
theorem Hs : ∀ {a b : List Int}, a.Nodup → (∀ x, x ∈ a → x ∈ b) → a.length ≤ b.length
 | [], b, _, _ => by simp
 | x :: r, b, hn, hs => by
  rw [List.nodup_cons] at hn
  have hx : x ∈ b := hs x (by simp)
  have ih := Hs (a := r) (b := b.erase x) hn.2 (fun y hy => (List.mem_erase_of_ne (fun e => hn.1 (by rw [← e]; exact hy))).2 (hs y (by simp [hy])))
  have := List.length_erase_of_mem hx
  have := List.length_pos_of_mem hx
  simp only [List.length_cons]; omega
theorem VH.tw (hh : VH es h) : VH es (tw h) := IM hh.1 hh.2
theorem tw_inj {h k : Int} (e : tw h = tw k) : h = k := by rw [← tw_tw h, e, tw_tw]
theorem F4 (hh : VH es h) : fromV es (tw h) = toV es h := by unfold toV; rw [if_pos hh.1]
theorem KY (hh : VH es h) : toV es (tw h) = fromV es h := by unfold toV; rw [if_pos hh.tw.1, tw_tw]
theorem Kl (v : Int) : (outs es v).Nodup := by
 have := (CN es 0 v).1
 exact this.imp fun h => by omega
theorem DZ (hV : Vld N es) (hh : VH es h) (hd : degV es (toV es h) = 2) :
  VH es (nxtH es h) ∧ fromV es (nxtH es h) = toV es h ∧ nxtH es h ≠ tw h ∧ nxtH es h ∈ outs es (toV es h) ∧ ∀ y, y ∈ outs es (toV es h) → y = nxtH es h ∨ y = tw h := by
 have hm : tw h ∈ outs es (toV es h) := (A8 hV).2 ⟨hh.tw.1, hh.tw.2, F4 hh⟩
 have hn := Kl (es := es) (toV es h)
 unfold degV at hd
 match ho : outs es (toV es h), hd with
 | [a, b], _ =>
  rw [ho] at hm hn
  have hab : a ≠ b := by
   rw [List.nodup_cons] at hn
   intro e; exact hn.1 (by simp [e])
  have key : nxtH es h = if a = tw h then b else a := by unfold nxtH; rw [ho]; rfl
  have hmem : ∀ x, x ∈ [a, b] → VH es x ∧ fromV es x = toV es h := fun x hx => by
   rw [← ho] at hx
   obtain ⟨h1, h2, h3⟩ := (A8 hV).1 hx
   exact ⟨⟨h1, h2⟩, h3⟩
  rw [key]
  by_cases e : a = tw h
  ·rw [if_pos e]
   obtain ⟨q1, q2⟩ := hmem b (by simp)
   refine ⟨q1, q2, by rw [← e]; exact hab.symm, by simp, fun y hy => ?_⟩
   simp at hy
   rcases hy with rfl | rfl
   ·exact .inr e
   ·exact .inl rfl
  ·rw [if_neg e]
   obtain ⟨q1, q2⟩ := hmem a (by simp)
   have hb : b = tw h := by
    simp at hm
    rcases hm with rfl | rfl
    ·exact absurd rfl e
    ·rfl
   refine ⟨q1, q2, e, by simp, fun y hy => ?_⟩
   simp at hy
   rcases hy with rfl | rfl
   ·exact .inl rfl
   ·exact .inr hb
theorem nxt_inj (hV : Vld N es) (hh : VH es h) (hk : VH es k) (hd : degV es (toV es h) = 2) (hd' : degV es (toV es k) = 2) (e : nxtH es h = nxtH es k) : h = k := by
 obtain ⟨a1, a2, a3, a4, a5⟩ := DZ hV hh hd
 obtain ⟨b1, b2, b3, b4, b5⟩ := DZ hV hk hd'
 have hto : toV es h = toV es k := by rw [← a2, e, b2]
 have hm : tw h ∈ outs es (toV es k) := by rw [← hto]; exact (A8 hV).2 ⟨hh.tw.1, hh.tw.2, F4 hh⟩
 rcases b5 _ hm with h1 | h1
 ·exact absurd (e.trans h1.symm) a3
 ·exact tw_inj h1
section
variable {t : Nat}
theorem Way.le {s : Nat} (hw : Way es h t) (hs : s ≤ t) : Way es h s := ⟨hw.vh, fun i hi => hw.cont i (by omega)⟩
theorem Way.all (hV : Vld N es) (hw : Way es h t) : ∀ i, i ≤ t → VH es (wI es h i)
 | 0, _ => hw.vh
 | i + 1, hi => (DZ hV (hw.all hV i (by omega)) (hw.cont i (by omega)).1).1
theorem Way.link (hV : Vld N es) (hw : Way es h t) {i : Nat} (hi : i < t) : fromV es (wI es h (i + 1)) = toV es (wI es h i) :=
 (DZ hV (hw.all hV i (by omega)) (hw.cont i hi).1).2.1
theorem Way.ne (hV : Vld N es) (hw : Way es h t) : ∀ i j, i < j → j ≤ t → wI es h i ≠ wI es h j
 | 0, j + 1, _, hj => fun e => by
  have h1 := hw.link hV (i := j) (by omega)
  rw [← e] at h1
  exact (hw.cont j (by omega)).2 h1.symm
 | i + 1, j + 1, hij, hj => fun e =>
  hw.ne hV i j (by omega) (by omega) (nxt_inj hV (hw.all hV i (by omega)) (hw.all hV j (by omega)) (hw.cont i (by omega)).1 (hw.cont j (by omega)).1 e)
theorem Way.lt (hV : Vld N es) (hw : Way es h t) : t < es.length * 2 := by
 have hnd : (wayL es h t).Nodup := by
  unfold wayL List.Nodup
  rw [List.pairwise_map, List.pairwise_iff_getElem]
  intro i j hi hj hij
  simp only [List.length_range] at hi hj
  simp only [List.getElem_range]
  exact hw.ne hV i j hij (by omega)
 have := Hs (b := (List.range (es.length * 2)).map fun (x : Nat) => (x : Int)) hnd fun x hx => by
  obtain ⟨i, hi, rfl⟩ := List.mem_map.1 hx
  have h1 := hw.all hV i (by have := List.mem_range.1 hi; omega)
  obtain ⟨h2, h3⟩ := h1
  exact List.mem_map.2 ⟨(wI es h i).toNat, List.mem_range.2 (by omega), by omega⟩
 simp [wayL] at this; omega
theorem Stops.uniq {s : Nat} (h1 : Stops es h t) (h2 : Stops es h s) : t = s := by
 rcases Nat.lt_trichotomy t s with c | c | c
 ·exact absurd (h2.way.cont t c) h1.stop
 ·exact c
 ·exact absurd (h1.way.cont s c) h2.stop
theorem stops_ex (hV : Vld N es) (hh : VH es h) : ∃ t, Stops es h t := by
 apply Classical.byContradiction
 intro hno
 have : ∀ t, Way es h t := by
  intro t
  induction t with
  | zero => exact ⟨hh, fun i hi => absurd hi (Nat.not_lt_zero _)⟩
  | succ t ih =>
   refine ⟨hh, fun i hi => ?_⟩
   rcases Nat.lt_succ_iff_lt_or_eq.1 hi with h1 | rfl
   ·exact ih.cont i h1
   ·apply Classical.byContradiction
    intro hc
    exact hno ⟨i, ih, hc⟩
 have := (this (es.length * 2)).lt hV
 omega
end
/-- How far the way from a half-edge goes. -/
noncomputable def wayT (es : List Pr) (h : Int) : Nat := if e : ∃ t, Stops es h t then e.choose else 0
noncomputable def wayOf (es : List Pr) (h : Int) : List Int := wayL es h (wayT es h)
theorem BT (hV : Vld N es) (hh : VH es h) : Stops es h (wayT es h) := by
 have e := stops_ex hV hh
 unfold wayT
 rw [dif_pos e]
 exact e.choose_spec
theorem KW {t : Nat} (hs : Stops es h t) : wayT es h = t := by
 have e : ∃ t, Stops es h t := ⟨t, hs⟩
 unfold wayT
 rw [dif_pos e]
 exact e.choose_spec.uniq hs
/-! ### lists of half-edges that hang together -/
def Link (es : List Pr) (l : List Int) : Prop := ∀ (i : Nat) x y, l[i]? = some x → l[i + 1]? = some y → fromV es y = toV es x
def AllH (es : List Pr) (l : List Int) : Prop := ∀ x, x ∈ l → VH es x
def aboutL (l : List Int) : List Int := l.reverse.map tw
theorem Dd (h : Int) (t : Nat) : (wayL es h t).length = t + 1 := by simp [wayL]
theorem Gb {t i : Nat} (hi : i ≤ t) : (wayL es h t)[i]? = some (wI es h i) := by simp [wayL, show i < t + 1 by omega]
theorem Hd (h : Int) (t : Nat) : wayL es h (t + 1) = wayL es h t ++ [nxtH es (wI es h t)] := by unfold wayL; rw [List.range_succ, List.map_append]; rfl
theorem IJ (hV : Vld N es) {t : Nat} (hw : Way es h t) : Link es (wayL es h t) := by
 intro i x y hx hy
 have hi : i + 1 < t + 1 := by have := (List.getElem?_eq_some_iff.1 hy).1; rwa [Dd] at this
 rw [Gb (by omega)] at hx hy
 cases hx; cases hy
 exact hw.link hV (by omega)
theorem EK (hV : Vld N es) {t : Nat} (hw : Way es h t) : AllH es (wayL es h t) := by
 intro x hx
 obtain ⟨i, hi, rfl⟩ := List.mem_map.1 hx
 exact hw.all hV i (by have := List.mem_range.1 hi; omega)
theorem FF {l : List Int} (hl : AllH es l) : AllH es (aboutL l) := by
 intro x hx
 obtain ⟨y, hy, rfl⟩ := List.mem_map.1 hx
 exact (hl y (List.mem_reverse.1 hy)).tw
theorem Bv (l : List Int) : (aboutL l).length = l.length := by simp [aboutL]
theorem Dj {l : List Int} {i : Nat} (hi : i < l.length) : (aboutL l)[i]? = (l[l.length - 1 - i]?).map tw := by
 unfold aboutL
 rw [List.getElem?_map, List.getElem?_reverse hi]
theorem KQ {l : List Int} (ha : AllH es l) (hl : Link es l) : Link es (aboutL l) := by
 intro i x y hx hy
 have hi : i + 1 < l.length := by have := (List.getElem?_eq_some_iff.1 hy).1; rwa [Bv] at this
 rw [Dj (by omega)] at hx
 rw [Dj hi] at hy
 obtain ⟨x', hx', rfl⟩ := Option.map_eq_some_iff.1 hx
 obtain ⟨y', hy', rfl⟩ := Option.map_eq_some_iff.1 hy
 have := hl (l.length - 1 - (i + 1)) y' x' hy' (by rw [← hx']; congr 1; omega)
 rw [F4 (ha _ (List.mem_of_getElem? hy')), KY (ha _ (List.mem_of_getElem? hx')), this]
theorem Jh {a b : List Int} (ha : Link es a) (hb : Link es b) (hj : ∀ x y, a.getLast? = some x → b.head? = some y → fromV es y = toV es x) : Link es (a ++ b) := by
 intro i x y hx hy
 by_cases h1 : i + 1 < a.length
 ·rw [List.getElem?_append_left (by omega)] at hx
  rw [List.getElem?_append_left h1] at hy
  exact ha i x y hx hy
 ·by_cases h2 : i < a.length
  ·rw [List.getElem?_append_left h2] at hx
   rw [List.getElem?_append_right (by omega), show i + 1 - a.length = 0 by omega] at hy
   refine hj x y ?_ (by rw [List.head?_eq_getElem?]; exact hy)
   rw [List.getLast?_eq_getElem?, show a.length - 1 = i by omega]; exact hx
  ·rw [List.getElem?_append_right (by omega)] at hx hy
   rw [show i + 1 - a.length = i - a.length + 1 by omega] at hy
   exact hb _ x y hx hy
theorem link_drop {a : List Int} (ha : Link es a) (k : Nat) : Link es (a.drop k) := by
 intro i x y hx hy
 rw [List.getElem?_drop] at hx hy
 exact ha (k + i) x y hx (by rw [← hy]; congr 1)
/-! ### chains -/
/-- The way round from an edge comes back to it, through vertices of degree 2 LE. -/
def FreeC (es : List Pr) (e : Nat) : Prop := toV es (wI es (2 * e) (wayT es (2 * e))) = fromV es (2 * (e : Int)) ∧ degV es (fromV es (2 * (e : Int))) = 2
noncomputable def chainOf (es : List Pr) (e : Nat) : List Int :=
 if FreeC es e then wayOf es (2 * e) else aboutL (wayOf es (2 * e + 1)).tail ++ wayOf es (2 * e)
theorem Ec {e : Nat} (he : e < es.length) : VH es (2 * (e : Int)) := ⟨by omega, by omega⟩
theorem Do {e : Nat} (he : e < es.length) : VH es (2 * (e : Int) + 1) := ⟨by omega, by omega⟩
theorem tw_even (e : Nat) : tw (2 * (e : Int)) = 2 * (e : Int) + 1 := by unfold tw; rw [if_pos (by omega)]
theorem CR (h : Int) : wayOf es h ≠ [] := by
 intro e
 have := congrArg List.length e
 simp [wayOf, Dd] at this
theorem Ga (h : Int) : (wayOf es h)[0]? = some h := by unfold wayOf; rw [Gb (by omega)]; rfl
theorem Ey (h : Int) : (wayOf es h).getLast? = some (wI es h (wayT es h)) := by
 rw [List.getLast?_eq_getElem?]
 unfold wayOf
 rw [Dd, Gb (by omega)]; rfl
theorem HG (hV : Vld N es) {e : Nat} (he : e < es.length) : AllH es (chainOf es e) := by
 have h1 := EK hV (BT hV (Ec he)).way
 have h2 := EK hV (BT hV (Do he)).way
 unfold chainOf
 split
 ·exact h1
 ·intro x hx
  rcases List.mem_append.1 hx with hx | hx
  ·exact FF (fun y hy => h2 y (List.mem_of_mem_tail hy)) x hx
  ·exact h1 x hx
theorem KL (hV : Vld N es) {e : Nat} (he : e < es.length) : Link es (chainOf es e) := by
 have h1 := IJ hV (BT hV (Ec he)).way
 have h2 := IJ hV (BT hV (Do he)).way
 have a2 := EK hV (BT hV (Do he)).way
 unfold chainOf
 split
 ·exact h1
 ·have a3 : AllH es (wayOf es (2 * e + 1)).tail := fun y hy => a2 y (List.mem_of_mem_tail hy)
  have h3 : Link es (wayOf es (2 * e + 1)).tail := by rw [← List.drop_one]; exact link_drop h2 1
  refine Jh (KQ a3 h3) h1 fun x y hx hy => ?_
  rw [List.head?_eq_getElem?, Ga] at hy
  cases hy
  rw [List.getLast?_eq_getElem?, Bv] at hx
  have hpos : 0 < (wayOf es (2 * e + 1)).tail.length := by
   apply Nat.pos_of_ne_zero
   intro h0
   rw [h0] at hx
   have := (List.getElem?_eq_some_iff.1 hx).1
   rw [Bv, h0] at this
   omega
  rw [Dj (by omega), show (wayOf es (2 * e + 1)).tail.length - 1 - ((wayOf es (2 * e + 1)).tail.length - 1) = 0 by omega] at hx
  obtain ⟨z, hz, rfl⟩ := Option.map_eq_some_iff.1 hx
  rw [KY (a3 _ (List.mem_of_getElem? hz))]
  have hz' : (wayOf es (2 * e + 1))[1]? = some z := by rw [List.getElem?_tail] at hz; exact hz
  have := h2 0 _ z (Ga _) hz'
  rw [this, ← tw_even, KY (Ec he)]
theorem E6 (e : Nat) : chainOf es e ≠ [] := by
 unfold chainOf
 split
 ·exact CR _
 ·intro h; exact CR _ (List.append_eq_nil_iff.1 h).2
theorem KM (e : Nat) : (chainOf es e).getLast? = some (wI es (2 * e) (wayT es (2 * e))) := by
 unfold chainOf
 split
 ·exact Ey _
 ·rw [List.getLast?_append, Ey]; rfl
/-- The ends of the chain on which an edge lies. -/
noncomputable def endA (es : List Pr) (e : Nat) : Int := fromV es (((chainOf es e)[0]?).getD (-1))
noncomputable def endB (es : List Pr) (e : Nat) : Int := toV es (wI es (2 * e) (wayT es (2 * e)))
theorem Dm (hV : Vld N es) (hh : VH es h) : (wayOf es h).length ≤ es.length * 2 := by
 have := (BT hV hh).way.lt hV
 unfold wayOf
 rw [Dd]; omega
theorem chain_len (hV : Vld N es) {e : Nat} (he : e < es.length) : (chainOf es e).length ≤ es.length * 4 := by
 have h1 := Dm hV (Ec he)
 have h2 := Dm hV (Do he)
 unfold chainOf
 split
 ·omega
 ·rw [List.length_append, Bv, List.length_tail]; omega
/-- Which edges the chains are taken from: those that lie on no chain yet. -/
noncomputable def selU (es : List Pr) : Nat → List Nat
 | 0 => []
 | k + 1 => if ∃ e, e ∈ selU es k ∧ ∃ x, x ∈ chainOf es e ∧ x / 2 = k then selU es k else selU es k ++ [k]
theorem Gk : ∀ (k : Nat), (selU es k).length ≤ k
 | 0 => by simp [selU]
 | k + 1 => by
  have := Gk k
  unfold selU
  split
  ·omega
  ·simp; omega
end
end Go.Fl

namespace Go.Fl
open Go
open Classical
def srt (a b : Int) : Pr := (min a b, max a b)
/-- The ends of the chains. -/
noncomputable def endsU (es : List Pr) (k : Nat) : List Pr := (selU es k).map fun e => srt (endA es e) (endB es e)
def brV (es : List Pr) (n : Nat) : List Int := ((List.range n).filter fun (v : Nat) => decide (degV es (v : Int) ≠ 0 ∧ degV es (v : Int) ≠ 2)).map fun (v : Nat) => (v : Int)
def pairsOf : List Int → List Pr
 | [] => []
 | x :: r => r.map (srt x) ++ pairsOf r
def crossOf (S : List Int) : List Pr := (S.take 3).flatMap fun x => (S.drop 3).map (srt x)
/-- The least and those that are not joined to it, then the others. -/
def sidesOf (E : List Pr) (B : List Int) : List Int := (B.filter fun v => decide (srt (B.headD 0) v ∉ E)) ++ B.filter fun v => decide (srt (B.headD 0) v ∈ E)
def GoodE (E : List Pr) : Prop := E.Nodup ∧ ∀ p, p ∈ E → p.1 ≠ p.2
theorem D3 : ∀ {B : List Int} {q : Pr}, q ∈ pairsOf B ↔ ∃ (i j : Nat) (x y : Int), i < j ∧ B[i]? = some x ∧ B[j]? = some y ∧ q = srt x y
 | [], q => by simp [pairsOf]
 | x :: r, q => by
  unfold pairsOf
  rw [List.mem_append, D3, List.mem_map]
  constructor
  ·rintro (⟨y, hy, rfl⟩ | ⟨i, j, a, b, hij, ha, hb, rfl⟩)
   ·obtain ⟨j, hj⟩ := List.mem_iff_getElem?.1 hy
    exact ⟨0, j + 1, x, y, by omega, rfl, by simpa using hj, rfl⟩
   ·exact ⟨i + 1, j + 1, a, b, by omega, by simpa using ha, by simpa using hb, rfl⟩
  ·rintro ⟨i, j, a, b, hij, ha, hb, rfl⟩
   match i, j with
   | 0, j + 1 =>
    left
    simp at ha hb
    subst ha
    exact ⟨b, List.mem_of_getElem? hb, rfl⟩
   | i + 1, j + 1 =>
    right
    exact ⟨i, j, a, b, by omega, by simpa using ha, by simpa using hb, rfl⟩
theorem FJ {S : List Int} {q : Pr} : q ∈ crossOf S ↔ ∃ (i j : Nat) (x y : Int), i < 3 ∧ 3 ≤ j ∧ S[i]? = some x ∧ S[j]? = some y ∧ q = srt x y := by
 unfold crossOf
 rw [List.mem_flatMap]
 constructor
 ·rintro ⟨x, hx, hq⟩
  obtain ⟨y, hy, rfl⟩ := List.mem_map.1 hq
  obtain ⟨i, hi⟩ := List.mem_iff_getElem?.1 hx
  obtain ⟨j, hj⟩ := List.mem_iff_getElem?.1 hy
  rw [List.getElem?_take] at hi
  rw [List.getElem?_drop] at hj
  split at hi
  ·exact ⟨i, 3 + j, x, y, by omega, by omega, hi, hj, rfl⟩
  ·cases hi
 ·rintro ⟨i, j, x, y, hi, hj, hx, hy, rfl⟩
  refine ⟨x, List.mem_iff_getElem?.2 ⟨i, by rw [List.getElem?_take, if_pos hi]; exact hx⟩, List.mem_map.2 ⟨y, List.mem_iff_getElem?.2 ⟨j - 3, ?_⟩, rfl⟩⟩
  rw [List.getElem?_drop, show 3 + (j - 3) = j by omega]; exact hy
theorem Jw {α : Type} (p q : α → Bool) (hq : ∀ x, q x = !p x) (l : List α) : (l.filter p ++ l.filter q).Perm l := by
 have : q = fun x => !p x := funext hq
 rw [this]
 exact List.filter_append_perm p l
theorem Gj (E : List Pr) (B : List Int) : (sidesOf E B).Perm B := Jw _ _ (fun x => by by_cases h : srt (B.headD 0) x ∈ E <;> simp [h]) B
/-- How the program asks. -/
def KP (E : List Pr) (B : List Int) (d : Nat) : Prop :=
 GoodE E ∧ ((B.length = 5 ∧ d = 4 ∧ (∀ q, q ∈ pairsOf B → q ∈ E) ∧ E.length = 10) ∨ (B.length = 6 ∧ d = 3 ∧ (∀ q, q ∈ crossOf (sidesOf E B) → q ∈ E) ∧ E.length = 9))
/-- A subdivision of K5 or K3,3, but for vertices without edges. -/
def KuraOk (n : Nat) (es : List Pr) : Prop := ∃ d, (∀ v, v ∈ brV es n → degV es v = d) ∧ KP (endsU es es.length) (brV es n) d
end Go.Fl

namespace Go.Fl
open Go Go.Proofs
theorem Fu {es : List Pr} {h : Int} : nxtH es h = if ((outs es (toV es h))[0]?).getD (-1) = tw h then ((outs es (toV es h))[1]?).getD (-1) else ((outs es (toV es h))[0]?).getD (-1) := rfl
structure WyI where
 t : Nat
 v : Value
theorem Ff {N : Int} {es : List Pr} {M : AdjM} {p : Option Addr} {w : World} {h : Int} (hA : AV w N es M p) (hh : VH es h) :
  Calls Tryz.prog 180 #[.pointer p, .int .i64 h] w (Ret w [] fun r L => L = [slc r 3 1 (ints (wayOf es h))]) := by
 have hV := hA.vld
 have hfew := hV.few
 have hst := BT hV hh
 refine At (args := [_, _]) (L := []) Tryz.func180 rfl Tryz.ntmps180 rfl (Own.start _ _) ?_
 refine Zs ?_
 refine Za ?_
 refine Zx <| Zs ?_
 refine Zm ?_
 refine Zm ?_
 refine Seq.rel0 rfl rfl (Aq E1 rfl rfl rfl (fun w' hw => BV (hA.keep hw) h)) ?_
 rintro _ rfl
 refine Za ?_
 refine Zx <| Zs ?_
 refine Zm ?_
 refine Zw (AP (cs := #[_]) rfl rfl Tryz.underlying44 AN B6 rfl (by decide) (by decide) rfl rfl) fun g13 => ?_
 refine Za ?_
 refine Zx <| DC.seq <| Zs ?_
 refine Zm ?_
 refine Zm ?_
 refine Seq.rel0 rfl rfl (Aq GL rfl rfl rfl (fun w' hw => C2 (hA.keep hw) h)) ?_
 rintro _ rfl
 refine Za ?_
 refine Zx <| DC.block ?_
 refine DC.own (M := [slc (.slice (some ⟨g13, 0, none⟩) 1 1) 3 1 (ints (wayL es h 0))]) (fun w hw => B7 (len := 1) (cap := 1) rfl (by decide) (by omega) (by omega) rfl rfl hw) ?_
 refine DC.loop (ι := WyI) (fun j => Way es h j.t)
  (fun j => [(0, .pointer p), (1, .int .i64 (wI es h j.t)), (5, .int .i64 (fromV es h)), (6, j.v), (7, .int .i64 (toV es (wI es h j.t)))])
  (fun j => [slc j.v 3 1 (ints (wayL es h j.t))]) (fun j => es.length * 2 - j.t) ⟨0, _⟩ ⟨hh, fun i hi => absurd hi (Nat.not_lt_zero _)⟩ ⟨rfl, rfl, rfl, rfl, rfl, trivial⟩ (.cons 0 rfl .nil) ?_
 rintro ⟨t, v⟩ hw
 dsimp only at hw ⊢
 have hlt := hw.lt hV
 have hvh := hw.all hV t (Nat.le_refl _)
 obtain ⟨hv0, hv1⟩ := hvh
 refine DC.seq <| Zs ?_
 refine Zm ?_
 refine Zm ?_
 refine Seq.rel0 rfl rfl (Aq JB rfl rfl rfl (fun w' hw => Cn (hA.keep hw) _)) ?_
 rintro _ rfl
 refine Zo (AX rfl rfl rfl) ?_
 refine Zm ?_
 refine Seq.split 21 rfl (fun k4_4 => ?_) (fun k4_4 => ?_)
 ·refine Zm ?_
  refine Zm ?_
  refine Zo (BS rfl rfl rfl) ?_
  refine Zt ?_
  refine Zx ?_
  refine Zd (fun c4 => ?_) fun c4 => ?_
  ·have hc : contH es (fromV es h) (wI es h t) := ⟨by simp at k4_4; unfold degV; omega, by simpa using c4⟩
   have hw1 : Way es h (t + 1) := ⟨hh, fun i hi => by
    rcases Nat.lt_succ_iff_lt_or_eq.1 hi with h1 | rfl
    ·exact hw.cont i h1
    ·exact hc⟩
   have hlt1 := hw1.lt hV
   have hvh := hw.all hV t (Nat.le_refl _)
   obtain ⟨s1, s2, s3, s4, s5⟩ := DZ hV hvh hc.1
   refine DC.skip <| Fin.then <| DC.seq <| DC.block <| Zs ?_
   refine Zm ?_
   refine Zo (Gu rfl rfl rfl (by omega)) ?_
   refine Za ?_
   refine Zx <| Zs ?_
   refine Zm ?_
   refine Zm ?_
   refine Seq.rel0 rfl rfl (Aq en193 rfl rfl rfl (fun w' hw => JV (hA.keep hw) _)) ?_
   rintro _ rfl
   refine Za ?_
   refine Zx <| DC.seq <| Zs ?_
   refine Zm ?_
   refine Zm ?_
   refine Zo (AX rfl rfl rfl) ?_
   refine Zx ?_
   refine Zd (fun c8 => ?_) fun c8 => ?_
   ·refine DC.region ?_
    refine Zm ?_
    refine Zm ?_
    refine Seq.rel0 rfl rfl (Aq en194 rfl rfl rfl (fun w' hw => JX (hA.keep hw) _)) ?_
    rintro _ ⟨r, rfl, hr, _⟩
    have hout0 : (outs es (toV es (wI es h t)))[0]? = some (tw (wI es h t)) := by
     have h1 : ((outs es (toV es (wI es h t)))[0]?).getD (-1) = tw (wI es h t) := by
      unfold tw
      simpa using c8
     cases hq : (outs es (toV es (wI es h t)))[0]? with
     | none => rw [hq] at h1; have := hvh.tw.1; simp at h1; omega
     | some x => rw [hq] at h1; simpa using h1
    have hrr : r = wI es h (t + 1) := by
     show r = nxtH es (wI es h t)
     rw [Fu, hout0]
     simp only [Option.getD_some, if_true]
     exact hr _ 0 (by rw [hout0]; rfl)
    subst hrr
    refine Za ?_
    refine Zx <| DC.region ?_
    refine Zm ?_
    refine Zm ?_
    refine Zw (AP (cs := #[_]) rfl rfl Tryz.underlying44 AN B6 rfl (by decide) (by decide) rfl rfl) fun g42 => ?_
    refine Seq.gen rfl rfl (AR rfl rfl rfl Tryz.underlying44 AN DP B6 rfl (by decide) (by decide) (fun w hw => hw.pick (.cons 1 rfl .nil)) (.inl ⟨_, _, rfl, Ak rfl⟩) rfl (Br [_] []) (by simp [Dd]; omega)) ?_
    rintro v43 _ rfl
    refine Za ?_
    refine Seq.nil <| Fin.inBlock <| Fin.then <| DC.region ?_
    refine Zm ?_
    refine Zm ?_
    try (
     have hout0 : ((outs es (toV es (wI es h t)))[0]?).getD (-1) = wI es h (t + 1) := by
      show _ = nxtH es (wI es h t)
      rw [Fu, if_neg (by unfold tw; simpa using c8)]
     rw [hout0])
    refine Seq.rel0 rfl rfl (Aq GL rfl rfl rfl (fun w' hw => C2 (hA.keep hw) _)) ?_
    rintro _ rfl
    refine Za ?_
    refine Seq.nil ?_
    refine Fin.again ⟨t + 1, v43⟩ (by dsimp only; omega) hw1 ⟨rfl, rfl, rfl, rfl, rfl, trivial⟩ (.cons' 0 rfl (by dsimp only; rw [Hd, A4]; rfl) .nil)
   ·refine DC.skip <| Fin.then <| DC.region ?_
    refine Zm ?_
    refine Zm ?_
    refine Zw (AP (cs := #[_]) rfl rfl Tryz.underlying44 AN B6 rfl (by decide) (by decide) rfl rfl) fun g42 => ?_
    refine Seq.gen rfl rfl (AR rfl rfl rfl Tryz.underlying44 AN DP B6 rfl (by decide) (by decide) (fun w hw => hw.pick (.cons 1 rfl .nil)) (.inl ⟨_, _, rfl, Ak rfl⟩) rfl (Br [_] []) (by simp [Dd]; omega)) ?_
    rintro v43 _ rfl
    refine Za ?_
    refine Seq.nil <| Fin.inBlock <| Fin.then <| DC.region ?_
    refine Zm ?_
    refine Zm ?_
    try (
     have hout0 : ((outs es (toV es (wI es h t)))[0]?).getD (-1) = wI es h (t + 1) := by
      show _ = nxtH es (wI es h t)
      rw [Fu, if_neg (by unfold tw; simpa using c8)]
     rw [hout0])
    refine Seq.rel0 rfl rfl (Aq GL rfl rfl rfl (fun w' hw => C2 (hA.keep hw) _)) ?_
    rintro _ rfl
    refine Za ?_
    refine Seq.nil ?_
    refine Fin.again ⟨t + 1, v43⟩ (by dsimp only; omega) hw1 ⟨rfl, rfl, rfl, rfl, rfl, trivial⟩ (.cons' 0 rfl (by dsimp only; rw [Hd, A4]; rfl) .nil)
  ·refine DC.exit <| Ad <| Ad <| Ag <| Fin.then <| Zs ?_
   refine Zm ?_
   refine Za ?_
   refine Zx <| DC.ret ?_
   have hT : wayT es h = t := KW ⟨hw, fun ⟨h1, h2⟩ => by first | (simp at c4; exact h2 c4) | (unfold degV at h1; simp at k4_4; omega)⟩
   refine Fin.weak (E' := [(4, _)]) (L' := [slc v 3 1 (ints (wayL es h t))]) ⟨rfl, trivial⟩ (.cons 0 rfl .nil) ?_
   refine Aj (.inl rfl) rfl rfl ?_
   unfold wayOf
   rw [hT]
 ·refine Zk ?_
  refine Zk ?_
  refine Zk ?_
  refine Zg ?_
  refine Zx ?_
  refine Bw rfl ?_
  refine DC.exit <| Ad <| Ad <| Ag <| Fin.then <| Zs ?_
  refine Zm ?_
  refine Za ?_
  refine Zx <| DC.ret ?_
  have hT : wayT es h = t := KW ⟨hw, fun ⟨h1, h2⟩ => by first | (simp at c4; exact h2 c4) | (unfold degV at h1; simp at k4_4; omega)⟩
  refine Fin.weak (E' := [(4, _)]) (L' := [slc v 3 1 (ints (wayL es h t))]) ⟨rfl, trivial⟩ (.cons 0 rfl .nil) ?_
  refine Aj (.inl rfl) rfl rfl ?_
  unfold wayOf
  rw [hT]
/-- A slice of integers, its place written out. -/
def SlB (w : World) (v : Value) (xs : List Int) : Prop :=
 (∃ A c, v = .slice A 0 c ∧ xs = []) ∨ ∃ g off c, v = .slice (some ⟨g, off, none⟩) xs.length c ∧ xs.length ≤ c ∧ c ≤ 9223372036854775807 ∧ ∀ (j : Nat) x, xs[j]? = some x → w.cell? ⟨g, off + j, none⟩ = some (.int .i64 x)
section
variable {w0 w w' : World} {K : List Nat} {L F : List Chunk} {v : Value} {xs : List Int} {t : Nat}
theorem SlB.keep0 (h : SlB w0 v xs) (hw : Own w0 [] w L) : SlB w v xs := by
 rcases h with h | ⟨g, off, c, rfl, h1, h2, h3⟩
 ·exact .inl h
 ·refine .inr ⟨g, off, c, rfl, h1, h2, fun j x hx => ?_⟩
  have hc := h3 j x hx
  rw [hw.oldCell (World.block_lt_of_cell? w0 _ hc) (by simp)]; exact hc
theorem EN (hw : Own w0 K w (slc v t 1 (ints xs) :: F)) : SlB w v xs := by
 rcases B3 hw with ⟨rfl, h, _⟩ | ⟨g, len, cap, sp, rfl, h1, h2, h3, h4, hO⟩
 ·exact .inl ⟨_, _, rfl, by cases xs; rfl; simp [ints] at h⟩
 ·simp at h1
  subst h1
  refine .inr ⟨g, 0, cap, rfl, h2, h3, fun j x hx => ?_⟩
  have := hO.holds _ (List.mem_cons_self ..)
  rw [cell_of_row w g _ _ t (0, 0) this]
  have hj := (List.getElem?_eq_some_iff.1 hx).1
  rw [List.getElem?_toArray, Nat.zero_add, List.getElem?_append_left (by simpa using hj), BW hx]
/-- A part of it. -/
theorem SlB.drop {A : Option Addr} {len c k : Nat} (h : SlB w (.slice A len c) xs) (hk : k ≤ len) : SlB w (.slice (if c = k then A else A.map (·.add (k * 1))) (len - k) (c - k)) (xs.drop k) := by
 rcases h with ⟨A', c', e, rfl⟩ | ⟨g, off, c', e, h1, h2, h3⟩
 ·cases e
  obtain rfl : k = 0 := by omega
  exact .inl ⟨_, _, rfl, by simp⟩
 ·injection e with e1 e2 e3
  subst e1 e2 e3
  by_cases hl : k = xs.length
  ·exact .inl ⟨_, _, by rw [hl, Nat.sub_self], by rw [hl, List.drop_length]⟩
  ·rw [if_neg (by omega)]
   refine .inr ⟨g, off + k, c - k, ?_, by rw [List.length_drop]; omega, by omega, fun j x hx => ?_⟩
   ·rw [List.length_drop]
    congr 1
    simp only [Option.map_some, Addr.add, Nat.mul_one]
    by_cases h0 : k = 0
    ·subst h0; simp
    ·rw [if_neg h0]
   ·rw [List.getElem?_drop] at hx
    rw [Nat.add_assoc]; exact h3 _ _ hx
theorem SlB.take {A : Option Addr} {len c k : Nat} (h : SlB w (.slice A len c) xs) (hl : len = xs.length) (hk : k ≤ len) : SlB w (.slice A k c) (xs.take k) := by
 rcases h with ⟨A', c', e, rfl⟩ | ⟨g, off, c', e, h1, h2, h3⟩
 ·cases e
  obtain rfl : k = 0 := by omega
  exact .inl ⟨_, _, rfl, by simp⟩
 ·injection e with e1 e2 e3
  subst e1 e2 e3
  refine .inr ⟨g, off, c, by rw [List.length_take, Nat.min_eq_left hk], by rw [List.length_take]; omega, h2, fun j x hx => ?_⟩
  rw [List.getElem?_take] at hx
  split at hx
  ·exact h3 j x hx
  ·cases hx
theorem SlB.slv (h : SlB w v xs) (hf : xs.length ≤ 17592186044416) : ∃ A c, v = .slice A xs.length c ∧ Rd w A (ints xs) := by
 rcases h with ⟨A, c, rfl, rfl⟩ | ⟨g, off, c, rfl, h1, h2, h3⟩
 ·exact ⟨A, c, rfl, fun j u h => by simp [ints] at h⟩
 ·refine ⟨_, c, rfl, fun j u hj => ⟨_, rfl, ?_⟩⟩
  unfold ints at hj
  rw [List.getElem?_map, Option.map_eq_some_iff] at hj
  obtain ⟨x, hx, rfl⟩ := hj
  have : (⟨g, off, none⟩ : Addr).add j = ⟨g, off + j, none⟩ := by
   unfold Addr.add
   by_cases h0 : j = 0
   ·subst h0; simp
   ·rw [if_neg h0]
  rw [this]; exact h3 j x hx
theorem La {vs : List Value} {n : Nat} (h : w'.ownsRow w.heap.size t 1 v n vs) (hl : vs.length = n) (hb : RowKit.Below w.heap.size w w') : Own w [] w' [slc v t 1 vs] := by
 subst hl
 have hB : ∀ g, g ∈ v.ownBlock.toList → w.heap.size ≤ g ∧ g < w'.heap.size := by
  intro g hg
  rcases h.2 with ⟨rfl, _⟩ | ⟨g', cap, cur, rfl, h1, h2, _⟩
  ·simp [Value.ownBlock] at hg
  ·simp [Value.ownBlock] at hg
   subst hg
   exact ⟨h1, (Array.getElem?_eq_some_iff.1 h2).1⟩
 refine ⟨hb.os, hb.tape, hb.output, .inl trivial, hb.size, fun k hk _ => hb.block k hk, ?_, fun g hg => .inr (hB g (by simpa [slc] using hg)).1, fun g hg => (hB g (by simpa [slc] using hg)).2, fun c hc => ?_⟩
 ·simp only [idsOf_cons, idsOf_nil, List.append_nil, slc]
  cases v.ownBlock <;> simp
 ·simp at hc; subst hc
  show w'.ownsRow 0 t 1 v (vs.length / 1) vs
  rw [Nat.div_one]
  refine ⟨h.1, ?_⟩
  rcases h.2 with h2 | ⟨g', cap, cur, e, h1, r⟩
  ·exact .inl h2
  ·exact .inr ⟨g', cap, cur, e, Nat.zero_le _, r⟩
theorem C8 (hv : SlB w v xs) (hl : xs.length ≤ 17592186044416) :
  Calls Tryz.prog 52 #[v] w (Ret w [] fun r L => L = [slc r 3 1 (ints xs)]) := by
 rcases hv with ⟨A, c, rfl, rfl⟩ | ⟨g, off, c, rfl, h1, h2, h3⟩
 ·cases A with
  | none =>
   refine (Tryz.slices_Clone_int_nil 0 c w).mono ?_
   rintro e w' ⟨rfl, rfl⟩
   exact ⟨_, _, rfl, rfl, Bm (Own.start _ _)⟩
  | some a =>
   refine (Tryz.slices_Clone_int_zero a c w).mono ?_
   rintro e w' ⟨v', rfl, h1, _, h2⟩
   exact ⟨_, _, rfl, rfl, La h1 rfl h2⟩
 ·refine (Tryz.slices_Clone_int g off xs.length c xs w (Nat.le_refl _) (by omega) (fun j hj => ?_)).mono ?_
  ·rw [List.getD_eq_getElem?_getD, List.getElem?_eq_getElem hj]
   exact h3 j _ (List.getElem?_eq_getElem hj)
  ·rintro e w' ⟨v', rfl, h4, _, h5⟩
   rw [List.take_length] at h4
   exact ⟨_, _, rfl, rfl, La h4 (by simp) h5⟩
theorem own_map {g : Nat} {cs : Array Value} (hg : w.heap[g]? = some (.cells cs t (0, 0))) (f : Array Value → Array Value) (k : Nat) : Own w [g] (Sort.mapBlock (Sort.ahead w k) g f) [blk g t (f cs)] := by
 have hlt : g < w.heap.size := (Array.getElem?_eq_some_iff.1 hg).1
 refine ⟨rfl, rfl, rfl, .inl trivial, by simp [Sort.mapBlock, Sort.ahead], fun k hk hn => ?_, by simp [blk], fun x hx => ?_, fun x hx => ?_, fun c hc => ?_⟩
 ·simp at hn
  simp only [Sort.mapBlock, Sort.ahead, Array.getElem?_modify]
  rw [if_neg (by omega)]
 ·simp [blk] at hx; subst hx; exact .inl (by simp)
 ·simp [blk] at hx; subst hx; simpa [Sort.mapBlock, Sort.ahead] using hlt
 ·simp at hc; subst hc
  simp [blk, Sort.mapBlock, Sort.ahead, Array.getElem?_modify, hg, Sort.onCells]
theorem put_ints {a b : List Int} {sp : List Value} (h : b.length = a.length) : Sort.putCells (Value.int .i64) 0 b.toArray (ints a ++ sp).toArray = (ints b ++ sp).toArray := by
 apply Array.ext_getElem?
 intro k
 unfold Sort.putCells
 rw [Array.getElem?_mapIdx]
 simp only [List.getElem?_toArray, List.size_toArray, Nat.zero_le, true_and, Nat.zero_add, Nat.sub_zero]
 by_cases hk : k < b.length
 ·rw [List.getElem?_append_left (by simp; omega), List.getElem?_append_left (by simp; omega)]
  simp [ints, hk, show k < a.length by omega]
 ·rw [List.getElem?_append_right (by simp; omega), List.getElem?_append_right (by simp; omega)]
  have hk' : ¬ k < a.length := by omega
  simp only [h, hk', if_false, Option.map_id_fun', id, ints_length]
theorem Fj (hO : Own w (idsOf [slc v 3 1 (ints xs)]) w [slc v 3 1 (ints xs)]) :
  Calls Tryz.prog 53 #[v] w (Ret w (idsOf [slc v 3 1 (ints xs)]) fun r M => M = [slc v 3 1 (ints xs.reverse)]) := by
 rcases B3 hO with ⟨rfl, h, _⟩ | ⟨g, len, cap, sp, rfl, h1, h2, h3, h4, hb⟩
 ·obtain rfl : xs = [] := by cases xs; rfl; simp [ints] at h
  refine (Tryz.slices_Reverse_int_empty none 0 w).mono ?_
  rintro e w' ⟨rfl, rfl⟩
  exact ⟨_, _, rfl, rfl, hO⟩
 ·simp at h1
  subst h1
  have hg := hb.holds _ (List.mem_cons_self ..)
  refine (Tryz.slices_Reverse_int g 0 cap xs w (fun j hj => ?_) (by omega)).mono ?_
  ·have hj' : j < xs.length := by simpa using hj
   constructor
   ·rw [cell_of_row w g _ _ _ (0, 0) hg]
    rw [List.getElem?_toArray, Nat.zero_add, List.getElem?_append_left (by simpa using hj')]
    simp [ints, hj']
   ·have hg' : w.heap[g]? = some (.cells (ints xs ++ sp).toArray 3 (0, 0)) := hg
    simp [World.frozen?, hg']
  ·rintro e w' ⟨rfl, k, rfl⟩
   refine ⟨_, _, rfl, rfl, ?_⟩
   have := own_map hg (Sort.putCells (Value.int .i64) 0 xs.reverse.toArray) k
   rw [put_ints (by simp)] at this
   refine B7 (by simp) (by decide) h2 h3 (by simp at h4 ⊢; omega) ?_ this
   simp
end
end Go.Fl

namespace Go.Fl
open Go
section
variable {P : Program} {ops : Array Oper} {w0 w : World} {K : List Nat} {n : Nat} {ds : List Deferred} {E : Env} {L F : List Chunk} {o : Oper} {x y z : Operand} {v u : Value}
theorem Gl {t tb i j l c : Nat} {ad : Addr} {xs : List Int} {q : Int} (hi : L[i]? = some (slc (.slice (some ad) l c) tb 1 (ints xs))) (ho : o.op = .store t x y) (hx : ev n E x = some (.pointer (some (ad.add j))))
  (hy : ev n E y = some (.int .i64 q)) (hs : sizeT P t = some 1) (hj : j < xs.length) : Sto P w0 K n ds E L o (L.set i (slc (.slice (some ad) l c) tb 1 (ints (xs.set j q)))) := by
 intro a w ha hw
 have hw1 := hw.perm (AI hi).symm
 rcases B3 hw1 with ⟨e, _, _⟩ | ⟨g, len, cap, sp, e, h1, h2, h3, h4, hO⟩
 ·cases e
 ·cases e
  simp at h1
  subst h1
  rw [AC] at hx
  have hb := hO.holds _ (List.mem_cons_self ..)
  have hlt : j < (ints xs ++ sp).toArray.size := by simp; omega
  have hcell : w.cell? ⟨g, j, none⟩ = some ((ints xs ++ sp).toArray[j]) := by rw [cell_of_row w g j _ tb (0, 0) hb]; exact Array.getElem?_eq_getElem hlt
  have hfr := frozen_of_row w g j _ tb hb
  have hst : (store (Addr.add ⟨g, j, none⟩ 0) (Value.int .i64 q)).run P w = .ok () (w.setCell ⟨g, j, none⟩ (.int .i64 q)) := by
   rw [AW, run_store P w _ _ _ rfl]
   simp only [Nat.add_zero, hcell, hfr]; simp
  refine ⟨w.setCell ⟨g, j, none⟩ (.int .i64 q), ?_, ?_⟩
  ·simp [execOp, ho, ha.ev hx, ha.ev hy, Instr.storeAt, Instr.sureAddr, storeVar, Value.cells, Bs hs, storeCells, hst]
  ·have h5 := hO.set j (.int .i64 q)
   rw [K2 hj] at h5
   refine (B7 (m := 1) (vs := ints (xs.set j q)) (by simp) (by decide) h2 h3 (by simp at h4 ⊢; omega) ?_ h5).perm (DX hi)
   simp
theorem Seq.slcs {Q : Exit → Act → World → Prop} {cd : List Oper} {i t : Nat} {xs : List Int} (hi : L[i]? = some (slc v t 1 (ints xs))) (hf : xs.length ≤ 17592186044416)
  (h : ∀ A c, v = .slice A xs.length c → (xs ≠ [] → ∃ ad, A = some ad) → Seq P ops w0 K n ds Q cd E L) : Seq P ops w0 K n ds Q cd E L := by
 intro a w ha hw
 obtain ⟨A, cap, e, hr, _⟩ := C4 hw i hi hf
 refine h A cap e (fun hne => ?_) a w ha hw
 obtain ⟨q, hq⟩ : ∃ q, xs[0]? = some q := ⟨_, List.getElem?_eq_getElem (List.length_pos_iff.2 hne)⟩
 obtain ⟨ad, e, _⟩ := hr.int hq
 exact ⟨ad, e⟩
theorem Fin.slcs {Qb : Act → World → Prop} {i t : Nat} {xs : List Int} (hi : L[i]? = some (slc v t 1 (ints xs))) (hf : xs.length ≤ 17592186044416)
  (h : ∀ A c, v = .slice A xs.length c → (xs ≠ [] → ∃ ad, A = some ad) → Fin w0 K n ds Qb E L) : Fin w0 K n ds Qb E L := by
 intro a w ha hw
 obtain ⟨A, cap, e, hr, _⟩ := C4 hw i hi hf
 refine h A cap e (fun hne => ?_) a w ha hw
 obtain ⟨q, hq⟩ : ∃ q, xs[0]? = some q := ⟨_, List.getElem?_eq_getElem (List.length_pos_iff.2 hne)⟩
 obtain ⟨ad, e, _⟩ := hr.int hq
 exact ⟨ad, e⟩
end
end Go.Fl

namespace Go.Fl
open Go Go.Proofs
structure AbI where
 i : Nat
 zs : List Int
theorem Da {w : World} {v : Value} {xs : List Int} (hv : SlB w v xs) (hl : xs.length ≤ 17592186044416) (hx : ∀ x, x ∈ xs → 0 ≤ x ∧ x ≤ 9223372036854775807) :
  Calls Tryz.prog 183 #[v] w (Ret w [] fun r L => L = [slc r 3 1 (ints (aboutL xs))]) := by
 refine At (args := [_]) (L := []) Tryz.func183 rfl Tryz.ntmps183 rfl (Own.start _ _) ?_
 refine Zs ?_
 refine Za ?_
 refine Zx <| Zs ?_
 refine Zm ?_
 refine Seq.rel rfl rfl (Aq en52 rfl rfl rfl (fun w' hw => C8 (hv.keep0 hw) hl)) ?_
 rintro vc _ rfl
 refine Za ?_
 refine Zx <| Zs ?_
 refine Zm ?_
 refine Seq.gen rfl rfl (BA en53 rfl rfl rfl (Lc := [slc vc 3 1 (ints xs)]) (F := []) (.refl _) (fun k hk => hk) (fun w' hw => Fj hw.self)) ?_
 rintro v8 _ ⟨_, rfl, rfl⟩
 refine Zx <| DC.seq <| DC.seq ?_
 have hrl : xs.reverse.length = xs.length := List.length_reverse
 refine DC.slcs (i := 0) (xs := xs.reverse) rfl (by omega) ?_
 rintro A c rfl hA
 rw [hrl]
 refine DC.region ?_
 refine Zm ?_
 refine Zn Tryz.underlying44 ?_
 refine Zm ?_
 refine Zx <| DC.block ?_
 refine DC.loop (ι := AbI) (fun j => j.i ≤ xs.length ∧ j.zs.length = xs.length ∧ ∀ (q : Nat), j.zs[q]? = if q < j.i then (xs.reverse[q]?).map tw else xs.reverse[q]?)
  (fun j => [(3, .slice A xs.length c), (10, .int .i64 xs.length), (11, .int .i64 j.i)])
  (fun j => [slc (.slice A xs.length c) 3 1 (ints j.zs)]) (fun j => xs.length - j.i) ⟨0, xs.reverse⟩ ⟨Nat.zero_le _, hrl, fun q => by rw [if_neg (Nat.not_lt_zero _)]⟩ ⟨rfl, rfl, rfl, trivial⟩ (.cons 0 rfl .nil) ?_
 rintro ⟨i, zs⟩ ⟨hi, hz, hq⟩
 dsimp only at hi hz hq ⊢
 refine Zs ?_
 refine Zc ?_
 refine Zx <| DC.seq ?_
 refine Zd (fun c4 => ?_) fun c4 => ?_
 ·have hlt : i < xs.length := by simpa using c4
  obtain ⟨ad, rfl⟩ := hA (fun e => by rw [e] at hrl; simp at hrl; omega)
  obtain ⟨y, hy⟩ : ∃ y, xs.reverse[i]? = some y := ⟨_, List.getElem?_eq_getElem (by omega)⟩
  have hzy : zs[i]? = some y := by rw [hq, if_neg (Nat.lt_irrefl _)]; exact hy
  obtain ⟨hy0, hy1⟩ := hx y (List.mem_reverse.1 (List.mem_of_getElem? hy))
  refine DC.skip <| Fin.then <| DC.seq <| DC.block <| Zs ?_
  refine Zm ?_
  refine Za ?_
  refine Zx <| DC.region ?_
  refine Zm ?_
  refine Zm ?_
  refine Zo (Ai (ad' := ad.add i) rfl rfl rfl Tryz.underlying44 AN (by omega) (by omega) rfl) ?_
  refine Zu (Ah rfl rfl AO (BE (i := 0) rfl hzy (by omega))) ?_
  refine Zo (Gu rfl rfl rfl (by omega)) ?_
  refine Zo (Ai (ad' := ad.add i) rfl rfl rfl Tryz.underlying44 AN (by omega) (by omega) rfl) ?_
  refine Zy (Gl (i := 0) (j := i) rfl rfl rfl rfl AN (by omega)) ?_
  refine Seq.nil <| Fin.inBlock <| Fin.then <| DC.region ?_
  refine Zp ?_
  refine Zm ?_
  refine Seq.nil ?_
  refine Fin.again ⟨i + 1, zs.set i (tw y)⟩ (by dsimp only; omega) ⟨by dsimp only; omega, by simp [hz], fun q => ?_⟩ ⟨rfl, rfl, rfl, trivial⟩ (.cons 0 rfl .nil)
  dsimp only
  rw [List.getElem?_set]
  by_cases hqi : i = q
  ·subst hqi
   rw [if_pos rfl, if_pos (by omega), if_pos (by omega), hy]; rfl
  ·rw [if_neg hqi, hq]
   by_cases h1 : q < i
   ·rw [if_pos h1, if_pos (by omega)]
   ·rw [if_neg h1, if_neg (by omega)]
 ·refine DC.exit <| Ad <| Ad <| Ag <| Fin.then <| Zs ?_
  refine Zm ?_
  refine Za ?_
  refine Zx <| DC.ret ?_
  have hie : i = xs.length := by simp at c4; omega
  subst hie
  have hze : zs = aboutL xs := by
   apply List.ext_getElem?
   intro q
   rw [hq]
   unfold aboutL
   rw [List.getElem?_map]
   by_cases h1 : q < xs.length
   ·rw [if_pos h1]
   ·rw [if_neg h1, List.getElem?_eq_none (by omega)]; rfl
  refine Fin.weak (E' := [(2, _)]) (L' := [slc (.slice A xs.length c) 3 1 (ints zs)]) ⟨rfl, trivial⟩ (.cons 0 rfl .nil) ?_
  refine Aj (.inl rfl) rfl rfl ?_
  rw [hze]
/-- How the ends of a chain as it is written come of its ends. -/
def WrtR (a b : Int) (c : List Int) : Prop := ∃ p q, c[0]? = some p ∧ c[c.length - 1]? = some q ∧ (a = b → p = q) ∧ (a ≠ b → p = min a b ∧ q = max a b)
structure WrI where
 vl : Value
 ad : Addr
 l : List Int
 c : Nat
 L : List Chunk
 a : Int
 b : Int
structure WrE (es : List Pr) (w : World) (n : Nat) (j : WrI) : Prop where
 val : j.vl = .slice (some j.ad) j.l.length j.c
 rds : ∀ w', Own w [] w' j.L → Rd w' (some j.ad) (ints j.l) ∧ SlB w' j.vl j.l
 len : j.l.length = n
 all : AllH es j.l
 hd : ∃ x, j.l[0]? = some x ∧ fromV es x = j.a
 la : ∃ y, j.l[j.l.length - 1]? = some y ∧ toV es y = j.b
theorem F3 {w : World} {L L' : List Chunk} {vl : Value} {ad : Addr} {l : List Int} {j : Nat} {x : Int} (h : ∀ w', Own w [] w' L' → Rd w' (some ad) (ints l) ∧ SlB w' vl l) (hp : ∀ w', Own w [] w' L → Own w [] w' L') (hj : l[j]? = some x) :
  Has w [] L (ad.add j) (.int .i64 x) := by
 intro w' hw
 obtain ⟨ad', e, hc⟩ := (h w' (hp w' hw)).1.int hj
 cases e; exact hc
theorem HV {w : World} {ad : Addr} {l : List Int} {n c t : Nat} (hf : l.length ≤ 17592186044416) :
  ∀ w', Own w [] w' [slc (.slice (some ad) n c) t 1 (ints l)] → Rd w' (some ad) (ints l) ∧ SlB w' (.slice (some ad) n c) l := by
 intro w' hw
 refine ⟨?_, EN hw⟩
 obtain ⟨A, cap, e, hr, _⟩ := C4 hw 0 rfl hf
 cases e; exact hr
theorem GX {es : List Pr} {l : List Int} {x y : Int} (ha : AllH es l) (hx : l[0]? = some x) (hy : l[l.length - 1]? = some y) :
  (∃ z, (aboutL l)[0]? = some z ∧ fromV es z = toV es y) ∧ ∃ z, (aboutL l)[(aboutL l).length - 1]? = some z ∧ toV es z = fromV es x := by
 have hp := (List.getElem?_eq_some_iff.1 hx).1
 refine ⟨⟨tw y, ?_, F4 (ha _ (List.mem_of_getElem? hy))⟩, ⟨tw x, ?_, KY (ha _ (List.mem_of_getElem? hx))⟩⟩
 ·rw [Dj hp, Nat.sub_zero, hy]; rfl
 ·rw [Bv, Dj (by omega), show l.length - 1 - (l.length - 1) = 0 by omega, hx]; rfl
structure WrJ where
 i : Nat
 m : Nat
structure WrK where
 i : Nat
 v : Value
theorem GZ {N : Int} {es : List Pr} {M : AdjM} {p : Option Addr} {w : World} {v : Value} {l : List Int} (hA : AV w N es M p) (hv : SlB w v l) (hne : l ≠ []) (hall : AllH es l) (hlk : Link es l) (hl : l.length ≤ 1000000000) :
  Calls Tryz.prog 161 #[.pointer p, v] w (Ret w [] fun r L => ∃ c, L = [slc r 3 1 (ints c)] ∧ c.length = l.length + 1 ∧
   ∀ x y, l[0]? = some x → l[l.length - 1]? = some y → WrtR (fromV es x) (toV es y) c) := by
 have hV := hA.vld
 have hfew := hV.few
 have hv' := hv
 obtain ⟨g, off, cap, rfl, hlc, hcm, hcell⟩ := hv.resolve_left (fun ⟨_, _, _, h⟩ => hne h)
 have hpos : 0 < l.length := List.length_pos_iff.2 hne
 obtain ⟨x0, hx0⟩ : ∃ x, l[0]? = some x := ⟨_, List.getElem?_eq_getElem hpos⟩
 obtain ⟨y0, hy0⟩ : ∃ y, l[l.length - 1]? = some y := ⟨_, List.getElem?_eq_getElem (by omega)⟩
 have hcL : ∀ {j : Nat} {x : Int}, l[j]? = some x → w.cell? ((⟨g, off, none⟩ : Addr).add j) = some (.int .i64 x) := fun hj => by rw [AW]; exact hcell _ _ hj
 refine At (args := [_, _]) (L := []) Tryz.func161 rfl Tryz.ntmps161 rfl (Own.start _ _) ?_
 refine Zs ?_
 refine Za ?_
 refine Zx <| DC.seq ?_
 refine AG (cl := [.q, .q, .q, .v, .r, .q, .q, .q, .q, .q, .q, .v, .r, .q, .q]) (A := [0, 0, 2, 6, 15, 0, 0, 0, 128, 384, 960, 1984, 4095, 8191, 16383]) (order := [0, 1, 2, 3, 4, 5, 6, 7, 8, 9, 10, 11, 12, 13, 14]) [] mixed (by kernel_rfl) (fun w hw => hw.pick .nil) ?_
 refine Ym ?_
 refine Ym ?_
 refine Yo rfl (Ai (ad' := (⟨g, off, none⟩ : Addr).add 0) rfl rfl rfl Tryz.underlying44 AN (by omega) (by omega) rfl) ?_
 refine Am rfl rfl rfl rfl (Ah rfl rfl AO (AE (hcL hx0))) ?_
 refine Flow.rel0 rfl rfl rfl rfl (Aq E1 rfl rfl rfl (fun w' hw => BV (hA.keep hw) _)) ?_
 rintro _ rfl
 refine Ym ?_
 refine Ym ?_
 refine Ym ?_
 refine Yo rfl (BM rfl rfl Tryz.underlying44) ?_
 refine Yo rfl (Ca rfl rfl rfl (by omega)) ?_
 refine Yo rfl (Ai (ad' := (⟨g, off, none⟩ : Addr).add (l.length - 1)) rfl rfl rfl Tryz.underlying44 AN (by omega) (by omega) (by rw [show ((l.length : Int) - 1).toNat = l.length - 1 by omega])) ?_
 refine Am rfl rfl rfl rfl (Ah rfl rfl AO (AE (hcL hy0))) ?_
 refine Flow.rel0 rfl rfl rfl rfl (Aq GL rfl rfl rfl (fun w' hw => C2 (hA.keep hw) _)) ?_
 rintro _ rfl
 refine Yo rfl (Aw rfl rfl) ?_
 refine Yo rfl (Aw rfl rfl) ?_
 refine Flow.end rfl ?_
 simp only [zq, zr]
 refine Fin.then ?_
 refine DC.cut (ι := WrI) (fun j => WrE es w l.length j ∧ (fromV es x0 = toV es y0 → j.a = j.b) ∧ (fromV es x0 ≠ toV es y0 → j.a = fromV es x0 ∧ j.b = toV es y0))
  (fun j => [(0, .pointer p), (1, j.vl), (5, .int .i64 j.a), (6, .int .i64 j.b)]) (fun j => j.L) ?first12 ?rest12
 case first12 =>
  refine Zs ?_
  refine Zm ?_
  refine Zm ?_
  refine Zo (AX rfl rfl rfl) ?_
  refine Zm ?_
  refine Seq.split 29 rfl (fun k2_3 => ?_) (fun k2_3 => ?_)
  ·refine Zm ?_
   refine Zm ?_
   refine Seq.rel0 rfl rfl (Aq JB rfl rfl rfl (fun w' hw => Cn (hA.keep hw) _)) ?_
   rintro _ rfl
   refine Zo (AX rfl rfl rfl) ?_
   refine Zt ?_
   refine Zx ?_
   refine Zd (fun c2 => ?_) fun c2 => ?_
   ·refine Zs ?_
    refine Za ?_
    refine Zx <| DC.seq <| Zs ?_
    refine Zm ?_
    refine Zn Tryz.underlying44 ?_
    refine Zm ?_
    refine Zx <| DC.block ?_
    refine DC.loop (ι := WrJ) (fun j => j.i ≤ l.length ∧ j.m < l.length) (fun j => [(0, .pointer p), (1, .slice (some ⟨g, off, none⟩) l.length cap), (7, .int .i64 j.m), (35, .slice (some ⟨g, off, none⟩) l.length cap), (36, .int .i64 l.length), (37, .int .i64 j.i)])
     (fun _ => []) (fun j => l.length - j.i) ⟨0, 0⟩ ⟨Nat.zero_le _, hpos⟩ ⟨rfl, rfl, rfl, rfl, rfl, rfl, trivial⟩ .nil ?_
    rintro ⟨i, m⟩ ⟨hi, hm⟩
    dsimp only at hi hm ⊢
    refine Zs ?_
    refine Zc ?_
    refine Zx <| DC.seq ?_
    refine Zd (fun c5 => ?_) fun c5 => ?_
    ·have hlt : i < l.length := by simpa using c5
     obtain ⟨x, hx⟩ : ∃ x, l[i]? = some x := ⟨_, List.getElem?_eq_getElem hlt⟩
     obtain ⟨y, hy⟩ : ∃ y, l[m]? = some y := ⟨_, List.getElem?_eq_getElem hm⟩
     refine DC.skip <| Fin.then <| DC.seq <| DC.block <| Zs ?_
     refine Zm ?_
     refine Zo (Ai (ad' := (⟨g, off, none⟩ : Addr).add i) rfl rfl rfl Tryz.underlying44 AN (by omega) (by omega) rfl) ?_
     refine Zu (Ah rfl rfl AO (AE (hcL hx))) ?_
     refine Za ?_
     refine Za ?_
     refine Zx <| DC.seq ?_
     refine AG (cl := [.q, .q, .r, .q, .q, .q, .q, .v, .r, .q]) (A := [0, 0, 3, 0, 0, 0, 48, 112, 255, 511]) (order := [0, 1, 2, 3, 4, 5, 6, 7, 8, 9]) [] mixed (by kernel_rfl) (fun w hw => hw.pick .nil) ?_
     refine Ym ?_
     refine Ym ?_
     refine Flow.rel0 rfl rfl rfl rfl (Aq E1 rfl rfl rfl (fun w' hw => BV (hA.keep hw) _)) ?_
     rintro _ rfl
     refine Ym ?_
     refine Ym ?_
     refine Ym ?_
     refine Yo rfl (Ai (ad' := (⟨g, off, none⟩ : Addr).add m) rfl rfl rfl Tryz.underlying44 AN (by omega) (by omega) rfl) ?_
     refine Am rfl rfl rfl rfl (Ah rfl rfl AO (AE (hcL hy))) ?_
     refine Flow.rel0 rfl rfl rfl rfl (Aq E1 rfl rfl rfl (fun w' hw => BV (hA.keep hw) _)) ?_
     rintro _ rfl
     refine Yo rfl (Cj rfl rfl rfl) ?_
     refine Flow.end rfl ?_
     simp only [zq, zr]
     refine Fin.then ?_
     refine Zd (fun c7 => ?_) fun c7 => ?_
     ·refine DC.region ?_
      refine Zm ?_
      refine Za ?_
      refine Seq.nil <| Fin.inBlock <| Fin.then <| DC.region ?_
      refine Zp ?_
      refine Zm ?_
      refine Seq.nil ?_
      refine Fin.again ⟨i + 1, i⟩ (by dsimp only; omega) ⟨by dsimp only; omega, by dsimp only; omega⟩ ⟨rfl, rfl, rfl, rfl, rfl, rfl, trivial⟩ .nil
     ·refine DC.skip <| Fin.inBlock <| Fin.then <| DC.region ?_
      refine Zp ?_
      refine Zm ?_
      refine Seq.nil ?_
      refine Fin.again ⟨i + 1, m⟩ (by dsimp only; omega) ⟨by dsimp only; omega, by dsimp only; omega⟩ ⟨rfl, rfl, rfl, rfl, rfl, rfl, trivial⟩ .nil
    ·refine DC.exit <| Ad <| Ad <| Ag <| Fin.then <| DC.seq ?_
     refine AG (cl := [.q, .q, .q, .r, .q, .q, .q, .g, .q]) (A := [0, 0, 3, 7, 0, 0, 48, 127, 255]) (order := [0, 1, 2, 3, 4, 5, 6, 7, 8]) [] mixed (by kernel_rfl) (fun w hw => hw.pick .nil) ?_
     refine Ym ?_
     refine Ym ?_
     refine Yo rfl (CK (lo := m) rfl rfl rfl Tryz.underlying44 AN (by omega)) ?_
     refine BP rfl rfl rfl rfl (Aq en52 rfl rfl rfl (fun w' hw => C8 ((hv'.keep0 hw).drop (by omega)) (by rw [List.length_drop]; omega))) ?_
     rintro vc _ rfl
     refine Ym ?_
     refine Ym ?_
     refine Yo rfl (CT (hi := m) rfl rfl rfl Tryz.underlying44 AN (by omega)) ?_
     refine Cu (V := _) rfl rfl rfl rfl rfl (AR rfl rfl rfl Tryz.underlying44 AN DP B6 rfl (by decide) (by decide) (fun w hw => hw.pick (.cons 0 rfl .nil)) (J4 (vs := ints (l.take m)) (k := m) (m := 1) (A := some ⟨g, off, none⟩) (fun j u hj => ⟨_, rfl, by
      unfold ints at hj
      rw [List.getElem?_map, Option.map_eq_some_iff] at hj
      obtain ⟨x, hx, rfl⟩ := hj
      rw [List.getElem?_take] at hx
      split at hx
      ·exact hcL hx
      ·cases hx⟩) (by simp; omega) (by simp) (fun h => by cases h)) (by simp; omega) (Br (l.take m) []) (by simp; omega)) (fun v L' hC w hw => hw.pick (.nil)) ?_
     rintro v61 _ rfl
     refine Yo rfl (Aw rfl rfl) ?_
     refine Flow.end rfl ?_
     simp only [zq, zr]
     refine Fin.then <| DC.seq ?_
     have hie : i = l.length := by simp at c5; omega
     rw [← A4]
     have hl1 : (l.drop m ++ l.take m).length = l.length := by rw [List.length_append, List.length_drop, List.length_take]; omega
     refine DC.slcs (i := 0) (xs := l.drop m ++ l.take m) rfl (by omega) ?_
     rintro A1 c1 rfl hA1
     obtain ⟨ad1, rfl⟩ := hA1 (fun e => by rw [e] at hl1; simp at hl1; omega)
     obtain ⟨z, hz⟩ : ∃ z, l[m]? = some z := ⟨_, List.getElem?_eq_getElem hm⟩
     have hz0 : (l.drop m ++ l.take m)[0]? = some z := by rw [List.getElem?_append_left (by rw [List.length_drop]; omega), List.getElem?_drop]; exact hz
     refine DC.region ?_
     refine Zm ?_
     refine Zm ?_
     refine Zo (Ai (ad' := ad1.add 0) rfl rfl rfl Tryz.underlying44 AN (by omega) (by omega) rfl) ?_
     refine Zu (Ah rfl rfl AO (BE (i := 0) rfl hz0 (by omega))) ?_
     refine Seq.rel0 rfl rfl (Aq E1 rfl rfl rfl (fun w' hw => BV (hA.keep hw) _)) ?_
     rintro _ rfl
     refine Za ?_
     refine Zx <| DC.region ?_
     refine Zm ?_
     refine Za ?_
     refine Seq.nil ?_
     have heq : fromV es x0 = toV es y0 := by first | simpa using k2_3 | (simp at k2_3; exact k2_3)
     refine AZ ⟨.slice (some ad1) (l.drop m ++ l.take m).length c1, ad1, l.drop m ++ l.take m, c1, [slc (.slice (some ad1) (l.drop m ++ l.take m).length c1) 3 1 (ints (l.drop m ++ l.take m))], fromV es z, fromV es z⟩
      ⟨⟨rfl, HV (by omega), hl1, fun x hx => ?_, ⟨z, hz0, rfl⟩, ?_⟩, fun _ => rfl, fun h => absurd heq h⟩ ⟨rfl, rfl, rfl, rfl, trivial⟩ (.cons 0 rfl .nil)
     ·rcases List.mem_append.1 hx with hx | hx
      ·exact hall x (List.mem_of_mem_drop hx)
      ·exact hall x (List.mem_of_mem_take hx)
     ·dsimp only
      rw [hl1]
      by_cases h0 : m = 0
      ·subst h0
       have hzx : z = x0 := by rw [hz] at hx0; exact Option.some.inj hx0
       exact ⟨y0, by simpa using hy0, by rw [hzx]; exact heq.symm⟩
      ·obtain ⟨y, hy⟩ : ∃ y, l[m - 1]? = some y := ⟨_, List.getElem?_eq_getElem (by omega)⟩
       refine ⟨y, ?_, (hlk (m - 1) y z hy (by rw [← hz]; congr 1; omega)).symm⟩
       rw [List.getElem?_append_right (by rw [List.length_drop]; omega), List.length_drop, List.getElem?_take, if_pos (by omega), ← hy]
       congr 1; omega
   ·refine DC.skip ?_
    refine AZ ⟨.slice (some ⟨g, off, none⟩) l.length cap, ⟨g, off, none⟩, l, cap, [], fromV es x0, toV es y0⟩
     ⟨⟨rfl, fun w' hw => ⟨?_, hv'.keep0 hw⟩, rfl, hall, ⟨x0, hx0, rfl⟩, ⟨y0, hy0, rfl⟩⟩, fun h => h, fun _ => ⟨rfl, rfl⟩⟩ ⟨rfl, rfl, rfl, rfl, trivial⟩ .nil
    obtain ⟨A, c, e, hr⟩ := (hv'.keep0 hw).slv (by omega)
    cases e; exact hr
  ·refine Zk ?_
   refine Zk ?_
   refine Zk ?_
   refine Zk ?_
   refine Zg ?_
   refine Zx ?_
   refine Bw rfl ?_
   refine DC.skip ?_
   refine AZ ⟨.slice (some ⟨g, off, none⟩) l.length cap, ⟨g, off, none⟩, l, cap, [], fromV es x0, toV es y0⟩
    ⟨⟨rfl, fun w' hw => ⟨?_, hv'.keep0 hw⟩, rfl, hall, ⟨x0, hx0, rfl⟩, ⟨y0, hy0, rfl⟩⟩, fun h => h, fun _ => ⟨rfl, rfl⟩⟩ ⟨rfl, rfl, rfl, rfl, trivial⟩ .nil
   obtain ⟨A, c, e, hr⟩ := (hv'.keep0 hw).slv (by omega)
   cases e; exact hr
 case rest12 =>
  rintro ⟨vl, ad, l1, c1, L1, a1, b1⟩ ⟨⟨hval, hrds, hlen, hall1, ⟨x1, hx1, hxa⟩, ⟨y1, hy1, hyb⟩⟩, hends⟩
  dsimp only at hval hrds hlen hall1 hx1 hxa hy1 hyb hends ⊢
  subst hval hxa hyb
  refine DC.cut (ι := WrI) (fun j => WrE es w l.length j ∧ (fromV es x0 = toV es y0 → j.a = j.b) ∧ (fromV es x0 ≠ toV es y0 → j.a = min (fromV es x0) (toV es y0) ∧ j.b = max (fromV es x0) (toV es y0)))
   (fun j => [(0, .pointer p), (1, j.vl)]) (fun j => j.L) ?first14 ?rest14
  case first14 =>
   refine DC.seq ?_
   refine AG (cl := [.q, .q, .q, .q, .q, .q, .q, .q, .q, .q, .q, .v, .r, .q, .q, .q, .q, .q, .q, .v, .r, .q, .q, .q]) (A := [0, 0, 3, 7, 15, 15, 63, 127, 255, 255, 767, 1791, 4095, 255, 255, 255, 33023, 98559, 246015, 508159, 1048575, 2097151, 4194303, 8388607]) (order := [0, 1, 2, 3, 4, 5, 6, 7, 8, 9, 10, 11, 12, 13, 14, 15, 16, 17, 18, 19, 20, 21, 22, 23]) [] mixed (by kernel_rfl) (fun w hw => hw.pick .nil) ?_
   refine Ym ?_
   refine Ym ?_
   refine Yo rfl (BH rfl rfl rfl) ?_
   refine Ym ?_
   refine Flow.split 71 rfl (fun k13_3 => ?_) (fun k13_3 => ?_)
   ·refine Yk ?_
    refine Yk ?_
    refine Yk ?_
    refine Yk ?_
    refine Yk ?_
    refine Yk ?_
    refine Yk ?_
    refine Yk ?_
    refine Yk ?_
    refine Yk ?_
    refine Yk ?_
    refine Yk ?_
    refine Yk ?_
    refine Yk ?_
    refine Yk ?_
    refine Yk ?_
    refine Yk ?_
    refine Yk ?_
    refine Yk ?_
    refine Yo rfl (Bg rfl rfl rfl) ?_
    refine Flow.end rfl ?_
    simp only [zq, zr]
    refine Fin.then ?_
    refine AM rfl ?_
    refine DC.region ?_
    refine Zm ?_
    refine Seq.rel rfl rfl (Aq Ly rfl rfl rfl (fun w' hw => Da (hrds w' hw).2 (by omega) (fun x hx => by have := hall1 x hx; obtain ⟨h0, h1⟩ := this; omega))) ?_
    rintro v93 _ rfl
    refine Za ?_
    refine Seq.nil ?_
    refine Fin.slcs (i := 0) (xs := aboutL l1) rfl (by rw [Bv]; omega) ?_
    rintro A3 c3 rfl hA3
    obtain ⟨ad3, rfl⟩ := hA3 (fun e => by have := congrArg List.length e; rw [Bv] at this; simp at this; rw [this] at hx1; simp at hx1)
    obtain ⟨e1, e2⟩ := GX hall1 hx1 hy1
    refine AZ ⟨.slice (some ad3) (aboutL l1).length c3, ad3, aboutL l1, c3, [slc (.slice (some ad3) (aboutL l1).length c3) 3 1 (ints (aboutL l1))], toV es y1, fromV es x1⟩
     ⟨⟨rfl, HV (by rw [Bv]; omega), by rw [Bv]; exact hlen, FF hall1, e1, e2⟩, fun h => (hends.1 h).symm, fun h => ?_⟩ ⟨rfl, rfl, trivial⟩ (.cons 0 rfl .nil)
    obtain ⟨q1, q2⟩ := hends.2 h
    dsimp only
    simp at k13_3
    omega
   ·refine Ym ?_
    refine Ym ?_
    refine Yo rfl (AX rfl rfl rfl) ?_
    refine Ym ?_
    refine Flow.split 75 rfl (fun k13_7 => ?_) (fun k13_7 => ?_)
    ·refine Ym ?_
     refine Ym ?_
     refine Yo rfl (Ai (ad' := ad.add 0) rfl rfl rfl Tryz.underlying44 AN (by omega) (by omega) rfl) ?_
     refine Am rfl rfl rfl rfl (Ah rfl rfl AO (F3 hrds (fun _ h => h) hx1)) ?_
     refine Flow.rel0 rfl rfl rfl rfl (Aq GL rfl rfl rfl (fun w' hw => C2 (hA.keep hw) _)) ?_
     rintro _ rfl
     refine Ym ?_
     refine Ym ?_
     refine Ym ?_
     refine Yo rfl (BM rfl rfl Tryz.underlying44) ?_
     refine Yo rfl (Ca rfl rfl rfl (by omega)) ?_
     refine Yo rfl (Ai (ad' := ad.add (l1.length - 1)) rfl rfl rfl Tryz.underlying44 AN (by omega) (by omega) (by rw [show ((l1.length : Int) - 1).toNat = l1.length - 1 by omega])) ?_
     refine Am rfl rfl rfl rfl (Ah rfl rfl AO (F3 hrds (fun _ h => h) hy1)) ?_
     refine Flow.rel0 rfl rfl rfl rfl (Aq E1 rfl rfl rfl (fun w' hw => BV (hA.keep hw) _)) ?_
     rintro _ rfl
     refine Yo rfl (BH rfl rfl rfl) ?_
     refine Yo rfl (Bg rfl rfl rfl) ?_
     refine Yo rfl (Bl rfl rfl rfl) ?_
     refine Flow.end rfl ?_
     simp only [zq, zr]
     refine Fin.then ?_
     refine Zd (fun c13 => ?_) fun c13 => ?_
     ·refine DC.region ?_
      refine Zm ?_
      refine Seq.rel rfl rfl (Aq Ly rfl rfl rfl (fun w' hw => Da (hrds w' hw).2 (by omega) (fun x hx => by have := hall1 x hx; obtain ⟨h0, h1⟩ := this; omega))) ?_
      rintro v93 _ rfl
      refine Za ?_
      refine Seq.nil ?_
      refine Fin.slcs (i := 0) (xs := aboutL l1) rfl (by rw [Bv]; omega) ?_
      rintro A3 c3 rfl hA3
      obtain ⟨ad3, rfl⟩ := hA3 (fun e => by have := congrArg List.length e; rw [Bv] at this; simp at this; rw [this] at hx1; simp at hx1)
      obtain ⟨e1, e2⟩ := GX hall1 hx1 hy1
      refine AZ ⟨.slice (some ad3) (aboutL l1).length c3, ad3, aboutL l1, c3, [slc (.slice (some ad3) (aboutL l1).length c3) 3 1 (ints (aboutL l1))], toV es y1, fromV es x1⟩
       ⟨⟨rfl, HV (by rw [Bv]; omega), by rw [Bv]; exact hlen, FF hall1, e1, e2⟩, fun h => (hends.1 h).symm, fun h => ?_⟩ ⟨rfl, rfl, trivial⟩ (.cons 0 rfl .nil)
      obtain ⟨q1, q2⟩ := hends.2 h
      dsimp only
      simp at k13_3
      simp at k13_7; omega
     ·refine DC.skip ?_
      refine AZ ⟨.slice (some ad) l1.length c1, ad, l1, c1, L1, fromV es x1, toV es y1⟩
       ⟨⟨rfl, hrds, hlen, hall1, ⟨x1, hx1, rfl⟩, ⟨y1, hy1, rfl⟩⟩, hends.1, fun h => ?_⟩ ⟨rfl, rfl, trivial⟩ (Pick.all _)
      obtain ⟨q1, q2⟩ := hends.2 h
      dsimp only
      simp at k13_3
      omega
    ·refine Yk ?_
     refine Yk ?_
     refine Yk ?_
     refine Yk ?_
     refine Yk ?_
     refine Yk ?_
     refine Yk ?_
     refine Yk ?_
     refine Yk ?_
     refine Yk ?_
     refine Yk ?_
     refine Yk ?_
     refine Yk ?_
     refine Yk ?_
     refine Yo rfl (Bl rfl rfl rfl) ?_
     refine Yo rfl (Bl rfl rfl rfl) ?_
     refine Flow.end rfl ?_
     simp only [zq, zr]
     refine Fin.then ?_
     refine Bw rfl ?_
     refine DC.skip ?_
     refine AZ ⟨.slice (some ad) l1.length c1, ad, l1, c1, L1, fromV es x1, toV es y1⟩
      ⟨⟨rfl, hrds, hlen, hall1, ⟨x1, hx1, rfl⟩, ⟨y1, hy1, rfl⟩⟩, hends.1, fun h => ?_⟩ ⟨rfl, rfl, trivial⟩ (Pick.all _)
     obtain ⟨q1, q2⟩ := hends.2 h
     dsimp only
     simp at k13_3
     omega
  case rest14 =>
   rintro ⟨vl, ad2, l2, c2, L2, a2, b2⟩ ⟨⟨hval, hrds2, hlen2, hall2, ⟨x2, hx2, hxa⟩, ⟨y2, hy2, hyb⟩⟩, hends2⟩
   dsimp only at hval hrds2 hlen2 hall2 hx2 hxa hy2 hyb hends2 ⊢
   subst hval hxa hyb
   refine Zs ?_
   refine Zm ?_
   refine Zm ?_
   refine Zo (Ai (ad' := ad2.add 0) rfl rfl rfl Tryz.underlying44 AN (by omega) (by omega) rfl) ?_
   refine Zu (Ah rfl rfl AO (F3 hrds2 (fun _ h => h) hx2)) ?_
   refine Seq.rel0 rfl rfl (Aq E1 rfl rfl rfl (fun w' hw => BV (hA.keep hw) _)) ?_
   rintro _ rfl
   refine Zw (AP (cs := #[_]) rfl rfl Tryz.underlying44 AN B6 rfl (by decide) (by decide) rfl rfl) fun g99 => ?_
   refine Za ?_
   refine Zx <| DC.seq <| Zs ?_
   refine Zm ?_
   refine Zn Tryz.underlying44 ?_
   refine Zm ?_
   refine Zx <| DC.block ?_
   refine DC.own (M := slc (.slice (some ⟨g99, 0, none⟩) 1 1) 3 1 (ints [fromV es x2]) :: L2) (fun w hw => B7 (len := 1) (cap := 1) rfl (by decide) (by omega) (by omega) rfl rfl hw) ?_
   refine DC.loop (ι := WrK) (fun j => j.i ≤ l2.length)
    (fun j => [(0, .pointer p), (10, j.v), (100, .slice (some ad2) l2.length c2), (101, .int .i64 l2.length), (102, .int .i64 j.i)])
    (fun j => slc j.v 3 1 (ints (fromV es x2 :: (l2.take j.i).map (toV es))) :: L2) (fun j => l2.length - j.i) ⟨0, _⟩ (Nat.zero_le _) ⟨rfl, rfl, rfl, rfl, rfl, trivial⟩ (.cons 0 rfl (Pick.all _)) ?_
   rintro ⟨i, v⟩ hi
   dsimp only at hi ⊢
   refine Zs ?_
   refine Zc ?_
   refine Zx <| DC.seq ?_
   refine Zd (fun c17 => ?_) fun c17 => ?_
   ·have hlt : i < l2.length := by simpa using c17
    obtain ⟨x, hx⟩ : ∃ x, l2[i]? = some x := ⟨_, List.getElem?_eq_getElem hlt⟩
    refine DC.skip <| Fin.then <| DC.seq <| DC.block <| Zs ?_
    refine Zo (Ai (ad' := ad2.add i) rfl rfl rfl Tryz.underlying44 AN (by omega) (by omega) rfl) ?_
    refine Zu (Ah rfl rfl AO (F3 hrds2 (fun _ h => h.sub (List.sublist_cons_self ..)) hx)) ?_
    refine Za ?_
    refine Zx <| DC.region ?_
    refine Zm ?_
    refine Zm ?_
    refine Zm ?_
    refine Seq.rel0 rfl rfl (Aq GL rfl rfl rfl (fun w' hw => C2 (hA.keep hw) _)) ?_
    rintro _ rfl
    refine Zw (AP (cs := #[_]) rfl rfl Tryz.underlying44 AN B6 rfl (by decide) (by decide) rfl rfl) fun g110 => ?_
    refine Seq.gen rfl rfl (AR rfl rfl rfl Tryz.underlying44 AN DP B6 rfl (by decide) (by decide) (F := L2) (fun w hw => hw.sub (List.sublist_cons_self ..)) (.inl ⟨_, _, rfl, Ak rfl⟩) rfl (Br [_] []) (by simp; omega)) ?_
    rintro v111 _ rfl
    refine Za ?_
    refine Seq.nil <| Fin.inBlock <| Fin.then <| DC.region ?_
    refine Zp ?_
    refine Zm ?_
    refine Seq.nil ?_
    refine Fin.again ⟨i + 1, v111⟩ (by dsimp only; omega) (by dsimp only; omega) ⟨rfl, rfl, rfl, rfl, rfl, trivial⟩ (.cons' 0 rfl (by dsimp only; rw [List.take_add_one, hx]; simp [ints]) (Pick.all _))
   ·refine DC.exit <| Ad <| Ad <| Ag <| Fin.then <| Zs ?_
    refine Zm ?_
    refine Za ?_
    refine Zx <| DC.ret ?_
    have hie : i = l2.length := by simp at c17; omega
    subst hie
    rw [List.take_length]
    refine Fin.weak (E' := [(4, _)]) (L' := [slc v 3 1 (ints (fromV es x2 :: l2.map (toV es)))]) ⟨rfl, trivial⟩ (.cons 0 rfl .nil) ?_
    refine Aj (.inl rfl) rfl rfl ?_
    refine ⟨_, rfl, by simp [hlen2], fun x y hx hy => ?_⟩
    rw [hx0] at hx
    rw [hy0] at hy
    cases hx; cases hy
    refine ⟨fromV es x2, toV es y2, rfl, ?_, hends2⟩
    have : (fromV es x2 :: l2.map (toV es)).length - 1 = (l2.length - 1) + 1 := by simp; omega
    rw [this, List.getElem?_cons_succ, List.getElem?_map, hy2]; rfl
theorem FC {w0 : World} {K : List Nat} {L : List Chunk} {i t l c : Nat} {ad : Addr} {xs : List Int} (hi : L[i]? = some (slc (.slice (some ad) l c) t 1 (ints xs))) (hf : xs.length ≤ 17592186044416) : Hass w0 K L ad (ints xs) := by
 intro w hw
 obtain ⟨A, cap, e, hr, _⟩ := C4 hw i hi hf
 cases e
 intro j u hj
 obtain ⟨ad', e, hc⟩ := hr j u hj
 cases e; exact hc
theorem II {N : Int} {es : List Pr} {M : AdjM} {p : Option Addr} {w : World} {e : Nat} (hA : AV w N es M p) (he : e < es.length) :
  Calls Tryz.prog 160 #[.pointer p, .int .i64 e] w (Ret w [] fun r L => L = [slc r 3 1 (ints (chainOf es e))]) := by
 have hV := hA.vld
 have hfew := hV.few
 have hle := Dm hV (Ec he)
 have hlo := Dm hV (Do he)
 have hpe := List.length_pos_iff.2 (CR (es := es) (2 * e))
 have hpo := List.length_pos_iff.2 (CR (es := es) (2 * e + 1))
 have hlast : (wayOf es (2 * e))[(wayOf es (2 * e)).length - 1]? = some (wI es (2 * e) (wayT es (2 * e))) := by rw [← List.getLast?_eq_getElem?, Ey]
 refine At (args := [_, _]) (L := []) Tryz.func160 rfl Tryz.ntmps160 rfl (Own.start _ _) ?_
 refine Zs ?_
 refine Za ?_
 refine Zx <| Zs ?_
 refine Zm ?_
 refine Zm ?_
 refine Zo (Cb rfl rfl rfl (by omega)) ?_
 refine Seq.rel rfl rfl (Aq en180 rfl rfl rfl (fun w' hw => Ff (hA.keep hw) (Ec he))) ?_
 rintro v5 _ rfl
 refine Za ?_
 refine Zx <| DC.seq <| DC.seq ?_
 refine DC.slcs (i := 0) (xs := wayOf es (2 * e)) rfl (by omega) ?_
 rintro A5 c5 rfl hA5
 obtain ⟨ad5, rfl⟩ := hA5 (CR _)
 refine DC.region ?_
 refine Zm ?_
 refine Zm ?_
 refine Zm ?_
 refine Zn Tryz.underlying44 ?_
 refine Zo (Ca rfl rfl rfl (by omega)) ?_
 refine Zo (Ai (ad' := ad5.add ((wayOf es (2 * e)).length - 1)) rfl rfl rfl Tryz.underlying44 AN (by omega) (by omega) (by rw [show (((wayOf es (2 * e)).length : Int) - 1).toNat = (wayOf es (2 * e)).length - 1 by omega])) ?_
 refine Zu (Ah rfl rfl AO (BE (i := 0) rfl hlast (by omega))) ?_
 refine Seq.rel0 rfl rfl (Aq GL rfl rfl rfl (fun w' hw => C2 (hA.keep hw) _)) ?_
 rintro _ rfl
 refine Zm ?_
 refine Zm ?_
 refine Zo (Cb rfl rfl rfl (by omega)) ?_
 refine Seq.rel0 rfl rfl (Aq E1 rfl rfl rfl (fun w' hw => BV (hA.keep hw) _)) ?_
 rintro _ rfl
 refine Zo (AX rfl rfl rfl) ?_
 refine Zm ?_
 refine Seq.split 24 rfl (fun k2_13 => ?_) (fun k2_13 => ?_)
 ·refine Zm ?_
  refine Zm ?_
  refine Zm ?_
  refine Zo (Cb rfl rfl rfl (by omega)) ?_
  refine Seq.rel0 rfl rfl (Aq E1 rfl rfl rfl (fun w' hw => BV (hA.keep hw) _)) ?_
  rintro _ rfl
  refine Seq.rel0 rfl rfl (Aq JB rfl rfl rfl (fun w' hw => Cn (hA.keep hw) _)) ?_
  rintro _ rfl
  refine Zo (AX rfl rfl rfl) ?_
  refine Zt ?_
  refine Zx ?_
  refine Zd (fun c2 => ?_) fun c2 => ?_
  ·refine Zs ?_
   refine Zm ?_
   refine Za ?_
   refine Zx <| DC.ret <| Aa ?_
   refine Fin.weak (E' := [(4, _)]) (L' := [slc (.slice (some ad5) (wayOf es (2 * e)).length c5) 3 1 (ints (wayOf es (2 * e)))]) ⟨rfl, trivial⟩ (.cons 0 rfl .nil) ?_
   refine Aj (.inl rfl) rfl rfl ?_
   have hfree : FreeC es e := ⟨by simpa using k2_13, by simp at c2; unfold degV; omega⟩
   unfold chainOf
   rw [if_pos hfree]
  ·have hfree : ¬ FreeC es e := fun ⟨h1, h2⟩ => by
    simp at c2
    unfold degV at h2
    exact c2 (by exact_mod_cast h2)
   refine DC.skip <| Fin.then <| DC.seq ?_
   have hfree : ¬ FreeC es e := fun ⟨h1, h2⟩ => by
    first
    | (simp at k2_13; exact k2_13 h1)
    | (simp at c2; unfold degV at h2; omega)
   refine DC.region ?_
   refine Zm ?_
   refine Zm ?_
   refine Zo (Cb rfl rfl rfl (by omega)) ?_
   refine Zp ?_
   refine Seq.rel rfl rfl (Aq en180 rfl rfl rfl (fun w' hw => Ff (hA.keep hw) (Do he))) ?_
   rintro v6 _ rfl
   refine Za ?_
   refine Zx <| DC.seq ?_
   refine DC.slcs (i := 0) (xs := wayOf es (2 * e + 1)) rfl (by omega) ?_
   rintro A6 c6 rfl hA6
   obtain ⟨ad6, rfl⟩ := hA6 (CR _)
   refine DC.region ?_
   refine Zm ?_
   refine Zo (CK (lo := 1) rfl rfl rfl Tryz.underlying44 AN (by omega)) ?_
   refine Seq.rel rfl rfl (Aq Ly rfl rfl rfl (fun w' hw => Da ((EN hw).drop (k := 1) (by omega)) (by rw [List.length_drop]; omega) (fun x hx => by
    have := EK hV (BT hV (Do he)).way x (List.mem_of_mem_drop hx)
    obtain ⟨h0, h1⟩ := this; omega))) ?_
   rintro v41 _ rfl
   refine Zm ?_
   refine Seq.gen rfl rfl (AR rfl rfl rfl Tryz.underlying44 AN DP B6 rfl (by decide) (by decide) (fun w hw => hw.pick (.cons 0 rfl .nil)) (.inl ⟨_, _, rfl, FC (i := 2) rfl (by omega)⟩) (by simp) (Br _ []) (by simp [Bv]; omega)) ?_
   rintro v43 _ rfl
   refine Za ?_
   refine Zx <| DC.ret ?_
   refine Fin.weak (E' := [(4, _)]) (L' := [slc v43 3 1 (ints (aboutL ((wayOf es (2 * e + 1)).drop 1)) ++ ints (wayOf es (2 * e)))]) ⟨rfl, trivial⟩ (.cons 0 rfl .nil) ?_
   refine Aj (.inl rfl) rfl rfl ?_
   unfold chainOf
   rw [if_neg hfree, A4, List.drop_one]
 ·refine Zk ?_
  refine Zk ?_
  refine Zk ?_
  refine Zk ?_
  refine Zk ?_
  refine Zk ?_
  refine Zk ?_
  refine Zg ?_
  refine Zx ?_
  refine Bw rfl ?_
  refine DC.skip <| Fin.then <| DC.seq ?_
  have hfree : ¬ FreeC es e := fun ⟨h1, h2⟩ => by
   first
   | (simp at k2_13; exact k2_13 h1)
   | (simp at c2; unfold degV at h2; omega)
  refine DC.region ?_
  refine Zm ?_
  refine Zm ?_
  refine Zo (Cb rfl rfl rfl (by omega)) ?_
  refine Zp ?_
  refine Seq.rel rfl rfl (Aq en180 rfl rfl rfl (fun w' hw => Ff (hA.keep hw) (Do he))) ?_
  rintro v6 _ rfl
  refine Za ?_
  refine Zx <| DC.seq ?_
  refine DC.slcs (i := 0) (xs := wayOf es (2 * e + 1)) rfl (by omega) ?_
  rintro A6 c6 rfl hA6
  obtain ⟨ad6, rfl⟩ := hA6 (CR _)
  refine DC.region ?_
  refine Zm ?_
  refine Zo (CK (lo := 1) rfl rfl rfl Tryz.underlying44 AN (by omega)) ?_
  refine Seq.rel rfl rfl (Aq Ly rfl rfl rfl (fun w' hw => Da ((EN hw).drop (k := 1) (by omega)) (by rw [List.length_drop]; omega) (fun x hx => by
   have := EK hV (BT hV (Do he)).way x (List.mem_of_mem_drop hx)
   obtain ⟨h0, h1⟩ := this; omega))) ?_
  rintro v41 _ rfl
  refine Zm ?_
  refine Seq.gen rfl rfl (AR rfl rfl rfl Tryz.underlying44 AN DP B6 rfl (by decide) (by decide) (fun w hw => hw.pick (.cons 0 rfl .nil)) (.inl ⟨_, _, rfl, FC (i := 2) rfl (by omega)⟩) (by simp) (Br _ []) (by simp [Bv]; omega)) ?_
  rintro v43 _ rfl
  refine Za ?_
  refine Zx <| DC.ret ?_
  refine Fin.weak (E' := [(4, _)]) (L' := [slc v43 3 1 (ints (aboutL ((wayOf es (2 * e + 1)).drop 1)) ++ ints (wayOf es (2 * e)))]) ⟨rfl, trivial⟩ (.cons 0 rfl .nil) ?_
  refine Aj (.inl rfl) rfl rfl ?_
  unfold chainOf
  rw [if_neg hfree, A4, List.drop_one]
open Classical
theorem IA {w0 w : World} {K : List Nat} {L : List Chunk} {N : Int} {es : List Pr} {M : AdjM} (hw : Own w0 K w L) (hp : Pick L (adjL M)) (hP : AdjP N es M) : AV w N es M (some ⟨M.gp, 0, none⟩) := by
 have h := hw.pick hp
 unfold adjL at h
 have h0 := h.holds _ (List.mem_cons_self ..)
 have h1 := h.holds _ (List.mem_cons_of_mem _ (List.mem_cons_self ..))
 have h2 := h.holds _ (List.mem_cons_of_mem _ (List.mem_cons_of_mem _ (List.mem_cons_self ..)))
 have h3 := h.holds _ (List.mem_cons_of_mem _ (List.mem_cons_of_mem _ (List.mem_cons_of_mem _ (List.mem_cons_self ..))))
 have h4 := h.holds _ (List.mem_cons_of_mem _ (List.mem_cons_of_mem _ (List.mem_cons_of_mem _ (List.mem_cons_of_mem _ (List.mem_cons_self ..)))))
 exact .at ⟨h0, h1, h2, h3, h4⟩ hP
/-- The chains that lie before us are those of the first k edges. -/
structure ChR (es : List Pr) (k : Nat) (cs : RL) : Prop where
 len : cs.length = (selU es k).length
 at' : ∀ (j : Nat) e p, (selU es k)[j]? = some e → cs[j]? = some p → WrtR (endA es e) (endB es e) p.2 ∧ 2 ≤ p.2.length ∧ p.2.length ≤ es.length * 4 + 1
theorem ChR.next {es : List Pr} {k : Nat} {cs : RL} {p : Value × List Int} (h : ChR es k cs) (hs : selU es (k + 1) = selU es k ++ [k]) (hp : WrtR (endA es k) (endB es k) p.2 ∧ 2 ≤ p.2.length ∧ p.2.length ≤ es.length * 4 + 1) : ChR es (k + 1) (cs ++ [p]) := by
 refine ⟨by rw [hs]; simp [h.len], fun j e q hj hq => ?_⟩
 rw [hs] at hj
 by_cases hlt : j < cs.length
 ·rw [List.getElem?_append_left hlt] at hq
  rw [List.getElem?_append_left (by rw [← h.len]; exact hlt)] at hj
  exact h.at' j e q hj hq
 ·rw [List.getElem?_append_right (by omega)] at hq
  rw [List.getElem?_append_right (by rw [← h.len]; omega), ← h.len] at hj
  have : j - cs.length = 0 := by
   have := (List.getElem?_eq_some_iff.1 hq).1
   simp at this; omega
  rw [this] at hj hq
  simp at hj hq
  subst hj hq
  exact hp
structure ChI where
 i : Nat
 f : Nat → Bool
 cs : RL
 v : Value
structure ChJ where
 j : Nat
 g : Nat → Bool
theorem IG {N : Int} {es : List Pr} {va : Value} {w : World} (hg : PrV w va es) (hV : Vld N es) :
  Calls Tryz.prog 127 #[.agg #[.int .i64 N, va]] w (Ret w [] fun r M => ∃ v cs, r = .tuple #[v, .int .i64 0] ∧ ChR es es.length cs ∧ M = slc v 44 1 (rowsV cs) :: rowsC 3 cs) := by
 obtain ⟨A, cap, rfl, hr, hlc, hcm, hle⟩ := hg
 have hfew := hV.few
 refine At (args := [_]) (L := []) Tryz.func127 rfl Tryz.ntmps127 rfl (Own.start _ _) ?_
 refine Zs ?_
 refine Zw (AS rfl rfl rfl) fun g1 => ?_
 refine Za ?_
 refine Za ?_
 refine Zx <| Zs ?_
 refine Zu (Ay (vs := [_, _]) rfl rfl Bj Bc rfl (Ak rfl)) ?_
 refine Seq.rel rfl rfl (Aq en125 rfl rfl rfl (fun w' hw => HI N es A cap w' (hr.keep0 hw) (by omega))) ?_
 intro v14 L14 hC14
 obtain ⟨_, M, hP, rfl, rfl⟩ := hC14.resolve_left (fun h => h.1 hV)
 simp only [adjL, List.cons_append, List.nil_append]
 refine Zm ?_
 refine Ze ?_
 refine Ze ?_
 refine Za ?_
 refine Za ?_
 refine Zx <| DC.seq <| Zs ?_
 refine Zm ?_
 refine Zo (BS rfl rfl rfl) ?_
 refine Zx ?_
 refine Zd (fun c2 => ?_) fun c2 => ?_
 ·refine Zs ?_
  refine Zm ?_
  refine Za ?_
  refine Za ?_
  refine Zx <| DC.ret <| Aa ?_
  refine AJ (.inl rfl) rfl rfl rfl ?_
  simp at c2
 ·refine DC.skip <| Fin.then <| Zs ?_
  refine Zf Be ?_
  refine Zl BO ?_
  refine Zn Tryz.underlying22 ?_
  refine Zw (BI (k := es.length) rfl rfl rfl Tryz.underlying188 Fe by4 ze4 rfl (by omega) (by omega) (Dg _)) fun g23 => ?_
  refine Za ?_
  refine Zx <| Zs ?_
  refine Za ?_
  refine Zx <| DC.seq <| Zs ?_
  refine Zf Be ?_
  refine Zl BO ?_
  refine Zn Tryz.underlying22 ?_
  refine Zm ?_
  refine Zx <| DC.block ?_
  refine DC.own (fun w hw => Bm (t := 44) (m := 1) hw) ?_
  refine DC.loop (ι := ChI) (fun j => j.i ≤ es.length ∧ ChR es j.i j.cs ∧ ∀ x, x < es.length → (j.f x = true ↔ ∃ e, e ∈ selU es j.i ∧ ∃ y, y ∈ chainOf es e ∧ y / 2 = x))
   (fun j => [(4, .pointer (some ⟨M.gp, 0, none⟩)), (6, .slice (some ⟨g23, 0, none⟩) es.length es.length), (7, j.v), (25, .slice A es.length cap), (26, .int .i64 es.length), (27, .int .i64 j.i)])
   (fun j => slc j.v 44 1 (rowsV j.cs) :: blk g23 4 (bls es.length j.f).toArray :: blk M.gp 234 #[sl M.g0 M.fr, sl M.g1 M.st, sl M.g2 M.ou, sl M.g3 M.pl] :: blk M.g0 3 (ints M.fr).toArray :: blk M.g1 3 (ints M.st).toArray :: blk M.g2 3 (ints M.ou).toArray :: blk M.g3 3 (ints M.pl).toArray :: rowsC 3 j.cs) (fun j => es.length - j.i) ⟨0, fun _ => false, [], .slice none 0 0⟩
   ⟨Nat.zero_le _, ⟨rfl, fun j e p h _ => by simp [selU] at h⟩, fun x _ => ⟨fun h => by simp at h, fun ⟨e, h, _⟩ => by simp [selU] at h⟩⟩ ⟨rfl, rfl, rfl, rfl, rfl, rfl, trivial⟩ (.cons 0 rfl (.cons 0 rfl (.cons 0 rfl (.cons 0 rfl (.cons 0 rfl (.cons 0 rfl (.cons 0 rfl .nil))))))) ?_
  rintro ⟨i, f, cs, v7⟩ ⟨hi, hch, hf⟩
  dsimp only at hi hch hf ⊢
  refine Zs ?_
  refine Zc ?_
  refine Zx <| DC.seq ?_
  refine Zd (fun c7 => ?_) fun c7 => ?_
  ·have hlt : i < es.length := by simpa using c7
   have hcsl : cs.length ≤ i := by rw [hch.len]; exact Gk i
   refine DC.skip <| Fin.then <| DC.seq <| DC.block <| Zs ?_
   refine Zm ?_
   refine Za ?_
   refine Zx <| DC.seq <| Zs ?_
   refine Zm ?_
   refine Zm ?_
   refine Zi Tryz.underlying188 Fe ?_
   refine Zu (Ah rfl rfl ag4 (AU (DI f hlt))) ?_
   refine Zx ?_
   refine Zd (fun c9 => ?_) fun c9 => ?_
   ·refine DC.exit <| Ad <| Ag <| Fin.then <| DC.region ?_
    refine Zp ?_
    refine Zm ?_
    refine Seq.nil ?_
    have hsel : selU es (i + 1) = selU es i := by
     show (if _ then _ else _) = _
     rw [if_pos ((hf i hlt).1 c9)]
    refine Fin.again ⟨i + 1, f, cs, v7⟩ (by dsimp only; omega) ⟨by dsimp only; omega, ⟨by dsimp only; rw [hsel]; exact hch.len, by dsimp only; rw [hsel]; exact hch.at'⟩, by dsimp only; rw [hsel]; exact hf⟩ ⟨rfl, rfl, rfl, rfl, rfl, rfl, trivial⟩ (Pick.all _)
   ·refine DC.skip <| Fin.then <| Zs ?_
    refine Zm ?_
    refine Zm ?_
    refine Seq.rel rfl rfl (Aq en160 rfl rfl rfl (fun w' hw => II (IA hw (.cons 2 rfl (.cons 2 rfl (.cons 2 rfl (.cons 2 rfl (.cons 2 rfl .nil))))) hP) hlt)) ?_
    rintro v9 _ rfl
    refine Za ?_
    refine Zx <| DC.seq <| DC.seq ?_
    have hcl := chain_len hV hlt
    have hsel : selU es (i + 1) = selU es i ++ [i] := by
     show (if _ then _ else _) = _
     have c9' : f i = false := c9
     rw [if_neg (fun h => by rw [(hf i hlt).2 h] at c9'; cases c9')]
    refine DC.slcs (i := 0) (xs := chainOf es i) rfl (by omega) ?_
    rintro A9 c9' rfl hA9
    obtain ⟨ad9, rfl⟩ := hA9 (E6 i)
    refine DC.region ?_
    refine Zm ?_
    refine Zn Tryz.underlying44 ?_
    refine Zm ?_
    refine Zx <| DC.block ?_
    refine DC.loop (ι := ChJ) (fun j => j.j ≤ (chainOf es i).length ∧ ∀ x, x < es.length → (j.g x = true ↔ f x = true ∨ ∃ (q : Nat) (y : Int), q < j.j ∧ (chainOf es i)[q]? = some y ∧ y / 2 = x))
     (fun j => [(4, .pointer (some ⟨M.gp, 0, none⟩)), (6, .slice (some ⟨g23, 0, none⟩) es.length es.length), (7, v7), (9, .slice (some ad9) (chainOf es i).length c9'), (25, .slice A es.length cap), (26, .int .i64 es.length), (27, .int .i64 i), (37, .slice (some ad9) (chainOf es i).length c9'), (38, .int .i64 (chainOf es i).length), (39, .int .i64 j.j)])
     (fun j => slc (.slice (some ad9) (chainOf es i).length c9') 3 1 (ints (chainOf es i)) :: slc v7 44 1 (rowsV cs) :: blk g23 4 (bls es.length j.g).toArray :: blk M.gp 234 #[sl M.g0 M.fr, sl M.g1 M.st, sl M.g2 M.ou, sl M.g3 M.pl] :: blk M.g0 3 (ints M.fr).toArray :: blk M.g1 3 (ints M.st).toArray :: blk M.g2 3 (ints M.ou).toArray :: blk M.g3 3 (ints M.pl).toArray :: rowsC 3 cs) (fun j => (chainOf es i).length - j.j) ⟨0, f⟩
     ⟨Nat.zero_le _, fun x _ => ⟨.inl, fun h => h.elim id fun ⟨_, _, h, _⟩ => absurd h (Nat.not_lt_zero _)⟩⟩ ⟨rfl, rfl, rfl, rfl, rfl, rfl, rfl, rfl, rfl, rfl, trivial⟩ (Pick.all _) ?_
    rintro ⟨j, g⟩ ⟨hj, hgx⟩
    dsimp only at hj hgx ⊢
    refine Zs ?_
    refine Zc ?_
    refine Zx <| DC.seq ?_
    refine Zd (fun c12 => ?_) fun c12 => ?_
    ·have hjl : j < (chainOf es i).length := by simpa using c12
     obtain ⟨y, hy⟩ : ∃ y, (chainOf es i)[j]? = some y := ⟨_, List.getElem?_eq_getElem hjl⟩
     obtain ⟨hy0, hy1⟩ := HG hV hlt y (List.mem_of_getElem? hy)
     refine DC.skip <| Fin.then <| DC.seq <| DC.block <| Zs ?_
     refine Zo (Ai (ad' := ad9.add j) rfl rfl rfl Tryz.underlying44 AN (by omega) (by omega) rfl) ?_
     refine Zu (Ah rfl rfl AO (BE (i := 0) rfl hy (by omega))) ?_
     refine Za ?_
     refine Zx <| DC.region ?_
     refine Zm ?_
     refine Zm ?_
     refine Zo (I0 rfl rfl rfl (by omega) (by omega)) ?_
     refine Zi Tryz.underlying188 Fe ?_
     refine Zy (AF (cs' := (bls es.length (updB g (y / 2).toNat true)).toArray) rfl rfl rfl Fe rfl (by simp; omega) (DH g true)) ?_
     refine Seq.nil <| Fin.inBlock <| Fin.then <| DC.region ?_
     refine Zp ?_
     refine Zm ?_
     refine Seq.nil ?_
     refine Fin.again ⟨j + 1, updB g (y / 2).toNat true⟩ (by dsimp only; omega) ⟨by dsimp only; omega, fun x hx => ?_⟩ ⟨rfl, rfl, rfl, rfl, rfl, rfl, rfl, rfl, rfl, rfl, trivial⟩ (Pick.all _)
     dsimp only
     unfold updB
     split
     ·rename_i e; subst e
      simp only [true_iff]
      exact .inr ⟨j, y, by omega, hy, by omega⟩
     ·rename_i e
      rw [hgx x hx]
      constructor
      ·rintro (h1 | ⟨q, z, h1, h2, h3⟩)
       ·exact .inl h1
       ·exact .inr ⟨q, z, by omega, h2, h3⟩
      ·rintro (h1 | ⟨q, z, h1, h2, h3⟩)
       ·exact .inl h1
       ·rcases Nat.lt_succ_iff_lt_or_eq.1 h1 with h1 | rfl
        ·exact .inr ⟨q, z, h1, h2, h3⟩
        ·rw [hy] at h2; cases h2
         exact absurd (by omega) e
    ·refine DC.exit <| Ad <| Ad <| Ag <| Fin.then <| DC.region ?_
     refine Zm ?_
     refine Zm ?_
     refine Zm ?_
     refine Seq.rel rfl rfl (Aq en161 rfl rfl rfl (fun w' hw => GZ (IA hw (.cons 3 rfl (.cons 3 rfl (.cons 3 rfl (.cons 3 rfl (.cons 3 rfl .nil))))) hP) (EN hw) (E6 i) (HG hV hlt) (KL hV hlt) (by omega))) ?_
     rintro v51 _ ⟨c, rfl, hclen, hwr⟩
     simp only [List.cons_append, List.nil_append]
     refine Seq.slcs (i := 0) (xs := c) rfl (by omega) ?_
     rintro A51 c51 rfl _
     refine Zw (AP (cs := #[_]) rfl rfl Tryz.underlying25 Bn CH rfl (by decide) (by decide) rfl rfl) fun g52 => ?_
     refine Seq.gen rfl rfl (AR rfl rfl rfl Tryz.underlying25 Bn GT CH rfl (by decide) (by decide) (news := [.slice A51 c.length c51]) (k := 1) (fun w hw => hw.perm (AI (i := 3) rfl).symm) (.inl ⟨_, _, rfl, Ak rfl⟩) rfl (fun u hu => by rw [List.mem_singleton.1 hu]; rfl) (by simp; omega)) ?_
     rintro v53 _ rfl
     refine Za ?_
     refine Seq.nil <| Fin.inBlock <| Fin.then <| DC.region ?_
     refine Zp ?_
     refine Zm ?_
     refine Seq.nil ?_
     have hjl : j = (chainOf es i).length := by simp at c12; omega
     subst hjl
     refine Fin.own (M := slc v53 44 1 (rowsV (cs ++ [(.slice A51 c.length c51, c)])) :: blk g23 4 (bls es.length g).toArray :: blk M.gp 234 #[sl M.g0 M.fr, sl M.g1 M.st, sl M.g2 M.ou, sl M.g3 M.pl] :: blk M.g0 3 (ints M.fr).toArray :: blk M.g1 3 (ints M.st).toArray :: blk M.g2 3 (ints M.ou).toArray :: blk M.g3 3 (ints M.pl).toArray :: rowsC 3 (cs ++ [(.slice A51 c.length c51, c)])) (fun w hw => ?_) ?_
     ·have e1 : rowsV (cs ++ [(.slice A51 c.length c51, c)]) = rowsV cs ++ [.slice A51 c.length c51] := by simp [rowsV]
      have e2 : rowsC 3 (cs ++ [(.slice A51 c.length c51, c)]) = rowsC 3 cs ++ [slc (.slice A51 c.length c51) 3 1 (ints c)] := by simp [rowsC]
      rw [e1, e2]
      have h1 := hw.sub (L' := slc v53 44 1 (rowsV cs ++ [.slice A51 c.length c51]) :: slc (.slice A51 c.length c51) 3 1 (ints c) :: blk g23 4 (bls es.length g).toArray :: blk M.gp 234 #[sl M.g0 M.fr, sl M.g1 M.st, sl M.g2 M.ou, sl M.g3 M.pl] :: blk M.g0 3 (ints M.fr).toArray :: blk M.g1 3 (ints M.st).toArray :: blk M.g2 3 (ints M.ou).toArray :: blk M.g3 3 (ints M.pl).toArray :: rowsC 3 cs) ((((List.Sublist.refl _).cons _).cons_cons _ |>.cons _).cons_cons _)
      refine h1.perm (List.Perm.cons _ ?_)
      have := List.perm_append_comm (l₁ := blk g23 4 (bls es.length g).toArray :: blk M.gp 234 #[sl M.g0 M.fr, sl M.g1 M.st, sl M.g2 M.ou, sl M.g3 M.pl] :: blk M.g0 3 (ints M.fr).toArray :: blk M.g1 3 (ints M.st).toArray :: blk M.g2 3 (ints M.ou).toArray :: blk M.g3 3 (ints M.pl).toArray :: rowsC 3 cs) (l₂ := [slc (.slice A51 c.length c51) 3 1 (ints c)])
      simpa using this
     have hca : (chainOf es i)[0]? = some (((chainOf es i)[0]?).getD (-1)) := by
      obtain ⟨x, hx⟩ : ∃ x, (chainOf es i)[0]? = some x := ⟨_, List.getElem?_eq_getElem (List.length_pos_iff.2 (E6 i))⟩
      rw [hx]; rfl
     have hcz : (chainOf es i)[(chainOf es i).length - 1]? = some (wI es (2 * i) (wayT es (2 * i))) := by rw [← List.getLast?_eq_getElem?, KM]
     have hcp := List.length_pos_iff.2 (E6 (es := es) i)
     refine Fin.again ⟨i + 1, g, cs ++ [(.slice A51 c.length c51, c)], v53⟩ (by dsimp only; omega) ⟨by dsimp only; omega, hch.next hsel ⟨hwr _ _ hca hcz, by dsimp only; omega, by dsimp only; omega⟩, fun x hx => ?_⟩ ⟨rfl, rfl, rfl, rfl, rfl, rfl, trivial⟩ (Pick.all _)
     dsimp only
     rw [hgx x hx, hf x hx, hsel]
     constructor
     ·rintro (⟨e, he, h⟩ | ⟨q, y, _, hq, hy⟩)
      ·exact ⟨e, by simp [he], h⟩
      ·exact ⟨i, by simp, y, List.mem_of_getElem? hq, hy⟩
     ·rintro ⟨e, he, y, hy, hyx⟩
      rcases List.mem_append.1 he with he | he
      ·exact .inl ⟨e, he, y, hy, hyx⟩
      ·simp at he; subst he
       obtain ⟨q, hq⟩ := List.mem_iff_getElem?.1 hy
       exact .inr ⟨q, y, (List.getElem?_eq_some_iff.1 hq).1, hq, hyx⟩
  ·refine DC.exit <| Ad <| Ad <| Ag <| Fin.then <| Zs ?_
   refine Zm ?_
   refine Za ?_
   refine Za ?_
   refine Zx <| DC.ret ?_
   have hie : i = es.length := by simp at c7; omega
   subst hie
   refine Fin.own (M := slc v7 44 1 (rowsV cs) :: rowsC 3 cs) (fun w hw => hw.sub (((((((List.Sublist.refl _).cons _).cons _).cons _).cons _).cons _).cons _ |>.cons_cons _)) ?_
   refine Fin.weak (E' := [(2, _), (3, _)]) ⟨rfl, rfl, trivial⟩ (Pick.all _) ?_
   refine AJ (.inl rfl) rfl rfl rfl ?_
   exact ⟨v7, cs, rfl, hch, rfl⟩
end Go.Fl

namespace Go.Fl
open Go
section
variable {κ : Type} [DecidableEq κ]
variable {P : Program} {w0 w : World} {K : List Nat} {n : Nat} {ds : List Deferred} {E : Env} {L : List Chunk} {o : Oper} {x y : Operand} {enc : κ → Value} {m : List (κ × Value)} {g : Nat}
theorem v_lenMap {t kt et : TypeId} (i : Nat) (hi : L[i]? = some (mpc enc g m)) (ho : o.op = .call ⟨.builtin .len, #[x], #[t]⟩) (hx : ev n E x = some (.map (some g))) (ht : P.underlying t = some (.map kt et)) :
  Val P w0 K n ds E L o (.int .i64 m.length) := by
 intro a w ha hw
 obtain ⟨es, clock, h1, h2, _⟩ := Eg i hi hw
 have hg : (getObj g).run P w = .ok (.map es clock) w := by simp [getObj, Sem.run, h1]
 have hl : es.size = m.length := by have := congrArg List.length h2; simpa using this
 simp [execOp, ho, resolve, ha.ev hx, invoke, builtin, Builtin.len_, run_underlying ht, hg, goInt, hl]
theorem I2 {t e sz len : Nat} {ad ad' : Addr} {k : IntKind} {i : Int} (ho : o.op = .indexAddr t x y) (hx : ev n E x = some (.pointer (some ad))) (hy : ev n E y = some (.int k i))
  (ht : P.underlying t = some (.array len e)) (hm : sizeT P e = some sz) (h0 : 0 ≤ i) (h1 : i < len) (he : ad.add (i.toNat * sz) = ad') : Pur P n ds E o (.pointer (some ad')) := by
 intro a w ha; subst he
 simp [execOp, ho, ha.ev hx, ha.ev hy, Instr.indexAt, asIntOf, Instr.sureAddr, run_underlying ht, Bs hm, h0, h1]
theorem H2 {t e sz len : Nat} {ps : Array (Nat × Operand)} {vs : List (Nat × Value)} {zv : Value} {zs l : List Value} {cs : Array Value} (ho : o.op = .build t ps) (hp : evps n E ps.toList = some vs)
  (ht : P.underlying t = some (.array len e)) (hm : sizeT P e = some sz) (hz : zeroT P t = some zv) (hzs : zv.cells.toList = zs) (hf : fillL (fun i => some (i * sz, sz)) zs vs = some l) (hc : l.toArray = cs) : Pur P n ds E o (.agg cs) := by
 intro a w ha
 subst hc hzs
 have h1 : (ps.map fun (p : Nat × Operand) => (p.1, a.eval p.2)) = vs.toArray := by
  apply Array.ext'; rw [Array.toList_map]; exact En ha hp
 have h2 : (ps.map fun (i, x) => (i, a.eval x)) = vs.toArray := h1
 have h3 := F5 hf
 simp only [execOp, ho, h2]
 simp [Instr.build, Ee hz, run_underlying ht, Bs hm, h3]
theorem Cv {P : Program} {w0 : World} {K : List Nat} {n : Nat} {E : Env} {L : List Chunk} {u u2 : Value} {fn : Func} {p q s : Tmp} {ty : TypeId} {g t : Nat} {cs : Array Value} {C : Value → List Chunk → Prop} {e : Exit} (he : e = .ret ∨ e = .normal) (hr : fn.results = #[.cell p ty, .tmp q, .tmp s])
  (hv : ev n E (.tmp p) = some (.pointer (some ⟨g, 0, none⟩))) (hq : ev n E (.tmp q) = some u) (hq2 : ev n E (.tmp s) = some u2) [h : Find L g t cs] (ht : aggT P ty = some true) (hs : sizeT P ty = some cs.size)
  (hR : ∃ L', (∀ w, Own w0 K w L → Own w0 K w L') ∧ C (.tuple #[.agg cs, u, u2]) L') : Fin w0 K n [] (bodyPost P fn (Ret w0 K C) e) E L := by
 intro a w ha hO
 obtain ⟨L', hL, hC⟩ := hR
 have hg := hO.holds _ h.mem
 have hp : a.tmps[p]?.getD undef = .pointer (some ⟨g, 0, none⟩) := by have := ha.ev hv; simpa [Act.eval] using this
 have hq' : a.tmps[q]?.getD undef = u := by have := ha.ev hq; simpa [Act.eval] using this
 have hq2' : a.tmps[s]?.getD undef = u2 := by have := ha.ev hq2; simpa [Act.eval] using this
 have h1 : a.defers = [] ∧ ∃ v, (results fn a.tmps).run P w = .ok v w ∧ Ret w0 K C (.returned v) w := by
  refine ⟨ha.defers, _, ?_, .tuple #[.agg cs, u, u2], L', rfl, hC, hL w hO⟩
  simp [results, hr, hp, hq', hq2', asAddr, Ef hg ht hs]
 rcases he with rfl | rfl <;> exact h1
end
end Go.Fl

namespace Go.Fl
open Go Go.Proofs
open Classical
theorem Ea (es : List Pr) (i : Nat) : brV es (i + 1) = brV es i ++ if degV es (i : Int) ≠ 0 ∧ degV es (i : Int) ≠ 2 then [(i : Int)] else [] := by
 unfold brV
 rw [List.range_succ, List.filter_append, List.map_append]
 congr 1
 by_cases h : degV es (i : Int) ≠ 0 ∧ degV es (i : Int) ≠ 2 <;> simp [h]
theorem LD (es : List Pr) (i : Nat) : (brV es i).length ≤ i := by
 unfold brV
 rw [List.length_map]
 have := List.length_filter_le (fun v : Nat => decide (degV es (v : Int) ≠ 0 ∧ degV es (v : Int) ≠ 2)) (List.range i)
 simpa using this
theorem JO {es : List Pr} {i n : Nat} (h : i ≤ n) {x : Int} (hx : x ∈ brV es i) : x ∈ brV es n := by
 unfold brV at hx ⊢
 obtain ⟨v, hv, rfl⟩ := List.mem_map.1 hx
 obtain ⟨h1, h2⟩ := List.mem_filter.1 hv
 exact List.mem_map.2 ⟨v, List.mem_filter.2 ⟨List.mem_range.2 (by have := List.mem_range.1 h1; omega), h2⟩, rfl⟩
structure DgI where
 i : Nat
 d : Nat
 v : Value
theorem GC {n : Nat} {es : List Pr} {M : AdjM} {p : Option Addr} {w : World} (hA : AV w n es M p) :
  Calls Tryz.prog 126 #[.pointer p] w (Ret w [] fun r L =>
   (∃ A c d, r = .tuple #[.slice A (brV es n).length c, .int .i64 (d : Nat)] ∧ L = [slc (.slice A (brV es n).length c) 3 1 (ints (brV es n))] ∧ ∀ u, u ∈ brV es n → degV es u = d) ∨
   (r = .tuple #[.slice none 0 0, .int .i64 0] ∧ L = [] ∧ ¬ ∃ d, ∀ u, u ∈ brV es n → degV es u = d)) := by
 have hV := hA.vld
 have hn := hV.hi
 refine At (args := [_]) (L := []) Tryz.func126 rfl Tryz.ntmps126 rfl (Own.start _ _) ?_
 refine Zs ?_
 refine Za ?_
 refine Za ?_
 refine Zx <| Zs ?_
 refine Za ?_
 refine Zx <| Zs ?_
 refine Za ?_
 refine Zx <| DC.seq <| Zs ?_
 refine Zm ?_
 refine Seq.rel0 rfl rfl (Aq en158 rfl rfl rfl (fun w' hw => LG (hA.keep hw))) ?_
 rintro _ rfl
 refine Zm ?_
 refine Zx <| DC.block ?_
 refine DC.own (fun w hw => Bm (t := 3) (m := 1) hw) ?_
 refine DC.loop (ι := DgI) (fun j => j.i ≤ n ∧ (∀ u, u ∈ brV es j.i → degV es u = j.d) ∧ (j.d = 0 → brV es j.i = []) ∧ (j.d ≠ 0 → brV es j.i ≠ []))
  (fun j => [(0, .pointer p), (4, j.v), (5, .int .i64 j.d), (9, .int .i64 n), (10, .int .i64 j.i)])
  (fun j => [slc j.v 3 1 (ints (brV es j.i))]) (fun j => n - j.i) ⟨0, 0, .slice none 0 0⟩ ⟨Nat.zero_le _, by simp [brV], fun _ => by simp [brV], fun h => absurd rfl h⟩ ⟨rfl, rfl, rfl, rfl, rfl, trivial⟩ (.cons 0 rfl .nil) ?_
 rintro ⟨i, d, v4⟩ ⟨hi, hd, hd0, hd1⟩
 dsimp only at hi hd hd0 hd1 ⊢
 refine Zs ?_
 refine Zc ?_
 refine Zx <| DC.seq ?_
 refine Zd (fun c4 => ?_) fun c4 => ?_
 ·have hlt : i < n := by simpa using c4
  have hbl := LD es i
  refine DC.skip <| Fin.then <| DC.seq <| DC.block <| Zs ?_
  refine Zm ?_
  refine Za ?_
  refine Zx <| Zs ?_
  refine Zm ?_
  refine Zm ?_
  refine Seq.rel0 rfl rfl (Aq JB rfl rfl rfl (fun w' hw => Cn (hA.keep hw) _)) ?_
  rintro _ rfl
  refine Za ?_
  refine Zx <| DC.block <| Zs ?_
  refine Zm ?_
  refine Zo (AX rfl rfl rfl) ?_
  refine Zm ?_
  refine Seq.split 19 rfl (fun k8_2 => ?_) (fun k8_2 => ?_)
  ·refine Zk ?_
   refine Zk ?_
   refine Zt ?_
   refine Za ?_
   refine Zx ?_
   refine AM rfl ?_
   refine DC.skip <| Fin.inBlock <| Fin.inBlock <| Fin.then <| DC.region ?_
   refine Zp ?_
   refine Zm ?_
   refine Seq.nil ?_
   have hb : brV es (i + 1) = brV es i := by
    have : degV es (i : Int) = 0 := by unfold degV; simp at k8_2; simp [k8_2]
    rw [Ea, if_neg (by omega), List.append_nil]
   refine Fin.again ⟨i + 1, d, v4⟩ (by dsimp only; omega) ⟨by dsimp only; omega, by dsimp only; rw [hb]; exact hd, by dsimp only; rw [hb]; exact hd0, by dsimp only; rw [hb]; exact hd1⟩ ⟨rfl, rfl, rfl, rfl, rfl, trivial⟩ (.cons' 0 rfl (by dsimp only; rw [hb]) .nil)
  ·refine Zm ?_
   refine Zo (AX rfl rfl rfl) ?_
   refine Zg ?_
   refine Za ?_
   refine Zx ?_
   refine Zd (fun c8 => ?_) fun c8 => ?_
   ·refine DC.skip <| Fin.inBlock <| Fin.inBlock <| Fin.then <| DC.region ?_
    refine Zp ?_
    refine Zm ?_
    refine Seq.nil ?_
    have hb : brV es (i + 1) = brV es i := by
     have : degV es (i : Int) = 2 := by unfold degV; simp at c8; omega
     rw [Ea, if_neg (by omega), List.append_nil]
    refine Fin.again ⟨i + 1, d, v4⟩ (by dsimp only; omega) ⟨by dsimp only; omega, by dsimp only; rw [hb]; exact hd, by dsimp only; rw [hb]; exact hd0, by dsimp only; rw [hb]; exact hd1⟩ ⟨rfl, rfl, rfl, rfl, rfl, trivial⟩ (.cons' 0 rfl (by dsimp only; rw [hb]) .nil)
   ·refine Zs ?_
    refine Zm ?_
    refine Zo (AX rfl rfl rfl) ?_
    refine Zm ?_
    refine Seq.split 26 rfl (fun k9_2 => ?_) (fun k9_2 => ?_)
    ·refine Zk ?_
     refine Zk ?_
     refine Zk ?_
     refine Zt ?_
     refine Za ?_
     refine Zx ?_
     refine AM rfl ?_
     refine DC.region ?_
     refine Zm ?_
     refine Zm ?_
     refine Zw (AP (cs := #[_]) rfl rfl Tryz.underlying44 AN B6 rfl (by decide) (by decide) rfl rfl) fun g33 => ?_
     refine Seq.gen rfl rfl (AR rfl rfl rfl Tryz.underlying44 AN DP B6 rfl (by decide) (by decide) (fun w hw => hw.pick (.cons 1 rfl .nil)) (.inl ⟨_, _, rfl, Ak rfl⟩) rfl (Br [_] []) (by simp; omega)) ?_
     rintro v34 _ rfl
     have hne : degV es (i : Int) ≠ 0 ∧ degV es (i : Int) ≠ 2 := by
      have h1 : ¬ (((outs es (i : Int)).length : Int) = 0) := by simpa using k8_2
      have h2 : ¬ (((outs es (i : Int)).length : Int) = 2) := by simpa using c8
      unfold degV
      omega
     refine Zm ?_
     refine Za ?_
     refine Za ?_
     refine Seq.nil <| Fin.inBlock <| Fin.inBlock <| Fin.then <| DC.region ?_
     refine Zp ?_
     refine Zm ?_
     refine Seq.nil ?_
     have hb : brV es (i + 1) = brV es i ++ [(i : Int)] := by rw [Ea, if_pos hne]
     refine Fin.again ⟨i + 1, degV es (i : Int), v34⟩ (by dsimp only; omega) ⟨by dsimp only; omega, ?_, fun h => absurd h hne.1, fun _ => by dsimp only; rw [hb]; simp⟩ ⟨rfl, rfl, rfl, rfl, rfl, trivial⟩ (.cons' 0 rfl (by dsimp only; rw [hb, A4]) .nil)
     dsimp only
     have hd00 : d = 0 := by simp at k9_2; omega
     rw [hb, hd0 hd00]
     intro u hu
     simp at hu; subst hu; rfl
    ·refine Zm ?_
     refine Zm ?_
     refine Zo (AX rfl rfl rfl) ?_
     refine Zg ?_
     refine Za ?_
     refine Zx ?_
     refine Zd (fun c9 => ?_) fun c9 => ?_
     ·refine DC.region ?_
      refine Zm ?_
      refine Zm ?_
      refine Zw (AP (cs := #[_]) rfl rfl Tryz.underlying44 AN B6 rfl (by decide) (by decide) rfl rfl) fun g33 => ?_
      refine Seq.gen rfl rfl (AR rfl rfl rfl Tryz.underlying44 AN DP B6 rfl (by decide) (by decide) (fun w hw => hw.pick (.cons 1 rfl .nil)) (.inl ⟨_, _, rfl, Ak rfl⟩) rfl (Br [_] []) (by simp; omega)) ?_
      rintro v34 _ rfl
      have hne : degV es (i : Int) ≠ 0 ∧ degV es (i : Int) ≠ 2 := by
       have h1 : ¬ (((outs es (i : Int)).length : Int) = 0) := by simpa using k8_2
       have h2 : ¬ (((outs es (i : Int)).length : Int) = 2) := by simpa using c8
       unfold degV
       omega
      refine Zm ?_
      refine Za ?_
      refine Za ?_
      refine Seq.nil <| Fin.inBlock <| Fin.inBlock <| Fin.then <| DC.region ?_
      refine Zp ?_
      refine Zm ?_
      refine Seq.nil ?_
      have hb : brV es (i + 1) = brV es i ++ [(i : Int)] := by rw [Ea, if_pos hne]
      refine Fin.again ⟨i + 1, degV es (i : Int), v34⟩ (by dsimp only; omega) ⟨by dsimp only; omega, ?_, fun h => absurd h hne.1, fun _ => by dsimp only; rw [hb]; simp⟩ ⟨rfl, rfl, rfl, rfl, rfl, trivial⟩ (.cons' 0 rfl (by dsimp only; rw [hb, A4]) .nil)
      dsimp only
      have hdd : d = degV es (i : Int) := by unfold degV; simp at c9; omega
      rw [hb]
      intro u hu
      rcases List.mem_append.1 hu with hu | hu
      ·rw [hd u hu, hdd]
      ·simp at hu; subst hu; rfl
     ·refine Zs ?_
      refine Za ?_
      refine Za ?_
      refine Zx <| DC.ret <| Ae <| Ae <| Aa <| Aa <| Ae <| Aa ?_
      refine Fin.weak (E' := [(2, _), (3, _)]) ⟨rfl, rfl, trivial⟩ .nil ?_
      refine AJ (.inl rfl) rfl rfl rfl ?_
      refine .inr ⟨rfl, rfl, ?_⟩
      rintro ⟨d', hd'⟩
      have h0 : d ≠ 0 := by simp at k9_2; omega
      obtain ⟨u, hu⟩ := List.exists_mem_of_ne_nil _ (hd1 h0)
      have hb : brV es (i + 1) = brV es i ++ [(i : Int)] := by
       rw [Ea, if_pos]
       have h1 : ¬ (((outs es (i : Int)).length : Int) = 0) := by simpa using k8_2
       have h2 : ¬ (((outs es (i : Int)).length : Int) = 2) := by simpa using c8
       unfold degV
       omega
      have e1 := hd' u (JO hi hu)
      have e2 := hd' i (JO (i := i + 1) (by omega) (by rw [hb]; simp))
      have e3 := hd u hu
      unfold degV at e1 e2 e3
      simp at c9
      omega
 ·refine DC.exit <| Ad <| Ad <| Ag <| Fin.then <| Zs ?_
  refine Zm ?_
  refine Zm ?_
  refine Za ?_
  refine Za ?_
  refine Zx <| DC.ret ?_
  have hie : i = n := by simp at c4; omega
  subst hie
  have hbl := LD es i
  refine Fin.slcs (i := 0) (xs := brV es i) rfl (by omega) ?_
  rintro A c rfl _
  refine Fin.weak (E' := [(2, _), (3, _)]) (L' := [slc (.slice A (brV es i).length c) 3 1 (ints (brV es i))]) ⟨rfl, rfl, trivial⟩ (.cons 0 rfl .nil) ?_
  refine AJ (.inl rfl) rfl rfl rfl ?_
  exact .inl ⟨A, c, d, rfl, rfl, hd⟩
end Go.Fl

namespace Go.Fl
open Go Go.Proofs
open Classical
theorem BJ (c : Chunk) : ∀ R : List Chunk, Pick (c :: R) R
 | [] => .nil
 | d :: R => .cons 1 rfl (BJ c R)
theorem Fq (a : Chunk) {M L' : List Chunk} (h : Pick M L') : Pick (a :: M) L' := by
 induction h with
 | nil => exact .nil
 | cons i h r ih => exact .cons (i + 1) h ih
theorem IR {w0 w : World} {K : List Nat} {F : List Chunk} {t : Nat} {cs : RL} {p : Value × List Int} (hw : Own w0 K w (F ++ rowsC t cs)) (hp : p ∈ cs) : SlB w p.1 p.2 := by
 obtain ⟨i, hi⟩ := List.mem_iff_getElem?.1 hp
 exact EN (hw.perm (FU hi F).symm)
/-- The values of the map are our rows. -/
def MapR (m : List (Pr × Value)) (cs : RL) : Prop := ∀ q x, lkM m q = some x → ∃ p, p ∈ cs ∧ p.1 = x
theorem Dv {gm : Nat} {m : List (Pr × Value)} {cs : RL} {X : List Chunk} {u v : Int} {w : World} (hO : Own w (idsOf (mpc encP gm m :: (X ++ rowsC 3 cs))) w (mpc encP gm m :: (X ++ rowsC 3 cs))) (hm : MapR m cs)
  (hs : ∀ p, p ∈ cs → p.2.length ≤ 1000000000) :
  Calls Tryz.prog 162 #[.map (some gm), .int .i64 u, .int .i64 v] w (Ret w (idsOf (mpc encP gm m :: (X ++ rowsC 3 cs))) fun r M => M = mpc encP gm m :: (X ++ rowsC 3 cs) ∧
   ∃ A l c, r = .tuple #[.slice A l c, .bool (lkM m (srt u v)).isSome]) := by
 obtain ⟨xs, hxl, hxs⟩ : ∃ xs : List Int, xs.length ≤ 1000000000 ∧ ∀ (w0 w' : World) K, Own w0 K w' (mpc encP gm m :: (X ++ rowsC 3 cs)) → SlB w' ((lkM m (srt u v)).getD (.slice none 0 0)) xs := by
  cases hq : lkM m (srt u v) with
  | none => exact ⟨[], by simp, fun _ _ _ _ => .inl ⟨none, 0, rfl, rfl⟩⟩
  | some x =>
   obtain ⟨p, hp, rfl⟩ := hm _ _ hq
   exact ⟨p.2, hs p hp, fun w0 w' K hw => IR (F := mpc encP gm m :: X) hw hp⟩
 refine At (args := [_, _, _]) (L := mpc encP gm m :: (X ++ rowsC 3 cs)) Tryz.func162 rfl Tryz.ntmps162 rfl hO ?_
 refine Zs ?_
 refine Za ?_
 refine Za ?_
 refine Zx <| Zs ?_
 refine Zm ?_
 refine Zm ?_
 refine Zm ?_
 refine Zo (p_min rfl rfl rfl) ?_
 refine Zm ?_
 refine Zm ?_
 refine Zo (p_max rfl rfl rfl) ?_
 refine Zo (H2 (cs := #[.int .i64 (min u v), .int .i64 (max u v)]) rfl rfl Tryz.underlying35 AN LJ rfl rfl rfl) ?_
 refine Zu (CA (k := srt u v) (ok := true) 0 rfl Fz rfl rfl rfl Tryz.underlying205 CH rfl) ?_
 refine Zm ?_
 refine Ze ?_
 refine Ze ?_
 refine Za ?_
 refine Za ?_
 refine Zx <| Zs ?_
 refine Zm ?_
 refine Seq.rel rfl rfl (Aq en52 rfl rfl rfl (fun w' hw => C8 (hxs _ w' _ hw) (by omega))) ?_
 rintro v23 _ rfl
 simp only [List.cons_append, List.nil_append]
 refine Za ?_
 refine Zx <| DC.seq <| Zs ?_
 refine Zm ?_
 refine Zm ?_
 refine Zo (BH rfl rfl rfl) ?_
 refine Zx ?_
 refine Zd (fun c3 => ?_) fun c3 => ?_
 ·refine DC.region ?_
  refine Zm ?_
  refine Seq.gen rfl rfl (BA en53 rfl rfl rfl (Lc := [slc v23 3 1 (ints xs)]) (F := mpc encP gm m :: (X ++ rowsC 3 cs)) (.refl _) (fun k hk => hk) (fun w' hw => Fj (hw.sub (L' := [slc v23 3 1 (ints xs)]) ((List.nil_sublist _).cons_cons _)).self)) ?_
  rintro v28 _ ⟨_, rfl, rfl⟩
  refine Zx <| Zs ?_
  refine Zm ?_
  refine Zm ?_
  refine Za ?_
  refine Za ?_
  refine Zx <| DC.ret ?_
  refine Fin.shape (i := 0) (vs := ints xs.reverse) (t := 3) (m := 1) rfl ?_
  rintro ⟨A, l, c, rfl⟩
  refine Fin.own (fun w hw => hw.sub (List.sublist_cons_self ..)) ?_
  refine Fin.weak (E' := [(6, _), (7, _)]) ⟨rfl, rfl, trivial⟩ (Pick.all _) ?_
  refine AJ (.inl rfl) rfl rfl rfl ?_
  exact ⟨rfl, A, l, c, rfl⟩
 ·refine DC.skip <| Fin.then <| Zs ?_
  refine Zm ?_
  refine Zm ?_
  refine Za ?_
  refine Za ?_
  refine Zx <| DC.ret ?_
  refine Fin.shape (i := 0) (vs := ints xs) (t := 3) (m := 1) rfl ?_
  rintro ⟨A, l, c, rfl⟩
  refine Fin.own (fun w hw => hw.sub (List.sublist_cons_self ..)) ?_
  refine Fin.weak (E' := [(6, _), (7, _)]) ⟨rfl, rfl, trivial⟩ (Pick.all _) ?_
  refine AJ (.inl rfl) rfl rfl rfl ?_
  exact ⟨rfl, A, l, c, rfl⟩
theorem C5 {E : List Pr} {B : List Int} {i : Nat} {x : Int} (hx : B[i]? = some x) (f : Int → Bool) : (B.take (i + 1)).filter f = (B.take i).filter f ++ if f x then [x] else [] := by
 rw [List.take_add_one, hx, List.filter_append]
 congr 1
 cases h : f x <;> simp [h]
structure SdI where
 i : Nat
 v5 : Value
 v6 : Value
theorem IS {gm : Nat} {m : List (Pr × Value)} {cs : RL} {vb : Value} {B : List Int} {E : List Pr} {w : World} (hO : Own w (idsOf (mpc encP gm m :: slc vb 3 1 (ints B) :: rowsC 3 cs)) w (mpc encP gm m :: slc vb 3 1 (ints B) :: rowsC 3 cs)) (hm : MapR m cs)
  (hs : ∀ p, p ∈ cs → p.2.length ≤ 1000000000) (hB : B.length ≤ 1000000) (hE : ∀ q, (lkM m q).isSome = decide (q ∈ E)) :
  Calls Tryz.prog 129 #[vb, .map (some gm)] w (Ret w (idsOf (mpc encP gm m :: slc vb 3 1 (ints B) :: rowsC 3 cs)) fun r M => M = mpc encP gm m :: slc r 3 1 (ints (sidesOf E B)) :: rowsC 3 cs) := by
 refine At (args := [_, _]) (L := mpc encP gm m :: slc vb 3 1 (ints B) :: rowsC 3 cs) Tryz.func129 rfl Tryz.ntmps129 rfl hO ?_
 refine DC.slcs (i := 1) (xs := B) rfl (by omega) ?_
 rintro A c rfl hA
 refine Zs ?_
 refine Za ?_
 refine Zx <| Zs ?_
 refine Za ?_
 refine Za ?_
 refine Zx <| DC.seq <| Zs ?_
 refine Zm ?_
 refine Zn Tryz.underlying44 ?_
 refine Zm ?_
 refine Zx <| DC.block ?_
 refine DC.own (fun w hw => Bm (t := 3) (m := 1) (Bm (t := 3) (m := 1) hw)) ?_
 refine DC.loop (ι := SdI) (fun j => j.i ≤ B.length)
  (fun j => [(0, .slice A B.length c), (1, .map (some gm)), (5, j.v5), (6, j.v6), (11, .slice A B.length c), (12, .int .i64 B.length), (13, .int .i64 j.i)])
  (fun j => mpc encP gm m :: slc j.v5 3 1 (ints ((B.take j.i).filter fun v => decide (srt (B.headD 0) v ∉ E))) :: slc j.v6 3 1 (ints ((B.take j.i).filter fun v => decide (srt (B.headD 0) v ∈ E))) :: slc (.slice A B.length c) 3 1 (ints B) :: rowsC 3 cs) (fun j => B.length - j.i)
  ⟨0, .slice none 0 0, .slice none 0 0⟩ (Nat.zero_le _) ⟨rfl, rfl, rfl, rfl, rfl, rfl, rfl, trivial⟩ (.cons 2 rfl (.cons 0 rfl (.cons 0 rfl (Pick.all _)))) ?_
 rintro ⟨i, v5, v6⟩ hi
 dsimp only at hi ⊢
 refine Zs ?_
 refine Zc ?_
 refine Zx <| DC.seq ?_
 refine Zd (fun c3 => ?_) fun c3 => ?_
 ·have hlt : i < B.length := by simpa using c3
  obtain ⟨ad, rfl⟩ := hA (fun e => by rw [e] at hlt; simp at hlt)
  obtain ⟨x, hx⟩ : ∃ x, B[i]? = some x := ⟨_, List.getElem?_eq_getElem hlt⟩
  obtain ⟨x0, hx0⟩ : ∃ x, B[0]? = some x := ⟨_, List.getElem?_eq_getElem (by omega)⟩
  have hhd : B.headD 0 = x0 := by rw [List.headD_eq_head?_getD, List.head?_eq_getElem?, hx0]; rfl
  have hl5 := List.length_filter_le (fun v => decide (srt (B.headD 0) v ∉ E)) (B.take i)
  have hl6 := List.length_filter_le (fun v => decide (srt (B.headD 0) v ∈ E)) (B.take i)
  rw [List.length_take] at hl5 hl6
  refine DC.skip <| Fin.then <| DC.seq <| DC.block <| Zs ?_
  refine Zo (Ai (ad' := ad.add i) rfl rfl rfl Tryz.underlying44 AN (by omega) (by omega) rfl) ?_
  refine Zu (Ah rfl rfl AO (BE (i := 3) rfl hx (by omega))) ?_
  refine Za ?_
  refine Zx <| Zs ?_
  refine Zm ?_
  refine Zm ?_
  refine Zo (Ai (ad' := ad.add 0) rfl rfl rfl Tryz.underlying44 AN (by omega) (by omega) rfl) ?_
  refine Zu (Ah rfl rfl AO (BE (i := 3) rfl hx0 (by omega))) ?_
  refine Zm ?_
  refine Seq.gen rfl rfl (BA en162 rfl rfl rfl (Lc := mpc encP gm m :: ([slc v5 3 1 (ints ((B.take i).filter fun v => decide (srt (B.headD 0) v ∉ E))), slc v6 3 1 (ints ((B.take i).filter fun v => decide (srt (B.headD 0) v ∈ E))), slc (.slice (some ad) B.length c) 3 1 (ints B)] ++ rowsC 3 cs)) (F := []) (by rw [List.append_nil]; exact .refl _) (fun k hk => hk) (fun w' hw => Dv hw.self hm hs)) ?_
  rintro _ _ ⟨_, ⟨rfl, A', l', c', rfl⟩, rfl⟩
  rw [hE, List.append_nil, ← hhd]
  simp only [List.cons_append, List.nil_append]
  refine Zm ?_
  refine Ze ?_
  refine Ze ?_
  refine Za ?_
  refine Za ?_
  refine Zx <| Zs ?_
  refine Zm ?_
  refine Zx ?_
  refine Zd (fun c6 => ?_) fun c6 => ?_
  ·refine DC.region ?_
   refine Zm ?_
   refine Zm ?_
   refine Zw (AP (cs := #[_]) rfl rfl Tryz.underlying44 AN B6 rfl (by decide) (by decide) rfl rfl) fun g29 => ?_
   refine Seq.gen rfl rfl (AR rfl rfl rfl Tryz.underlying44 AN DP B6 rfl (by decide) (by decide) (fun w hw => hw.perm (AI (i := 3) rfl).symm) (.inl ⟨_, _, rfl, Ak rfl⟩) rfl (Br [_] []) (by simp only [ints_length]; omega)) ?_
   rintro v30 _ rfl
   refine Za ?_
   refine Seq.nil <| Fin.inBlock <| Fin.then <| DC.region ?_
   refine Zp ?_
   refine Zm ?_
   refine Seq.nil ?_
   have h6 : srt (B.headD 0) x ∈ E := by simpa using c6
   refine Fin.again ⟨i + 1, v5, v30⟩ (by dsimp only; omega) (by dsimp only; omega) ⟨rfl, rfl, rfl, rfl, rfl, rfl, rfl, trivial⟩
    (.cons 2 rfl (.cons' 2 rfl ?_ (.cons' 0 rfl ?_ (.cons 1 rfl (BJ _ _)))))
   ·dsimp only; rw [C5 (E := E) hx, if_neg (by simpa using h6), List.append_nil]
   ·dsimp only; rw [C5 (E := E) hx, if_pos (by simpa using h6), A4]
  ·refine DC.region ?_
   refine Zm ?_
   refine Zm ?_
   refine Zw (AP (cs := #[_]) rfl rfl Tryz.underlying44 AN B6 rfl (by decide) (by decide) rfl rfl) fun g33 => ?_
   refine Seq.gen rfl rfl (AR rfl rfl rfl Tryz.underlying44 AN DP B6 rfl (by decide) (by decide) (fun w hw => hw.perm (AI (i := 2) rfl).symm) (.inl ⟨_, _, rfl, Ak rfl⟩) rfl (Br [_] []) (by simp only [ints_length]; omega)) ?_
   rintro v34 _ rfl
   refine Za ?_
   refine Seq.nil <| Fin.inBlock <| Fin.then <| DC.region ?_
   refine Zp ?_
   refine Zm ?_
   refine Seq.nil ?_
   have h6 : ¬ srt (B.headD 0) x ∈ E := by simpa using c6
   refine Fin.again ⟨i + 1, v34, v6⟩ (by dsimp only; omega) (by dsimp only; omega) ⟨rfl, rfl, rfl, rfl, rfl, rfl, rfl, trivial⟩
    (.cons 2 rfl (.cons' 0 rfl ?_ (.cons' 1 rfl ?_ (.cons 1 rfl (BJ _ _)))))
   ·dsimp only; rw [C5 (E := E) hx, if_pos (by simpa using h6), A4]
   ·dsimp only; rw [C5 (E := E) hx, if_neg (by simpa using h6), List.append_nil]
 ·refine DC.exit <| Ad <| Ad <| Ag <| Fin.then <| DC.seq ?_
  have hie : i = B.length := by simp at c3; omega
  subst hie
  rw [List.take_length]
  have hl5 := List.length_filter_le (fun v => decide (srt (B.headD 0) v ∉ E)) B
  have hl6 := List.length_filter_le (fun v => decide (srt (B.headD 0) v ∈ E)) B
  refine DC.slcs (i := 2) (v := v6) (xs := B.filter fun v => decide (srt (B.headD 0) v ∈ E)) rfl (by omega) ?_
  rintro A6 c6' rfl hA6
  refine DC.region ?_
  refine Zm ?_
  refine Zm ?_
  have hsrc : Src w (idsOf (mpc encP gm m :: slc (.slice A B.length c) 3 1 (ints B) :: rowsC 3 cs)) (mpc encP gm m :: slc v5 3 1 (ints (B.filter fun v => decide (srt (B.headD 0) v ∉ E))) :: slc (.slice A6 (B.filter fun v => decide (srt (B.headD 0) v ∈ E)).length c6') 3 1 (ints (B.filter fun v => decide (srt (B.headD 0) v ∈ E))) :: slc (.slice A B.length c) 3 1 (ints B) :: rowsC 3 cs)
    (.slice A6 (B.filter fun v => decide (srt (B.headD 0) v ∈ E)).length c6') (B.filter fun v => decide (srt (B.headD 0) v ∈ E)).length (ints (B.filter fun v => decide (srt (B.headD 0) v ∈ E))) := by
   by_cases hz : (B.filter fun v => decide (srt (B.headD 0) v ∈ E)) = []
   ·rw [hz]
    cases A6 with
    | none => exact .inr ⟨_, rfl, rfl, rfl⟩
    | some ad => exact .inl ⟨ad, _, rfl, fun w hw j u hj => by simp [ints] at hj⟩
   ·obtain ⟨ad, rfl⟩ := hA6 hz
    exact .inl ⟨ad, _, rfl, FC (i := 2) rfl (by omega)⟩
  refine Seq.gen rfl rfl (AR rfl rfl rfl Tryz.underlying44 AN DP B6 rfl (by decide) (by decide) (fun w hw => hw.perm (AI (i := 1) rfl).symm) hsrc (by simp) (Br _ []) (by simp only [ints_length]; omega)) ?_
  rintro v38 _ rfl
  refine Za ?_
  refine Zx <| DC.ret ?_
  refine Fin.weak (E' := [(4, _)]) (L' := mpc encP gm m :: slc v38 3 1 (ints (sidesOf E B)) :: rowsC 3 cs) ⟨rfl, trivial⟩ (.cons 1 rfl (.cons' 0 rfl (by unfold sidesOf; rw [A4]) (Fq _ (BJ _ _)))) ?_
  refine Aj (.inl rfl) rfl rfl ?_
  rfl
end Go.Fl

namespace Go.Fl
open Go Go.Proofs
open Classical
/-- Which pairs of places there must be a path between. -/
def wantP (k : Int) (i j : Nat) : Bool := decide (i < j) && (decide (k ≠ 2) || (decide (i < 3) && decide (3 ≤ j)))
def cw (k : Int) (n : Nat) : Nat → Nat
 | 0 => 0
 | i + 1 => cw k n i + (List.range n).countP (wantP k i)
theorem cw_le (k : Int) (n : Nat) : ∀ i, cw k n i ≤ i * n
 | 0 => by simp [cw]
 | i + 1 => by
  have := cw_le k n i
  have h2 := List.countP_le_length (p := wantP k i) (l := List.range n)
  simp at h2
  rw [Nat.succ_mul]; unfold cw; omega
theorem E2 (k : Int) (i j : Nat) : (List.range (j + 1)).countP (wantP k i) = (List.range j).countP (wantP k i) + if wantP k i j then 1 else 0 := by
 rw [List.range_succ, List.countP_append]
 cases h : wantP k i j <;> simp [h]
def JJ (m : List (Pr × Value)) (S : List Int) (i j : Nat) : Prop := ∀ x y, S[i]? = some x → S[j]? = some y → (lkM m (srt x y)).isSome = true
structure PaI where
 i : Nat
 v : Value
 pv : List Value
theorem FH {k : Int} {gm : Nat} {m : List (Pr × Value)} {cs : RL} {vb : Value} {S : List Int} {w : World} (hO : Own w (idsOf (mpc encP gm m :: slc vb 3 1 (ints S) :: rowsC 3 cs)) w (mpc encP gm m :: slc vb 3 1 (ints S) :: rowsC 3 cs)) (hm : MapR m cs)
  (hs : ∀ p, p ∈ cs → p.2.length ≤ 1000000000) (hS : S.length ≤ 6) :
  Calls Tryz.prog 128 #[.int .i64 k, vb, .map (some gm)] w (Ret w (idsOf (mpc encP gm m :: slc vb 3 1 (ints S) :: rowsC 3 cs)) fun r M => M = [] ∧ ∃ k0 A0 l0 c0 A1 l1 c1 b, r = .tuple #[.agg #[.int .i64 k0, .slice A0 l0 c0, .slice A1 l1 c1], .bool b] ∧
   (b = true ↔ (∀ i j, i < S.length → j < S.length → wantP k i j = true → JJ m S i j) ∧ cw k S.length S.length = m.length)) := by
 refine At (args := [_, _, _]) (L := mpc encP gm m :: slc vb 3 1 (ints S) :: rowsC 3 cs) Tryz.func128 rfl Tryz.ntmps128 rfl hO ?_
 refine DC.slcs (i := 1) (xs := S) rfl (by omega) ?_
 rintro A c rfl hA
 refine Zs ?_
 refine Zw (AH rfl LH rfl) fun g6 => ?_
 refine Za ?_
 refine Zx <| Zs ?_
 refine Zm ?_
 refine Zm ?_
 refine Zo (AD (cs := #[_, _, _]) rfl rfl JN rfl rfl) ?_
 refine Zw (AH rfl LH rfl) fun g8 => ?_
 refine Zy (AA (cs' := #[_, _, _]) rfl rfl rfl Cp rfl (Nat.le_of_ble_eq_true rfl) rfl) ?_
 refine Zx <| DC.seq <| Zs ?_
 refine Zm ?_
 refine Zn Tryz.underlying44 ?_
 refine Zm ?_
 refine Zx <| DC.block ?_
 refine DC.own (fun w hw => Bm (t := 44) (m := 1) hw) ?_
 refine DC.loop (ι := PaI) (fun j => j.i ≤ S.length ∧ j.pv.length = cw k S.length j.i ∧ ∀ a b, a < j.i → b < S.length → wantP k a b = true → JJ m S a b)
  (fun j => [(0, .int .i64 k), (1, .slice A S.length c), (2, .map (some gm)), (6, .pointer (some ⟨g6, 0, none⟩)), (8, .pointer (some ⟨g8, 0, none⟩)), (18, .slice A S.length c), (19, .int .i64 S.length), (20, .int .i64 j.i)])
  (fun j => mpc encP gm m :: slc (.slice A S.length c) 3 1 (ints S) :: slc j.v 44 1 j.pv :: blk g8 77 #[.int .i64 k, .slice A S.length c, j.v] :: blk g6 77 #[.int .i64 0, .slice none 0 0, .slice none 0 0] :: rowsC 3 cs) (fun j => S.length - j.i)
  ⟨0, .slice none 0 0, []⟩ ⟨Nat.zero_le _, rfl, fun _ _ h => absurd h (Nat.not_lt_zero _)⟩ ⟨rfl, rfl, rfl, rfl, rfl, rfl, rfl, rfl, trivial⟩ (.cons 3 rfl (.cons 3 rfl (.cons 0 rfl (.cons 0 rfl (.cons 0 rfl (Pick.all _)))))) ?_
 rintro ⟨i, v, pv⟩ ⟨hi, hpv, hJ⟩
 dsimp only at hi hpv hJ ⊢
 refine Zs ?_
 refine Zc ?_
 refine Zx <| DC.seq ?_
 refine Zd (fun c3 => ?_) fun c3 => ?_
 ·have hlt : i < S.length := by simpa using c3
  obtain ⟨ad, rfl⟩ := hA (fun e => by rw [e] at hlt; simp at hlt)
  obtain ⟨x, hx⟩ : ∃ x, S[i]? = some x := ⟨_, List.getElem?_eq_getElem hlt⟩
  refine DC.skip <| Fin.then <| DC.seq <| DC.block <| Zs ?_
  refine Zm ?_
  refine Zo (Ai (ad' := ad.add i) rfl rfl rfl Tryz.underlying44 AN (by omega) (by omega) rfl) ?_
  refine Zu (Ah rfl rfl AO (BE (i := 1) rfl hx (by omega))) ?_
  refine Za ?_
  refine Za ?_
  refine Zx <| Zs ?_
  refine Zm ?_
  refine Zn Tryz.underlying44 ?_
  refine Zm ?_
  refine Zx <| DC.block ?_
  refine DC.loop (ι := PaI) (fun j => j.i ≤ S.length ∧ j.pv.length = cw k S.length i + (List.range j.i).countP (wantP k i) ∧ ∀ b, b < j.i → wantP k i b = true → JJ m S i b)
   (fun j => [(0, .int .i64 k), (1, .slice (some ad) S.length c), (2, .map (some gm)), (6, .pointer (some ⟨g6, 0, none⟩)), (8, .pointer (some ⟨g8, 0, none⟩)), (9, .int .i64 i), (10, .int .i64 x), (18, .slice (some ad) S.length c), (19, .int .i64 S.length), (20, .int .i64 i), (25, .slice (some ad) S.length c), (26, .int .i64 S.length), (27, .int .i64 j.i)])
   (fun j => mpc encP gm m :: slc (.slice (some ad) S.length c) 3 1 (ints S) :: slc j.v 44 1 j.pv :: blk g8 77 #[.int .i64 k, .slice (some ad) S.length c, j.v] :: blk g6 77 #[.int .i64 0, .slice none 0 0, .slice none 0 0] :: rowsC 3 cs) (fun j => S.length - j.i)
   ⟨0, v, pv⟩ ⟨Nat.zero_le _, by simp [hpv], fun _ h => absurd h (Nat.not_lt_zero _)⟩ ⟨rfl, rfl, rfl, rfl, rfl, rfl, rfl, rfl, rfl, rfl, rfl, rfl, rfl, trivial⟩ (Pick.all _) ?_
  rintro ⟨j, v2, pv2⟩ ⟨hj, hpv2, hJ2⟩
  dsimp only at hj hpv2 hJ2 ⊢
  refine Zs ?_
  refine Zc ?_
  refine Zx <| DC.seq ?_
  refine Zd (fun c6 => ?_) fun c6 => ?_
  ·have hjl : j < S.length := by simpa using c6
   obtain ⟨y, hy⟩ : ∃ y, S[j]? = some y := ⟨_, List.getElem?_eq_getElem hjl⟩
   have hb1 := cw_le k S.length i
   have hb2 : i * S.length ≤ 6 * 6 := Nat.mul_le_mul (by omega) (by omega)
   have hb3 := List.countP_le_length (p := wantP k i) (l := List.range j)
   rw [List.length_range] at hb3
   refine DC.skip <| Fin.then <| DC.seq <| DC.block <| Zs ?_
   refine Zm ?_
   refine Zo (Ai (ad' := ad.add j) rfl rfl rfl Tryz.underlying44 AN (by omega) (by omega) rfl) ?_
   refine Zu (Ah rfl rfl AO (BE (i := 1) rfl hy (by omega))) ?_
   refine Za ?_
   refine Za ?_
   refine Zx <| DC.seq <| Zs ?_
   refine Zm ?_
   refine Zm ?_
   refine Zo (p_leq rfl rfl rfl) ?_
   refine Zm ?_
   refine Seq.split 35 rfl (fun k8_3 => ?_) (fun k8_3 => ?_)
   ·refine Zk ?_
    refine Zk ?_
    refine Zk ?_
    refine Zk ?_
    refine Zk ?_
    refine Zk ?_
    refine Zk ?_
    refine Zk ?_
    refine Zk ?_
    refine Zk ?_
    refine Zt ?_
    refine Zx ?_
    refine AM rfl ?_
    refine DC.exit <| Ad <| Ag <| Fin.then <| DC.region ?_
    refine Zp ?_
    refine Zm ?_
    refine Seq.nil ?_
    have hno : wantP k i j = false := by simp at k8_3; simp [wantP]; omega
    refine Fin.again ⟨j + 1, v2, pv2⟩ (by dsimp only; omega) ⟨by dsimp only; omega, by dsimp only; rw [E2, hno]; simpa using hpv2, fun b hb hw => ?_⟩ ⟨rfl, rfl, rfl, rfl, rfl, rfl, rfl, rfl, rfl, rfl, rfl, rfl, rfl, trivial⟩ (Pick.all _)
    rcases Nat.lt_succ_iff_lt_or_eq.1 hb with hb | rfl
    ·exact hJ2 b hb hw
    ·rw [hno] at hw; cases hw
   ·refine Zm ?_
    refine Zo (AX rfl rfl rfl) ?_
    refine Zm ?_
    refine Seq.split 38 rfl (fun k8_6 => ?_) (fun k8_6 => ?_)
    ·refine Zm ?_
     refine Zo (Ck rfl rfl rfl) ?_
     refine Zm ?_
     refine Seq.split 41 rfl (fun k8_9 => ?_) (fun k8_9 => ?_)
     ·refine Zk ?_
      refine Zk ?_
      refine Zt ?_
      refine Zt ?_
      refine Zg ?_
      refine Zx ?_
      refine AM rfl ?_
      refine DC.exit <| Ad <| Ag <| Fin.then <| DC.region ?_
      refine Zp ?_
      refine Zm ?_
      refine Seq.nil ?_
      have hno : wantP k i j = false := by simp at k8_3 k8_6 k8_9; simp [wantP, k8_6]; omega
      refine Fin.again ⟨j + 1, v2, pv2⟩ (by dsimp only; omega) ⟨by dsimp only; omega, by dsimp only; rw [E2, hno]; simpa using hpv2, fun b hb hw => ?_⟩ ⟨rfl, rfl, rfl, rfl, rfl, rfl, rfl, rfl, rfl, rfl, rfl, rfl, rfl, trivial⟩ (Pick.all _)
      rcases Nat.lt_succ_iff_lt_or_eq.1 hb with hb | rfl
      ·exact hJ2 b hb hw
      ·rw [hno] at hw; cases hw
     ·refine Zm ?_
      refine Zc ?_
      refine Zg ?_
      refine Zt ?_
      refine Zg ?_
      refine Zx ?_
      refine Zd (fun c8 => ?_) fun c8 => ?_
      ·refine DC.exit <| Ad <| Ag <| Fin.then <| DC.region ?_
       refine Zp ?_
       refine Zm ?_
       refine Seq.nil ?_
       have hno : wantP k i j = false := by simp at k8_3 k8_6 k8_9 c8; simp [wantP, k8_6]; omega
       refine Fin.again ⟨j + 1, v2, pv2⟩ (by dsimp only; omega) ⟨by dsimp only; omega, by dsimp only; rw [E2, hno]; simpa using hpv2, fun b hb hw => ?_⟩ ⟨rfl, rfl, rfl, rfl, rfl, rfl, rfl, rfl, rfl, rfl, rfl, rfl, rfl, trivial⟩ (Pick.all _)
       rcases Nat.lt_succ_iff_lt_or_eq.1 hb with hb | rfl
       ·exact hJ2 b hb hw
       ·rw [hno] at hw; cases hw
      ·refine DC.skip <| Fin.then <| DC.seq ?_
       have hyes : wantP k i j = true := by
        first
        | (simp at k8_3 k8_6 k8_9 c8; simp [wantP]; omega)
        | (simp at k8_3 k8_6; simp [wantP, k8_6]; omega)
       refine DC.region ?_
       refine Zm ?_
       refine Zm ?_
       refine Zm ?_
       refine Seq.gen rfl rfl (BA en162 rfl rfl rfl (Lc := mpc encP gm m :: ([slc (.slice (some ad) S.length c) 3 1 (ints S), slc v2 44 1 pv2, blk g8 77 #[.int .i64 k, .slice (some ad) S.length c, v2], blk g6 77 #[.int .i64 0, .slice none 0 0, .slice none 0 0]] ++ rowsC 3 cs)) (F := []) (by rw [List.append_nil]; exact .refl _) (fun k hk => hk) (fun w' hw => Dv hw.self hm hs)) ?_
       rintro _ _ ⟨_, ⟨rfl, A', l', c', rfl⟩, rfl⟩
       rw [List.append_nil]
       simp only [List.cons_append, List.nil_append]
       refine Zm ?_
       refine Ze ?_
       refine Ze ?_
       refine Za ?_
       refine Za ?_
       refine Zx <| DC.seq <| Zs ?_
       refine Zm ?_
       refine Zo (Bh rfl rfl) ?_
       refine Zx ?_
       refine Zd (fun c10 => ?_) fun c10 => ?_
       ·refine Zs ?_
        refine Zo (AD (cs := #[_, _, _]) rfl rfl JN rfl rfl) ?_
        refine Zy (AA (cs' := #[_, _, _]) rfl rfl rfl Cp rfl (Nat.le_of_ble_eq_true rfl) rfl) ?_
        refine Za ?_
        refine Zx <| DC.ret <| Aa <| Ae <| Aa <| Aa <| Ae <| Ae <| Aa <| Aa <| Ae <| Aa ?_
        refine Fin.weak (E' := [(6, .pointer (some ⟨g6, 0, none⟩)), (7, .bool false)]) (L' := [blk g6 77 #[.int .i64 0, .slice none 0 0, .slice none 0 0]]) ⟨rfl, rfl, trivial⟩ (.cons 4 rfl .nil) ?_
        refine B9 (cs := #[_, _, _]) (.inl rfl) rfl rfl rfl FE Cp ?_
        refine ⟨[], fun w hw => hw.sub (List.nil_sublist _), rfl, _, _, _, _, _, _, _, false, rfl, ?_⟩
        simp only [Bool.false_eq_true, false_iff]
        rintro ⟨h1, _⟩
        have h2 := h1 i j hlt hjl hyes x y hx hy
        rw [h2] at c10
        simp at c10
       ·refine DC.skip <| Fin.then <| DC.region ?_
        refine Zf GJ ?_
        refine Zl FS ?_
        refine Zm ?_
        refine Zw (AP (cs := #[_]) rfl rfl Tryz.underlying25 Bn CH rfl (by decide) (by decide) rfl rfl) fun g60 => ?_
        refine Seq.gen rfl rfl (AR rfl rfl rfl Tryz.underlying25 Bn GT CH rfl (by decide) (by decide) (news := [.slice A' l' c']) (k := 1) (fun w hw => hw.perm (AI (i := 3) rfl).symm) (.inl ⟨_, _, rfl, Ak rfl⟩) rfl (fun u hu => by rw [List.mem_singleton.1 hu]; rfl) (by simp; omega)) ?_
        rintro v61 _ rfl
        simp only [List.eraseIdx_cons_succ, List.eraseIdx_cons_zero]
        refine Seq.shape (t := 44) (m := 1) (vs := pv2 ++ [.slice A' l' c']) 0 rfl ?_
        rintro ⟨A61, l61, c61, rfl⟩
        refine Zf GJ ?_
        refine Zy (AF (cs' := #[_, _, _]) rfl rfl rfl sz25 rfl (Nat.le_of_ble_eq_true rfl) rfl) ?_
        refine Seq.nil <| Fin.inBlock <| Fin.then <| DC.region ?_
        refine Zp ?_
        refine Zm ?_
        refine Seq.nil ?_
        have hjj : JJ m S i j := fun x' y' hx' hy' => by
         rw [hx] at hx'; rw [hy] at hy'; cases hx'; cases hy'
         simpa using c10
        refine Fin.again ⟨j + 1, .slice A61 l61 c61, pv2 ++ [.slice A' l' c']⟩ (by dsimp only; omega) ⟨by dsimp only; omega, by dsimp only; rw [E2, hyes, List.length_append, hpv2]; simp; omega, fun b hb hw => ?_⟩ ⟨rfl, rfl, rfl, rfl, rfl, rfl, rfl, rfl, rfl, rfl, rfl, rfl, rfl, trivial⟩ (.cons 2 rfl (.cons 2 rfl (.cons 0 rfl (.cons 1 rfl (.cons 1 rfl (BJ _ _))))))
        rcases Nat.lt_succ_iff_lt_or_eq.1 hb with hb | rfl
        ·exact hJ2 b hb hw
        ·exact hjj
    ·refine Zk ?_
     refine Zk ?_
     refine Zk ?_
     refine Zk ?_
     refine Zk ?_
     refine Zk ?_
     refine Zg ?_
     refine Zg ?_
     refine Zx ?_
     refine Bw rfl ?_
     refine DC.skip <| Fin.then <| DC.seq ?_
     have hyes : wantP k i j = true := by
      first
      | (simp at k8_3 k8_6 k8_9 c8; simp [wantP]; omega)
      | (simp at k8_3 k8_6; simp [wantP, k8_6]; omega)
     refine DC.region ?_
     refine Zm ?_
     refine Zm ?_
     refine Zm ?_
     refine Seq.gen rfl rfl (BA en162 rfl rfl rfl (Lc := mpc encP gm m :: ([slc (.slice (some ad) S.length c) 3 1 (ints S), slc v2 44 1 pv2, blk g8 77 #[.int .i64 k, .slice (some ad) S.length c, v2], blk g6 77 #[.int .i64 0, .slice none 0 0, .slice none 0 0]] ++ rowsC 3 cs)) (F := []) (by rw [List.append_nil]; exact .refl _) (fun k hk => hk) (fun w' hw => Dv hw.self hm hs)) ?_
     rintro _ _ ⟨_, ⟨rfl, A', l', c', rfl⟩, rfl⟩
     rw [List.append_nil]
     simp only [List.cons_append, List.nil_append]
     refine Zm ?_
     refine Ze ?_
     refine Ze ?_
     refine Za ?_
     refine Za ?_
     refine Zx <| DC.seq <| Zs ?_
     refine Zm ?_
     refine Zo (Bh rfl rfl) ?_
     refine Zx ?_
     refine Zd (fun c10 => ?_) fun c10 => ?_
     ·refine Zs ?_
      refine Zo (AD (cs := #[_, _, _]) rfl rfl JN rfl rfl) ?_
      refine Zy (AA (cs' := #[_, _, _]) rfl rfl rfl Cp rfl (Nat.le_of_ble_eq_true rfl) rfl) ?_
      refine Za ?_
      refine Zx <| DC.ret <| Aa <| Ae <| Aa <| Aa <| Ae <| Ae <| Aa <| Aa <| Ae <| Aa ?_
      refine Fin.weak (E' := [(6, .pointer (some ⟨g6, 0, none⟩)), (7, .bool false)]) (L' := [blk g6 77 #[.int .i64 0, .slice none 0 0, .slice none 0 0]]) ⟨rfl, rfl, trivial⟩ (.cons 4 rfl .nil) ?_
      refine B9 (cs := #[_, _, _]) (.inl rfl) rfl rfl rfl FE Cp ?_
      refine ⟨[], fun w hw => hw.sub (List.nil_sublist _), rfl, _, _, _, _, _, _, _, false, rfl, ?_⟩
      simp only [Bool.false_eq_true, false_iff]
      rintro ⟨h1, _⟩
      have h2 := h1 i j hlt hjl hyes x y hx hy
      rw [h2] at c10
      simp at c10
     ·refine DC.skip <| Fin.then <| DC.region ?_
      refine Zf GJ ?_
      refine Zl FS ?_
      refine Zm ?_
      refine Zw (AP (cs := #[_]) rfl rfl Tryz.underlying25 Bn CH rfl (by decide) (by decide) rfl rfl) fun g60 => ?_
      refine Seq.gen rfl rfl (AR rfl rfl rfl Tryz.underlying25 Bn GT CH rfl (by decide) (by decide) (news := [.slice A' l' c']) (k := 1) (fun w hw => hw.perm (AI (i := 3) rfl).symm) (.inl ⟨_, _, rfl, Ak rfl⟩) rfl (fun u hu => by rw [List.mem_singleton.1 hu]; rfl) (by simp; omega)) ?_
      rintro v61 _ rfl
      simp only [List.eraseIdx_cons_succ, List.eraseIdx_cons_zero]
      refine Seq.shape (t := 44) (m := 1) (vs := pv2 ++ [.slice A' l' c']) 0 rfl ?_
      rintro ⟨A61, l61, c61, rfl⟩
      refine Zf GJ ?_
      refine Zy (AF (cs' := #[_, _, _]) rfl rfl rfl sz25 rfl (Nat.le_of_ble_eq_true rfl) rfl) ?_
      refine Seq.nil <| Fin.inBlock <| Fin.then <| DC.region ?_
      refine Zp ?_
      refine Zm ?_
      refine Seq.nil ?_
      have hjj : JJ m S i j := fun x' y' hx' hy' => by
       rw [hx] at hx'; rw [hy] at hy'; cases hx'; cases hy'
       simpa using c10
      refine Fin.again ⟨j + 1, .slice A61 l61 c61, pv2 ++ [.slice A' l' c']⟩ (by dsimp only; omega) ⟨by dsimp only; omega, by dsimp only; rw [E2, hyes, List.length_append, hpv2]; simp; omega, fun b hb hw => ?_⟩ ⟨rfl, rfl, rfl, rfl, rfl, rfl, rfl, rfl, rfl, rfl, rfl, rfl, rfl, trivial⟩ (.cons 2 rfl (.cons 2 rfl (.cons 0 rfl (.cons 1 rfl (.cons 1 rfl (BJ _ _))))))
      rcases Nat.lt_succ_iff_lt_or_eq.1 hb with hb | rfl
      ·exact hJ2 b hb hw
      ·exact hjj
  ·refine DC.exit <| Ad <| Ad <| Ag <| Fin.inBlock <| Fin.then <| DC.region ?_
   refine Zp ?_
   refine Zm ?_
   refine Seq.nil ?_
   have hje : j = S.length := by simp at c6; omega
   subst hje
   refine Fin.again ⟨i + 1, v2, pv2⟩ (by dsimp only; omega) ⟨by dsimp only; omega, hpv2, fun a b ha hb hw => ?_⟩ ⟨rfl, rfl, rfl, rfl, rfl, rfl, rfl, rfl, trivial⟩ (Pick.all _)
   rcases Nat.lt_succ_iff_lt_or_eq.1 ha with ha | rfl
   ·exact hJ a b ha hb hw
   ·exact hJ2 b hb hw
 ·refine DC.exit <| Ad <| Ad <| Ag <| Fin.then <| DC.seq <| DC.seq ?_
  have hie : i = S.length := by simp at c3; omega
  subst hie
  have hb1 := cw_le k S.length S.length
  have hb2 : S.length * S.length ≤ 6 * 6 := Nat.mul_le_mul (by omega) (by omega)
  refine Fd (i := 2) rfl ?_
  rintro Av cv rfl hAv
  refine DC.region ?_
  refine Zf GJ ?_
  refine Zl FS ?_
  refine Zn Tryz.underlying25 ?_
  refine Zm ?_
  refine Zu (v_lenMap 0 rfl rfl rfl Tryz.underlying205) ?_
  refine Zo (BS rfl rfl rfl) ?_
  refine Zx ?_
  refine Zd (fun c15 => ?_) fun c15 => ?_
  ·refine Zs ?_
   refine Zo (AD (cs := #[_, _, _]) rfl rfl JN rfl rfl) ?_
   refine Zy (AA (cs' := #[_, _, _]) rfl rfl rfl Cp rfl (Nat.le_of_ble_eq_true rfl) rfl) ?_
   refine Za ?_
   refine Zx <| DC.ret <| Aa ?_
   refine Fin.weak (E' := [(6, .pointer (some ⟨g6, 0, none⟩)), (7, .bool false)]) (L' := [blk g6 77 #[.int .i64 0, .slice none 0 0, .slice none 0 0]]) ⟨rfl, rfl, trivial⟩ (.cons 4 rfl .nil) ?_
   refine B9 (cs := #[_, _, _]) (.inl rfl) rfl rfl rfl FE Cp ?_
   refine ⟨[], fun w hw => hw.sub (List.nil_sublist _), rfl, _, _, _, _, _, _, _, false, rfl, ?_⟩
   simp only [Bool.false_eq_true, false_iff]
   rintro ⟨_, h2⟩
   simp at c15
   omega
  ·refine DC.skip <| Fin.then <| Zs ?_
   refine Zu (Ay (vs := [_, _, _]) rfl rfl FE Cp rfl (Ak rfl)) ?_
   refine Zy (AA (cs' := #[_, _, _]) rfl rfl rfl Cp rfl (Nat.le_of_ble_eq_true rfl) rfl) ?_
   refine Za ?_
   refine Zx <| DC.ret ?_
   refine Fin.weak (E' := [(6, .pointer (some ⟨g6, 0, none⟩)), (7, .bool true)]) (L' := [blk g6 77 #[.int .i64 k, .slice A S.length c, .slice Av pv.length cv]]) ⟨rfl, rfl, trivial⟩ (.cons 4 rfl .nil) ?_
   refine B9 (cs := #[_, _, _]) (.inl rfl) rfl rfl rfl FE Cp ?_
   refine ⟨[], fun w hw => hw.sub (List.nil_sublist _), rfl, _, _, _, _, _, _, _, true, rfl, ?_⟩
   simp only [true_iff]
   exact ⟨fun i j hi hj hw => hJ i j hi hj hw, by simp at c15; omega⟩
end Go.Fl

namespace Go.Fl
open Go Go.Proofs
open Classical
theorem F2 {κ : Type} [DecidableEq κ] (m : List (κ × Value)) (q : κ) : (lkM m q).isSome = decide (q ∈ m.map (·.1)) := by
 cases h : lkM m q with
 | none => simpa using GA h
 | some v =>
  have : q ∈ m.map (·.1) := List.mem_map.2 ⟨_, Lh h, rfl⟩
  simp only [Option.isSome_some]
  exact (decide_eq_true this).symm
structure ReI where
 i : Nat
 m : List (Pr × Value)
/-- The map from the ends of the chains, of the first i. -/
structure MapE (E : List Pr) (cs : RL) (i : Nat) (m : List (Pr × Value)) : Prop where
 keys : m.map (·.1) = E.take i
 nd : (E.take i).Nodup
 ne : ∀ p, p ∈ E.take i → p.1 ≠ p.2
 row : MapR m cs
theorem MapE.next {E : List Pr} {cs : RL} {i : Nat} {m : List (Pr × Value)} (h : MapE E cs i m) {q : Pr} (hq : E[i]? = some q) (hno : q ∉ m.map (·.1)) (hne : q.1 ≠ q.2) {p : Value × List Int} (hp : p ∈ cs) : MapE E cs (i + 1) (putM q p.1 m) := by
 have hk : (putM q p.1 m).map (·.1) = m.map (·.1) ++ [q] := by
  rw [Fp, F2, if_neg (by simpa using hno)]
 have ht : E.take (i + 1) = E.take i ++ [q] := by rw [List.take_add_one, hq]; rfl
 refine ⟨by rw [hk, ht, h.keys], ?_, ?_, ?_⟩
 ·rw [ht, List.nodup_append]
  refine ⟨h.nd, by simp, fun a ha b hb e => ?_⟩
  simp at hb; subst hb; subst e
  rw [← h.keys] at ha
  exact hno ha
 ·intro x hx
  rw [ht] at hx
  rcases List.mem_append.1 hx with hx | hx
  ·exact h.ne x hx
  ·simp at hx; subst hx; exact hne
 ·intro x v hv
  rw [Du] at hv
  split at hv
  ·cases hv; exact ⟨p, hp, rfl⟩
  ·exact h.row x v hv
theorem endsU_len (es : List Pr) (k : Nat) : (endsU es k).length = (selU es k).length := by simp [endsU]
theorem Ia {m : List (Pr × Value)} {E : List Pr} (hlk : ∀ q, (lkM m q).isSome = decide (q ∈ E)) {S : List Int} {i j : Nat} {x y : Int} (hx : S[i]? = some x) (hy : S[j]? = some y) : JJ m S i j ↔ srt x y ∈ E := by
 unfold JJ
 constructor
 ·intro h
  have := h x y hx hy
  rw [hlk] at this
  simpa using this
 ·intro h x' y' hx' hy'
  rw [hx] at hx'; rw [hy] at hy'; cases hx'; cases hy'
  rw [hlk]; simpa using h
theorem kp5 {EU : List Pr} {B : List Int} {m : List (Pr × Value)} (hg : GoodE EU) (hl : B.length = 5) (hlk : ∀ q, (lkM m q).isSome = decide (q ∈ EU)) (hml : m.length = EU.length) :
  ((∀ i j, i < B.length → j < B.length → wantP 1 i j = true → JJ m B i j) ∧ cw 1 B.length B.length = m.length) ↔ KP EU B 4 := by
 have hc : cw 1 5 5 = 10 := by decide
 have key : (∀ i j, i < B.length → j < B.length → wantP 1 i j = true → JJ m B i j) ↔ ∀ q, q ∈ pairsOf B → q ∈ EU := by
  constructor
  ·intro h q hq
   obtain ⟨i, j, x, y, hij, hx, hy, rfl⟩ := D3.1 hq
   exact (Ia hlk hx hy).1 (h i j (List.getElem?_eq_some_iff.1 hx).1 (List.getElem?_eq_some_iff.1 hy).1 (by simp [wantP, hij]))
  ·intro h i j hi hj hw
   obtain ⟨x, hx⟩ : ∃ x, B[i]? = some x := ⟨_, List.getElem?_eq_getElem hi⟩
   obtain ⟨y, hy⟩ : ∃ y, B[j]? = some y := ⟨_, List.getElem?_eq_getElem hj⟩
   refine (Ia hlk hx hy).2 (h _ (D3.2 ⟨i, j, x, y, ?_, hx, hy, rfl⟩))
   simp [wantP] at hw
   exact hw
 rw [key, hl, hc, hml]
 unfold KP
 constructor
 ·rintro ⟨h1, h2⟩
  exact ⟨hg, .inl ⟨hl, rfl, h1, h2.symm⟩⟩
 ·rintro ⟨_, ⟨_, _, h1, h2⟩ | ⟨_, h, _⟩⟩
  ·exact ⟨h1, h2.symm⟩
  ·omega
theorem kp33 {EU : List Pr} {B : List Int} {m : List (Pr × Value)} (hg : GoodE EU) (hl : B.length = 6) (hlk : ∀ q, (lkM m q).isSome = decide (q ∈ EU)) (hml : m.length = EU.length) :
  ((∀ i j, i < (sidesOf EU B).length → j < (sidesOf EU B).length → wantP 2 i j = true → JJ m (sidesOf EU B) i j) ∧ cw 2 (sidesOf EU B).length (sidesOf EU B).length = m.length) ↔ KP EU B 3 := by
 have hc : cw 2 6 6 = 9 := by decide
 have hsl : (sidesOf EU B).length = 6 := (Gj EU B).length_eq.trans hl
 have key : (∀ i j, i < (sidesOf EU B).length → j < (sidesOf EU B).length → wantP 2 i j = true → JJ m (sidesOf EU B) i j) ↔ ∀ q, q ∈ crossOf (sidesOf EU B) → q ∈ EU := by
  constructor
  ·intro h q hq
   obtain ⟨i, j, x, y, hi, hj, hx, hy, rfl⟩ := FJ.1 hq
   exact (Ia hlk hx hy).1 (h i j (List.getElem?_eq_some_iff.1 hx).1 (List.getElem?_eq_some_iff.1 hy).1 (by simp [wantP, hi, hj]; omega))
  ·intro h i j hi hj hw
   obtain ⟨x, hx⟩ : ∃ x, (sidesOf EU B)[i]? = some x := ⟨_, List.getElem?_eq_getElem hi⟩
   obtain ⟨y, hy⟩ : ∃ y, (sidesOf EU B)[j]? = some y := ⟨_, List.getElem?_eq_getElem hj⟩
   simp [wantP] at hw
   exact (Ia hlk hx hy).2 (h _ (FJ.2 ⟨i, j, x, y, hw.2.1, hw.2.2, hx, hy, rfl⟩))
 rw [key, hsl, hc, hml]
 unfold KP
 constructor
 ·rintro ⟨h1, h2⟩
  exact ⟨hg, .inr ⟨hl, rfl, h1, h2.symm⟩⟩
 ·rintro ⟨_, ⟨_, h, _⟩ | ⟨_, _, h1, h2⟩⟩
  ·omega
  ·exact ⟨h1, h2.symm⟩
theorem FT {n : Nat} {es : List Pr} {va : Value} {w : World} (hg : PrV w va es) (hV : Vld n es) :
  Calls Tryz.prog 98 #[.agg #[.int .i64 n, va]] w (Ret w [] fun r M => M = [] ∧ ∃ k0 A0 l0 c0 A1 l1 c1 b, r = .tuple #[.agg #[.int .i64 k0, .slice A0 l0 c0, .slice A1 l1 c1], .bool b, .int .i64 0] ∧ (b = true ↔ KuraOk n es)) := by
 have hg0 := hg
 obtain ⟨A, cap, rfl, hr, hlc, hcm, hle⟩ := hg
 have hfew := hV.few
 have hno : ∀ {L : List Chunk} {w' : World}, Own w [] w' L → Own w [] w' [] := fun hw => hw.sub (List.nil_sublist _)
 refine At (args := [_]) (L := []) Tryz.func98 rfl Tryz.ntmps98 rfl (Own.start _ _) ?_
 refine Zs ?_
 refine Zw (AS rfl rfl rfl) fun g1 => ?_
 refine Zw (AH rfl LH rfl) fun g2 => ?_
 refine Za ?_
 refine Za ?_
 refine Zx <| Zs ?_
 refine Zu (Ay (vs := [_, _]) rfl rfl Bj Bc rfl (Ak rfl)) ?_
 refine Seq.rel rfl rfl (Aq en125 rfl rfl rfl (fun w' hw => HI n es A cap w' (hr.keep0 hw) (by omega))) ?_
 intro v23 L23 hC23
 obtain ⟨_, M, hP, rfl, rfl⟩ := hC23.resolve_left (fun h => h.1 hV)
 simp only [adjL, List.cons_append, List.nil_append]
 refine Zm ?_
 refine Ze ?_
 refine Ze ?_
 refine Za ?_
 refine Za ?_
 refine Zx <| DC.seq <| Zs ?_
 refine Zm ?_
 refine Zo (BS rfl rfl rfl) ?_
 refine Zx ?_
 refine Zd (fun c2 => ?_) fun c2 => ?_
 ·refine Zs ?_
  refine Zo (AD (cs := #[_, _, _]) rfl rfl JN rfl rfl) ?_
  refine Zm ?_
  refine Zy (AA (cs' := #[_, _, _]) rfl rfl rfl Cp rfl (Nat.le_of_ble_eq_true rfl) rfl) ?_
  refine Za ?_
  refine Za ?_
  refine Zx <| DC.ret <| Aa ?_
  refine Cv (cs := #[_, _, _]) (.inl rfl) rfl rfl rfl rfl FE Cp ?_
  simp at c2
 ·refine DC.skip <| Fin.then <| Zs ?_
  refine Zm ?_
  refine Seq.rel rfl rfl (Aq en126 rfl rfl rfl (fun w' hw => GC (IA hw (.cons 0 rfl (.cons 0 rfl (.cons 0 rfl (.cons 0 rfl (.cons 0 rfl .nil))))) hP))) ?_
  intro v32 L32 hC32
  obtain ⟨A', l', c', d, rfl, hD32⟩ : ∃ A' l' c' d, v32 = .tuple #[.slice A' l' c', .int .i64 (d : Nat)] ∧
    ((l' = (brV es n).length ∧ L32 = [slc (.slice A' (brV es n).length c') 3 1 (ints (brV es n))] ∧ ∀ u, u ∈ brV es n → degV es u = d) ∨ (l' = 0 ∧ ¬ ∃ d, ∀ u, u ∈ brV es n → degV es u = d)) := by
   rcases hC32 with ⟨A', c', d, h1, h2, h3⟩ | ⟨h1, _, h3⟩
   ·exact ⟨A', _, c', d, h1, .inl ⟨rfl, h2, h3⟩⟩
   ·exact ⟨none, 0, 0, 0, h1, .inr ⟨rfl, h3⟩⟩
  clear hC32
  refine Seq.own (M := blk g2 77 #[.int .i64 0, .slice none 0 0, .slice none 0 0] :: blk g1 24 #[.int .i64 n, .slice A es.length cap] :: L32) (fun w hw => (hw.sub (L' := L32 ++ [blk g2 77 #[.int .i64 0, .slice none 0 0, .slice none 0 0], blk g1 24 #[.int .i64 n, .slice A es.length cap]]) ((List.Sublist.refl L32).append (((((List.Sublist.refl _).cons _).cons _).cons _).cons _ |>.cons _))).perm (List.perm_append_comm (l₁ := [_, _]))) ?_
  refine Zm ?_
  refine Ze ?_
  refine Ze ?_
  refine Za ?_
  refine Za ?_
  refine Zx <| DC.seq ?_
  refine DC.cut (ι := Bool) (fun b => b = true ↔ ¬ ((l' = 5 ∧ d = 4) ∨ (l' = 6 ∧ d = 3)))
   (fun b => [(1, .pointer (some ⟨g1, 0, none⟩)), (2, .pointer (some ⟨g2, 0, none⟩)), (7, .slice A' l' c'), (8, .int .i64 d), (52, .bool b)])
   (fun _ => blk g2 77 #[.int .i64 0, .slice none 0 0, .slice none 0 0] :: blk g1 24 #[.int .i64 n, .slice A es.length cap] :: L32) ?first5 ?rest5
  case first5 =>
   refine DC.region ?_
   refine Zm ?_
   refine Zn Tryz.underlying44 ?_
   refine Zo (AX rfl rfl rfl) ?_
   refine Zm ?_
   refine Seq.split 38 rfl (fun k5_3 => ?_) (fun k5_3 => ?_)
   ·refine Zm ?_
    refine Zo (AX rfl rfl rfl) ?_
    refine Zt ?_
    refine Zo (Bh rfl rfl) ?_
    refine Zm ?_
    refine Seq.split 43 rfl (fun k5_8 => ?_) (fun k5_8 => ?_)
    ·refine Zm ?_
     refine Zn Tryz.underlying44 ?_
     refine Zo (AX rfl rfl rfl) ?_
     refine Zm ?_
     refine Seq.split 47 rfl (fun k5_12 => ?_) (fun k5_12 => ?_)
     ·refine Zm ?_
      refine Zo (AX rfl rfl rfl) ?_
      refine Zt ?_
      refine Zo (Bh rfl rfl) ?_
      refine Zt ?_
      refine Seq.nil ?_
      refine AZ _ ?_ ⟨rfl, rfl, rfl, rfl, rfl, trivial⟩ (Pick.all _)
      simp at *
      omega
     ·refine Zk ?_
      refine Zk ?_
      refine Zg ?_
      refine Zo (Bh rfl rfl) ?_
      refine Zt ?_
      refine Seq.nil ?_
      refine AZ _ ?_ ⟨rfl, rfl, rfl, rfl, rfl, trivial⟩ (Pick.all _)
      simp at *
      omega
    ·refine Zk ?_
     refine Zk ?_
     refine Zk ?_
     refine Zk ?_
     refine Zk ?_
     refine Zk ?_
     refine Zk ?_
     refine Zk ?_
     refine Zg ?_
     refine Seq.nil ?_
     refine AZ _ ?_ ⟨rfl, rfl, rfl, rfl, rfl, trivial⟩ (Pick.all _)
     simp at *
     omega
   ·refine Zk ?_
    refine Zk ?_
    refine Zg ?_
    refine Zo (Bh rfl rfl) ?_
    refine Zm ?_
    refine Zm ?_
    refine Zn Tryz.underlying44 ?_
    refine Zo (AX rfl rfl rfl) ?_
    refine Zm ?_
    refine Seq.split 47 rfl (fun k5_12 => ?_) (fun k5_12 => ?_)
    ·refine Zm ?_
     refine Zo (AX rfl rfl rfl) ?_
     refine Zt ?_
     refine Zo (Bh rfl rfl) ?_
     refine Zt ?_
     refine Seq.nil ?_
     refine AZ _ ?_ ⟨rfl, rfl, rfl, rfl, rfl, trivial⟩ (Pick.all _)
     simp at *
     omega
    ·refine Zk ?_
     refine Zk ?_
     refine Zg ?_
     refine Zo (Bh rfl rfl) ?_
     refine Zt ?_
     refine Seq.nil ?_
     refine AZ _ ?_ ⟨rfl, rfl, rfl, rfl, rfl, trivial⟩ (Pick.all _)
     simp at *
     omega
  case rest5 =>
   rintro b5 hb5
   refine Zd (fun c5 => ?_) fun c5 => ?_
   ·refine Zs ?_
    refine Zo (AD (cs := #[_, _, _]) rfl rfl JN rfl rfl) ?_
    refine Zy (AA (cs' := #[_, _, _]) rfl rfl rfl Cp rfl (Nat.le_of_ble_eq_true rfl) rfl) ?_
    refine Za ?_
    refine Za ?_
    refine Zx <| DC.ret <| Aa ?_
    refine Fin.weak (E' := [(2, .pointer (some ⟨g2, 0, none⟩)), (3, .bool false), (4, .int .i64 0)]) (L' := [blk g2 77 #[.int .i64 0, .slice none 0 0, .slice none 0 0]]) ⟨rfl, rfl, rfl, trivial⟩ (.cons 0 rfl .nil) ?_
    refine Cv (cs := #[_, _, _]) (.inl rfl) rfl rfl rfl rfl FE Cp ?_
    refine ⟨[], fun w hw => hw.sub (List.nil_sublist _), rfl, _, _, _, _, _, _, _, false, rfl, ?_⟩
    simp only [Bool.false_eq_true, false_iff]
    rintro ⟨d', hd', hK⟩
    have h5 := hb5.1 c5
    rcases hD32 with ⟨hl', _, hd⟩ | ⟨_, hno2⟩
    ·have hdd : brV es n ≠ [] → d = d' := fun hne => by
      obtain ⟨u, hu⟩ := List.exists_mem_of_ne_nil _ hne
      rw [← hd u hu, hd' u hu]
     rcases hK.2 with ⟨k1, k2, _⟩ | ⟨k1, k2, _⟩
     ·have := hdd (fun e => by rw [e] at k1; simp at k1)
      exact h5 (.inl ⟨by omega, by omega⟩)
     ·have := hdd (fun e => by rw [e] at k1; simp at k1)
      exact h5 (.inr ⟨by omega, by omega⟩)
    ·exact hno2 ⟨d', hd'⟩
   ·refine DC.skip <| Fin.then <| DC.seq ?_
    have hld : (l' = 5 ∧ d = 4) ∨ (l' = 6 ∧ d = 3) := by
     apply Classical.byContradiction
     intro h
     rw [hb5.2 h] at c5; cases c5
    obtain ⟨rfl, rfl, hd⟩ := hD32.resolve_right (fun h => by have := h.1; omega)
    refine DC.region ?_
    refine Zu (Ay (vs := [_, _]) rfl rfl Bj Bc rfl (Ak rfl)) ?_
    refine Seq.rel rfl rfl (Aq en127 rfl rfl rfl (fun w' hw => IG (hg0.keep0 hw) hV)) ?_
    rintro _ _ ⟨v9, cs, rfl, hch, rfl⟩
    refine Seq.own (M := slc v9 44 1 (rowsV cs) :: blk g2 77 #[.int .i64 0, .slice none 0 0, .slice none 0 0] :: blk g1 24 #[.int .i64 n, .slice A es.length cap] :: slc (.slice A' (brV es n).length c') 3 1 (ints (brV es n)) :: rowsC 3 cs) (fun w hw => hw.perm (List.Perm.cons _ (List.perm_append_comm (l₁ := [_, _, _]) (l₂ := rowsC 3 cs)))) ?_
    refine Zm ?_
    refine Ze ?_
    refine Ze ?_
    refine Za ?_
    refine Za ?_
    refine Zx <| Zs ?_
    refine Seq.rel rfl rfl (Df (enc := encP) rfl) ?_
    rintro _ _ ⟨gm, rfl, rfl⟩
    simp only [List.cons_append, List.nil_append]
    refine Za ?_
    refine Zx <| DC.seq <| DC.seq ?_
    obtain ⟨EU, hEU⟩ : ∃ EU, EU = endsU es es.length := ⟨_, rfl⟩
    have hEl : EU.length = cs.length := by rw [hEU, endsU_len, hch.len]
    have hcsl : cs.length ≤ es.length := by rw [hch.len]; exact Gk _
    have hrows : ∀ p, p ∈ cs → p.2.length ≤ 1000000000 := fun p hp => by
     obtain ⟨j, hj⟩ := List.mem_iff_getElem?.1 hp
     obtain ⟨e, he⟩ : ∃ e, (selU es es.length)[j]? = some e := ⟨_, List.getElem?_eq_getElem (by rw [← hch.len]; exact (List.getElem?_eq_some_iff.1 hj).1)⟩
     have := (hch.at' j e p he hj).2.2
     omega
    refine Fd (i := 1) (v := v9) rfl ?_
    rintro A9 c9 rfl hA9
    rw [rowsV_length]
    refine DC.region ?_
    refine Zm ?_
    refine Zn Tryz.underlying25 ?_
    refine Zm ?_
    refine Zx <| DC.block ?_
    refine DC.loop (ι := ReI) (fun j => j.i ≤ cs.length ∧ MapE EU cs j.i j.m)
     (fun j => [(2, .pointer (some ⟨g2, 0, none⟩)), (7, .slice A' (brV es n).length c'), (8, .int .i64 d), (11, .map (some gm)), (60, .slice A9 cs.length c9), (61, .int .i64 cs.length), (62, .int .i64 j.i)])
     (fun j => mpc encP gm j.m :: slc (.slice A9 cs.length c9) 44 1 (rowsV cs) :: blk g2 77 #[.int .i64 0, .slice none 0 0, .slice none 0 0] :: slc (.slice A' (brV es n).length c') 3 1 (ints (brV es n)) :: rowsC 3 cs) (fun j => cs.length - j.i) ⟨0, []⟩
     ⟨Nat.zero_le _, rfl, by simp, by simp, fun _ _ h => by cases h⟩ ⟨rfl, rfl, rfl, rfl, rfl, rfl, rfl, trivial⟩ (.cons 0 rfl (.cons 0 rfl (.cons 0 rfl (.cons 1 rfl (BJ _ _))))) ?_
    rintro ⟨i, m⟩ ⟨hi, hmE⟩
    dsimp only at hi hmE ⊢
    refine Zs ?_
    refine Zc ?_
    refine Zx <| DC.seq ?_
    refine Zd (fun c10 => ?_) fun c10 => ?_
    ·have hlt : i < cs.length := by simpa using c10
     obtain ⟨p, hp⟩ : ∃ p, cs[i]? = some p := ⟨_, List.getElem?_eq_getElem hlt⟩
     obtain ⟨e, he⟩ : ∃ e, (selU es es.length)[i]? = some e := ⟨_, List.getElem?_eq_getElem (by rw [← hch.len]; exact hlt)⟩
     obtain ⟨⟨p0, q0, hp0, hq0, hw1, hw2⟩, hpl, hpu⟩ := hch.at' i e p he hp
     have hEUi : EU[i]? = some (srt (endA es e) (endB es e)) := by rw [hEU]; unfold endsU; rw [List.getElem?_map, he]; rfl
     obtain ⟨ad9, rfl⟩ := hA9 (fun e => by have := congrArg List.length e; simp at this; rw [this] at hlt; simp at hlt)
     refine DC.skip <| Fin.then <| DC.seq <| DC.block <| Zs ?_
     refine Zo (Ai (ad' := ad9.add i) rfl rfl rfl Tryz.underlying25 Bn (by omega) (by omega) rfl) ?_
     refine Zu (Ah rfl rfl Bo (Dh (i := 1) (q := p.1) rfl (by simp [rowsV, hp]))) ?_
     refine Za ?_
     refine Zx <| DC.seq ?_
     refine DC.slcs (v := p.1) (i := i + 4) (xs := p.2) (t := 3) (by simp [rowsC, hp]) (by omega) ?_
     rintro A3 c3 hp1 hA3
     obtain ⟨ad3, rfl⟩ := hA3 (fun e => by rw [e] at hp0; simp at hp0)
     have hrow : ∀ {F : List Chunk} (a b c d : Chunk), (a :: b :: c :: d :: rowsC 3 cs)[i + 4]? = some (slc (.slice (some ad3) p.2.length c3) 3 1 (ints p.2)) := fun a b c d => by rw [← hp1]; simp [rowsC, hp]
     rw [hp1]
     refine AG (cl := [.q, .q, .v, .q, .q, .q, .q, .q, .v, .q, .n, .g]) (A := [0, 1, 3, 0, 0, 16, 48, 120, 248, 511, 0, 2047]) (order := [0, 1, 2, 3, 4, 5, 6, 7, 8, 9, 10, 11]) [] mixed (by kernel_rfl) (fun w hw => hw.pick .nil) ?_
     refine Ym ?_
     refine Yo rfl (Ai (ad' := ad3.add 0) rfl rfl rfl Tryz.underlying44 AN (by omega) (by omega) rfl) ?_
     refine Am rfl rfl rfl rfl (Ah rfl rfl AO (BE (t := 3) (i := i + 4) (l := p.2.length) (c := c3) (hrow (F := []) _ _ _ _) hp0 (by omega))) ?_
     refine Ym ?_
     refine Ym ?_
     refine Yo rfl (BM rfl rfl Tryz.underlying44) ?_
     refine Yo rfl (Ca rfl rfl rfl (by omega)) ?_
     refine Yo rfl (Ai (ad' := ad3.add (p.2.length - 1)) rfl rfl rfl Tryz.underlying44 AN (by omega) (by omega) (by rw [show ((p.2.length : Int) - 1).toNat = p.2.length - 1 by omega])) ?_
     refine Am rfl rfl rfl rfl (Ah rfl rfl AO (BE (t := 3) (i := i + 4) (l := p.2.length) (c := c3) (hrow (F := []) _ _ _ _) hq0 (by omega))) ?_
     refine Yo rfl (H2 (cs := #[.int .i64 p0, .int .i64 q0]) rfl rfl Tryz.underlying35 AN LJ rfl rfl rfl) ?_
     refine AY rfl rfl rfl rfl (AH rfl LJ rfl) fun g14 => ?_
     refine Flow.sto (V := (blk g14 35 #[.int .i64 0, .int .i64 0] :: mpc encP gm m :: slc (.slice (some ad9) cs.length c9) 44 1 (rowsV cs) :: blk g2 77 #[.int .i64 0, .slice none 0 0, .slice none 0 0] :: slc (.slice A' (brV es n).length c') 3 1 (ints (brV es n)) :: rowsC 3 cs)) rfl rfl rfl rfl rfl (AA (cs' := #[_, _]) rfl rfl rfl sz35 rfl (Nat.le_of_ble_eq_true rfl) rfl) (fun w hw => hw.pick (.nil)) ?_
     refine Flow.end rfl ?_
     simp only [zq, zr]
     refine Fin.then <| DC.seq <| Zs ?_
     refine Zm ?_
     refine Zu (Ay (vs := [_, _]) rfl rfl ag35 sz35 rfl (Ak rfl)) ?_
     refine Zu (CA (k := (p0, q0)) (ok := true) 1 rfl Fz rfl rfl rfl Tryz.underlying205 CH rfl) ?_
     refine Zm ?_
     refine Ze ?_
     refine Ze ?_
     refine Za ?_
     refine Za ?_
     refine Zx <| Zs ?_
     refine Zm ?_
     refine Zm ?_
     refine Seq.split 83 rfl (fun k14_1 => ?_) (fun k14_1 => ?_)
     ·refine Zk ?_
      refine Zk ?_
      refine Zk ?_
      refine Zk ?_
      refine Zk ?_
      refine Zt ?_
      refine Zx ?_
      refine AM rfl ?_
      refine Zs ?_
      refine Zo (AD (cs := #[_, _, _]) rfl rfl JN rfl rfl) ?_
      refine Zy (AA (cs' := #[_, _, _]) rfl rfl rfl Cp rfl (Nat.le_of_ble_eq_true rfl) rfl) ?_
      refine Za ?_
      refine Za ?_
      refine Zx <| DC.ret <| Aa <| Ae <| Aa <| Aa <| Ae <| Aa ?_
      refine Fin.weak (E' := [(2, .pointer (some ⟨g2, 0, none⟩)), (3, .bool false), (4, .int .i64 0)]) (L' := [blk g2 77 #[.int .i64 0, .slice none 0 0, .slice none 0 0]]) ⟨rfl, rfl, rfl, trivial⟩ (.cons 3 rfl .nil) ?_
      refine Cv (cs := #[_, _, _]) (.inl rfl) rfl rfl rfl rfl FE Cp ?_
      refine ⟨[], fun w hw => hw.sub (List.nil_sublist _), rfl, _, _, _, _, _, _, _, false, rfl, ?_⟩
      simp only [Bool.false_eq_true, false_iff]
      rintro ⟨d', hd', hK, _⟩
      rw [← hEU] at hK
      have hin : (p0, q0) ∈ m.map (·.1) := by rw [F2] at k14_1; simpa using k14_1
      rw [hmE.keys] at hin
      by_cases hab : endA es e = endB es e
      ·exact hK.2 _ (List.mem_of_getElem? hEUi) (by unfold srt; simp only; omega)
      ·obtain ⟨e1, e2⟩ := hw2 hab
       have hpq : (p0, q0) = srt (endA es e) (endB es e) := by unfold srt; rw [e1, e2]
       rw [hpq] at hin
       obtain ⟨j, hj⟩ := List.mem_iff_getElem?.1 hin
       rw [List.getElem?_take] at hj
       split at hj
       ·rename_i hji
        have := (List.getElem?_inj (by have := (List.getElem?_eq_some_iff.1 hj).1; exact this) hK.1).1 (hj.trans hEUi.symm)
        omega
       ·cases hj
     ·refine Zo (I2 (ad' := ⟨g14, 0, none⟩) rfl rfl rfl Tryz.underlying35 AN (by omega) (by omega) (AC _ _)) ?_
      refine Zl AO ?_
      refine Zo (I2 (ad' := ⟨g14, 1, none⟩) rfl rfl rfl Tryz.underlying35 AN (by omega) (by omega) (AC _ _)) ?_
      refine Zl AO ?_
      refine Zo (AX rfl rfl rfl) ?_
      refine Zg ?_
      refine Zx ?_
      refine Zd (fun c14 => ?_) fun c14 => ?_
      ·refine Zs ?_
       refine Zo (AD (cs := #[_, _, _]) rfl rfl JN rfl rfl) ?_
       refine Zy (AA (cs' := #[_, _, _]) rfl rfl rfl Cp rfl (Nat.le_of_ble_eq_true rfl) rfl) ?_
       refine Za ?_
       refine Za ?_
       refine Zx <| DC.ret <| Aa <| Ae <| Aa <| Aa <| Ae <| Aa ?_
       refine Fin.weak (E' := [(2, .pointer (some ⟨g2, 0, none⟩)), (3, .bool false), (4, .int .i64 0)]) (L' := [blk g2 77 #[.int .i64 0, .slice none 0 0, .slice none 0 0]]) ⟨rfl, rfl, rfl, trivial⟩ (.cons 3 rfl .nil) ?_
       refine Cv (cs := #[_, _, _]) (.inl rfl) rfl rfl rfl rfl FE Cp ?_
       refine ⟨[], fun w hw => hw.sub (List.nil_sublist _), rfl, _, _, _, _, _, _, _, false, rfl, ?_⟩
       simp only [Bool.false_eq_true, false_iff]
       rintro ⟨d', hd', hK, _⟩
       rw [← hEU] at hK
       have hpq : p0 = q0 := by simpa using c14
       refine hK.2 _ (List.mem_of_getElem? hEUi) ?_
       by_cases hab : endA es e = endB es e
       ·unfold srt; simp only; omega
       ·obtain ⟨e1, e2⟩ := hw2 hab
        unfold srt; simp only; omega
      ·refine DC.skip <| Fin.then ?_
       have hne : p0 ≠ q0 := by simpa using c14
       have hab : endA es e ≠ endB es e := fun h => hne (hw1 h)
       obtain ⟨e1, e2⟩ := hw2 hab
       have hpq : (p0, q0) = srt (endA es e) (endB es e) := by unfold srt; rw [e1, e2]
       have hnin : (p0, q0) ∉ m.map (·.1) := by rw [F2] at k14_1; simpa using k14_1
       refine DC.region ?_
       refine Zm ?_
       refine Zu (Ay (vs := [_, _]) rfl rfl ag35 sz35 rfl (Ak rfl)) ?_
       refine Zm ?_
       refine Zy (BR (k := (p0, q0)) 1 rfl Fz rfl rfl rfl rfl Tryz.underlying205 rfl) ?_
       refine Seq.nil <| Fin.inBlock <| Fin.then <| DC.region ?_
       refine Zp ?_
       refine Zm ?_
       refine Seq.nil ?_
       refine Fin.again ⟨i + 1, putM (p0, q0) (.slice (some ad3) p.2.length c3) m⟩ (by dsimp only; omega) ⟨by dsimp only; omega, ?_⟩ ⟨rfl, rfl, rfl, rfl, rfl, rfl, rfl, trivial⟩ (BJ _ _)
       dsimp only
       rw [← hp1]
       exact hmE.next (by rw [hpq]; exact hEUi) hnin hne (List.mem_of_getElem? hp)
    ·refine DC.exit <| Ad <| Ad <| Ag <| Fin.then <| DC.seq <| DC.seq ?_
     have hie : i = cs.length := by simp at c10; omega
     subst hie
     have hke : m.map (·.1) = EU := by rw [hmE.keys, ← hEl, List.take_length]
     have hgood : GoodE EU := by
      have h1 := hmE.nd
      have h2 := hmE.ne
      rw [← hEl, List.take_length] at h1 h2
      exact ⟨h1, h2⟩
     have hml : m.length = EU.length := by rw [← hke, List.length_map]
     have hlk : ∀ q, (lkM m q).isSome = decide (q ∈ EU) := fun q => by rw [F2, hke]; congr
     have hiff : KuraOk n es ↔ KP EU (brV es n) d := by
      rw [hEU]
      constructor
      ·rintro ⟨d', hd', hK⟩
       have hne : brV es n ≠ [] := fun e => by rw [e] at hld; simp at hld
       obtain ⟨u, hu⟩ := List.exists_mem_of_ne_nil _ hne
       have : d = d' := by rw [← hd u hu, hd' u hu]
       rw [this]; exact hK
      ·intro h; exact ⟨d, hd, h⟩
     refine DC.own (M := mpc encP gm m :: slc (.slice A' (brV es n).length c') 3 1 (ints (brV es n)) :: (rowsC 3 cs ++ [blk g2 77 #[.int .i64 0, .slice none 0 0, .slice none 0 0]])) (fun w hw => (hw.sub (L' := mpc encP gm m :: blk g2 77 #[.int .i64 0, .slice none 0 0, .slice none 0 0] :: slc (.slice A' (brV es n).length c') 3 1 (ints (brV es n)) :: rowsC 3 cs) ((List.Sublist.refl _).cons _ |>.cons_cons _)).perm (List.Perm.cons _ (List.perm_append_comm (l₁ := slc (.slice A' (brV es n).length c') 3 1 (ints (brV es n)) :: rowsC 3 cs) (l₂ := [blk g2 77 #[.int .i64 0, .slice none 0 0, .slice none 0 0]])))) ?_
     refine DC.region ?_
     refine Zm ?_
     refine Zo (AX rfl rfl rfl) ?_
     refine Zx ?_
     refine Zd (fun c18 => ?_) fun c18 => ?_
     ·refine Zs ?_
      refine Zm ?_
      refine Zm ?_
      refine Seq.gen rfl rfl (BA en128 rfl rfl rfl (Lc := mpc encP gm m :: slc (.slice A' (brV es n).length c') 3 1 (ints (brV es n)) :: rowsC 3 cs) (F := [blk g2 77 #[.int .i64 0, .slice none 0 0, .slice none 0 0]]) (.refl _) (fun k hk => hk) (fun w' hw => FH (hw.sub (L' := mpc encP gm m :: slc (.slice A' (brV es n).length c') 3 1 (ints (brV es n)) :: rowsC 3 cs) (List.sublist_append_left _ _)).self hmE.row hrows (by omega))) ?_
      rintro _ _ ⟨_, ⟨rfl, k0, A0, l0, c0, A1, l1, c1, bb, rfl, hbb⟩, rfl⟩
      simp only [List.nil_append]
      refine Zm ?_
      refine Ze ?_
      refine Ze ?_
      refine Zw (AH rfl LH rfl) fun g17 => ?_
      refine Zy (AA (cs' := #[_, _, _]) rfl rfl rfl Cp rfl (Nat.le_of_ble_eq_true rfl) rfl) ?_
      refine Za ?_
      refine Zx <| Zs ?_
      refine Zu (Ay (vs := [_, _, _]) rfl rfl FE Cp rfl (Ak rfl)) ?_
      refine Zm ?_
      refine Zy (AA (cs' := #[_, _, _]) rfl rfl rfl Cp rfl (Nat.le_of_ble_eq_true rfl) rfl) ?_
      refine Za ?_
      refine Za ?_
      refine Zx <| DC.ret <| Aa ?_
      refine Cv (cs := #[_, _, _]) (.inl rfl) rfl rfl rfl rfl FE Cp ?_
      refine ⟨[], fun w hw => hw.sub (List.nil_sublist _), rfl, _, _, _, _, _, _, _, bb, rfl, ?_⟩
      have hd4 : d = 4 := by simp at c18; omega
      rw [hbb, hiff, hd4]
      exact kp5 hgood (by omega) hlk hml
     ·refine DC.skip <| Fin.then <| Zs ?_
      refine Zm ?_
      refine Zm ?_
      refine Seq.gen rfl rfl (BA en129 rfl rfl rfl (Lc := mpc encP gm m :: slc (.slice A' (brV es n).length c') 3 1 (ints (brV es n)) :: rowsC 3 cs) (F := [blk g2 77 #[.int .i64 0, .slice none 0 0, .slice none 0 0]]) (.refl _) (fun k hk => hk) (fun w' hw => IS (E := EU) (hw.sub (L' := mpc encP gm m :: slc (.slice A' (brV es n).length c') 3 1 (ints (brV es n)) :: rowsC 3 cs) (List.sublist_append_left _ _)).self hmE.row hrows (by omega) hlk)) ?_
      rintro vs _ ⟨_, rfl, rfl⟩
      have hsl : (sidesOf EU (brV es n)).length = (brV es n).length := (Gj _ _).length_eq
      refine Zm ?_
      refine Seq.gen rfl rfl (BA en128 rfl rfl rfl (Lc := mpc encP gm m :: slc vs 3 1 (ints (sidesOf EU (brV es n))) :: rowsC 3 cs) (F := [blk g2 77 #[.int .i64 0, .slice none 0 0, .slice none 0 0]]) (.refl _) (fun k hk => hk) (fun w' hw => FH (hw.sub (L' := mpc encP gm m :: slc vs 3 1 (ints (sidesOf EU (brV es n))) :: rowsC 3 cs) (List.sublist_append_left _ _)).self hmE.row hrows (by omega))) ?_
      rintro _ _ ⟨_, ⟨rfl, k0, A0, l0, c0, A1, l1, c1, bb, rfl, hbb⟩, rfl⟩
      simp only [List.nil_append]
      refine Zm ?_
      refine Ze ?_
      refine Ze ?_
      refine Zw (AH rfl LH rfl) fun g19 => ?_
      refine Zy (AA (cs' := #[_, _, _]) rfl rfl rfl Cp rfl (Nat.le_of_ble_eq_true rfl) rfl) ?_
      refine Za ?_
      refine Zx <| Zs ?_
      refine Zu (Ay (vs := [_, _, _]) rfl rfl FE Cp rfl (Ak rfl)) ?_
      refine Zm ?_
      refine Zy (AA (cs' := #[_, _, _]) rfl rfl rfl Cp rfl (Nat.le_of_ble_eq_true rfl) rfl) ?_
      refine Za ?_
      refine Za ?_
      refine Zx <| DC.ret ?_
      refine Cv (cs := #[_, _, _]) (.inl rfl) rfl rfl rfl rfl FE Cp ?_
      refine ⟨[], fun w hw => hw.sub (List.nil_sublist _), rfl, _, _, _, _, _, _, _, bb, rfl, ?_⟩
      have hd3 : d = 3 := by simp at c18; omega
      rw [hbb, hiff, hd3]
      exact kp33 hgood (by omega) hlk hml
end Go.Fl

namespace Go.Proofs
open Go.Shelf Go.RowKit Go.Lib Go.Sort
def Tryz.sortEdge_ren : Go.Shelf.Ren := ⟨fun | 6 => 74 | 15 => 108 | 14 => 107 | 28 => 144 | 29 => 145 | 20 => 136 | 21 => 137 | 22 => 138 | 23 => 139 | 24 => 140 | 25 => 141 | 26 => 142 | 27 => 143 | 46 => 166 | 47 => 167 | 48 => 168 | 49 => 169 | 50 => 170 | 57 => 184 | n => n, fun | 22 => 22 | 24 => 43 | 25 => 142 | 3 => 3 | 39 => 180 | 0 => 0 | 53 => 219 | 55 => 221 | 4 => 4 | 46 => 213 | 45 => 212 | 50 => 195 | 5 => 5 | 9 => 9 | 66 => 239 | 70 => 243 | 76 => 254 | 77 => 112 | n => n, fun n => n⟩
theorem Ev : Go.Proofs.SlLaysF0.n6 Tryz.prog Tryz.sortEdge_ren := {
 mixed := by kernel_rfl
 f6 := ⟨"slices.SortFunc[[]tangram/api.Edge,tangram/api.Edge]", by decide, Tryz.func74.trans (congrArg some (by kernel_rfl))⟩
 f14 := ⟨"slices.pdqsortCmpFunc[tangram/api.Edge]", by decide, Tryz.func107.trans (congrArg some (by kernel_rfl))⟩
 f15 := Tryz.func108.trans (congrArg some (by kernel_rfl))
 f20 := ⟨"slices.insertionSortCmpFunc[tangram/api.Edge]", by decide, Tryz.func136.trans (congrArg some (by kernel_rfl))⟩
 f21 := ⟨"slices.heapSortCmpFunc[tangram/api.Edge]", by decide, Tryz.func137.trans (congrArg some (by kernel_rfl))⟩
 f22 := ⟨"slices.breakPatternsCmpFunc[tangram/api.Edge]", by decide, Tryz.func138.trans (congrArg some (by kernel_rfl))⟩
 f23 := ⟨"slices.choosePivotCmpFunc[tangram/api.Edge]", by decide, Tryz.func139.trans (congrArg some (by kernel_rfl))⟩
 f24 := ⟨"slices.reverseRangeCmpFunc[tangram/api.Edge]", by decide, Tryz.func140.trans (congrArg some (by kernel_rfl))⟩
 f25 := ⟨"slices.partialInsertionSortCmpFunc[tangram/api.Edge]", by decide, Tryz.func141.trans (congrArg some (by kernel_rfl))⟩
 f26 := ⟨"slices.partitionEqualCmpFunc[tangram/api.Edge]", by decide, Tryz.func142.trans (congrArg some (by kernel_rfl))⟩
 f27 := ⟨"slices.partitionCmpFunc[tangram/api.Edge]", by decide, Tryz.func143.trans (congrArg some (by kernel_rfl))⟩
 f28 := Tryz.func144.trans (congrArg some (by kernel_rfl))
 f29 := Tryz.func145.trans (congrArg some (by kernel_rfl))
 f46 := ⟨"slices.siftDownCmpFunc[tangram/api.Edge]", by decide, Tryz.func166.trans (congrArg some (by kernel_rfl))⟩
 f47 := Tryz.func167.trans (congrArg some (by kernel_rfl))
 f48 := Tryz.func168.trans (congrArg some (by kernel_rfl))
 f49 := ⟨"slices.medianAdjacentCmpFunc[tangram/api.Edge]", by decide, Tryz.func169.trans (congrArg some (by kernel_rfl))⟩
 f50 := ⟨"slices.medianCmpFunc[tangram/api.Edge]", by decide, Tryz.func170.trans (congrArg some (by kernel_rfl))⟩
 f57 := ⟨"slices.order2CmpFunc[tangram/api.Edge]", by decide, Tryz.func184.trans (congrArg some (by kernel_rfl))⟩
 t0 := Tryz.underlying0
 a0 := Tryz.isAgg0
 z0 := Tryz.sizeOf0
 v0 := Tryz.zeroValue0
 t3 := Tryz.underlying3
 a3 := Tryz.isAgg3
 z3 := Tryz.sizeOf3
 v3 := Tryz.zeroValue3
 t4 := Tryz.underlying4
 a4 := Tryz.isAgg4
 z4 := Tryz.sizeOf4
 v4 := Tryz.zeroValue4
 t5 := Tryz.underlying5
 a5 := Tryz.isAgg5
 z5 := Tryz.sizeOf5
 v5 := Tryz.zeroValue5
 t9 := Tryz.underlying9
 a9 := Tryz.isAgg9
 z9 := Tryz.sizeOf9
 v9 := Tryz.zeroValue9
 t22 := Tryz.underlying22
 a22 := Tryz.isAgg22
 z22 := Tryz.sizeOf22
 v22 := Tryz.zeroValue22
 t25 := Tryz.underlying142
 a25 := Tryz.isAgg142
 z25 := Tryz.sizeOf142
 v25 := Tryz.zeroValue142
 t39 := Tryz.underlying180
 a39 := Tryz.isAgg180
 z39 := Tryz.sizeOf180
 v39 := Tryz.zeroValue180
 t45 := Tryz.underlying212
 a45 := Tryz.isAgg212
 z45 := Tryz.sizeOf212
 v45 := Tryz.zeroValue212
 t46 := Tryz.underlying213
 a46 := Tryz.isAgg213
 z46 := Tryz.sizeOf213
 v46 := Tryz.zeroValue213
 t50 := Tryz.underlying195
 a50 := Tryz.isAgg195
 z50 := Tryz.sizeOf195
 v50 := Tryz.zeroValue195
 t53 := Tryz.underlying219
 a53 := Tryz.isAgg219
 z53 := Tryz.sizeOf219
 v53 := Tryz.zeroValue219
 t55 := Tryz.underlying221
 a55 := Tryz.isAgg221
 z55 := Tryz.sizeOf221
 v55 := Tryz.zeroValue221
 t66 := Tryz.underlying239
 a66 := Tryz.isAgg239
 z66 := Tryz.sizeOf239
 v66 := Tryz.zeroValue239
 t70 := Tryz.underlying243
 a70 := Tryz.isAgg243
 z70 := Tryz.sizeOf243
 v70 := Tryz.zeroValue243
 t76 := Tryz.underlying254
 a76 := Tryz.isAgg254
 z76 := Tryz.sizeOf254
 v76 := Tryz.zeroValue254
 t77 := Tryz.underlying112
 a77 := Tryz.isAgg112
 z77 := Tryz.sizeOf112
 v77 := Tryz.zeroValue112 }
def Tryz.cmpInt_ren : Go.Shelf.Ren := ⟨fun | 5 => 156 | 7 => 178 | n => n, fun | 22 => 3 | 3 => 3 | 4 => 4 | n => n, fun n => n⟩
theorem JR : Go.Proofs.SlLaysC2.n5 Tryz.prog Tryz.cmpInt_ren := {
 mixed := by kernel_rfl
 f5 := ⟨"cmp.Compare[int]", by decide, Tryz.func156.trans (congrArg some (by kernel_rfl))⟩
 f7 := ⟨"cmp.isNaN[int]", by decide, Tryz.func178.trans (congrArg some (by kernel_rfl))⟩
 t3 := Tryz.underlying3
 a3 := Tryz.isAgg3
 z3 := Tryz.sizeOf3
 v3 := Tryz.zeroValue3
 t4 := Tryz.underlying4
 a4 := Tryz.isAgg4
 z4 := Tryz.sizeOf4
 v4 := Tryz.zeroValue4
 t22 := Tryz.underlying3
 a22 := Tryz.isAgg3
 z22 := Tryz.sizeOf3
 v22 := Tryz.zeroValue3 }
/-- An edge's two cells. -/
def Tryz.encE (x : Int × Int) : List Value := [.int .i64 x.1, .int .i64 x.2]
/-- What cmp.Or says of two. -/
def Tryz.orI (a b : Int) : Int := if a = 0 then b else a
def Tryz.cmpE (x y : Int × Int) : Int := Tryz.orI (Lib.compareInt x.1 y.1) (Lib.compareInt x.2 y.2)
end Go.Proofs

namespace Go.Fl
open Go Go.Proofs
variable [Lo]
theorem GS (a b : Int) (w : World) : Calls Tryz.prog 156 #[.int .i64 a, .int .i64 b] w (Ret w [] fun r L => L = [] ∧ r = .int .i64 (Lib.compareInt a b)) := by
 refine (AnyG.cmp_Compare_int JR a b w).mono ?_
 rintro e w' ⟨rfl, rfl⟩
 exact ⟨_, _, rfl, ⟨rfl, rfl⟩, Own.start _ _⟩
theorem or_calls {g t : Nat} {a b : Int} {w : World} (hg : w.heap[g]? = some (.cells #[.int .i64 a, .int .i64 b] t (0, 0))) :
  Calls Tryz.prog 155 #[.slice (some ⟨g, 0, none⟩) 2 2] w (Ret w [] fun r L => L = [] ∧ r = .int .i64 (Tryz.orI a b)) := by
 have h0 : w.cell? ⟨g, 0, none⟩ = some (.int .i64 a) := by rw [cell_of_row w g 0 _ t (0, 0) hg]; rfl
 have h1 : w.cell? ⟨g, 1, none⟩ = some (.int .i64 b) := by rw [cell_of_row w g 1 _ t (0, 0) hg]; rfl
 refine At (args := [_]) (L := []) Tryz.func155 rfl Tryz.ntmps155 rfl (Own.start _ _) ?_
 refine Zs ?_
 refine Za ?_
 refine Zx <| Zs ?_
 refine Za ?_
 refine Zx <| DC.seq <| Zs ?_
 refine Zm ?_
 refine Zn Tryz.underlying44 ?_
 refine Zm ?_
 refine Zx <| DC.block ?_
 refine DC.loop (ι := Nat) (fun i => i ≤ 2 ∧ (0 < i → a = 0) ∧ (1 < i → b = 0)) (fun i => [(3, .int .i64 0), (6, .slice (some ⟨g, 0, none⟩) 2 2), (7, .int .i64 2), (8, .int .i64 i)]) (fun _ => []) (fun i => 2 - i) 0
  ⟨by omega, by omega, by omega⟩ ⟨rfl, rfl, rfl, rfl, trivial⟩ .nil ?_
 rintro i ⟨hi, ha, hb⟩
 refine Zs ?_
 refine Zc ?_
 refine Zx <| DC.seq ?_
 refine Zd (fun c3 => ?_) fun c3 => ?_
 ·have hlt : i < 2 := by simp at c3; omega
  obtain ⟨x, hx, hx0, hx1⟩ : ∃ x : Int, w.cell? ⟨g, i, none⟩ = some (.int .i64 x) ∧ (i = 0 → x = a) ∧ (i = 1 → x = b) := by
   rcases (show i = 0 ∨ i = 1 by omega) with rfl | rfl
   ·exact ⟨a, h0, fun _ => rfl, fun h => by omega⟩
   ·exact ⟨b, h1, fun h => by omega, fun _ => rfl⟩
  refine DC.skip <| Fin.then <| DC.seq <| DC.block <| Zs ?_
  refine Zo (Ai (ad' := ⟨g, i, none⟩) rfl rfl rfl Tryz.underlying44 AN (by omega) (by omega) (AC _ _)) ?_
  refine Zu (Ah rfl rfl AO (AE hx)) ?_
  refine Za ?_
  refine Zx <| Zs ?_
  refine Zm ?_
  refine Zm ?_
  refine Zo (BS rfl rfl rfl) ?_
  refine Zx ?_
  refine Zd (fun c5 => ?_) fun c5 => ?_
  ·refine Zs ?_
   refine Zm ?_
   refine Za ?_
   refine Zx <| DC.ret <| Ae <| Aa <| Aa <| Ae <| Aa ?_
   refine Aj (.inl rfl) rfl rfl ?_
   refine ⟨rfl, ?_⟩
   have hne : x ≠ 0 := by simpa using c5
   unfold Tryz.orI
   rcases (show i = 0 ∨ i = 1 by omega) with h | h
   ·rw [hx0 h] at hne ⊢
    rw [if_neg hne]
   ·rw [hx1 h, if_pos (ha (by omega))]
  ·refine DC.skip <| Fin.inBlock <| Fin.then <| DC.region ?_
   refine Zp ?_
   refine Zm ?_
   refine Seq.nil ?_
   refine Fin.again (i + 1) (by omega) ⟨by omega, fun _ => ?_, fun h => ?_⟩ ⟨rfl, rfl, rfl, rfl, trivial⟩ .nil
   ·have hz : x = 0 := by simpa using c5
    by_cases h : i = 0
    ·rw [← hx0 h]; exact hz
    ·exact ha (by omega)
   ·have hz : x = 0 := by simpa using c5
    rw [← hx1 (by omega)]; exact hz
 ·refine DC.exit <| Ad <| Ad <| Ag <| Fin.then <| Zs ?_
  refine Zm ?_
  refine Za ?_
  refine Zx <| DC.ret ?_
  refine Aj (.inl rfl) rfl rfl ?_
  have hi2 : i = 2 := by simp at c3; omega
  unfold Tryz.orI
  rw [if_pos (ha (by omega)), hb (by omega)]
  exact ⟨rfl, rfl⟩
theorem Jc (x y : Int × Int) (w : World) :
  Calls Tryz.prog 154 #[.agg #[.int .i64 x.1, .int .i64 x.2], .agg #[.int .i64 y.1, .int .i64 y.2]] w (Ret w [] fun r L => r = .int .i64 (Tryz.cmpE x y)) := by
 refine At (args := [_, _]) (L := []) Tryz.func154 rfl Tryz.ntmps154 rfl (Own.start _ _) ?_
 refine Zs ?_
 refine Zw (AS rfl rfl rfl) fun g2 => ?_
 refine Zw (AS rfl rfl rfl) fun g3 => ?_
 refine Za ?_
 refine Zx <| DC.seq ?_
 refine AG (cl := [.q, .v, .q, .v, .r, .q, .v, .q, .v, .r, .n, .r, .q]) (A := [0, 1, 0, 4, 15, 0, 32, 0, 128, 511, 1023, 2047, 4095]) (order := [0, 1, 2, 3, 4, 5, 6, 7, 8, 9, 10, 11, 12]) [] mixed (by kernel_rfl) (fun w hw => hw.pick .nil) ?_
 refine Yf Bd ?_
 refine Yl AO ?_
 refine Yf Bd ?_
 refine Yl AO ?_
 refine Flow.rel0 rfl rfl rfl rfl (Aq en156 rfl rfl rfl (fun w' hw => GS _ _ w')) ?_
 rintro _ rfl
 refine Yf Bu ?_
 refine Yl AO ?_
 refine Yf Bu ?_
 refine Yl AO ?_
 refine Flow.rel0 rfl rfl rfl rfl (Aq en156 rfl rfl rfl (fun w' hw => GS _ _ w')) ?_
 rintro _ rfl
 refine AY rfl rfl rfl rfl (AP (cs := #[_, _]) rfl rfl Tryz.underlying44 AN B6 rfl (by decide) (by decide) rfl rfl) fun g15 => ?_
 refine Cs (V := [blk g15 3 #[.int .i64 (Lib.compareInt x.1 y.1), .int .i64 (Lib.compareInt x.2 y.2)], blk g3 43 #[.int .i64 y.1, .int .i64 y.2], blk g2 43 #[.int .i64 x.1, .int .i64 x.2]]) rfl rfl rfl rfl (by kernel_rfl) (Aq en155 rfl rfl rfl (fun w' hw => or_calls (a := Lib.compareInt x.1 y.1) (b := Lib.compareInt x.2 y.2) (hw.holds _ (List.mem_cons_self ..)))) ?_
 rintro _ rfl
 refine Yo rfl (Aw rfl rfl) ?_
 refine Flow.end rfl ?_
 simp only [zq, zr]
 refine Fin.then <| DC.ret ?_
 refine Aj (.inl rfl) rfl rfl ?_
 rfl
/-- A world that only grew. -/
theorem grown_of {w w' : World} {L : List Chunk} (h : Own w [] w' L) (hd : w.drawn ≤ w'.drawn) : ∃ q os, w' = Sort.grow (w.drewN q) os := by
 refine ⟨w'.drawn - w.drawn, w'.heap.extract w.heap.size w'.heap.size, ?_⟩
 have hh : w'.heap = w.heap ++ w'.heap.extract w.heap.size w'.heap.size := by
  apply Array.ext_getElem?
  intro i
  by_cases hi : i < w.heap.size
  ·rw [Array.getElem?_append_left hi]; exact h.old i hi (by simp)
  ·rw [Array.getElem?_append_right (by omega), Array.getElem?_extract]
   have hs := h.size
   by_cases h2 : i < w'.heap.size
   ·rw [if_pos (by omega)]
    congr 1; omega
   ·rw [if_neg (by omega), Array.getElem?_eq_none (by omega)]
 have e : w.drawn + (w'.drawn - w.drawn) = w'.drawn := by omega
 have e1 := h.os
 have e2 := h.tape
 have e3 := h.output
 clear h hd
 cases w' with
 | mk h' t' d' o' u' =>
  cases w with
  | mk h0 t0 d0 o0 u0 =>
   simp only [Sort.grow, World.drewN] at *
   rw [World.mk.injEq]
   exact ⟨hh, e2, e.symm, e1, e3⟩
theorem Jb (hL : ¬ Lo.p) (x y : Int × Int) (w : World) :
  Calls Tryz.prog 154 #[.agg #[.int .i64 x.1, .int .i64 x.2], .agg #[.int .i64 y.1, .int .i64 y.2]] w fun e w' => e = .returned (.int .i64 (Tryz.cmpE x y)) ∧ ∃ q os, w' = Sort.grow (w.drewN q) os := by
 refine (Jc x y w).mono ?_
 rintro e w' ⟨v, L, rfl, rfl, hO⟩
 exact ⟨rfl, grown_of hO (hO.drawn.resolve_left hL)⟩
end Go.Fl

namespace Go.Fl
open Go Go.Proofs Go.RowKit Go.Lib Go.Sort Go.Shelf
open Classical
theorem E5 (x y : Int × Int) : ltOf Tryz.cmpE x y = decide (Lex x y) := by
 unfold ltOf Tryz.cmpE Tryz.orI Lib.compareInt Lex
 by_cases h1 : x.1 < y.1
 ·simp [h1]
 ·by_cases h2 : y.1 < x.1
  ·have : ¬ x.1 = y.1 := by omega
   simp [h1, h2, this]
  ·have : x.1 = y.1 := by omega
   by_cases h3 : x.2 < y.2
   ·simp [h1, h2, h3, this]
   ·by_cases h4 : y.2 < x.2
    ·simp [h1, h2, h3, h4, this]
    ·simp [h1, h2, h3, h4, this]
theorem cmpE_swo : SWO (ltOf Tryz.cmpE) where
 irrefl x := by rw [E5]; simp [Lex]
 trans x y z h1 h2 := by
  rw [E5] at *
  have h1 := of_decide_eq_true h1
  have h2 := of_decide_eq_true h2
  refine decide_eq_true ?_
  unfold Lex at *; omega
 ntrans x y z h1 h2 := by
  rw [E5] at *
  have h1 := of_decide_eq_false h1
  have h2 := of_decide_eq_false h2
  refine decide_eq_false ?_
  unfold Lex at *; omega
theorem KK (x y : Int × Int) (h1 : ltOf Tryz.cmpE x y = false) (h2 : ltOf Tryz.cmpE y x = false) : x = y := by
 rw [E5] at *
 have h1 := of_decide_eq_false h1
 have h2 := of_decide_eq_false h2
 unfold Lex at *
 exact Prod.ext (by omega) (by omega)
theorem cmpE_lays (blk off size : Nat) (w : World) : CmpLays Tryz.prog 154 #[] Tryz.encE 2 Tryz.cmpE blk off size w := by
 intro m os dk hdk x y
 generalize sortWorldK Tryz.encE 2 w blk off m dk os = W
 exact @Jb ⟨False⟩ id x y W
theorem flatK_prs (es : List Pr) : flatK Tryz.encE 2 es.toArray = (prs es).toArray := by
 apply ext_get!
 ·simp
 ·intro t ht
  simp at ht
  rw [get_flatK _ _ _ _ (by simpa using ht)]
  obtain ⟨e, he⟩ : ∃ e, es[t / 2]? = some e := ⟨_, List.getElem?_eq_getElem (by omega)⟩
  have h1 := HZ he
  have hd : es.toArray[t / 2]! = e := by simp [he]
  rw [hd]
  rcases (show t % 2 = 0 ∨ t % 2 = 1 by omega) with h0 | h0
  ·have : t / 2 * 2 = t := by omega
   rw [h0]
   rw [this] at h1
   simp [Tryz.encE, h1.1]
  ·have : t / 2 * 2 + 1 = t := by omega
   rw [h0]
   rw [this] at h1
   simp [Tryz.encE, h1.2]
/-- Edges that rise stay as they are. -/
theorem J5 {v : Value} {es : List Pr} {w : World} (hO : Own w (idsOf [slc v 43 2 (prs es)]) w [slc v 43 2 (prs es)]) (hup : es.Pairwise Lex) (hl : es.length ≤ 1000000000) :
  Calls Tryz.prog 74 #[v, .func (.func 154) #[] #[]] w (Ret w (idsOf [slc v 43 2 (prs es)]) fun r M => M = [slc v 43 2 (prs es)]) := by
 rcases B3 hO with ⟨rfl, h, _⟩ | ⟨g, len, cap, sp, rfl, h1, h2, h3, h4, hb⟩
 ·refine (AnyF.slices_SortFunc_none { Ev with } none 0 (.func (.func 154) #[] #[]) w).mono ?_
  rintro e w' ⟨rfl, rfl⟩
  exact ⟨_, _, rfl, rfl, hO⟩
 ·simp at h1
  obtain rfl : es.length = len := by omega
  have hg : w.heap[g]? = some (.cells (prs es ++ sp).toArray 43 (0, 0)) := hb.holds _ (List.mem_cons_self ..)
  have hlt : g < w.heap.size := (Array.getElem?_eq_some_iff.1 hg).1
  have hH : HoldsK Tryz.encE 2 w g 0 es.toArray := by
   unfold HoldsK
   rw [flatK_prs]
   intro j hj
   have hj' : j < (prs es).length := by simpa using hj
   constructor
   ·rw [cell_of_row w g _ _ _ (0, 0) hg, List.getElem?_toArray, Nat.zero_add, List.getElem?_append_left hj', List.getElem?_eq_getElem hj']
    simp [List.getElem?_eq_getElem hj']
   ·simp [World.frozen?, hg]
  have hcon := AnyQ.slices_SortFunc_total Ev 2 Tryz.isAgg43 Tryz.sizeOf43 Tryz.encE (fun _ => rfl) (fun x v hv => by simp [Tryz.encE] at hv; rcases hv with rfl | rfl <;> rfl) Tryz.cmpE cmpE_swo 154 #[] g 0 cap es.toArray w
   (enters_of Tryz.func154 (by kernel_rfl) rfl) (cmpE_lays g 0 es.toArray.size w) hH hlt (by simp; omega) KK
  refine hcon.mono ?_
  rintro e w' ⟨rfl, n, os, rfl⟩
  refine ⟨_, [slc (.slice (some ⟨g, 0, none⟩) es.length cap) 43 2 (prs es)], rfl, rfl, ?_⟩
  have hsorted : (es.toArray.toList.mergeSort fun x y => !(ltOf Tryz.cmpE) y x).toArray = es.toArray := by
   congr 1
   refine List.mergeSort_of_pairwise ?_
   refine hup.imp ?_
   intro a b hab
   rw [E5]
   have : decide (Lex b a) = false := decide_eq_false (by unfold Lex at *; omega)
   rw [this]; rfl
  rw [hsorted]
  have hself : sortWorldK Tryz.encE 2 w g 0 n es.toArray os = Sort.grow (w.drewN n) os := by
   unfold sortWorldK
   rw [putRowK_self _ _ _ _ _ _ (holdsK_ahead _ _ _ n _ _ _ hH)]
   rfl
  rw [hself]
  have := Own.frame (Lc := []) (F := [slc (.slice (some ⟨g, 0, none⟩) es.length cap) 43 2 (prs es)]) hO (I4 w n os) (fun k hk => by simp at hk)
  simpa using this
end Go.Fl

namespace Go.Fl
open Go Go.Proofs
theorem J2 {gs gb m i : Nat} {a b : Int} {f : Nat → Bool} {w : World} (hs : w.heap[gs]? = some (.cells #[.slice (some ⟨gb, 0, none⟩) m m] 188 (0, 0))) (hb : w.heap[gb]? = some (.cells (bls m f).toArray 4 (0, 0))) (hi : i < m) :
  Calls Tryz.prog 124 #[.int .i64 i, .agg #[.int .i64 a, .int .i64 b], .pointer (some ⟨gs, 0, none⟩)] w (Ret w [] fun r M => M = [] ∧ r = .bool (f i)) := by
 refine At (args := [_, _, _]) (L := []) Tryz.func124 rfl Tryz.ntmps124 rfl (Own.start _ _) ?_
 refine Zs ?_
 refine Zw (AS rfl rfl rfl) fun g4 => ?_
 refine Za ?_
 refine Zx <| Zs ?_
 refine Zu (Ah rfl rfl ag188 (AT hs rfl)) ?_
 refine Zm ?_
 refine Zi Tryz.underlying188 Fe ?_
 refine Zu (Ah rfl rfl ag4 (AT hb (DI f hi))) ?_
 refine Za ?_
 refine Zx <| DC.ret ?_
 refine Fin.weak (E' := [(5, _)]) ⟨rfl, trivial⟩ .nil ?_
 refine Aj (.inl rfl) rfl rfl ?_
 exact ⟨rfl, rfl⟩
/-- The edges at whose places f is true. -/
def kp (f : Nat → Bool) : Nat → List Pr → List Pr
 | _, [] => []
 | k, e :: r => if f k then e :: kp f (k + 1) r else kp f (k + 1) r
theorem kp_app (f : Nat → Bool) : ∀ (a b : List Pr) (k : Nat), kp f k (a ++ b) = kp f k a ++ kp f (k + a.length) b
 | [], b, k => by simp [kp]
 | e :: r, b, k => by
  simp only [List.cons_append, kp, List.length_cons]
  rw [kp_app f r b (k + 1), show k + 1 + r.length = k + (r.length + 1) by omega]
  split <;> simp
theorem Ks (f : Nat → Bool) : ∀ (a : List Pr) (k : Nat), (kp f k a).length ≤ a.length
 | [], k => by simp [kp]
 | e :: r, k => by
  have := Ks f r (k + 1)
  unfold kp
  split <;> simp <;> omega
theorem Ll (f : Nat → Bool) {es : List Pr} {i : Nat} {e : Pr} (he : es[i]? = some e) : kp f 0 (es.take (i + 1)) = kp f 0 (es.take i) ++ if f i then [e] else [] := by
 have hl := (List.getElem?_eq_some_iff.1 he).1
 rw [List.take_add_one, he, kp_app]
 congr 1
 simp only [List.length_take, Nat.min_eq_left (Nat.le_of_lt hl), Nat.zero_add, Option.toList_some, kp]
structure KeI where
 i : Nat
 v : Value
theorem Kt {n : Int} {es : List Pr} {va : Value} {gs gb : Nat} {f : Nat → Bool} {w : World} (hg : PrV w va es) (hs : w.heap[gs]? = some (.cells #[.slice (some ⟨gb, 0, none⟩) es.length es.length] 188 (0, 0))) (hb : w.heap[gb]? = some (.cells (bls es.length f).toArray 4 (0, 0))) (hl : es.length ≤ 1000000000) :
  Calls Tryz.prog 123 #[.agg #[.int .i64 n, va], .func (.func 124) #[] #[.pointer (some ⟨gs, 0, none⟩)]] w (Ret w [] fun r M => M = [slc r 43 2 (prs (kp f 0 es))]) := by
 obtain ⟨A, cap, rfl, hr, hlc, hcm, hle⟩ := hg
 refine At (args := [_, _]) (L := []) Tryz.func123 rfl Tryz.ntmps123 rfl (Own.start _ _) ?_
 refine Zs ?_
 refine Zw (AS rfl rfl rfl) fun g2 => ?_
 refine Za ?_
 refine Zx <| Zs ?_
 refine Za ?_
 refine Zx <| DC.seq <| Zs ?_
 refine Zf Be ?_
 refine Zl BO ?_
 refine Zn Tryz.underlying22 ?_
 refine Zm ?_
 refine Zx <| DC.block ?_
 refine DC.own (fun w hw => Bm (t := 43) (m := 2) hw) ?_
 refine DC.loop (ι := KeI) (fun j => j.i ≤ es.length)
  (fun j => [(1, .func (.func 124) #[] #[.pointer (some ⟨gs, 0, none⟩)]), (5, j.v), (9, .slice A es.length cap), (10, .int .i64 es.length), (11, .int .i64 j.i)])
  (fun j => [slc j.v 43 2 (prs (kp f 0 (es.take j.i)))]) (fun j => es.length - j.i) ⟨0, .slice none 0 0⟩ (Nat.zero_le _) ⟨rfl, rfl, rfl, rfl, rfl, trivial⟩ (.cons 0 rfl .nil) ?_
 rintro ⟨i, v⟩ hi
 dsimp only at hi ⊢
 refine Zs ?_
 refine Zc ?_
 refine Zx <| DC.seq ?_
 refine Zd (fun c3 => ?_) fun c3 => ?_
 ·have hlt : i < es.length := by simpa using c3
  obtain ⟨e, he⟩ : ∃ e, es[i]? = some e := ⟨_, List.getElem?_eq_getElem hlt⟩
  obtain ⟨ad, rfl, hU, hVe⟩ := hr.pair he
  have hkl := Ks f (es.take i) 0
  rw [List.length_take] at hkl
  refine DC.skip <| Fin.then <| DC.seq <| DC.block <| Zs ?_
  refine Zm ?_
  refine Zo (AQ rfl rfl rfl Tryz.underlying22 Bb (by omega) (by omega) (by first | exact AC _ _ | exact AW _ _ _ | rfl)) ?_
  refine Zu (Ay (vs := [_, _]) rfl rfl CP Bb rfl (CD hU hVe (by simp))) ?_
  refine Zw (AH rfl CI rfl) fun g7 => ?_
  refine Za ?_
  refine Zy (AA (cs' := #[_, _]) rfl rfl rfl Bb rfl (Nat.le_of_ble_eq_true rfl) rfl) ?_
  refine Zx <| Zs ?_
  refine Zm ?_
  refine Zm ?_
  refine Zu (Ay (vs := [_, _]) rfl rfl CP Bb rfl (Ak rfl)) ?_
  refine Seq.rel0 rfl rfl (Aq en124 rfl rfl rfl (fun w' hw => J2 (CU hw hs (by simp)) (CU hw hb (by simp)) hlt)) ?_
  rintro _ rfl
  refine Zx ?_
  refine Zd (fun c5 => ?_) fun c5 => ?_
  ·refine DC.region ?_
   refine Zm ?_
   refine Zu (Ay (vs := [_, _]) rfl rfl CP Bb rfl (Ak rfl)) ?_
   refine Zw (AP (cs := #[_, _]) rfl rfl Tryz.underlying22 Bb CI rfl (by decide) (by decide) rfl rfl) fun g22 => ?_
   refine Seq.gen rfl rfl (AR rfl rfl rfl Tryz.underlying22 Bb by43 CI rfl (by decide) (by decide) (fun w hw => hw.pick (.cons 2 rfl .nil)) (.inl ⟨_, _, rfl, Ak rfl⟩) rfl (FX [e]) (by simp; omega)) ?_
   rintro v23 _ rfl
   refine Za ?_
   refine Seq.nil <| Fin.inBlock <| Fin.then <| DC.region ?_
   refine Zp ?_
   refine Zm ?_
   refine Seq.nil ?_
   refine Fin.again ⟨i + 1, v23⟩ (by dsimp only; omega) (by dsimp only; omega) ⟨rfl, rfl, rfl, rfl, rfl, trivial⟩ (.cons' 0 rfl (by dsimp only; rw [Ll f he, if_pos c5, Dt]) .nil)
  ·refine DC.skip <| Fin.inBlock <| Fin.then <| DC.region ?_
   refine Zp ?_
   refine Zm ?_
   refine Seq.nil ?_
   refine Fin.again ⟨i + 1, v⟩ (by dsimp only; omega) (by dsimp only; omega) ⟨rfl, rfl, rfl, rfl, rfl, trivial⟩ (.cons' 1 rfl (by dsimp only; rw [Ll f he, if_neg (by rw [c5]; simp), List.append_nil]) .nil)
 ·refine DC.exit <| Ad <| Ad <| Ag <| Fin.then <| Zs ?_
  refine Zm ?_
  refine Za ?_
  refine Zx <| DC.ret ?_
  have hie : i = es.length := by simp at c3; omega
  subst hie
  rw [List.take_length]
  refine Fin.weak (E' := [(4, _)]) (L' := [slc v 43 2 (prs (kp f 0 es))]) ⟨rfl, trivial⟩ (.cons 0 rfl .nil) ?_
  refine Aj (.inl rfl) rfl rfl ?_
  rfl
structure MdI where
 i : Nat
 v : Value
theorem Ko {n : Int} {es : List Pr} {va : Value} {w : World} (hg : PrV w va es) (hup : es.Pairwise Lex) (hlt : ∀ e, e ∈ es → e.1 < e.2) (hl : es.length ≤ 1000000000) :
  Calls Tryz.prog 122 #[.int .i64 n, va] w (Ret w [] fun r M => ∃ A l c, r = .agg #[.int .i64 n, .slice A l c] ∧ M = [slc (.slice A l c) 43 2 (prs es)]) := by
 obtain ⟨A, cap, rfl, hr, hlc, hcm, hle⟩ := hg
 refine At (args := [_, _]) (L := []) Tryz.func122 rfl Tryz.ntmps122 rfl (Own.start _ _) ?_
 refine Zs ?_
 refine Zw (AH rfl JY rfl) fun g4 => ?_
 refine Zx <| Zs ?_
 refine Zm ?_
 refine Zn Tryz.underlying22 ?_
 refine Zw (Le (l := 0) (k := es.length) rfl rfl rfl Tryz.underlying22 Bb by43 CI rfl (by omega) (by omega) (by omega) (by omega) rfl) fun g10 => ?_
 refine Za ?_
 refine Zx <| DC.seq <| Zs ?_
 refine Zm ?_
 refine Zn Tryz.underlying22 ?_
 refine Zm ?_
 refine Zx <| DC.block ?_
 refine DC.own (M := slc (.slice (some ⟨g10, 0, none⟩) 0 es.length) 43 2 [] :: [blk g4 24 #[.int .i64 0, .slice none 0 0]]) (fun w hw => B7 (vs := []) (m := 2) (len := 0) (cap := es.length) rfl (by decide) (by omega) (by omega) (by simp [madeCells]) rfl hw) ?_
 refine DC.loop (ι := MdI) (fun j => j.i ≤ es.length)
  (fun j => [(0, .int .i64 n), (4, .pointer (some ⟨g4, 0, none⟩)), (5, j.v), (11, .slice A es.length cap), (12, .int .i64 es.length), (13, .int .i64 j.i)])
  (fun j => slc j.v 43 2 (prs (es.take j.i)) :: [blk g4 24 #[.int .i64 0, .slice none 0 0]]) (fun j => es.length - j.i) ⟨0, _⟩ (Nat.zero_le _) ⟨rfl, rfl, rfl, rfl, rfl, rfl, trivial⟩ (.cons 0 rfl (.cons 0 rfl .nil)) ?_
 rintro ⟨i, v⟩ hi
 dsimp only at hi ⊢
 refine Zs ?_
 refine Zc ?_
 refine Zx <| DC.seq ?_
 refine Zd (fun c3 => ?_) fun c3 => ?_
 ·have hil : i < es.length := by simpa using c3
  obtain ⟨e, he⟩ : ∃ e, es[i]? = some e := ⟨_, List.getElem?_eq_getElem hil⟩
  obtain ⟨ad, rfl, hU, hVe⟩ := hr.pair he
  have hee := hlt e (List.mem_of_getElem? he)
  have hmin : min e.1 e.2 = e.1 := by omega
  have hmax : max e.1 e.2 = e.2 := by omega
  refine DC.skip <| Fin.then <| DC.seq <| DC.block <| Zs ?_
  refine Zo (AQ rfl rfl rfl Tryz.underlying22 Bb (by omega) (by omega) (by first | exact AC _ _ | exact AW _ _ _ | rfl)) ?_
  refine Zu (Ay (vs := [_, _]) rfl rfl CP Bb rfl (CD hU hVe (by simp))) ?_
  refine Zw (AH rfl CI rfl) fun g7 => ?_
  refine Zy (AA (cs' := #[_, _]) rfl rfl rfl Bb rfl (Nat.le_of_ble_eq_true rfl) rfl) ?_
  refine Zx <| DC.region ?_
  refine Zm ?_
  refine Zf Bd ?_
  refine Zl AO ?_
  refine Zf Bu ?_
  refine Zl AO ?_
  refine Zo (p_min rfl rfl rfl) ?_
  refine Zf Bd ?_
  refine Zl AO ?_
  refine Zf Bu ?_
  refine Zl AO ?_
  refine Zo (p_max rfl rfl rfl) ?_
  refine Zo (AD (cs := #[_, _]) rfl rfl Iy rfl rfl) ?_
  refine Zw (AP (cs := #[_, _]) rfl rfl Tryz.underlying22 Bb CI rfl (by decide) (by decide) rfl rfl) fun g29 => ?_
  refine Seq.gen rfl rfl (AR rfl rfl rfl Tryz.underlying22 Bb by43 CI rfl (by decide) (by decide) (F := [blk g4 24 #[.int .i64 0, .slice none 0 0]]) (fun w hw => hw.pick (.cons 2 rfl (.cons 2 rfl .nil))) (.inl ⟨_, _, rfl, Ak rfl⟩) rfl (FX [(min e.1 e.2, max e.1 e.2)]) (by simp; omega)) ?_
  rintro v30 _ rfl
  refine Za ?_
  refine Seq.nil <| Fin.inBlock <| Fin.then <| DC.region ?_
  refine Zp ?_
  refine Zm ?_
  refine Seq.nil ?_
  refine Fin.again ⟨i + 1, v30⟩ (by dsimp only; omega) (by dsimp only; omega) ⟨rfl, rfl, rfl, rfl, rfl, rfl, trivial⟩ (.cons' 0 rfl (by dsimp only; rw [List.take_add_one, he, Dt, hmin, hmax]; rfl) (.cons 0 rfl .nil))
 ·refine DC.exit <| Ad <| Ad <| Ag <| Fin.then <| DC.seq ?_
  have hie : i = es.length := by simp at c3; omega
  subst hie
  rw [List.take_length]
  refine DC.region ?_
  refine Zm ?_
  refine Seq.gen rfl rfl (BA en74 rfl rfl rfl (Lc := [slc v 43 2 (prs es)]) (F := [blk g4 24 #[.int .i64 0, .slice none 0 0]]) (.refl _) (fun k hk => hk) (fun w' hw => J5 (hw.sub (L' := [slc v 43 2 (prs es)]) ((List.nil_sublist _).cons_cons _)).self hup hl)) ?_
  rintro v33 _ ⟨_, rfl, rfl⟩
  simp only [List.cons_append, List.nil_append]
  refine Zx <| DC.seq ?_
  refine DC.shape (t := 43) (m := 2) (vs := prs es) 0 rfl ?_
  rintro ⟨Av, lv, cv, rfl⟩
  refine DC.region ?_
  refine Zm ?_
  refine Zm ?_
  refine Zo (AD (cs := #[_, _]) rfl rfl KN rfl rfl) ?_
  refine Zy (AA (cs' := #[_, _]) rfl rfl rfl Bc rfl (Nat.le_of_ble_eq_true rfl) rfl) ?_
  refine Zx <| DC.ret ?_
  refine BX (cs := #[_, _]) (.inl rfl) rfl rfl Bj Bc ?_
  exact ⟨[slc (.slice Av lv cv) 43 2 (prs es)], fun w hw => hw.pick (.cons 0 rfl .nil), _, _, _, rfl, rfl⟩
open Classical in
theorem kp_mem {f : Nat → Bool} : ∀ {es : List Pr} {k : Nat} {e : Pr}, e ∈ kp f k es ↔ ∃ i, es[i]? = some e ∧ f (k + i) = true
 | [], k, e => by simp [kp]
 | x :: r, k, e => by
  have ih := kp_mem (f := f) (es := r) (k := k + 1) (e := e)
  unfold kp
  constructor
  ·intro h
   split at h
   ·rename_i hf
    rcases List.mem_cons.1 h with rfl | h
    ·exact ⟨0, rfl, hf⟩
    ·obtain ⟨i, hi, hfi⟩ := ih.1 h
     exact ⟨i + 1, by simpa using hi, by rw [← hfi]; congr 1; omega⟩
   ·obtain ⟨i, hi, hfi⟩ := ih.1 h
    exact ⟨i + 1, by simpa using hi, by rw [← hfi]; congr 1; omega⟩
  ·rintro ⟨i, hi, hfi⟩
   match i with
   | 0 =>
    simp at hi; subst hi
    rw [Nat.add_zero] at hfi
    rw [if_pos hfi]; simp
   | i + 1 =>
    have := ih.2 ⟨i, by simpa using hi, by rw [← hfi]; congr 1; omega⟩
    split
    ·exact List.mem_cons_of_mem _ this
    ·exact this
theorem Kr (f : Nat → Bool) : ∀ (es : List Pr) (k : Nat), (kp f k es).Sublist es
 | [], k => by simp [kp]
 | x :: r, k => by
  have := Kr f r (k + 1)
  unfold kp
  split
  ·exact this.cons_cons x
  ·exact this.cons x
theorem Dn {N : Int} {es : List Pr} (hV : Vld N es) : es.Pairwise Lex := by
 rw [List.pairwise_iff_getElem]
 intro i j hi hj hij
 exact H9 hV hij (List.getElem?_eq_getElem hi) (List.getElem?_eq_getElem hj)
open Classical in
/-- Which places stand among the first i numbers. -/
noncomputable def stF (ks : List Int) (i : Nat) : Nat → Bool := fun x => decide ((x : Int) ∈ ks.take i)
theorem Sub_calls {n : Nat} {es : List Pr} {ks : List Int} {va vk : Value} {w : World} (hg : PrV w va es) (hV : Vld n es) (hk : SlV w vk ks) (hin : ∀ k, k ∈ ks → 0 ≤ k ∧ k < es.length) :
  Calls Tryz.prog 97 #[.agg #[.int .i64 n, va], vk] w (Ret w [] fun r M => ∃ Av l c, r = .tuple #[.agg #[.int .i64 n, .slice Av l c], .int .i64 0] ∧ M = [slc (.slice Av l c) 43 2 (prs (kp (stF ks ks.length) 0 es))]) := by
 have hg0 := hg
 have hfew := hV.few
 obtain ⟨A, cap, rfl, hr, hlc, hcm, hle⟩ := hg
 obtain ⟨B, capb, rfl, hrb, hlb, hcb, hleb⟩ := hk
 refine At (args := [_, _]) (L := []) Tryz.func97 rfl Tryz.ntmps97 rfl (Own.start _ _) ?_
 refine Zs ?_
 refine Zw (AS rfl rfl rfl) fun g2 => ?_
 refine Zw (AH rfl JY rfl) fun g4 => ?_
 refine Za ?_
 refine Zx <| DC.seq <| Zs ?_
 refine Zu (Ay (vs := [_, _]) rfl rfl Bj Bc rfl (Ak rfl)) ?_
 refine Seq.rel0 rfl rfl (Aq KF rfl rfl rfl (fun w' hw => Cg (hg0.keep0 hw))) ?_
 rintro _ ⟨b, rfl, hb⟩
 refine Zo (Bh rfl rfl) ?_
 refine Zx ?_
 refine Zd (fun c1 => ?_) fun c1 => ?_
 ·refine Zs ?_
  refine Zo (AD (cs := #[_, _]) rfl rfl KN rfl rfl) ?_
  refine Zy (AA (cs' := #[_, _]) rfl rfl rfl Bc rfl (Nat.le_of_ble_eq_true rfl) rfl) ?_
  refine Za ?_
  refine Zx <| DC.ret <| Aa ?_
  refine B9 (cs := #[_, _]) (.inl rfl) rfl rfl rfl Bj Bc ?_
  rw [hb.2 hV] at c1
  simp at c1
 ·refine DC.skip <| Fin.then <| Zs ?_
  refine Zf Be ?_
  refine Zl BO ?_
  refine Zn Tryz.underlying22 ?_
  refine Zw (BI (k := es.length) rfl rfl rfl Tryz.underlying188 Fe by4 ze4 rfl (by omega) (by omega) (Dg _)) fun g16 => ?_
  refine Zw (AH rfl ze188 rfl) fun g6 => ?_
  refine Zy (AF (cs' := #[_]) rfl rfl rfl sz188 rfl (Nat.le_of_ble_eq_true rfl) rfl) ?_
  refine Zx <| DC.seq <| Zs ?_
  refine Zm ?_
  refine Zn Tryz.underlying44 ?_
  refine Zm ?_
  refine Zx <| DC.block ?_
  refine DC.loop (ι := Nat) (fun i => i ≤ ks.length)
   (fun i => [(2, .pointer (some ⟨g2, 0, none⟩)), (4, .pointer (some ⟨g4, 0, none⟩)), (6, .pointer (some ⟨g6, 0, none⟩)), (17, .slice B ks.length capb), (18, .int .i64 ks.length), (19, .int .i64 i)])
   (fun i => [blk g6 188 #[.slice (some ⟨g16, 0, none⟩) es.length es.length], blk g16 4 (bls es.length (stF ks i)).toArray, blk g4 24 #[.int .i64 0, .slice none 0 0], blk g2 24 #[.int .i64 n, .slice A es.length cap]]) (fun i => ks.length - i) 0 (Nat.zero_le _) ⟨rfl, rfl, rfl, rfl, rfl, rfl, trivial⟩
   (.cons 0 rfl (.cons' 0 rfl (by rw [show stF ks 0 = fun _ => false from funext fun x => by simp [stF]]) (.cons 0 rfl (.cons 0 rfl .nil)))) ?_
  rintro i hi
  refine Zs ?_
  refine Zc ?_
  refine Zx <| DC.seq ?_
  refine Zd (fun c5 => ?_) fun c5 => ?_
  ·have hlt : i < ks.length := by simpa using c5
   obtain ⟨k, hk⟩ : ∃ k, ks[i]? = some k := ⟨_, List.getElem?_eq_getElem hlt⟩
   obtain ⟨adb, rfl, hck⟩ := hrb.int hk
   obtain ⟨hk0, hk1⟩ := hin k (List.mem_of_getElem? hk)
   refine DC.skip <| Fin.then <| DC.seq <| DC.block <| Zs ?_
   refine Zo (Ai (ad' := adb.add i) rfl rfl rfl Tryz.underlying44 AN (by omega) (by omega) rfl) ?_
   refine Zu (Ah rfl rfl AO (AE hck)) ?_
   refine Za ?_
   refine Zx <| DC.seq <| Zs ?_
   refine Zm ?_
   refine Zc ?_
   refine Zm ?_
   refine Seq.split 25 rfl (fun k7_2 => ?_) (fun k7_2 => ?_)
   ·refine Zk ?_
    refine Zk ?_
    refine Zk ?_
    refine Zk ?_
    refine Zt ?_
    refine Zx ?_
    refine AM rfl ?_
    refine Zs ?_
    refine Zo (AD (cs := #[_, _]) rfl rfl KN rfl rfl) ?_
    refine Zy (AA (cs' := #[_, _]) rfl rfl rfl Bc rfl (Nat.le_of_ble_eq_true rfl) rfl) ?_
    refine Za ?_
    refine Zx <| DC.ret <| Aa <| Ae <| Aa <| Aa <| Ae <| Aa ?_
    refine B9 (cs := #[_, _]) (.inl rfl) rfl rfl rfl Bj Bc ?_
    first
    | (simp at k7_2; omega)
    | (simp at c7; omega)
   ·refine Zm ?_
    refine Zl ag188 ?_
    refine Zn Tryz.underlying188 ?_
    refine Zo (Ck rfl rfl rfl) ?_
    refine Zg ?_
    refine Zx ?_
    refine Zd (fun c7 => ?_) fun c7 => ?_
    ·refine Zs ?_
     refine Zo (AD (cs := #[_, _]) rfl rfl KN rfl rfl) ?_
     refine Zy (AA (cs' := #[_, _]) rfl rfl rfl Bc rfl (Nat.le_of_ble_eq_true rfl) rfl) ?_
     refine Za ?_
     refine Zx <| DC.ret <| Aa <| Ae <| Aa <| Aa <| Ae <| Aa ?_
     refine B9 (cs := #[_, _]) (.inl rfl) rfl rfl rfl Bj Bc ?_
     first
     | (simp at k7_2; omega)
     | (simp at c7; omega)
    ·refine DC.skip <| Fin.then <| DC.region ?_
     refine Zl ag188 ?_
     refine Zm ?_
     refine Zi Tryz.underlying188 Fe ?_
     refine Zy (AF (cs' := (bls es.length (stF ks (i + 1))).toArray) rfl rfl rfl Fe rfl (by simp; omega) (by
      rw [DH]
      congr 1
      unfold bls
      apply List.map_congr_left
      intro x hx
      have hx := List.mem_range.1 hx
      congr 1
      unfold updB stF
      rw [List.take_add_one, hk]
      by_cases h : x = k.toNat
      ·rw [if_pos h]
       exact (decide_eq_true (by rw [List.mem_append]; right; simp; omega)).symm
      ·rw [if_neg h]
       have : ¬ (x : Int) = k := by omega
       simp [this])) ?_
     refine Seq.nil <| Fin.inBlock <| Fin.then <| DC.region ?_
     refine Zp ?_
     refine Zm ?_
     refine Seq.nil ?_
     refine Fin.again (i + 1) (by omega) (by omega) ⟨rfl, rfl, rfl, rfl, rfl, rfl, trivial⟩ (Pick.all _)
  ·refine DC.exit <| Ad <| Ad <| Ag <| Fin.then <| DC.seq ?_
   have hie : i = ks.length := by simp at c5; omega
   subst hie
   have hkl := Ks (stF ks ks.length) es 0
   have hsub := Kr (stF ks ks.length) es 0
   refine AG (cl := [.q, .v, .v, .q, .r, .r, .g, .q]) (A := [0, 1, 0, 0, 12, 31, 63, 127]) (order := [0, 1, 2, 3, 4, 5, 6, 7]) [] mixed (by kernel_rfl) (fun w hw => hw.pick .nil) ?_
   refine Yf BF ?_
   refine Yl AO ?_
   refine Am rfl rfl rfl rfl (Ay (vs := [_, _]) rfl rfl Bj Bc rfl (Ak rfl)) ?_
   refine Yo rfl (Fr rfl rfl rfl) ?_
   refine BP rfl rfl rfl rfl (Aq en123 rfl rfl rfl (fun w' hw => Kt (hg0.keep0 hw) (hw.holds _ (List.mem_cons_self ..)) (hw.holds _ (List.mem_cons_of_mem _ (List.mem_cons_self ..))) (by omega))) ?_
   rintro v40 _ rfl
   refine Ct (V := (slc v40 43 2 (prs (kp (stF ks ks.length) 0 es)) :: [blk g6 188 #[.slice (some ⟨g16, 0, none⟩) es.length es.length], blk g16 4 (bls es.length (stF ks ks.length)).toArray, blk g4 24 #[.int .i64 0, .slice none 0 0], blk g2 24 #[.int .i64 n, .slice A es.length cap]])) rfl rfl rfl rfl (by kernel_rfl) (Aq en122 rfl rfl rfl (fun w' hw => Ko (Ci hw 0 rfl (by omega)) ((Dn hV).sublist hsub) (fun e he => by
    obtain ⟨j, hj⟩ := List.mem_iff_getElem?.1 (hsub.subset he)
    exact (hV.ok j e hj).lt) (by omega))) ?_
   rintro _ _ ⟨Av, l, c, rfl, rfl⟩
   refine Flow.sto (V := (slc (.slice Av l c) 43 2 (prs (kp (stF ks ks.length) 0 es)) :: slc v40 43 2 (prs (kp (stF ks ks.length) 0 es)) :: [blk g6 188 #[.slice (some ⟨g16, 0, none⟩) es.length es.length], blk g16 4 (bls es.length (stF ks ks.length)).toArray, blk g4 24 #[.int .i64 0, .slice none 0 0], blk g2 24 #[.int .i64 n, .slice A es.length cap]])) rfl rfl rfl rfl rfl (AA (cs' := #[_, _]) rfl rfl rfl Bc rfl (Nat.le_of_ble_eq_true rfl) rfl) (fun w hw => hw.pick (.nil)) ?_
   refine Yo rfl (Aw rfl rfl) ?_
   refine Flow.end rfl ?_
   simp only [zq, zr]
   refine Fin.then <| DC.ret ?_
   refine B9 (cs := #[_, _]) (.inl rfl) rfl rfl rfl Bj Bc ?_
   exact ⟨[slc (.slice Av l c) 43 2 (prs (kp (stF ks ks.length) 0 es))], fun w hw => hw.pick (.cons 0 rfl .nil), Av, l, c, rfl, rfl⟩
theorem Lj : ∀ {a b : List Pr}, a.Pairwise Lex → b.Pairwise Lex → (∀ x, x ∈ a ↔ x ∈ b) → a = b
 | [], [], _, _, _ => rfl
 | [], y :: r, _, _, h => by have := (h y).2 (by simp); cases this
 | x :: r, [], _, _, h => by have := (h x).1 (by simp); cases this
 | x :: r, y :: s, ha, hb, h => by
  have irr : ∀ z : Pr, ¬ Lex z z := fun z hz => by unfold Lex at hz; omega
  have tr : ∀ {u v w : Pr}, Lex u v → Lex v w → Lex u w := fun h1 h2 => by unfold Lex at *; omega
  rw [List.pairwise_cons] at ha hb
  have hxy : x = y := by
   rcases List.mem_cons.1 ((h x).1 (by simp)) with h1 | h1
   ·exact h1
   ·rcases List.mem_cons.1 ((h y).2 (by simp)) with h2 | h2
    ·exact h2.symm
    ·exact absurd (tr (hb.1 x h1) (ha.1 y h2)) (irr y)
  subst hxy
  congr 1
  refine Lj ha.2 hb.2 fun z => ?_
  constructor
  ·intro hz
   rcases List.mem_cons.1 ((h z).1 (by simp [hz])) with h1 | h1
   ·subst h1; exact absurd (ha.1 z hz) (irr z)
   ·exact h1
  ·intro hz
   rcases List.mem_cons.1 ((h z).2 (by simp [hz])) with h1 | h1
   ·subst h1; exact absurd (hb.1 z hz) (irr z)
   ·exact h1
theorem KX {n : Int} {es cs : List Pr} (hV : Vld n es) (hc : EdgesOk cs) (hin : ∀ c, c ∈ cs → c ∈ es) : Vld n cs :=
 ⟨hV.lo, hV.hi, hc.few, fun i e he => by
  obtain ⟨j, hj⟩ := List.mem_iff_getElem?.1 (hin e (List.mem_of_getElem? he))
  exact hV.ok j e hj, hc.up⟩
theorem sub_is {n : Int} {es cs : List Pr} {ns : List Int} (hV : Vld n es) (hc : EdgesOk cs) (hin : ∀ c, c ∈ cs → c ∈ es) (hn : NumR es cs ns) : kp (stF ns ns.length) 0 es = cs := by
 refine Lj ((Dn hV).sublist (Kr _ _ _)) (Dn (KX hV hc hin)) fun e => ?_
 rw [kp_mem]
 unfold stF
 rw [List.take_length]
 constructor
 ·rintro ⟨i, hi, hfi⟩
  have hm : (i : Int) ∈ ns := by simpa using hfi
  obtain ⟨j, hj⟩ := List.mem_iff_getElem?.1 hm
  obtain ⟨c, hcj⟩ : ∃ c, cs[j]? = some c := ⟨_, List.getElem?_eq_getElem (by rw [← hn.1]; exact (List.getElem?_eq_some_iff.1 hj).1)⟩
  rcases hn.2 j c _ hcj hj with ⟨h1, _⟩ | ⟨i', h1, h2⟩
  ·omega
  ·have : i' = i := by omega
   subst this
   rw [hi] at h2; cases h2
   exact List.mem_of_getElem? hcj
 ·intro he
  obtain ⟨j, hj⟩ := List.mem_iff_getElem?.1 he
  obtain ⟨m, hm⟩ : ∃ m, ns[j]? = some m := ⟨_, List.getElem?_eq_getElem (by rw [hn.1]; exact (List.getElem?_eq_some_iff.1 hj).1)⟩
  rcases hn.2 j e m hj hm with ⟨_, h1⟩ | ⟨i, h1, h2⟩
  ·exact absurd (hin e he) h1
  ·subst h1
   exact ⟨i, h2, by simpa using List.mem_of_getElem? hm⟩
theorem H0 {pl : Bool} {n : Nat} {es cs : List Pr} {va v u : Value} {w : World} (hg : PrV w va es) (hu : PrV w u cs) (hV : Vld n es) (hc : EdgesOk cs) (hin : ∀ c, c ∈ cs → c ∈ es) :
  Calls Tryz.prog 59 #[.agg #[.int .i64 n, va], .agg #[.bool pl, v, u]] w (Ret w [] fun r M => M = [] ∧ ∃ b, r = .bool b ∧ (b = true ↔ KuraOk n cs)) := by
 have hVc := KX hV hc hin
 have hfew := hVc.few
 have hfe := hV.few
 refine At (args := [_, _]) (L := []) Tryz.func59 rfl Tryz.ntmps59 rfl (Own.start _ _) ?_
 refine Zs ?_
 refine Zw (AS rfl rfl rfl) fun g2 => ?_
 refine Zw (AS rfl rfl rfl) fun g3 => ?_
 refine Za ?_
 refine Zx <| DC.seq ?_
 refine AG (cl := [.v, .v, .v, .r, .r, .q, .q, .q, .n, .g, .q]) (A := [0, 0, 0, 6, 15, 31, 63, 63, 0, 383, 1023]) (order := [0, 1, 2, 3, 4, 5, 6, 7, 8, 9, 10]) [] mixed (by kernel_rfl) (fun w hw => hw.pick .nil) ?_
 refine Am rfl rfl rfl rfl (Ay (vs := [_, _]) rfl rfl Bj Bc rfl (Ak rfl)) ?_
 refine Am rfl rfl rfl rfl (Ay (vs := [_, _]) rfl rfl Bj Bc rfl (Ak rfl)) ?_
 refine Am rfl rfl rfl rfl (Ay (vs := [_, _, _]) rfl rfl Fa De rfl (Ak rfl)) ?_
 refine BP rfl rfl rfl rfl (Aq en96 rfl rfl rfl (fun w' hw => D2 (hg.keep0 hw) (hu.keep0 hw))) ?_
 rintro _ _ ⟨gn, ns, rfl, hn, rfl⟩
 refine Ct (V := (blk gn 3 (ints ns).toArray :: [blk g3 27 #[.bool pl, v, u], blk g2 24 #[.int .i64 n, va]])) rfl rfl rfl rfl (by kernel_rfl) (Aq en97 rfl rfl rfl (fun w' hw => Sub_calls (hg.keep0 hw) hV (Ch hw (by simp) hn.1 (by omega)) (fun k hk => by
  obtain ⟨j, hj⟩ := List.mem_iff_getElem?.1 hk
  obtain ⟨c, hcj⟩ : ∃ c, cs[j]? = some c := ⟨_, List.getElem?_eq_getElem (by rw [← hn.1]; exact (List.getElem?_eq_some_iff.1 hj).1)⟩
  rcases hn.2 j c _ hcj hj with ⟨_, h1⟩ | ⟨i, h1, h2⟩
  ·exact absurd (hin c (List.mem_of_getElem? hcj)) h1
  ·have := (List.getElem?_eq_some_iff.1 h2).1; omega))) ?_
 rintro _ _ ⟨Av, l, c, rfl, rfl⟩
 rw [sub_is hV hc hin hn]
 refine Ym ?_
 refine Yo rfl (Bt rfl rfl rfl) ?_
 refine Yo rfl (Bt rfl rfl rfl) ?_
 refine AY rfl rfl rfl rfl (AH rfl JY rfl) fun g5 => ?_
 refine Flow.sto (V := (blk g5 24 #[.int .i64 0, .slice none 0 0] :: slc (.slice Av l c) 43 2 (prs cs) :: blk gn 3 (ints ns).toArray :: [blk g3 27 #[.bool pl, v, u], blk g2 24 #[.int .i64 n, va]])) rfl rfl rfl rfl rfl (AA (cs' := #[_, _]) rfl rfl rfl Bc rfl (Nat.le_of_ble_eq_true rfl) rfl) (fun w hw => hw.pick (.nil)) ?_
 refine Yo rfl (Aw rfl rfl) ?_
 refine Flow.end rfl ?_
 simp only [zq, zr]
 refine Fin.then <| DC.seq <| Zs ?_
 refine Zm ?_
 refine Zo (BS rfl rfl rfl) ?_
 refine Zx ?_
 refine Zd (fun c2 => ?_) fun c2 => ?_
 ·refine Zs ?_
  refine Za ?_
  refine Zx <| DC.ret <| Aa ?_
  refine Aj (.inl rfl) rfl rfl ?_
  simp at c2
 ·refine DC.skip <| Fin.then <| Zs ?_
  refine Zu (Ay (vs := [_, _]) rfl rfl Bj Bc rfl (Ak rfl)) ?_
  refine Seq.rel0 rfl rfl (Aq en98 rfl rfl rfl (fun w' hw => FT (Ci hw 1 rfl (by omega)) hVc)) ?_
  rintro _ ⟨k0, A0, l0, c0, A1, l1, c1, b, rfl, hb⟩
  refine Zm ?_
  refine Ze ?_
  refine Ze ?_
  refine Ze ?_
  refine Zw (AH rfl LH rfl) fun g7 => ?_
  refine Zy (AA (cs' := #[_, _, _]) rfl rfl rfl Cp rfl (Nat.le_of_ble_eq_true rfl) rfl) ?_
  refine Za ?_
  refine Za ?_
  refine Zx <| Zs ?_
  refine Zm ?_
  refine Za ?_
  refine Zx <| DC.ret ?_
  refine Fin.weak (E' := [(4, _)]) ⟨rfl, trivial⟩ .nil ?_
  refine Aj (.inl rfl) rfl rfl ?_
  exact ⟨rfl, b, rfl, hb⟩
open Classical
/-! ### a rotation is flat or not, whatever way it was found -/
theorem Fi {N : Int} {es : List Pr} {ls rs rs' : List (List Int)} (hV : Vld N es) (h : RotR es ls rs) (h' : RotR es ls rs') : rs = rs' := by
 apply List.ext_getElem?
 intro v
 by_cases hv : v < ls.length
 ·obtain ⟨l, hl⟩ : ∃ l, ls[v]? = some l := ⟨_, List.getElem?_eq_getElem hv⟩
  obtain ⟨r, hr⟩ : ∃ r, rs[v]? = some r := ⟨_, List.getElem?_eq_getElem (by rw [h.1]; exact hv)⟩
  obtain ⟨r', hr'⟩ : ∃ r, rs'[v]? = some r := ⟨_, List.getElem?_eq_getElem (by rw [h'.1]; exact hv)⟩
  rw [hr, hr']
  congr 1
  obtain ⟨q1, q2⟩ := h.2 v l r hl hr
  obtain ⟨q3, q4⟩ := h'.2 v l r' hl hr'
  apply List.ext_getElem?
  intro j
  by_cases hj : j < l.length
  ·obtain ⟨u, hu⟩ : ∃ u, l[j]? = some u := ⟨_, List.getElem?_eq_getElem hj⟩
   obtain ⟨x, hx⟩ : ∃ x, r[j]? = some x := ⟨_, List.getElem?_eq_getElem (by omega)⟩
   obtain ⟨y, hy⟩ : ∃ y, r'[j]? = some y := ⟨_, List.getElem?_eq_getElem (by omega)⟩
   rw [hx, hy, (q2 j u x hu hx).uniq hV (q4 j u y hu hy)]
  ·rw [List.getElem?_eq_none (by omega), List.getElem?_eq_none (by omega)]
 ·rw [List.getElem?_eq_none (by rw [h.1]; omega), List.getElem?_eq_none (by rw [h'.1]; omega)]
theorem nx_uniq {n : Nat} {es : List Pr} {rs : List (List Int)} {f g : Nat → Int} (hok : RotL n es rs) (hf : NxOk rs rs.length f) (hg : NxOk rs rs.length g) {h : Nat} (hh : h < es.length * 2) : f h = g h := by
 obtain ⟨v, l, i, hl, hi, _⟩ := DV hok hh
 have h1 := (DW hok hf hl hi).1
 have h2 := (DW hok hg hl hi).1
 rw [h1] at h2
 exact Option.some.inj h2
theorem KE {n : Nat} {es : List Pr} {rs : List (List Int)} {f g : Nat → Int} (hok : RotL n es rs) (hf : NxOk rs rs.length f) (hg : NxOk rs rs.length g) : facesN es f = facesN es g := by
 have hp := (Eh hok hf).1
 have htw : ∀ h, h < es.length * 2 → twn h < es.length * 2 := fun h hh => by unfold twn; split <;> omega
 have hit : ∀ h, h < es.length * 2 → ∀ k, itr (phi f) k h = itr (phi g) k h := by
  intro h hh k
  induction k with
  | zero => rfl
  | succ k ih =>
   have h1 := Ce hp hh k
   show phi f (itr (phi f) k h) = phi g (itr (phi g) k h)
   rw [← ih]
   show (f (twn (itr (phi f) k h))).toNat = (g (twn (itr (phi f) k h))).toNat
   rw [nx_uniq hok hf hg (htw _ h1)]
 unfold facesN headsOf
 congr 2
 apply List.filter_congr
 intro x hx
 have hx := List.mem_range.1 hx
 unfold Lead
 simp only [hit x hx]
theorem CX {n : Nat} {es : List Pr} {rs : List (List Int)} {f g : Nat → Int} (hok : RotL n es rs) (hf : NxOk rs rs.length f) (hg : NxOk rs rs.length g) : genus2 n es f = genus2 n es g := by
 unfold genus2; rw [KE hok hf hg]
/-- The lists say a flat rotation. -/
def FlatP (n : Nat) (es : List Pr) (ls : List (List Int)) : Prop := ∃ rs fn, RotR es ls rs ∧ NxOk rs rs.length fn ∧ genus2 n es fn = 0
theorem flatR_iff {n : Nat} {es : List Pr} {ls : List (List Int)} {b : Prop} (hok : RotOk n es ls) (h : FlatR n es ls b) : b ↔ FlatP n es ls := by
 obtain ⟨rs, fn, h1, h2, h3⟩ := h
 rw [h3]
 constructor
 ·intro hb; exact ⟨rs, fn, h1, h2, hb⟩
 ·rintro ⟨rs', fn', k1, k2, k3⟩
  have := Fi hok.1 h1 k1
  subst this
  rw [CX (HT hok h1) h2 k2]; exact k3
/-- What check.Graph answers. -/
noncomputable def chkF (N : Int) (es : List Pr) (pl : Bool) (ls : List (List Int)) (cs : List Pr) : Int :=
 if ¬ Vld N es then 1
 else if ¬ TextOk pl ls cs then 181
 else if pl then (if ¬ RotOk N es ls then 182 else if ¬ FlatP N.toNat es ls then 183 else 0)
 else (if ¬ (∀ c, c ∈ cs → c ∈ es) then 184 else if ¬ KuraOk N.toNat cs then 185 else 0)
theorem HR {N : Int} {es : List Pr} {va c : Value} {w : World} {p v u : Value} (hg : PrV w va es) (hc : c = .agg #[p, v, u]) (h1 : p.oneCell' = true) (h2 : v.oneCell' = true) (h3 : u.oneCell' = true) :
  Calls Tryz.prog 54 #[.agg #[.int .i64 N, va], c] w (Ret w [] fun r M => M = [] ∧ ∃ b, r = .bool b ∧ (b = true ↔ Vld N es)) := by
 subst hc
 refine At (args := [_, _]) (L := []) Tryz.func54 rfl Tryz.ntmps54 rfl (Own.start _ _) ?_
 refine Zs ?_
 refine Zw (AS rfl rfl rfl) fun g2 => ?_
 refine Zw (AS rfl rfl (cells3 h1 h2 h3)) fun g3 => ?_
 refine Za ?_
 refine Zx <| Zs ?_
 refine Zu (Ay (vs := [_, _]) rfl rfl Bj Bc rfl (Ak rfl)) ?_
 refine Seq.rel0 rfl rfl (Aq KF rfl rfl rfl (fun w' hw => Cg (hg.keep0 hw))) ?_
 rintro _ ⟨b, rfl, hb⟩
 refine Za ?_
 refine Zx <| DC.ret ?_
 refine Fin.weak (E' := [(4, _)]) ⟨rfl, trivial⟩ .nil ?_
 refine Aj (.inl rfl) rfl rfl ?_
 exact ⟨rfl, b, rfl, hb⟩
def fnv (f : Nat) : Value := .func (.func f) #[] #[]
def stepsA : Array Value := #[.int .i64 0, fnv 54, .int .i64 1, .int .i64 0, fnv 55, .int .i64 181, .int .i64 1, fnv 56, .int .i64 182, .int .i64 1, fnv 57, .int .i64 183, .int .i64 (-1), fnv 58, .int .i64 184, .int .i64 (-1), fnv 59, .int .i64 185]
theorem IQ (w : World) : Calls Tryz.prog 30 #[] w (Ret w [] fun r M => ∃ g, r = .slice (some ⟨g, 0, none⟩) 6 6 ∧ M = [blk g 69 stepsA]) := by
 refine At (args := []) (L := []) Tryz.func30 rfl Tryz.ntmps30 rfl (Own.start _ _) ?_
 refine Zs ?_
 refine Za ?_
 refine Zx <| Zs ?_
 refine Zo (AD (cs := #[_, _, _]) rfl rfl bs69 rfl rfl) ?_
 refine Zo (AD (cs := #[_, _, _]) rfl rfl bs69 rfl rfl) ?_
 refine Zo (AD (cs := #[_, _, _]) rfl rfl bs69 rfl rfl) ?_
 refine Zo (AD (cs := #[_, _, _]) rfl rfl bs69 rfl rfl) ?_
 refine Zo (AD (cs := #[_, _, _]) rfl rfl bs69 rfl rfl) ?_
 refine Zo (AD (cs := #[_, _, _]) rfl rfl bs69 rfl rfl) ?_
 refine Zw (AP (cs := #[_, _, _, _, _, _, _, _, _, _, _, _, _, _, _, _, _, _]) rfl rfl Tryz.underlying66 sz69 ze69 rfl (by decide) (by decide) rfl rfl) fun g7 => ?_
 refine Za ?_
 refine Zx <| DC.ret ?_
 refine Fin.weak (E' := [(0, _)]) ⟨rfl, trivial⟩ (Pick.all _) ?_
 refine Aj (.inl rfl) rfl rfl ?_
 exact ⟨g7, rfl, rfl⟩
end Go.Fl

namespace Go.Fl
open Go Go.Proofs
open Classical
theorem least_exF {p : Nat → Prop} (v : Nat) (hv : p v) : ∃ v, p v ∧ ∀ z, z < v → ¬ p z := by
 induction v using Nat.strongRecOn with
 | _ v ih =>
  by_cases h : ∃ z, z < v ∧ p z
  ·obtain ⟨z, hz, hp⟩ := h; exact ih z hz hp
  ·exact ⟨v, hv, fun z hz hp => h ⟨z, hz, hp⟩⟩
def tuR (l : List Int) (k : Nat) : List Int := l.drop k ++ l.take k
theorem Gc (l : List Int) (k : Nat) : (tuR l k).Perm l := List.perm_append_comm.trans (by rw [List.take_append_drop])
theorem Ez (l : List Int) (k : Nat) : (tuR l k).length = l.length := (Gc l k).length_eq
theorem JZ {l : List Int} {k i : Nat} (hk : k < l.length) (hi : i < l.length) : (tuR l k)[i]? = l[(i + k) % l.length]? := by
 unfold tuR
 by_cases h : i < l.length - k
 ·rw [List.getElem?_append_left (by rw [List.length_drop]; exact h), List.getElem?_drop, Nat.mod_eq_of_lt (by omega), Nat.add_comm]
 ·rw [List.getElem?_append_right (by rw [List.length_drop]; omega), List.length_drop, List.getElem?_take, if_pos (by omega)]
  have e : (i + k) % l.length = i + k - l.length := by
   rw [Nat.mod_eq_sub_mod (by omega), Nat.mod_eq_of_lt (by omega)]
  rw [e]; congr 1; omega
/-- Row by row a relation. -/
def RowsR (R : List Int → List Int → Prop) (rs ms : List (List Int)) : Prop := ms.length = rs.length ∧ ∀ (v : Nat) l m, rs[v]? = some l → ms[v]? = some m → R l m
def TurnR (l m : List Int) : Prop := (∃ k, k ≤ l.length ∧ m = tuR l k) ∧ ∀ a x, m[0]? = some a → x ∈ m → a ≤ x
theorem RowsR.mono {R S : List Int → List Int → Prop} {rs ms : List (List Int)} (h : RowsR R rs ms) (hi : ∀ l m, R l m → S l m) : RowsR S rs ms := ⟨h.1, fun v l m h1 h2 => hi l m (h.2 v l m h1 h2)⟩
theorem RowsR.comp {R S T : List Int → List Int → Prop} {rs ms ps : List (List Int)} (h : RowsR R rs ms) (h' : RowsR S ms ps) (hi : ∀ l m p, R l m → S m p → T l p) : RowsR T rs ps := by
 refine ⟨h'.1.trans h.1, fun v l p hl hp => ?_⟩
 obtain ⟨m, hm⟩ : ∃ m, ms[v]? = some m := ⟨_, List.getElem?_eq_getElem (by rw [h.1]; exact (List.getElem?_eq_some_iff.1 hl).1)⟩
 exact hi l m p (h.2 v l m hl hm) (h'.2 v m p hm hp)
theorem Dp {l m : List Int} (h : TurnR l m) : m.Perm l := by obtain ⟨⟨k, _, rfl⟩, _⟩ := h; exact Gc l k
section
variable {n : Nat} {es : List Pr} {rs ms : List (List Int)} {f g : Nat → Int}
theorem Cf (hok : RotL n es rs) (h : RowsR (fun l m => m.Perm l) rs ms) : RotL n es ms := by
 obtain ⟨hV, hN, hr⟩ := hok
 refine ⟨hV, by rw [h.1]; exact hN, fun v m hm => ?_⟩
 obtain ⟨l, hl⟩ : ∃ l, rs[v]? = some l := ⟨_, List.getElem?_eq_getElem (by rw [← h.1]; exact (List.getElem?_eq_some_iff.1 hm).1)⟩
 have hp := h.2 v l m hl hm
 obtain ⟨h1, h2, h3⟩ := hr v l hl
 exact ⟨fun x hx => h1 x (hp.mem_iff.1 hx), hp.nodup_iff.2 h2, by rw [hp.length_eq]; exact h3⟩
theorem LS {R : List Int → List Int → Prop} (h : RowsR R rs ms) : RowsR (fun l m => R m l) ms rs := ⟨h.1.symm, fun v l m h1 h2 => h.2 v m l h2 h1⟩
theorem Ld (hC : RowsR TurnR rs ms) (h : NxOk rs rs.length f) : NxOk ms ms.length f := by
 intro x m i q hx hm hi
 obtain ⟨l, hl⟩ : ∃ l, rs[x]? = some l := ⟨_, List.getElem?_eq_getElem (by rw [← hC.1]; exact hx)⟩
 obtain ⟨⟨k, hk, rfl⟩, _⟩ := hC.2 x l m hl hm
 have hil := (List.getElem?_eq_some_iff.1 hi).1
 rw [Ez] at hil ⊢
 obtain ⟨k', hk', e⟩ : ∃ k', k' < l.length ∧ tuR l k = tuR l k' := by
  by_cases h : k < l.length
  ·exact ⟨k, h, rfl⟩
  ·refine ⟨0, by omega, ?_⟩
   obtain rfl : k = l.length := by omega
   simp [tuR]
 rw [e, JZ hk' hil] at hi
 have h1 := h x l _ q (by rw [← hC.1]; exact hx) hl hi
 rw [e, JZ hk' (Nat.mod_lt _ (by omega)), ← h1]
 congr 1
 rw [Nat.mod_add_mod, Nat.mod_add_mod]
 congr 1; omega
/-- By vertex, the vertices that its half-edges lead to. -/
def arou (es : List Pr) (rs : List (List Int)) : List (List Int) := rs.map fun l => l.map (toV es)
theorem C9 : (arou es rs).length = rs.length := by simp [arou]
theorem Cy (hok : RotL n es rs) {v : Nat} {l : List Int} {h : Int} (hl : rs[v]? = some l) (hh : h ∈ l) : IsHalf es v (toV es h) h := by
 obtain ⟨h1, h2, h3⟩ := (hok.2.2 v l hl).1 h hh
 exact ⟨h1, h2, h3, rfl⟩
theorem Hj (hok : RotL n es rs) : RotR es (arou es rs) rs := by
 refine ⟨C9.symm, fun v l r hl hr => ?_⟩
 have hl' : l = r.map (toV es) := by
  unfold arou at hl
  rw [List.getElem?_map, hr] at hl
  exact (Option.some.inj hl).symm
 subst hl'
 refine ⟨by simp, fun j u h hu hh => ?_⟩
 rw [List.getElem?_map, hh] at hu
 cases hu
 exact Cy hok hr (List.mem_of_getElem? hh)
theorem Gm (hok : RotL n es rs) : RotOk n es (arou es rs) := by
 have hV := hok.1
 refine ⟨hV, by rw [C9]; exact hok.2.1, fun v l hl => ?_⟩
 unfold arou at hl
 rw [List.getElem?_map, Option.map_eq_some_iff] at hl
 obtain ⟨r, hr, rfl⟩ := hl
 obtain ⟨h1, h2, h3⟩ := hok.2.2 v r hr
 refine ⟨fun u hu => ?_, ?_, by rw [List.length_map]; exact h3⟩
 ·obtain ⟨h, hh, rfl⟩ := List.mem_map.1 hu
  exact ⟨h, Cy hok hr hh⟩
 ·unfold List.Nodup
  rw [List.pairwise_map]
  refine List.Pairwise.imp_of_mem (fun {a b} ha hb hab e => hab ?_) h2
  have p := Cy hok hr ha
  rw [e] at p
  exact p.uniq hV (Cy hok hr hb)
theorem flatP_iff (hok : RotL n es rs) (hnx : NxOk rs rs.length f) : FlatP n es (arou es rs) ↔ genus2 n es f = 0 := by
 constructor
 ·rintro ⟨rs', fn, h1, h2, h3⟩
  have := Fi hok.1 h1 (Hj hok)
  subst this
  rw [CX hok hnx h2]; exact h3
 ·intro h
  exact ⟨rs, f, Hj hok, hnx, h⟩
theorem nx_ex (hok : RotL n es rs) : ∃ f, NxOk rs rs.length f := by
 have h : ∀ q : Nat, ∃ y : Int, ∀ (x : Nat) l (i : Nat), rs[x]? = some l → l[i]? = some (q : Int) → l[(i + 1) % l.length]? = some y := by
  intro q
  by_cases hq : ∃ (x : Nat) (l : List Int) (i : Nat), rs[x]? = some l ∧ l[i]? = some (q : Int)
  ·obtain ⟨x, l, i, hl, hi⟩ := hq
   have hil := (List.getElem?_eq_some_iff.1 hi).1
   refine ⟨l[(i + 1) % l.length]'(Nat.mod_lt _ (by omega)), fun x' l' i' hl' hi' => ?_⟩
   have h1 := (Cy hok hl (List.mem_of_getElem? hi)).fr
   have h2 := (Cy hok hl' (List.mem_of_getElem? hi')).fr
   obtain rfl : x = x' := by omega
   rw [hl] at hl'
   cases hl'
   have hn := (hok.2.2 x l hl).2.1
   obtain ⟨p1, e1⟩ := List.getElem?_eq_some_iff.1 hi
   obtain ⟨p2, e2⟩ := List.getElem?_eq_some_iff.1 hi'
   have : i = i' := by
    have hp := List.pairwise_iff_getElem.1 hn
    rcases Nat.lt_trichotomy i i' with hlt | he | hlt
    ·exact absurd (e1.trans e2.symm) (hp i i' p1 p2 hlt)
    ·exact he
    ·exact absurd (e2.trans e1.symm) (hp i' i p2 p1 hlt)
   subst this
   exact List.getElem?_eq_getElem _
  ·exact ⟨0, fun x l i hl hi => absurd ⟨x, l, i, hl, hi⟩ hq⟩
 refine ⟨fun q => (h q).choose, fun x l i q hx hl hi => ?_⟩
 have h0 := (Cy hok hl (List.mem_of_getElem? hi)).lo
 exact (h q.toNat).choose_spec x l i hl (by rw [hi]; congr 1; omega)
/-! ### mirrored -/
def MirR (l m : List Int) : Prop := m = l.reverse
theorem mir_next (hok : RotL n es rs) (hm : RowsR MirR rs ms) (hf : NxOk rs rs.length f) (hg : NxOk ms ms.length g) {h : Nat} (hh : h < es.length * 2) : nxS g (nxS f h) = h := by
 obtain ⟨v, l, i, hl, hi, _⟩ := DV hok hh
 have hvl := (List.getElem?_eq_some_iff.1 hl).1
 have hil := (List.getElem?_eq_some_iff.1 hi).1
 obtain ⟨h1, h2, h3, _⟩ := DW hok hf hl hi
 obtain ⟨m, hmv⟩ : ∃ m, ms[v]? = some m := ⟨_, List.getElem?_eq_getElem (by rw [hm.1]; exact hvl)⟩
 have e : m = l.reverse := hm.2 v l m hl hmv
 subst e
 have hj := (List.getElem?_eq_some_iff.1 h1).1
 obtain ⟨j, hje⟩ : ∃ j, j = (i + 1) % l.length := ⟨_, rfl⟩
 rw [← hje] at h1 hj
 have h4 : l.reverse[l.length - 1 - j]? = some (f h) := by
  rw [List.getElem?_reverse (by omega)]
  rw [show l.length - 1 - (l.length - 1 - j) = j by omega]; exact h1
 have h5 := hg v l.reverse (l.length - 1 - j) (f h) (by rw [hm.1]; exact hvl) hmv h4
 have hjc : (j = i + 1 ∧ i + 1 < l.length) ∨ (j = 0 ∧ i + 1 = l.length) := by
  by_cases h : i + 1 < l.length
  ·exact .inl ⟨by rw [hje, Nat.mod_eq_of_lt h], h⟩
  ·refine .inr ⟨?_, by omega⟩
   rw [hje, show i + 1 = l.length by omega, Nat.mod_self]
 rw [List.length_reverse] at h5
 have h6 : (l.length - 1 - j + 1) % l.length = l.length - 1 - i := by
  rcases hjc with ⟨rfl, h⟩ | ⟨rfl, h⟩
  ·rw [Nat.mod_eq_of_lt (by omega)]; omega
  ·rw [show l.length - 1 - 0 + 1 = l.length by omega, Nat.mod_self]; omega
 rw [h6, List.getElem?_reverse (by omega), show l.length - 1 - (l.length - 1 - i) = i by omega, hi] at h5
 have h7 := Option.some.inj h5
 unfold nxS
 rw [← h7]; rfl
theorem leads_le {N : Nat} {φ ψ t : Nat → Nat} (hφ : Perm N φ) (hψ : Perm N ψ) (ht : ∀ a, a < N → t a < N ∧ t (t a) = a) (h : ∀ a, a < N → ψ (t (φ a)) = t a) : leads N φ ≤ leads N ψ := by
 have hlow : ∀ x, ∃ y, (∃ k, itr ψ k (t x) = y) ∧ ∀ z, z < y → ¬ ∃ k, itr ψ k (t x) = z := fun x => least_exF (p := fun y => ∃ k, itr ψ k (t x) = y) (t x) ⟨0, rfl⟩
 have hback : ∀ k x, x < N → ∃ y j, itr φ j y = x ∧ y < N ∧ itr ψ k (t x) = t y := by
  intro k x hx
  induction k with
  | zero => exact ⟨x, 0, rfl, hx, rfl⟩
  | succ k ih =>
   obtain ⟨y, j, h1, h2, h3⟩ := ih
   obtain ⟨a, ha, rfl⟩ := Hm hφ h2
   refine ⟨a, j + 1, ?_, ha, ?_⟩
   ·rw [Cm]; exact h1
   ·show ψ (itr ψ k (t x)) = t a
    rw [h3]; exact h a ha
 unfold leads
 rw [List.countP_eq_length_filter, List.countP_eq_length_filter, ← List.length_map (f := fun x => (hlow x).choose)]
 refine CC ?_ ?_
 ·unfold List.Nodup
  rw [List.pairwise_map]
  refine List.Pairwise.imp_of_mem (fun {x y} hx hy hxy e => hxy ?_) (List.Pairwise.filter _ List.nodup_range)
  obtain ⟨hx1, hx2⟩ := List.mem_filter.1 hx
  obtain ⟨hy1, hy2⟩ := List.mem_filter.1 hy
  rw [List.mem_range] at hx1 hy1
  have lx : Lead φ x := by simpa using hx2
  have ly : Lead φ y := by simpa using hy2
  obtain ⟨⟨k, ek⟩, _⟩ := (hlow x).choose_spec
  obtain ⟨⟨k', ek'⟩, _⟩ := (hlow y).choose_spec
  rw [← e] at ek'
  obtain ⟨a, j, e1, ha, e2⟩ := hback k x hx1
  obtain ⟨b, j', e3, hb, e4⟩ := hback k' y hy1
  have hab : a = b := by
   have : t a = t b := by rw [← e2, ← e4, ek, ek']
   have h2 := (ht a ha).2
   rw [this, (ht b hb).2] at h2
   exact h2.symm
  subst hab
  obtain ⟨r, er⟩ := D5 hφ ha e1
  obtain ⟨r', er'⟩ := D5 hφ ha e3
  have h5 : x ≤ y := by
   have := lx (j' + r)
   rw [Cm, er, e3] at this; exact this
  have h6 : y ≤ x := by
   have := ly (j + r')
   rw [Cm, er', e1] at this; exact this
  omega
 ·intro y hy
  obtain ⟨x, hx, rfl⟩ := List.mem_map.1 hy
  obtain ⟨hx1, _⟩ := List.mem_filter.1 hx
  rw [List.mem_range] at hx1
  obtain ⟨⟨k, ek⟩, hmin⟩ := (hlow x).choose_spec
  refine List.mem_filter.2 ⟨List.mem_range.2 ?_, ?_⟩
  ·rw [← ek]; exact Ce hψ (ht x hx1).1 k
  ·refine decide_eq_true fun k' => ?_
   refine Nat.le_of_not_lt fun hlt => hmin _ hlt ⟨k' + k, ?_⟩
   rw [Cm, ek]
theorem mir_sym (hm : RowsR MirR rs ms) : RowsR MirR ms rs := ⟨hm.1.symm, fun v m l h1 h2 => by
 have : m = l.reverse := hm.2 v l m h2 h1
 show l = m.reverse
 rw [this, List.reverse_reverse]⟩
theorem twn_lt {N h : Nat} (hh : h < N * 2) : twn h < N * 2 := by unfold twn; split <;> omega
theorem mir_le (hok : RotL n es rs) (hok' : RotL n es ms) (hm : RowsR MirR rs ms) (hf : NxOk rs rs.length f) (hg : NxOk ms ms.length g) : facesN es f ≤ facesN es g := by
 have h1 := (Eh hok hf).1
 have h2 := (Eh hok' hg).1
 have h3 := leads_le h1 h2 (t := twn) (fun a ha => ⟨twn_lt ha, EL a⟩) (fun a ha => by
  show nxS g (twn (twn (phi f a))) = twn a
  rw [EL]
  exact mir_next hok hm hf hg (twn_lt ha))
 unfold facesN headsOf
 rw [List.length_map, List.length_map, ← List.countP_eq_length_filter, ← List.countP_eq_length_filter]
 exact h3
theorem genus_mir (hok : RotL n es rs) (hm : RowsR MirR rs ms) (hf : NxOk rs rs.length f) (hg : NxOk ms ms.length g) : genus2 n es f = genus2 n es g := by
 have hok' : RotL n es ms := Cf hok (hm.mono fun l m h => by rw [show m = l.reverse from h]; exact List.reverse_perm l)
 have h1 := mir_le hok hok' hm hf hg
 have h2 := mir_le hok' hok (mir_sym hm) hg hf
 unfold genus2
 rw [Nat.le_antisymm h1 h2]
end
end Go.Fl

namespace Go.Fl
open Go Go.Proofs
open Classical
theorem FA : ∀ xs : List (List UInt8), (Lib.join xs [32]).length = (xs.map List.length).sum + (xs.length - 1)
 | [] => by simp [Lib.join]
 | [x] => by simp [Lib.join, List.intercalate]
 | x :: y :: r => by
  have ih := FA (y :: r)
  have e : Lib.join (x :: y :: r) [32] = x ++ [32] ++ Lib.join (y :: r) [32] := by simp [Lib.join, List.intercalate, List.intersperse]
  rw [e, List.length_append, List.length_append, ih]
  simp; omega
theorem Kq {l m : List Int} (h : m.Perm l) : (lineB m).length = (lineB l).length := by
 unfold lineB
 rw [List.length_append, List.length_append, FA, FA, List.length_map, List.length_map, h.length_eq, ((h.map Lib.itoa).map List.length).sum_nat]
theorem Hf {n : Nat} {es : List Pr} (hV : Vld n es) {h : Int} (h0 : 0 ≤ h) (h1 : h < es.length * 2) : 0 ≤ toV es h ∧ toV es h < n := by
 obtain ⟨e, a, he, ha⟩ := BZ h0 h1
 have := hV.ok _ _ he
 have h1 := this.lo; have h2 := this.lt; have h3 := this.hi
 rcases ha with ⟨_, _, a⟩ | ⟨_, _, a⟩ <;> omega
section
variable {n : Nat} {es : List Pr} {rs ms : List (List Int)}
theorem EJ (h : RowsR (fun l m => m.Perm l) rs ms) : (certB true (arou es ms) []).length = (certB true (arou es rs) []).length := by
 have e : ((arou es ms).map lineB).map List.length = ((arou es rs).map lineB).map List.length := by
  unfold arou
  rw [List.map_map, List.map_map, List.map_map, List.map_map]
  apply List.ext_getElem?
  intro v
  rw [List.getElem?_map, List.getElem?_map]
  by_cases hv : v < rs.length
  ·obtain ⟨l, hl⟩ : ∃ l, rs[v]? = some l := ⟨_, List.getElem?_eq_getElem hv⟩
   obtain ⟨m, hm⟩ : ∃ m, ms[v]? = some m := ⟨_, List.getElem?_eq_getElem (by rw [h.1]; exact hv)⟩
   rw [hl, hm]
   exact congrArg some (Kq ((h.2 v l m hl hm).map _))
  ·rw [List.getElem?_eq_none (by rw [h.1]; omega), List.getElem?_eq_none (by omega)]
 have el : (arou es ms).length = (arou es rs).length := by rw [C9, C9, h.1]
 simp only [certB, if_true, textB, List.length_append, List.length_flatten, List.length_map, el, e]
theorem K4 (hok : RotL n es rs) {v : Nat} {l : List Int} (hl : rs[v]? = some l) : l.length ≤ n := by
 have h1 := Gm hok
 have h2 := h1.2.2 v (l.map (toV es)) (by simp [arou, hl])
 have h3 := Ei (b := (List.range n).map fun x : Nat => (x : Int)) h2.2.1 (fun u hu => by
  obtain ⟨h, hh, rfl⟩ := List.mem_map.1 hu
  have p := Cy hok hl hh
  have q := Hf hok.1 p.lo p.hi
  exact List.mem_map.2 ⟨(toV es h).toNat, List.mem_range.2 (by omega), by omega⟩)
 simpa using h3
theorem row_lenM (hok : RotL n es rs) {l : List Int} (hl : l ∈ rs) : l.length ≤ 1048576 := by
 obtain ⟨v, hv⟩ := List.mem_iff_getElem?.1 hl
 have := K4 hok hv
 have := hok.1.hi
 omega
theorem Jf (hok : RotL n es rs) (hl : ∀ (v : Nat) l a x, rs[v]? = some l → l[0]? = some a → x ∈ l → a ≤ x) : ListsOk (arou es rs) := by
 have hV := hok.1
 have hhi := hV.hi
 refine ⟨by rw [C9]; have := hok.2.1; omega, fun v l hv i x a hx ha => ?_⟩
 unfold arou at hv
 rw [List.getElem?_map, Option.map_eq_some_iff] at hv
 obtain ⟨r, hr, rfl⟩ := hv
 rw [List.getElem?_map, Option.map_eq_some_iff] at hx ha
 obtain ⟨h, hh, rfl⟩ := hx
 obtain ⟨k, hk, rfl⟩ := ha
 have ph := Cy hok hr (List.mem_of_getElem? hh)
 have pk := Cy hok hr (List.mem_of_getElem? hk)
 have q := Hf hV ph.lo ph.hi
 have hle := hl v r k h hr hk (List.mem_of_getElem? hh)
 refine ⟨⟨by omega, by omega⟩, ?_⟩
 rcases Int.lt_or_eq_of_le hle with h1 | h1
 ·have := to_lt hV ((A8 hV).2 ⟨pk.lo, pk.hi, pk.fr⟩) ((A8 hV).2 ⟨ph.lo, ph.hi, ph.fr⟩) h1
  omega
 ·rw [h1]; exact Int.le_refl _
theorem J1 (hok : RotL n es rs) (hl : ∀ (v : Nat) l a x, rs[v]? = some l → l[0]? = some a → x ∈ l → a ≤ x) : TextOk true (arou es rs) [] ↔ (certB true (arou es rs) []).length ≤ 33554432 := by
 unfold TextOk HasForm
 rw [if_pos rfl]
 exact ⟨fun h => h.2, fun h => ⟨⟨rfl, Jf hok hl⟩, h⟩⟩
/-- What check.Graph answers of a rotation's certificate. -/
theorem Iu {f : Nat → Int} (hok : RotL n es rs) (hC : RowsR TurnR rs ms) (hf : NxOk rs rs.length f) :
  (TextOk true (arou es ms) [] ↔ (certB true (arou es rs) []).length ≤ 33554432) ∧ chkF n es true (arou es ms) [] = if (certB true (arou es rs) []).length ≤ 33554432 then (if genus2 n es f = 0 then 0 else 183) else 181 := by
 have hp : RowsR (fun l m => m.Perm l) rs ms := hC.mono fun l m h => Dp h
 have hok' := Cf hok hp
 have ht : TextOk true (arou es ms) [] ↔ (certB true (arou es rs) []).length ≤ 33554432 := by
  rw [J1 hok' (fun v l a x hv ha hx => by
   obtain ⟨l0, hl0⟩ : ∃ l, rs[v]? = some l := ⟨_, List.getElem?_eq_getElem (by rw [← hC.1]; exact (List.getElem?_eq_some_iff.1 hv).1)⟩
   exact (hC.2 v l0 l hl0 hv).2 a x ha hx), EJ hp]
 refine ⟨ht, ?_⟩
 unfold chkF
 rw [if_neg (not_not_intro hok.1)]
 by_cases h : TextOk true (arou es ms) []
 ·rw [if_neg (not_not_intro h), if_pos (ht.1 h), if_pos rfl, if_neg (not_not_intro (Gm hok')), Int.toNat_natCast]
  have := flatP_iff hok' (Ld hC hf)
  by_cases hg : genus2 n es f = 0
  ·rw [if_neg (not_not_intro (this.2 hg)), if_pos hg]
  ·rw [if_pos (fun h => hg (this.1 h)), if_neg hg]
 ·rw [if_pos h, if_neg (fun h' => h (ht.2 h'))]
end
end Go.Fl

namespace Go.Fl
open Go
abbrev byc (l : List UInt8) : List Value := Lib.byteCells l
@[simp] theorem byc_len (l : List UInt8) : (byc l).length = l.length := Lib.byteCells_length l
theorem byc_get {l : List UInt8} {i : Nat} {b : UInt8} (h : l[i]? = some b) : (byc l)[i]? = some (.int .u8 b.toNat) := by simp [byc, Lib.byteCells, h]
section
variable {P : Program} {w0 w : World} {K : List Nat} {n : Nat} {ds : List Deferred} {E : Env} {L F : List Chunk} {o : Oper} {x y z : Operand} {v u : Value}
theorem B8 {i t l c : Nat} {ad : Addr} {vs : List Value} (hi : L[i]? = some (slc (.slice (some ad) l c) t 1 vs)) : Hass w0 K L ad vs := by
 intro w hw j u hj
 obtain ⟨A, len, cap, e, _, hr, _⟩ := CE (hw.perm (AI hi).symm)
 cases e
 obtain ⟨ad', e, hc⟩ := hr j u hj
 cases e; exact hc
end
end Go.Fl

namespace Go.Fl
open Go Go.Proofs
end Go.Fl
