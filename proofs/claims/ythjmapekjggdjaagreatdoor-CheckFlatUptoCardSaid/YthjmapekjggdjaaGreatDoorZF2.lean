/- Part 2 of the proof: the library of the walk and the walks, in build order; no condition. -/
import Derived.Test.YthjmapekjggdjaaGreatDoorZF1
set_option linter.unusedVariables false
set_option linter.unusedSimpArgs false
set_option linter.unusedSectionVars false
set_option maxRecDepth 100000
namespace Go.Fl
open Go Go.Proofs
/-- What a check of rotations gives up with. -/
def flt (v e : Int) : Value := .iface 223 (.agg #[.int .i64 v, .int .i64 e])
theorem Bz (is : Bool) (v e : Int) (w : World) :
  Calls Tryz.prog 119 #[.bool is, .int .i64 v, .int .i64 e] w (RetP w [] (fun r M => M = [] ∧ is = true) (fun pv M => M = [] ∧ pv = flt v e ∧ is = false)) := by
 refine CQ (K := []) (args := [_, _, _]) (L := []) Tryz.func119 rfl Tryz.ntmps119 rfl (Own.start _ _) ?_
 refine Zs ?_
 refine Zm ?_
 refine Zo (Bh rfl rfl) ?_
 refine Zx ?_
 refine Zd (fun c0 => ?_) fun c0 => ?_
 ·refine DC.region ?_
  refine Zm ?_
  refine Zm ?_
  refine Zo (AD (cs := #[_, _]) rfl rfl bs223 rfl rfl) ?_
  refine Zo (ED (v := flt v e) rfl rfl (fun w => by kernel_rfl)) ?_
  refine Seq.panic rfl rfl rfl ?_
  exact A7 ⟨rfl, rfl, by simpa using c0⟩
 ·refine DC.skip ?_
  refine C3 (.inr rfl) (BQ (.inr rfl) rfl ⟨rfl, by simpa using c0⟩)
theorem Iv {v e : Int} {x y : Value} {ga gb : Nat} {w : World} (hO : Own w [ga, gb] w [blk ga 3 #[x], blk gb 29 #[y]]) :
  CallsD Tryz.prog 148 #[.pointer (some ⟨ga, 0, none⟩), .pointer (some ⟨gb, 0, none⟩)] (.panicking (onePanic (flt v e))) w
   fun e' u' w' => u' = .panicking [{ v := flt v e, recovered := true }] ∧ Ret w [ga, gb] (fun r M => M = [blk ga 3 #[.int .i64 v], blk gb 29 #[.int .i64 e]]) e' w' := by
 refine DG (args := [_, _]) Tryz.func148 rfl Tryz.ntmps148 rfl rfl rfl rfl rfl rfl rfl rfl (.some _ []) hO ?_
 refine Zs ?_
 refine Zm ?_
 refine Zo (K9 (b := true) rfl rfl rfl (fun w => by kernel_rfl)) ?_
 refine Zx ?_
 refine AM rfl ?_
 refine Zs ?_
 refine Zm ?_
 refine Zo (CB (v := .tuple #[.agg #[.int .i64 v, .int .i64 e], .bool true]) rfl rfl (fun w => by kernel_rfl)) ?_
 refine Zm ?_
 refine Ze ?_
 refine Ze ?_
 refine Zw (AH rfl ze223 rfl) fun g3 => ?_
 refine Zy (AA (cs' := #[_, _]) rfl rfl rfl sz223 rfl (Nat.le_of_ble_eq_true rfl) rfl) ?_
 refine Za ?_
 refine Zx <| DC.seq <| Zs ?_
 refine Zm ?_
 refine Zo (Bh rfl rfl) ?_
 refine Zx ?_
 refine Bw rfl ?_
 refine DC.skip <| Fin.then ?_
 refine AG (cl := [.q, .q, .q, .q, .g, .g]) (A := [0, 1, 0, 4, 3, 31]) (order := [0, 1, 2, 3, 4, 5]) ([blk g3 223 #[.int .i64 v, .int .i64 e]]) mixed (by kernel_rfl) (fun w hw => hw.pick (.cons 0 rfl .nil)) ?_
 refine Yf fi223_0 ?_
 refine Flow.old rfl rfl rfl (Ah rfl rfl AO (BD rfl)) ?_
 refine Yf fi223_1 ?_
 refine Flow.old rfl rfl rfl (Ah rfl rfl GV (BD rfl)) ?_
 refine AL rfl rfl rfl rfl (AF (cs' := #[_]) rfl rfl rfl AN rfl (Nat.le_of_ble_eq_true rfl) rfl) (fun w hw => hw.pick (.cons 0 rfl .nil)) ?_
 refine AL rfl rfl rfl rfl (AF (cs' := #[_]) rfl rfl rfl sz29 rfl (Nat.le_of_ble_eq_true rfl) rfl) (fun w hw => hw.pick (.cons 0 rfl .nil)) ?_
 refine Flow.end rfl ?_
 simp only [zq, zr]
 refine Fin.weak (E' := []) trivial (.cons 1 rfl (.cons 1 rfl .nil)) ?_
 refine BQ (.inr rfl) rfl ?_
 rfl
theorem Iw {x y : Value} {ga gb : Nat} {w : World} (hO : Own w [ga, gb] w [blk ga 3 #[x], blk gb 29 #[y]]) :
  CallsD Tryz.prog 148 #[.pointer (some ⟨ga, 0, none⟩), .pointer (some ⟨gb, 0, none⟩)] .returning w
   fun e' u' w' => u' = .returning ∧ Ret w [ga, gb] (fun r M => M = [blk ga 3 #[x], blk gb 29 #[y]]) e' w' := by
 refine DG (args := [_, _]) Tryz.func148 rfl Tryz.ntmps148 rfl rfl rfl rfl rfl rfl rfl rfl .none hO ?_
 refine Zs ?_
 refine Zm ?_
 refine Zo (I1 (b := false) rfl rfl (fun w => by kernel_rfl)) ?_
 refine Zx ?_
 refine Bw rfl ?_
 refine DC.skip ?_
 refine BQ (.inr rfl) rfl ?_
 rfl
theorem own2 {w0 w : World} {K : List Nat} {ga gb t t' : Nat} {x y : Array Value} {F : List Chunk} (h : Own w0 K w (blk ga t x :: blk gb t' y :: F)) : Own w [ga, gb] w [blk ga t x, blk gb t' y] :=
 (h.sub (L' := [blk ga t x, blk gb t' y]) (by simp)).self
/-- rot.caught: a check that returns, or gives up with a fault. -/
theorem E7 {f : Nat} {cap : Array Value} {w : World} {Lc : List Chunk} {C : List Chunk → Prop} {D : Int → Int → List Chunk → Prop} (hf : Ent Tryz.prog f) (hO : Own w (idsOf Lc) w Lc)
  (hcon : ∀ w', Own w (idsOf Lc) w' Lc → Calls Tryz.prog f cap w' (RetP w' (idsOf Lc) (fun _ M => C M) (fun pv M => ∃ v e, pv = flt v e ∧ D v e M))) :
  Calls Tryz.prog 112 #[.func (.func f) #[] cap] w (Ret w (idsOf Lc) fun r M => (r = .tuple #[.int .i64 0, .int .i64 0] ∧ C M) ∨ ∃ v e, r = .tuple #[.int .i64 v, .int .i64 e] ∧ D v e M) := by
 refine HH (args := [_]) Tryz.func112 rfl Tryz.ntmps112 rfl hO ?_
 refine Zs ?_
 refine Zw (AH rfl B6 rfl) fun g2 => ?_
 refine Zw (AH rfl ze29 rfl) fun g3 => ?_
 refine Zx <| Zs ?_
 refine Zo (Fr rfl rfl rfl) ?_
 refine Seq.defer rfl rfl rfl rfl ?_
 refine Zx <| Zs ?_
 refine Zm ?_
 refine Dk (Lc := Lc) (F := [blk g3 29 #[.int .i64 0], blk g2 3 #[.int .i64 0]]) (K' := idsOf Lc) (C := fun _ M => C M) (D := fun pv M => ∃ v e, pv = flt v e ∧ D v e M) rfl rfl hf rfl rfl rfl (List.perm_append_comm (l₁ := [_, _])) (fun _ h => h) (fun w' hw => by simpa using hcon w' (hw.sub ((List.sublist_cons_self _ _).trans (List.sublist_cons_self _ _)))) ?_ ?_
 ·rintro pv M ⟨v, e, rfl, hD⟩
  refine Ao <| GY ?_
  refine Fin.leaves (f := 148) (cap := [.pointer (some ⟨g2, 0, none⟩), .pointer (some ⟨g3, 0, none⟩)]) (Lc := [blk g2 3 #[.int .i64 0], blk g3 29 #[.int .i64 0]]) (F := M) en148 (by simp) rfl
   ((List.perm_append_comm (l₁ := M)).trans (.swap _ _ _)) (fun k hk => by simpa [blk] using hk) (fun w' hw => Iv (own2 (hw.perm ((List.perm_append_comm (l₁ := M)).trans (.swap _ _ _)).symm))) ?_
  rintro r L' rfl a w' ha hw
  have e2 : a.tmps.getD 2 undef = .pointer (some ⟨g2, 0, none⟩) := by have := ha.ev (x := .tmp 2) (v := .pointer (some ⟨g2, 0, none⟩)) rfl; simpa only [Act.eval] using this
  have e3 : a.tmps.getD 3 undef = .pointer (some ⟨g3, 0, none⟩) := by have := ha.ev (x := .tmp 3) (v := .pointer (some ⟨g3, 0, none⟩)) rfl; simpa only [Act.eval] using this
  exact ⟨_, Fk rfl e2 e3 (BY (hw.holds (blk g2 3 #[.int .i64 v]) (by simp)) AO rfl) (BY (hw.holds (blk g3 29 #[.int .i64 e]) (by simp)) GV rfl),
   _, M, rfl, .inr ⟨v, e, rfl, hD⟩, hw.sub ((List.sublist_cons_self _ _).trans (List.sublist_cons_self _ _))⟩
 intro v6 M hC
 refine Seq.own (fun w hw => hw.perm (List.perm_append_comm (l₁ := [_, _]))) ?_
 simp only [List.cons_append, List.nil_append]
 refine Zx <| Zs ?_
 refine Zy (AF (cs' := #[_]) rfl rfl rfl AN rfl (Nat.le_of_ble_eq_true rfl) rfl) ?_
 refine Zy (AF (cs' := #[_]) rfl rfl rfl sz29 rfl (Nat.le_of_ble_eq_true rfl) rfl) ?_
 refine Zx <| DC.ret ?_
 refine JW ?_
 refine Fin.leaves (f := 148) (cap := [.pointer (some ⟨g2, 0, none⟩), .pointer (some ⟨g3, 0, none⟩)]) (Lc := [blk g2 3 #[.int .i64 0], blk g3 29 #[.int .i64 0]]) (F := M) en148 (by simp) rfl
  (.swap _ _ _) (fun k hk => by simpa [blk] using hk) (fun w' hw => Iw (own2 (hw.perm (.swap _ _ _)))) ?_
 rintro r L' rfl a w' ha hw
 have e2 : a.tmps.getD 2 undef = .pointer (some ⟨g2, 0, none⟩) := by have := ha.ev (x := .tmp 2) (v := .pointer (some ⟨g2, 0, none⟩)) rfl; simpa only [Act.eval] using this
 have e3 : a.tmps.getD 3 undef = .pointer (some ⟨g3, 0, none⟩) := by have := ha.ev (x := .tmp 3) (v := .pointer (some ⟨g3, 0, none⟩)) rfl; simpa only [Act.eval] using this
 exact ⟨_, Fk rfl e2 e3 (BY (hw.holds (blk g2 3 #[.int .i64 0]) (by simp)) AO rfl) (BY (hw.holds (blk g3 29 #[.int .i64 0]) (by simp)) GV rfl),
  _, M, rfl, .inl ⟨rfl, hC⟩, hw.sub ((List.sublist_cons_self _ _).trans (List.sublist_cons_self _ _))⟩
theorem Ha (a b c d : Int) (w : World) (h : 0 ≤ a ∧ a ≤ 1048576 ∧ 0 ≤ b ∧ b ≤ 1048576 ∧ 0 ≤ c ∧ c ≤ 1048576 ∧ 0 ≤ d ∧ d ≤ 1048576) :
  Calls Tryz.prog 75 #[.agg #[.int .i64 a, .int .i64 b], .agg #[.int .i64 c, .int .i64 d]] w (Ret w [] fun v L => L = [] ∧ v = .int .i64 (if a = c then b - d else a - c)) := by
 refine At (args := [_, _]) (L := []) Tryz.func75 rfl Tryz.ntmps75 rfl (Own.start _ _) ?_
 refine Zs ?_
 refine Zw (AS rfl rfl rfl) fun g2 => ?_
 refine Zw (AS rfl rfl rfl) fun g3 => ?_
 refine Za ?_
 refine Zx <| DC.seq <| Zs ?_
 refine Zf Bd ?_
 refine Zl AO ?_
 refine Zf Bd ?_
 refine Zl AO ?_
 refine Zo (BS rfl rfl rfl) ?_
 refine Zx ?_
 refine Zd (fun c1 => ?_) fun c1 => ?_
 ·refine Zs ?_
  refine Zf Bd ?_
  refine Zl AO ?_
  refine Zf Bd ?_
  refine Zl AO ?_
  refine Zo (Ca rfl rfl rfl (by omega)) ?_
  refine Za ?_
  refine Zx <| DC.ret <| Aa ?_
  refine Fin.weak (E' := [(4, _)]) ⟨rfl, trivial⟩ .nil ?_
  refine Aj (.inl rfl) rfl rfl ?_
  exact ⟨rfl, by rw [if_neg (by simpa using c1)]⟩
 ·refine DC.skip <| Fin.then <| Zs ?_
  refine Zf Bu ?_
  refine Zl AO ?_
  refine Zf Bu ?_
  refine Zl AO ?_
  refine Zo (Ca rfl rfl rfl (by omega)) ?_
  refine Za ?_
  refine Zx <| DC.ret ?_
  refine Fin.weak (E' := [(4, _)]) ⟨rfl, trivial⟩ .nil ?_
  refine Aj (.inl rfl) rfl rfl ?_
  exact ⟨rfl, by rw [if_pos (by simpa using c1)]⟩
theorem DR (N : Int) (es : List Pr) (A : Option Addr) (cap : Nat) (w : World) (hr : Rd w A (prs es)) (hl : es.length ≤ 9223372036854775807) :
  Calls Tryz.prog 41 #[.agg #[.int .i64 N, .slice A es.length cap]] w (Ret w [] fun v L => L = [] ∧ ∃ b, v = .bool b ∧ (b = true ↔ Vld N es)) := by
 refine At (args := [_]) (L := []) Tryz.func41 rfl Tryz.ntmps41 rfl (Own.start _ _) ?_
 refine Zs ?_
 refine Zw (AS rfl rfl rfl) fun g1 => ?_
 refine Za ?_
 refine Zx <| DC.seq <| Zs ?_
 refine Zf BF ?_
 refine Zl AO ?_
 refine Zc ?_
 refine Zm ?_
 refine Seq.split 8 rfl (fun k1_3 => ?_) (fun k1_3 => ?_)
 ·refine Zk ?_
  refine Zk ?_
  refine Zk ?_
  refine Zt ?_
  refine Zm ?_
  refine Zk ?_
  refine Zk ?_
  refine Zk ?_
  refine Zk ?_
  refine Zt ?_
  refine Zx ?_
  refine AM rfl ?_
  refine Zs ?_
  refine Za ?_
  refine Zx <| DC.ret <| Aa ?_
  refine Fin.weak (E' := [(2, _)]) ⟨rfl, trivial⟩ .nil ?_
  refine Aj (.inl rfl) rfl rfl ?_
  exact ⟨rfl, false, rfl, by simp; intro h; have := h.lo; simp at k1_3; omega⟩
 ·refine Zf BF ?_
  refine Zl AO ?_
  refine Zo (BH rfl rfl rfl) ?_
  refine Zg ?_
  refine Zm ?_
  refine Seq.split 13 rfl (fun k1_8 => ?_) (fun k1_8 => ?_)
  ·refine Zk ?_
   refine Zk ?_
   refine Zk ?_
   refine Zk ?_
   refine Zt ?_
   refine Zx ?_
   refine AM rfl ?_
   refine Zs ?_
   refine Za ?_
   refine Zx <| DC.ret <| Aa ?_
   refine Fin.weak (E' := [(2, _)]) ⟨rfl, trivial⟩ .nil ?_
   refine Aj (.inl rfl) rfl rfl ?_
   exact ⟨rfl, false, rfl, by simp; intro h; have := h.hi; simp at k1_8; omega⟩
  ·refine Zf Be ?_
   refine Zl BO ?_
   refine Zn Tryz.underlying22 ?_
   refine Zo (BH rfl rfl rfl) ?_
   refine Zg ?_
   refine Zx ?_
   refine Zd (fun c1 => ?_) fun c1 => ?_
   ·refine Zs ?_
    refine Za ?_
    refine Zx <| DC.ret <| Aa ?_
    refine Fin.weak (E' := [(2, _)]) ⟨rfl, trivial⟩ .nil ?_
    refine Aj (.inl rfl) rfl rfl ?_
    exact ⟨rfl, false, rfl, by simp; intro h; have := h.few; simp at c1; omega⟩
   ·refine DC.skip <| Fin.then <| DC.seq <| Zs ?_
    refine Zf Be ?_
    refine Zl BO ?_
    refine Zn Tryz.underlying22 ?_
    refine Zm ?_
    refine Zx <| DC.block ?_
    refine DC.loop (ι := Nat) (fun i => i ≤ es.length ∧ (∀ (j : Nat) e, j < i → es[j]? = some e → OkE N e) ∧ (∀ (j : Nat) a b, j + 1 < i → es[j]? = some a → es[j + 1]? = some b → Lex a b))
     (fun i => [(1, .pointer (some ⟨g1, 0, none⟩)), (20, .slice A es.length cap), (21, .int .i64 es.length), (22, .int .i64 i)])
     (fun i => [blk g1 24 #[.int .i64 N, .slice A es.length cap]]) (fun i => es.length - i) 0 ⟨Nat.zero_le _, fun _ _ h => absurd h (Nat.not_lt_zero _), fun _ _ _ h => absurd h (Nat.not_lt_zero _)⟩
     ⟨rfl, rfl, rfl, rfl, trivial⟩ (.cons 0 rfl .nil) ?_
    rintro i ⟨hi, hok, hup⟩
    refine Zs ?_
    refine Zc ?_
    refine Zx <| DC.seq ?_
    refine Zd (fun c4 => ?_) fun c4 => ?_
    ·have hlt : i < es.length := by simpa using c4
     obtain ⟨e, he⟩ : ∃ e, es[i]? = some e := ⟨_, List.getElem?_eq_getElem hlt⟩
     obtain ⟨ad, rfl, hU, hV⟩ := hr.pair he
     refine DC.skip <| Fin.then <| DC.seq <| DC.block <| Zs ?_
     refine Zm ?_
     refine Zo (AQ rfl rfl rfl Tryz.underlying22 Bb (by omega) (by omega) (by first | exact AC _ _ | exact AW _ _ _ | rfl)) ?_
     refine Zu (Ay (vs := [_, _]) rfl rfl CP Bb rfl (CD hU hV (by simp))) ?_
     refine Zw (AH rfl CI rfl) fun g4 => ?_
     refine Za ?_
     refine Zy (AA (cs' := #[_, _]) rfl rfl rfl Bb rfl (Nat.le_of_ble_eq_true rfl) rfl) ?_
     refine Zx <| DC.seq ?_
     refine AG (cl := [.q, .v, .q, .q, .q, .v, .q, .v, .q, .q, .q, .q, .v, .q, .v, .q, .q, .q, .q, .q, .q, .q, .v, .q, .q, .q, .v, .v, .r, .q, .q, .q]) (A := [0, 1, 3, 7, 15, 31, 15, 79, 255, 511, 1023, 2047, 4095, 2047, 10239, 32767, 65535, 131071, 262143, 524287, 1048575, 2097151, 4194303, 2097151, 10485759, 33554431, 67108863, 2097151, 268435455, 536870911, 1073741823, 2147483647]) (order := [0, 1, 2, 3, 4, 5, 6, 7, 8, 9, 10, 11, 12, 13, 14, 15, 16, 17, 18, 19, 20, 21, 22, 23, 24, 25, 26, 27, 28, 29, 30, 31]) [] mixed (by kernel_rfl) (fun w hw => hw.pick .nil) ?_
     refine Yf Bd ?_
     refine Yl AO ?_
     refine Yo rfl (Cj rfl rfl rfl) ?_
     refine Ym ?_
     refine Flow.split 30 rfl (fun k6_3 => ?_) (fun k6_3 => ?_)
     ·refine Yk ?_
      refine Yk ?_
      refine Yk ?_
      refine Yk ?_
      refine Yk ?_
      refine Yo rfl (Bg rfl rfl rfl) ?_
      refine Ym ?_
      refine Yk ?_
      refine Yk ?_
      refine Yk ?_
      refine Yk ?_
      refine Yk ?_
      refine Yo rfl (Bg rfl rfl rfl) ?_
      refine Ym ?_
      refine Yk ?_
      refine Yk ?_
      refine Yk ?_
      refine Yk ?_
      refine Yk ?_
      refine Yk ?_
      refine Yk ?_
      refine Yk ?_
      refine Yk ?_
      refine Yk ?_
      refine Yk ?_
      refine Yk ?_
      refine Yk ?_
      refine Yo rfl (Bg rfl rfl rfl) ?_
      refine Flow.end rfl ?_
      simp only [zq, zr]
      refine Fin.then ?_
      refine AM rfl ?_
      refine Zs ?_
      refine Za ?_
      refine Zx <| DC.ret <| Ae <| Aa <| Aa <| Ae <| Aa ?_
      refine Fin.weak (E' := [(2, _)]) ⟨rfl, trivial⟩ .nil ?_
      refine Aj (.inl rfl) rfl rfl ?_
      exact ⟨rfl, false, rfl, by simp; intro h; have := (h.ok i e he).lo; simp at k6_3; omega⟩
     ·refine Yf Bd ?_
      refine Yl AO ?_
      refine Yf Bu ?_
      refine Yl AO ?_
      refine Yo rfl (Ck rfl rfl rfl) ?_
      refine Yo rfl (Bl rfl rfl rfl) ?_
      refine Ym ?_
      refine Flow.split 37 rfl (fun k6_10 => ?_) (fun k6_10 => ?_)
      ·refine Yk ?_
       refine Yk ?_
       refine Yk ?_
       refine Yk ?_
       refine Yk ?_
       refine Yo rfl (Bg rfl rfl rfl) ?_
       refine Ym ?_
       refine Yk ?_
       refine Yk ?_
       refine Yk ?_
       refine Yk ?_
       refine Yk ?_
       refine Yk ?_
       refine Yk ?_
       refine Yk ?_
       refine Yk ?_
       refine Yk ?_
       refine Yk ?_
       refine Yk ?_
       refine Yk ?_
       refine Yo rfl (Bg rfl rfl rfl) ?_
       refine Flow.end rfl ?_
       simp only [zq, zr]
       refine Fin.then ?_
       refine AM rfl ?_
       refine Zs ?_
       refine Za ?_
       refine Zx <| DC.ret <| Ae <| Aa <| Aa <| Ae <| Aa ?_
       refine Fin.weak (E' := [(2, _)]) ⟨rfl, trivial⟩ .nil ?_
       refine Aj (.inl rfl) rfl rfl ?_
       exact ⟨rfl, false, rfl, by simp; intro h; have := (h.ok i e he).lt; simp at k6_10; omega⟩
      ·refine Yf Bu ?_
       refine Yl AO ?_
       refine Yf BF ?_
       refine Yl AO ?_
       refine Yo rfl (Ck rfl rfl rfl) ?_
       refine Yo rfl (Bl rfl rfl rfl) ?_
       refine Ym ?_
       refine Flow.split 44 rfl (fun k6_17 => ?_) (fun k6_17 => ?_)
       ·refine Yk ?_
        refine Yk ?_
        refine Yk ?_
        refine Yk ?_
        refine Yk ?_
        refine Yk ?_
        refine Yk ?_
        refine Yk ?_
        refine Yk ?_
        refine Yk ?_
        refine Yk ?_
        refine Yk ?_
        refine Yk ?_
        refine Yo rfl (Bg rfl rfl rfl) ?_
        refine Flow.end rfl ?_
        simp only [zq, zr]
        refine Fin.then ?_
        refine AM rfl ?_
        refine Zs ?_
        refine Za ?_
        refine Zx <| DC.ret <| Ae <| Aa <| Aa <| Ae <| Aa ?_
        refine Fin.weak (E' := [(2, _)]) ⟨rfl, trivial⟩ .nil ?_
        refine Aj (.inl rfl) rfl rfl ?_
        exact ⟨rfl, false, rfl, by simp; intro h; have := (h.ok i e he).hi; simp at k6_17; omega⟩
       ·refine Ym ?_
        refine Yo rfl (BH rfl rfl rfl) ?_
        refine Ym ?_
        refine Flow.split 47 rfl (fun k6_20 => ?_) (fun k6_20 => ?_)
        ·have hpos : 0 < i := by simpa using k6_20
         obtain ⟨d, hd⟩ : ∃ d, es[i - 1]? = some d := ⟨_, List.getElem?_eq_getElem (by omega)⟩
         obtain ⟨ad', h', hU', hV'⟩ := hr.pair hd
         cases h'
         have h1 := hok (i - 1) d (by omega) hd
         have h1a := h1.lo
         have h1b := h1.lt
         have h1c := h1.hi
         have h2a : 0 ≤ e.1 := by simpa using k6_3
         have h2b : e.1 < e.2 := by simpa using k6_10
         have h2c : e.2 < N := by simpa using k6_17
         have h3 : N ≤ 1048576 := by simpa using k1_8
         have hii : ((i : Int) - 1).toNat = i - 1 := by omega
         refine Yf Be ?_
         refine Yl BO ?_
         refine Ym ?_
         refine Yo rfl (Ca rfl rfl rfl (by omega)) ?_
         refine Yo rfl (AQ (ad' := ad.add ((i - 1) * 2)) rfl rfl rfl Tryz.underlying22 Bb (by omega) (by omega) (by rw [hii])) ?_
         refine Am rfl rfl rfl rfl (Ay (vs := [_, _]) rfl rfl CP Bb rfl (CD hU' hV' (by simp))) ?_
         refine Am rfl rfl rfl rfl (Ay (vs := [_, _]) rfl rfl CP Bb rfl (Ak rfl)) ?_
         refine Flow.rel0 rfl rfl rfl rfl (Aq en75 rfl rfl rfl (fun w hw => Ha d.1 d.2 e.1 e.2 w (by omega))) ?_
         rintro _ rfl
         refine Yo rfl (Ck rfl rfl rfl) ?_
         refine Yo rfl (Bg rfl rfl rfl) ?_
         refine Yo rfl (Bl rfl rfl rfl) ?_
         refine Flow.end rfl ?_
         simp only [zq, zr]
         refine Fin.then ?_
         refine Zd (fun c6 => ?_) fun c6 => ?_
         ·refine Zs ?_
          refine Za ?_
          refine Zx <| DC.ret <| Ae <| Aa <| Aa <| Ae <| Aa ?_
          refine Fin.weak (E' := [(2, _)]) ⟨rfl, trivial⟩ .nil ?_
          refine Aj (.inl rfl) rfl rfl ?_
          refine ⟨rfl, false, rfl, by simp; intro h; have := h.up (i - 1) d e hd (by rw [show i - 1 + 1 = i by omega]; exact he); unfold Lex at this; simp at c6; split at c6 <;> omega⟩
         ·refine DC.skip <| Fin.inBlock <| Fin.then <| DC.region ?_
          refine Zp ?_
          refine Zm ?_
          refine Seq.nil ?_
          refine Fin.again (i + 1) (by omega) ⟨by omega, ?_, ?_⟩ ⟨rfl, rfl, rfl, rfl, trivial⟩ (.cons 1 rfl .nil)
          ·intro j x hj hx
           rcases Nat.lt_succ_iff_lt_or_eq.1 hj with hj | rfl
           ·exact hok j x hj hx
           ·rw [he] at hx; cases hx; exact ⟨h2a, h2b, h2c⟩
          ·intro j a b hj ha hb
           rcases Nat.lt_succ_iff_lt_or_eq.1 hj with hj | hj
           ·exact hup j a b hj ha hb
           ·obtain rfl : j = i - 1 := by omega
            rw [hd] at ha; cases ha
            rw [show i - 1 + 1 = i by omega, he] at hb; cases hb
            unfold Lex
            simp at c6
            split at c6 <;> omega
        ·refine Yk ?_
         refine Yk ?_
         refine Yk ?_
         refine Yk ?_
         refine Yk ?_
         refine Yk ?_
         refine Yk ?_
         refine Yk ?_
         refine Yk ?_
         refine Yo rfl (Bl rfl rfl rfl) ?_
         refine Yo rfl (Bl rfl rfl rfl) ?_
         refine Flow.end rfl ?_
         simp only [zq, zr]
         refine Fin.then ?_
         refine Bw rfl ?_
         refine DC.skip <| Fin.inBlock <| Fin.then <| DC.region ?_
         refine Zp ?_
         refine Zm ?_
         refine Seq.nil ?_
         have h0 : i = 0 := by simp at k6_20; omega
         subst h0
         have h2a : 0 ≤ e.1 := by simpa using k6_3
         have h2b : e.1 < e.2 := by simpa using k6_10
         have h2c : e.2 < N := by simpa using k6_17
         refine Fin.again 1 (by omega) ⟨by omega, ?_, ?_⟩ ⟨rfl, rfl, rfl, rfl, trivial⟩ (.cons 1 rfl .nil)
         ·intro j x hj hx
          obtain rfl : j = 0 := by omega
          rw [he] at hx; cases hx; exact ⟨h2a, h2b, h2c⟩
         ·intro j a b hj; omega
    ·refine DC.exit <| Ad <| Ad <| Ag <| Fin.then <| Zs ?_
     refine Za ?_
     refine Zx <| DC.ret ?_
     refine Fin.weak (E' := [(2, _)]) ⟨rfl, trivial⟩ .nil ?_
     refine Aj (.inl rfl) rfl rfl ?_
     have hie : i = es.length := by simp at c4; omega
     subst hie
     refine ⟨rfl, true, rfl, by simp; exact ⟨by simpa using k1_3, by simpa using k1_8, by simp at c1; omega, fun j e hj => hok j e (List.getElem?_eq_some_iff.1 hj).1 hj, fun j a b ha hb => hup j a b (List.getElem?_eq_some_iff.1 hb).1 ha hb⟩⟩
abbrev AV (w : World) := AdjV w 234 3
section
variable {N : Int} {es : List Pr} {M : AdjM} {p : Option Addr} {w : World}
theorem LG (h : AV w N es M p) : Calls Tryz.prog 158 #[.pointer p] w (Ret w [] fun v L => L = [] ∧ v = .int .i64 N) := by
 refine At (args := [_]) (L := []) Tryz.func158 rfl Tryz.ntmps158 rfl (Own.start _ _) ?_
 refine Zs ?_
 refine Za ?_
 refine Zx <| DC.seq <| Zs ?_
 refine Zm ?_
 refine Zo (Ho rfl rfl rfl Tryz.underlying200) ?_
 refine Zx ?_
 refine Zd (fun c1 => ?_) fun c1 => ?_
 ·cases h with
  | «at» hA hP => cases c1
  | nil hN he =>
  refine Zs ?_
  refine Za ?_
  refine Zx <| DC.ret <| Aa ?_
  refine Aj (.inl rfl) rfl rfl ?_
  subst hN; exact ⟨rfl, rfl⟩
 ·cases h with
  | nil hN he => cases c1
  | «at» hA hP =>
  have hlo := hP.vld.lo
  have hhi := hP.vld.hi
  have hsl := hP.stl
  refine DC.skip <| Fin.then <| Zs ?_
  refine Zm ?_
  refine Zo (AK rfl rfl) ?_
  refine Zf Cz ?_
  refine Zu (Ah rfl rfl Bo (AT hA.hp rfl)) ?_
  refine Zn Tryz.underlying44 ?_
  refine Zo (Ca rfl rfl rfl (by omega)) ?_
  refine Za ?_
  refine Zx <| DC.ret ?_
  refine Aj (.inl rfl) rfl rfl ?_
  exact ⟨rfl, by congr 1; omega⟩
theorem M_calls (h : AV w N es M p) : Calls Tryz.prog 201 #[.pointer p] w (Ret w [] fun v L => L = [] ∧ v = .int .i64 es.length) := by
 refine At (args := [_]) (L := []) Tryz.func201 rfl Tryz.ntmps201 rfl (Own.start _ _) ?_
 refine Zs ?_
 refine Za ?_
 refine Zx <| DC.seq <| Zs ?_
 refine Zm ?_
 refine Zo (Ho rfl rfl rfl Tryz.underlying200) ?_
 refine Zx ?_
 refine Zd (fun c1 => ?_) fun c1 => ?_
 ·cases h with
  | «at» hA hP => cases c1
  | nil hN he =>
  refine Zs ?_
  refine Za ?_
  refine Zx <| DC.ret <| Aa ?_
  refine Aj (.inl rfl) rfl rfl ?_
  subst he; exact ⟨rfl, rfl⟩
 ·cases h with
  | nil hN he => cases c1
  | «at» hA hP =>
  have hlo := hP.vld.few
  have hsl := hP.fr
  have hfl : M.fr.length = es.length * 2 := by rw [hsl, Ba]
  refine DC.skip <| Fin.then <| Zs ?_
  refine Zm ?_
  refine Zo (AK rfl rfl) ?_
  refine Zf C6 ?_
  refine Zu (Ah rfl rfl Bo (AT hA.hp rfl)) ?_
  refine Zn Tryz.underlying44 ?_
  refine Zo (I0 rfl rfl rfl (by omega) (by omega)) ?_
  refine Za ?_
  refine Zx <| DC.ret ?_
  refine Aj (.inl rfl) rfl rfl ?_
  exact ⟨rfl, by congr 1; omega⟩
theorem HL (h : AV w N es M p) (x : Int) : Calls Tryz.prog 192 #[.pointer p, .int .i64 x] w (Ret w [] fun v L => L = [] ∧ v = .bool (decide (0 ≤ x ∧ x < N))) := by
 refine At (args := [_, _]) (L := []) Tryz.func192 rfl Tryz.ntmps192 rfl (Own.start _ _) ?_
 refine Zs ?_
 refine Za ?_
 refine Zx <| Zs ?_
 refine Zm ?_
 refine Zo (Ck rfl rfl rfl) ?_
 refine Zm ?_
 refine Seq.split 7 rfl (fun k1_2 => ?_) (fun k1_2 => ?_)
 ·refine Zm ?_
  refine Zm ?_
  refine Seq.rel0 rfl rfl (Aq en158 rfl rfl rfl (fun w' hw => LG (h.keep hw))) ?_
  rintro _ rfl
  refine Zc ?_
  refine Zt ?_
  refine Za ?_
  refine Zx <| DC.ret ?_
  refine Aj (.inl rfl) rfl rfl ?_
  exact ⟨rfl, by simp at k1_2; simp [k1_2]⟩
 ·refine Zk ?_
  refine Zk ?_
  refine Zk ?_
  refine Zk ?_
  refine Zg ?_
  refine Za ?_
  refine Zx <| DC.ret ?_
  refine Aj (.inl rfl) rfl rfl ?_
  exact ⟨rfl, by simp at k1_2; simp; omega⟩
theorem EG (h : AV w N es M p) (x : Int) : Calls Tryz.prog 195 #[.pointer p, .int .i64 x] w (Ret w [] fun v L => L = [] ∧ v = .bool (decide (0 ≤ x ∧ x < es.length * 2))) := by
 have hfew := h.vld.few
 refine At (args := [_, _]) (L := []) Tryz.func195 rfl Tryz.ntmps195 rfl (Own.start _ _) ?_
 refine Zs ?_
 refine Za ?_
 refine Zx <| Zs ?_
 refine Zm ?_
 refine Zo (Ck rfl rfl rfl) ?_
 refine Zm ?_
 refine Seq.split 7 rfl (fun k1_2 => ?_) (fun k1_2 => ?_)
 ·refine Zm ?_
  refine Zm ?_
  refine Seq.rel0 rfl rfl (Aq en201 rfl rfl rfl (fun w' hw => M_calls (h.keep hw))) ?_
  rintro _ rfl
  refine Zo (Cb rfl rfl rfl (by omega)) ?_
  refine Zc ?_
  refine Zt ?_
  refine Za ?_
  refine Zx <| DC.ret ?_
  refine Aj (.inl rfl) rfl rfl ?_
  exact ⟨rfl, by simp at k1_2; congr 1; rw [decide_eq_decide]; omega⟩
 ·refine Zk ?_
  refine Zk ?_
  refine Zk ?_
  refine Zk ?_
  refine Zk ?_
  refine Zg ?_
  refine Za ?_
  refine Zx <| DC.ret ?_
  refine Aj (.inl rfl) rfl rfl ?_
  exact ⟨rfl, by simp at k1_2; simp; omega⟩
/-- What leave answers: where the list of a vertex lies. -/
def LeaveV (N : Int) (es : List Pr) (M : AdjM) (x : Int) (v : Value) : Prop :=
 ∃ A cap, v = .slice A (outs es x).length cap ∧ (outs es x).length ≤ cap ∧ cap ≤ 9223372036854775807 ∧ (0 < (outs es x).length → ∃ s, 0 ≤ x ∧ x < N ∧ M.st[x.toNat]? = some s ∧ A = some ⟨M.g2, s.toNat, none⟩)
theorem Jk (h : AV w N es M p) (x : Int) : Calls Tryz.prog 179 #[.pointer p, .int .i64 x] w (Ret w [] fun v L => L = [] ∧ LeaveV N es M x v) := by
 have hfew := h.vld.few
 have hNhi := h.vld.hi
 refine At (args := [_, _]) (L := []) Tryz.func179 rfl Tryz.ntmps179 rfl (Own.start _ _) ?_
 refine Zs ?_
 refine Za ?_
 refine Zx <| DC.seq <| Zs ?_
 refine Zm ?_
 refine Zm ?_
 refine Seq.rel0 rfl rfl (Aq en192 rfl rfl rfl (fun w' hw => HL (h.keep hw) x)) ?_
 rintro _ rfl
 refine Zo (Bh rfl rfl) ?_
 refine Zx ?_
 refine Zd (fun c1 => ?_) fun c1 => ?_
 ·refine Zs ?_
  refine Za ?_
  refine Zx <| DC.ret <| Aa ?_
  refine Aj (.inl rfl) rfl rfl ?_
  have h0 := Gx h.vld (v := x) (by simp at c1; omega)
  exact ⟨rfl, none, 0, by rw [h0]; rfl, by simp [h0], by omega, by simp [h0]⟩
 ·have hx : 0 ≤ x ∧ x < N := by simpa using c1
  cases h with
  | nil hN he => omega
  | «at» hA hP =>
  obtain ⟨hx0, hx1⟩ := hx
  obtain ⟨vx, rfl⟩ := Int.eq_ofNat_of_zero_le hx0
  have hstl := hP.stl
  have houl := hP.oul
  obtain ⟨s, hs⟩ : ∃ s, M.st[vx]? = some s := ⟨_, List.getElem?_eq_getElem (by omega)⟩
  have hs2 := hP.stn vx s hx1 hs
  have b1 := hP.bd _ _ hs
  have b2 := hP.bd _ _ hs2
  obtain ⟨sn, rfl⟩ := Int.eq_ofNat_of_zero_le b1.1
  refine DC.skip <| Fin.then <| DC.seq ?_
  refine AG (cl := [.q, .q, .q, .v, .q, .q, .q, .v, .q, .q, .v, .q, .q, .q, .v, .q, .q, .q, .v, .q, .q]) (A := [0, 1, 3, 7, 0, 16, 48, 112, 0, 496, 1008, 0, 2048, 6144, 14336, 0, 32768, 129024, 260096, 524287, 1048575]) (order := [0, 1, 2, 3, 4, 5, 6, 7, 8, 9, 10, 11, 12, 13, 14, 15, 16, 17, 18, 19, 20]) [] mixed (by kernel_rfl) (fun w hw => hw.pick .nil) ?_
  refine Ym ?_
  refine Yo rfl (AK rfl rfl) ?_
  refine Yf F6 ?_
  refine Am rfl rfl rfl rfl (Ah rfl rfl Bo (AT hA.hp rfl)) ?_
  refine Ym ?_
  refine Yo rfl (AK rfl rfl) ?_
  refine Yf Cz ?_
  refine Am rfl rfl rfl rfl (Ah rfl rfl Bo (AT hA.hp rfl)) ?_
  refine Ym ?_
  refine Yo rfl (Ai rfl rfl rfl Tryz.underlying44 AN (by omega) (by omega) (by first | exact AC _ _ | exact AW _ _ _ | rfl)) ?_
  refine Am rfl rfl rfl rfl (Ah rfl rfl AO (AT hA.h1 (BC hs))) ?_
  refine Ym ?_
  refine Yo rfl (AK rfl rfl) ?_
  refine Yf Cz ?_
  refine Am rfl rfl rfl rfl (Ah rfl rfl Bo (AT hA.hp rfl)) ?_
  refine Ym ?_
  refine Yo rfl (BN rfl rfl rfl (by omega)) ?_
  refine Yo rfl (Ai rfl rfl rfl Tryz.underlying44 AN (by omega) (by omega) (by first | exact AC _ _ | exact AW _ _ _ | rfl)) ?_
  refine Am rfl rfl rfl rfl (Ah rfl rfl AO (AT hA.h1 (BC hs2))) ?_
  refine Yo rfl (p_slice (lo := sn) (hi := sn + (outs es vx).length) rfl rfl rfl rfl Tryz.underlying44 AN (by omega) (by omega)) ?_
  refine Yo rfl (Aw rfl rfl) ?_
  refine Flow.end rfl ?_
  simp only [zq, zr]
  refine Fin.then <| DC.ret ?_
  refine Aj (.inl rfl) rfl rfl ?_
  refine ⟨rfl, _, _, by rw [show sn + (outs es (vx : Int)).length - sn = (outs es (vx : Int)).length by omega], by omega, by omega, fun hpos => ⟨sn, hx0, hx1, hs, ?_⟩⟩
  rw [if_neg (by omega)]
  simp [AW]
theorem Cn (h : AV w N es M p) (x : Int) : Calls Tryz.prog 159 #[.pointer p, .int .i64 x] w (Ret w [] fun v L => L = [] ∧ v = .int .i64 (outs es x).length) := by
 refine At (args := [_, _]) (L := []) Tryz.func159 rfl Tryz.ntmps159 rfl (Own.start _ _) ?_
 refine Zs ?_
 refine Za ?_
 refine Zx <| Zs ?_
 refine Zm ?_
 refine Zm ?_
 refine Seq.rel0 rfl rfl (Aq en179 rfl rfl rfl (fun w' hw => Jk (h.keep hw) x)) ?_
 rintro _ ⟨A, cap, rfl, hcap, hmax, hA⟩
 refine Zn Tryz.underlying44 ?_
 refine Za ?_
 refine Zx <| DC.ret ?_
 refine Aj (.inl rfl) rfl rfl ?_
 exact ⟨rfl, rfl⟩
theorem BV (h : AV w N es M p) (x : Int) : Calls Tryz.prog 182 #[.pointer p, .int .i64 x] w (Ret w [] fun v L => L = [] ∧ v = .int .i64 (fromV es x)) := by
 refine At (args := [_, _]) (L := []) Tryz.func182 rfl Tryz.ntmps182 rfl (Own.start _ _) ?_
 refine Zs ?_
 refine Za ?_
 refine Zx <| DC.seq <| Zs ?_
 refine Zm ?_
 refine Zm ?_
 refine Seq.rel0 rfl rfl (Aq en195 rfl rfl rfl (fun w' hw => EG (h.keep hw) x)) ?_
 rintro _ rfl
 refine Zo (Bh rfl rfl) ?_
 refine Zx ?_
 refine Zd (fun c1 => ?_) fun c1 => ?_
 ·refine Zs ?_
  refine Za ?_
  refine Zx <| DC.ret <| Aa ?_
  refine Aj (.inl rfl) rfl rfl ?_
  exact ⟨rfl, by rw [Hy es (by simp at c1; omega)]⟩
 ·have hx : 0 ≤ x ∧ x < es.length * 2 := by simpa using c1
  cases h with
  | nil hN he => subst he; simp at hx; omega
  | «at» hA hP =>
  have hfl : M.fr.length = es.length * 2 := by rw [hP.fr, Ba]
  obtain ⟨y, hy, hf⟩ := EZ es hx.1 hx.2
  rw [← hP.fr] at hy
  refine DC.skip <| Fin.then <| Zs ?_
  refine Zm ?_
  refine Zo (AK rfl rfl) ?_
  refine Zf C6 ?_
  refine Zu (Ah rfl rfl Bo (AT hA.hp rfl)) ?_
  refine Zm ?_
  refine Zi Tryz.underlying44 AN ?_
  refine Zu (Ah rfl rfl AO (AT hA.h0 (BC hy))) ?_
  refine Za ?_
  refine Zx <| DC.ret ?_
  refine Aj (.inl rfl) rfl rfl ?_
  exact ⟨rfl, by rw [hf]⟩
theorem C2 (h : AV w N es M p) (x : Int) : Calls Tryz.prog 181 #[.pointer p, .int .i64 x] w (Ret w [] fun v L => L = [] ∧ v = .int .i64 (toV es x)) := by
 have hfew := h.vld.few
 refine At (args := [_, _]) (L := []) Tryz.func181 rfl Tryz.ntmps181 rfl (Own.start _ _) ?_
 refine Zs ?_
 refine Za ?_
 refine Zx <| DC.seq <| Zs ?_
 refine Zm ?_
 refine Zm ?_
 refine Seq.rel0 rfl rfl (Aq en195 rfl rfl rfl (fun w' hw => EG (h.keep hw) x)) ?_
 rintro _ rfl
 refine Zo (Bh rfl rfl) ?_
 refine Zx ?_
 refine Zd (fun c1 => ?_) fun c1 => ?_
 ·refine Zs ?_
  refine Za ?_
  refine Zx <| DC.ret <| Aa ?_
  refine Aj (.inl rfl) rfl rfl ?_
  exact ⟨rfl, by rw [toV_out es (by simp at c1; omega)]⟩
 ·have hx : 0 ≤ x ∧ x < es.length * 2 := by simpa using c1
  cases h with
  | nil hN he => subst he; simp at hx; omega
  | «at» hA hP =>
  have hfl : M.fr.length = es.length * 2 := by rw [hP.fr, Ba]
  have htw := IM hx.1 hx.2
  obtain ⟨y, hy, hf⟩ := EZ es htw.1 htw.2
  rw [← hP.fr] at hy
  have htw' := htw
  unfold tw at htw'
  refine DC.skip <| Fin.then <| Zs ?_
  refine Zm ?_
  refine Zo (AK rfl rfl) ?_
  refine Zf C6 ?_
  refine Zu (Ah rfl rfl Bo (AT hA.hp rfl)) ?_
  refine Zm ?_
  refine Zo (Gu rfl rfl rfl (by omega)) ?_
  refine Zo (Ai (ad' := ⟨M.g0, (tw x).toNat, none⟩) rfl rfl rfl Tryz.underlying44 AN htw'.1 (by have := htw'.2; omega) (by rw [AC]; simp [tw])) ?_
  refine Zu (Ah rfl rfl AO (AT hA.h0 (BC hy))) ?_
  refine Za ?_
  refine Zx <| DC.ret ?_
  refine Aj (.inl rfl) rfl rfl ?_
  exact ⟨rfl, by unfold toV; rw [if_pos hx.1, hf]⟩
theorem JV (h : AV w N es M p) (x : Int) : Calls Tryz.prog 193 #[.pointer p, .int .i64 x] w (Ret w [] fun v L => L = [] ∧ v = .int .i64 ((outs es x)[0]?.getD (-1))) := by
 have hfew := h.vld.few
 refine At (args := [_, _]) (L := []) Tryz.func193 rfl Tryz.ntmps193 rfl (Own.start _ _) ?_
 refine Zs ?_
 refine Za ?_
 refine Zx <| DC.seq <| Zs ?_
 refine Zm ?_
 refine Zm ?_
 refine Seq.rel0 rfl rfl (Aq JB rfl rfl rfl (fun w' hw => Cn (h.keep hw) x)) ?_
 rintro _ rfl
 refine Zo (AX rfl rfl rfl) ?_
 refine Zx ?_
 refine Zd (fun c1 => ?_) fun c1 => ?_
 ·refine Zs ?_
  refine Za ?_
  refine Zx <| DC.ret <| Aa ?_
  refine Aj (.inl rfl) rfl rfl ?_
  have h0 : outs es x = [] := by simpa using c1
  exact ⟨rfl, by rw [h0]; rfl⟩
 ·have h0 : outs es x ≠ [] := by simpa using c1
  have hx : 0 ≤ x ∧ x < N := Classical.byContradiction fun hn => h0 (Gx h.vld hn)
  cases h with
  | nil hN he => omega
  | «at» hA hP =>
  obtain ⟨hx0, hx1⟩ := hx
  obtain ⟨vx, rfl⟩ := Int.eq_ofNat_of_zero_le hx0
  have hstl := hP.stl
  have houl := hP.oul
  have hlen : 0 < (outs es vx).length := List.length_pos_iff.2 h0
  obtain ⟨s, hs⟩ : ∃ s, M.st[vx]? = some s := ⟨_, List.getElem?_eq_getElem (by omega)⟩
  have b1 := hP.bd _ _ hs
  obtain ⟨sn, rfl⟩ := Int.eq_ofNat_of_zero_le b1.1
  obtain ⟨y, hy⟩ : ∃ y, (outs es (vx : Int))[0]? = some y := ⟨_, List.getElem?_eq_getElem hlen⟩
  obtain ⟨ho, _⟩ := hP.ou vx _ hx1 hs 0 y hy
  have hin := (List.getElem?_eq_some_iff.1 ho).1
  simp only [Int.toNat_natCast, Nat.add_zero] at ho hin
  refine DC.skip <| Fin.then <| DC.seq ?_
  refine AG (cl := [.q, .q, .q, .v, .q, .q, .q, .v, .q, .q, .v, .q, .v, .q]) (A := [0, 1, 3, 7, 0, 16, 48, 112, 0, 496, 1008, 2047, 4095, 8191]) (order := [0, 1, 2, 3, 4, 5, 6, 7, 8, 9, 10, 11, 12, 13]) [] mixed (by kernel_rfl) (fun w hw => hw.pick .nil) ?_
  refine Ym ?_
  refine Yo rfl (AK rfl rfl) ?_
  refine Yf F6 ?_
  refine Am rfl rfl rfl rfl (Ah rfl rfl Bo (AT hA.hp rfl)) ?_
  refine Ym ?_
  refine Yo rfl (AK rfl rfl) ?_
  refine Yf Cz ?_
  refine Am rfl rfl rfl rfl (Ah rfl rfl Bo (AT hA.hp rfl)) ?_
  refine Ym ?_
  refine Yo rfl (Ai rfl rfl rfl Tryz.underlying44 AN (by omega) (by omega) (by first | exact AC _ _ | exact AW _ _ _ | rfl)) ?_
  refine Am rfl rfl rfl rfl (Ah rfl rfl AO (AT hA.h1 (BC hs))) ?_
  refine Yo rfl (Ai rfl rfl rfl Tryz.underlying44 AN (by omega) (by omega) (by first | exact AC _ _ | exact AW _ _ _ | rfl)) ?_
  refine Am rfl rfl rfl rfl (Ah rfl rfl AO (AT hA.h2 (BC ho))) ?_
  refine Yo rfl (Aw rfl rfl) ?_
  refine Flow.end rfl ?_
  simp only [zq, zr]
  refine Fin.then <| DC.ret ?_
  refine Aj (.inl rfl) rfl rfl ?_
  exact ⟨rfl, by rw [hy]; rfl⟩
theorem JX (h : AV w N es M p) (x : Int) : Calls Tryz.prog 194 #[.pointer p, .int .i64 x] w (Ret w [] fun v L => L = [] ∧ ∃ r, v = .int .i64 r ∧
  (∀ (u : Int) (k : Nat), (outs es u)[k]? = some x → r = (outs es u)[k + 1]?.getD (-1)) ∧ (¬ (0 ≤ x ∧ x < es.length * 2) → r = -1)) := by
 have hfew := h.vld.few
 refine At (args := [_, _]) (L := []) Tryz.func194 rfl Tryz.ntmps194 rfl (Own.start _ _) ?_
 refine Zs ?_
 refine Za ?_
 refine Zx <| DC.seq <| Zs ?_
 refine Zm ?_
 refine Zm ?_
 refine Seq.rel0 rfl rfl (Aq en195 rfl rfl rfl (fun w' hw => EG (h.keep hw) x)) ?_
 rintro _ rfl
 refine Zo (Bh rfl rfl) ?_
 refine Zx ?_
 refine Zd (fun c1 => ?_) fun c1 => ?_
 ·refine Zs ?_
  refine Za ?_
  refine Zx <| DC.ret <| Aa ?_
  refine Aj (.inl rfl) rfl rfl ?_
  have hx : ¬ (0 ≤ x ∧ x < es.length * 2) := by simp at c1; omega
  refine ⟨rfl, -1, rfl, fun u k hk => ?_, fun _ => rfl⟩
  have := (A8 h.vld).1 (List.mem_of_getElem? hk)
  exact absurd ⟨this.1, this.2.1⟩ hx
 ·have hx : 0 ≤ x ∧ x < es.length * 2 := by simpa using c1
  cases h with
  | nil hN he => subst he; simp at hx; omega
  | «at» hA hP =>
  have hfl : M.fr.length = es.length * 2 := by rw [hP.fr, Ba]
  have hstl := hP.stl
  have houl := hP.oul
  have hpll := hP.pll
  have hhi := hP.vld.hi
  obtain ⟨y, hy, hf⟩ := EZ es hx.1 hx.2
  rw [← hP.fr] at hy
  have hmem := (A8 hP.vld).2 ⟨hx.1, hx.2, hf⟩
  obtain ⟨k, hk⟩ := List.getElem?_of_mem hmem
  have hyr : 0 ≤ y ∧ y < N := Classical.byContradiction fun hn => by rw [Gx hP.vld hn] at hk; simp at hk
  obtain ⟨vx, rfl⟩ := Int.eq_ofNat_of_zero_le hyr.1
  obtain ⟨s, hs⟩ : ∃ s, M.st[vx]? = some s := ⟨_, List.getElem?_eq_getElem (by omega)⟩
  have hs2 := hP.stn vx s hyr.2 hs
  have b1 := hP.bd _ _ hs
  have b2 := hP.bd _ _ hs2
  obtain ⟨sn, rfl⟩ := Int.eq_ofNat_of_zero_le b1.1
  obtain ⟨ho, hpl⟩ := hP.ou vx _ hyr.2 hs k x hk
  have hkl := (List.getElem?_eq_some_iff.1 hk).1
  have huniq : ∀ (u : Int) (j : Nat), (outs es u)[j]? = some x → u = vx ∧ j = k := by
   intro u j hj
   have hu := (A8 hP.vld).1 (List.mem_of_getElem? hj)
   have : u = vx := by rw [← hu.2.2, hf]
   subst this
   have h2 := (hP.ou vx _ hyr.2 hs j x hj).2
   rw [hpl] at h2
   have := Option.some.inj h2
   exact ⟨rfl, by omega⟩
  refine DC.skip <| Fin.then <| Zs ?_
  refine Zm ?_
  refine Zo (AK rfl rfl) ?_
  refine Zf Lx ?_
  refine Zu (Ah rfl rfl Bo (AT hA.hp rfl)) ?_
  refine Zm ?_
  refine Zi Tryz.underlying44 AN ?_
  refine Zu (Ah rfl rfl AO (AT hA.h3 (BC hpl))) ?_
  refine Zp ?_
  refine Za ?_
  refine Zx <| DC.seq <| DC.seq ?_
  refine AG (cl := [.q, .q, .q, .q, .v, .q, .q, .q, .v, .q, .q, .v, .q, .q, .v, .q]) (A := [0, 0, 2, 6, 14, 0, 32, 96, 224, 0, 992, 2016, 4064, 8190, 16382, 32767]) (order := [0, 1, 2, 3, 4, 5, 6, 7, 8, 9, 10, 11, 12, 13, 14, 15]) [] mixed (by kernel_rfl) (fun w hw => hw.pick .nil) ?_
  refine Ym ?_
  refine Ym ?_
  refine Yo rfl (AK rfl rfl) ?_
  refine Yf Cz ?_
  refine Am rfl rfl rfl rfl (Ah rfl rfl Bo (AT hA.hp rfl)) ?_
  refine Ym ?_
  refine Yo rfl (AK rfl rfl) ?_
  refine Yf C6 ?_
  refine Am rfl rfl rfl rfl (Ah rfl rfl Bo (AT hA.hp rfl)) ?_
  refine Ym ?_
  refine Yo rfl (Ai rfl rfl rfl Tryz.underlying44 AN (by omega) (by omega) (by first | exact AC _ _ | exact AW _ _ _ | rfl)) ?_
  refine Am rfl rfl rfl rfl (Ah rfl rfl AO (AT hA.h0 (BC hy))) ?_
  refine Yo rfl (BN rfl rfl rfl (by omega)) ?_
  refine Yo rfl (Ai rfl rfl rfl Tryz.underlying44 AN (by omega) (by omega) (by first | exact AC _ _ | exact AW _ _ _ | rfl)) ?_
  refine Am rfl rfl rfl rfl (Ah rfl rfl AO (AT hA.h1 (BC hs2))) ?_
  refine Yo rfl (Ck rfl rfl rfl) ?_
  refine Flow.end rfl ?_
  simp only [zq, zr]
  refine Fin.then ?_
  refine Zd (fun c4 => ?_) fun c4 => ?_
  ·refine Zs ?_
   refine Za ?_
   refine Zx <| DC.ret <| Aa ?_
   refine Aj (.inl rfl) rfl rfl ?_
   have hlast : k + 1 = (outs es (vx : Int)).length := by simp at c4; omega
   refine ⟨rfl, -1, rfl, fun u j hj => ?_, fun hn => absurd hx hn⟩
   obtain ⟨rfl, rfl⟩ := huniq u j hj
   rw [List.getElem?_eq_none (by omega)]; rfl
  ·have hnl : k + 1 < (outs es (vx : Int)).length := by simp at c4; omega
   obtain ⟨z, hz⟩ : ∃ z, (outs es (vx : Int))[k + 1]? = some z := ⟨_, List.getElem?_eq_getElem hnl⟩
   obtain ⟨ho2, _⟩ := hP.ou vx _ hyr.2 hs (k + 1) z hz
   have hin := (List.getElem?_eq_some_iff.1 ho2).1
   simp only [Int.toNat_natCast] at ho2 hin
   refine DC.skip <| Fin.then <| Zs ?_
   refine Zm ?_
   refine Zo (AK rfl rfl) ?_
   refine Zf F6 ?_
   refine Zu (Ah rfl rfl Bo (AT hA.hp rfl)) ?_
   refine Zm ?_
   refine Zo (Ai (ad' := ⟨M.g2, sn + (k + 1), none⟩) rfl rfl rfl Tryz.underlying44 AN (by omega) (by omega) (by rw [AC]; first | rfl | (congr 1; omega))) ?_
   refine Zu (Ah rfl rfl AO (AT hA.h2 (BC ho2))) ?_
   refine Za ?_
   refine Zx <| DC.ret ?_
   refine Aj (.inl rfl) rfl rfl ?_
   refine ⟨rfl, z, rfl, fun u j hj => ?_, fun hn => absurd hx hn⟩
   obtain ⟨rfl, rfl⟩ := huniq u j hj
   rw [hz]; rfl
end
end Go.Fl

namespace Go.Fl
open Go Go.Proofs
/-- What the closure of csr.New works on. -/
def putL (gn ga gp g0 g1 gx g2 g3 capx : Nat) (fr st nx ou pl : List Int) (sp : List Value) : List Chunk :=
 [blk gn 44 #[.slice (some ⟨gx, 0, none⟩) nx.length capx], blk ga 200 #[.pointer (some ⟨gp, 0, none⟩)], blk gp 234 #[sl g0 fr, sl g1 st, sl g2 ou, sl g3 pl],
   blk g0 3 (ints fr).toArray, blk gx 3 (ints nx ++ sp).toArray, blk g2 3 (ints ou).toArray, blk g3 3 (ints pl).toArray]
theorem Hl {gn ga gp g0 g1 gx g2 g3 capx : Nat} {fr st nx ou pl : List Int} {sp : List Value} {h u p : Int} {w : World}
  (hO : Own w (idsOf (putL gn ga gp g0 g1 gx g2 g3 capx fr st nx ou pl sp)) w (putL gn ga gp g0 g1 gx g2 g3 capx fr st nx ou pl sp))
  (h0 : 0 ≤ h) (hfr : fr[h.toNat]? = some u) (hu : 0 ≤ u) (hnx : nx[u.toNat]? = some p) (hp0 : 0 ≤ p) (hp1 : p.toNat < ou.length) (hh : h.toNat < pl.length) (hb : p < 9223372036854775807) :
  Calls Tryz.prog 157 #[.int .i64 h, .pointer (some ⟨gn, 0, none⟩), .pointer (some ⟨ga, 0, none⟩)] w
   (Ret w (idsOf (putL gn ga gp g0 g1 gx g2 g3 capx fr st nx ou pl sp)) fun v M => v = .tuple #[] ∧
    M = putL gn ga gp g0 g1 gx g2 g3 capx fr st (nx.set u.toNat (p + 1)) (ou.set p.toNat h) (pl.set h.toNat p) sp) := by
 have i1 := (List.getElem?_eq_some_iff.1 hfr).1
 have i2 := (List.getElem?_eq_some_iff.1 hnx).1
 refine At (args := [_, _, _]) Tryz.func157 rfl Tryz.ntmps157 rfl hO ?_
 unfold putL
 refine DC.seq ?_
 refine AG (cl := [.v, .v, .q, .q, .v, .q, .q, .v, .q, .v, .q]) (A := [0, 0, 2, 6, 14, 0, 62, 126, 255, 511, 1023]) (order := [0, 1, 2, 3, 4, 5, 6, 7, 8, 9, 10]) [] mixed (by kernel_rfl) (fun w hw => hw.pick .nil) ?_
 refine Yl Bo ?_
 refine Yl DO ?_
 refine Yo rfl (AK rfl rfl) ?_
 refine Yf C6 ?_
 refine Yl Bo ?_
 refine Ym ?_
 refine Yo rfl (Ai rfl rfl rfl Tryz.underlying44 AN (by omega) (by omega) (by first | exact AC _ _ | exact AW _ _ _ | rfl)) ?_
 refine Am rfl rfl rfl rfl (Ah rfl rfl AO (AU (BC hfr))) ?_
 refine Yo rfl (Ai rfl rfl rfl Tryz.underlying44 AN (by omega) (by omega) (by first | exact AC _ _ | exact AW _ _ _ | rfl)) ?_
 refine Am rfl rfl rfl rfl (Ah rfl rfl AO (AU (K6 hnx))) ?_
 refine Yo rfl (Aw rfl rfl) ?_
 refine Flow.end rfl ?_
 simp only [zq, zr]
 refine Fin.then <| DC.seq ?_
 refine AG (cl := [.v, .q, .q, .v, .q, .v, .q, .q, .v, .q, .q, .q, .q, .g, .q, .g]) (A := [0, 1, 3, 7, 0, 0, 32, 96, 224, 0, 0, 0, 1535, 5631, 16383, 32767]) (order := [0, 1, 2, 3, 4, 5, 6, 7, 8, 9, 10, 11, 12, 13, 14, 15]) [] mixed (by kernel_rfl) (fun w hw => hw.pick .nil) ?_
 refine Yl DO ?_
 refine Yo rfl (AK rfl rfl) ?_
 refine Yf F6 ?_
 refine Yl Bo ?_
 refine Ym ?_
 refine Yl DO ?_
 refine Yo rfl (AK rfl rfl) ?_
 refine Yf Lx ?_
 refine Yl Bo ?_
 refine Ym ?_
 refine Ym ?_
 refine Ym ?_
 refine Yo rfl (Ai rfl rfl rfl Tryz.underlying44 AN (by omega) (by omega) (by first | exact AC _ _ | exact AW _ _ _ | rfl)) ?_
 refine AL rfl rfl rfl rfl (AF (cs' := (ints (ou.set p.toNat h)).toArray) rfl rfl rfl AN rfl (by simpa using hp1) DU) (fun w hw => hw.pick (.nil)) ?_
 refine Yo rfl (Ai rfl rfl rfl Tryz.underlying44 AN (by omega) (by omega) (by first | exact AC _ _ | exact AW _ _ _ | rfl)) ?_
 refine AL rfl rfl rfl rfl (AF (cs' := (ints (pl.set h.toNat p)).toArray) rfl rfl rfl AN rfl (by simpa using hh) DU) (fun w hw => hw.pick (.nil)) ?_
 refine Flow.end rfl ?_
 simp only [zq, zr]
 refine Fin.then ?_
 refine AG (cl := [.v, .v, .q, .q, .v, .q, .q, .v, .q, .v, .q, .q, .g]) (A := [0, 0, 2, 6, 14, 0, 62, 126, 255, 511, 1023, 2047, 4095]) (order := [0, 1, 2, 3, 4, 5, 6, 7, 8, 9, 10, 11, 12]) [] mixed (by kernel_rfl) (fun w hw => hw.pick .nil) ?_
 refine Yl Bo ?_
 refine Yl DO ?_
 refine Yo rfl (AK rfl rfl) ?_
 refine Yf C6 ?_
 refine Yl Bo ?_
 refine Ym ?_
 refine Yo rfl (Ai rfl rfl rfl Tryz.underlying44 AN (by omega) (by omega) (by first | exact AC _ _ | exact AW _ _ _ | rfl)) ?_
 refine Am rfl rfl rfl rfl (Ah rfl rfl AO (AU (BC hfr))) ?_
 refine Yo rfl (Ai rfl rfl rfl Tryz.underlying44 AN (by omega) (by omega) (by first | exact AC _ _ | exact AW _ _ _ | rfl)) ?_
 refine Am rfl rfl rfl rfl (Ah rfl rfl AO (AU (K6 hnx))) ?_
 refine Yo rfl (BN rfl rfl rfl (by omega)) ?_
 refine Yo rfl (Ai rfl rfl rfl Tryz.underlying44 AN (by omega) (by omega) (by first | exact AC _ _ | exact AW _ _ _ | rfl)) ?_
 refine AL rfl rfl rfl rfl (AF (cs' := (ints (nx.set u.toNat (p + 1)) ++ sp).toArray) rfl rfl rfl AN rfl (by simp; omega) (K2 i2)) (fun w hw => hw.pick (.nil)) ?_
 refine Flow.end rfl ?_
 simp only [zq, zr]
 refine BQ (.inr rfl) rfl ?_
 refine ⟨rfl, ?_⟩
 simp [putL, sl]
def adjL (M : AdjM) : List Chunk :=
 [blk M.gp 234 #[sl M.g0 M.fr, sl M.g1 M.st, sl M.g2 M.ou, sl M.g3 M.pl], blk M.g0 3 (ints M.fr).toArray, blk M.g1 3 (ints M.st).toArray, blk M.g2 3 (ints M.ou).toArray, blk M.g3 3 (ints M.pl).toArray]
def frT (es : List Pr) (i : Nat) : Nat → Int := fun h => if h < 2 * i then ((frs es)[h]?).getD 0 else 0
def stA (es : List Pr) (i : Nat) : Nat → Int := fun x => if x = 0 then 0 else cnt (es.take i) (x - 1)
def stB (es : List Pr) (v : Nat) : Nat → Int := fun x => if x ≤ v then pre es x else cnt es (x - 1)
def nxA (es : List Pr) (i : Nat) : Nat → Int := fun v => pre es v + loV es i v
def nxB (es : List Pr) (i : Nat) : Nat → Int := fun v => pre es v + loV es es.length v + loU es i v
structure NewI where
 i : Nat
 fo : Nat → Int
 fp : Nat → Int
theorem frT_next {es : List Pr} {i : Nat} {e : Pr} (he : es[i]? = some e) (h : Nat) : upd (upd (frT es i) (2 * i) e.1) (2 * i + 1) e.2 h = frT es (i + 1) h := by
 obtain ⟨f1, f2⟩ := Dy he
 unfold upd frT
 by_cases a1 : h = 2 * i + 1
 ·subst a1; rw [if_pos rfl, if_pos (by omega), f2]; rfl
 ·rw [if_neg a1]
  by_cases a2 : h = 2 * i
  ·subst a2; rw [if_pos rfl, if_pos (by omega), f1]; rfl
  ·rw [if_neg a2]
   by_cases a3 : h < 2 * i
   ·rw [if_pos a3, if_pos (by omega)]
   ·rw [if_neg a3, if_neg (by omega)]
theorem stA_next {es : List Pr} {i u v : Nat} (he : es[i]? = some ((u : Int), (v : Int))) (hne : u ≠ v) (x : Nat) :
  upd (upd (stA es i) (u + 1) (stA es i (u + 1) + 1)) (v + 1) (upd (stA es i) (u + 1) (stA es i (u + 1) + 1) (v + 1) + 1) x = stA es (i + 1) x := by
 have hc := fun y => GO he (by dsimp only; omega) y
 dsimp only at hc
 unfold upd stA
 match x with
 | 0 => rw [if_neg (by omega), if_neg (by omega)]; rfl
 | y + 1 =>
  simp only [hc, Nat.add_sub_cancel, if_neg (Nat.succ_ne_zero _)]
  by_cases a1 : y = v
  ·subst a1
   rw [if_pos rfl, if_neg (by omega), if_neg (show ¬ (u : Int) = y by omega), if_pos rfl]; omega
  ·by_cases a2 : y = u
   ·subst a2
    rw [if_neg (by omega), if_pos rfl, if_pos rfl, if_neg (by omega)]; omega
   ·rw [if_neg (by omega), if_neg (by omega), if_neg (by omega), if_neg (by omega)]; omega
theorem stB_next {es : List Pr} {v : Nat} (x : Nat) : upd (stB es v) (v + 1) (stB es v (v + 1) + stB es v v) x = stB es (v + 1) x := by
 unfold upd stB
 by_cases a1 : x = v + 1
 ·subst a1
  rw [if_pos rfl, if_neg (by omega), if_pos (Nat.le_refl _), if_pos (Nat.le_refl _)]
  show cnt es (v + 1 - 1) + pre es v = pre es v + cnt es v
  simp only [Nat.add_sub_cancel]; omega
 ·rw [if_neg a1]
  by_cases a2 : x ≤ v
  ·rw [if_pos a2, if_pos (by omega)]
  ·rw [if_neg a2, if_neg (by omega)]
theorem HI (N : Int) (es : List Pr) (A : Option Addr) (cap : Nat) (w : World) (hr : Rd w A (prs es)) (hl : es.length ≤ 9223372036854775807) :
  Calls Tryz.prog 125 #[.agg #[.int .i64 N, .slice A es.length cap]] w (Ret w [] fun v L =>
   (¬ Vld N es ∧ L = [] ∧ v = .tuple #[.pointer none, .int .i64 1]) ∨ (Vld N es ∧ ∃ M, AdjP N es M ∧ v = .tuple #[.pointer (some ⟨M.gp, 0, none⟩), .int .i64 0] ∧ L = adjL M)) := by
 refine At (args := [_]) (L := []) Tryz.func125 rfl Tryz.ntmps125 rfl (Own.start _ _) ?_
 refine Zs ?_
 refine Zw (AS rfl rfl rfl) fun g1 => ?_
 refine Za ?_
 refine Za ?_
 refine Zx <| DC.seq <| Zs ?_
 refine Zu (Ay (vs := [_, _]) rfl rfl Bj Bc rfl (Ak rfl)) ?_
 refine Seq.rel0 rfl rfl (Aq KF rfl rfl rfl (fun w' hw => DR N es A cap w' (hr.keep0 hw) hl)) ?_
 rintro _ ⟨b, rfl, hb⟩
 refine Zo (Bh rfl rfl) ?_
 refine Zx ?_
 refine Zd (fun c1 => ?_) fun c1 => ?_
 ·refine Zs ?_
  refine Za ?_
  refine Za ?_
  refine Zx <| DC.ret <| Aa ?_
  refine Fin.weak (E' := [(2, _), (3, _)]) ⟨rfl, rfl, trivial⟩ .nil ?_
  refine AJ (.inl rfl) rfl rfl rfl ?_
  exact .inl ⟨fun hV => (by rw [hb.2 hV] at c1; cases c1), rfl, rfl⟩
 ·have hV : Vld N es := hb.1 (by simpa using c1)
  have hN0 := hV.lo
  have hN1 := hV.hi
  have hfew := hV.few
  obtain ⟨Nn, rfl⟩ := Int.eq_ofNat_of_zero_le hN0
  have hNn : Nn ≤ 1048576 := by omega
  refine DC.skip <| Fin.then <| Zs ?_
  refine Zf Be ?_
  refine Zl BO ?_
  refine Zn Tryz.underlying22 ?_
  refine Za ?_
  refine Zx <| DC.seq ?_
  refine AG (cl := [.q, .q, .n, .q, .v, .q, .n, .q, .q, .n, .q, .q, .n, .q, .n, .n, .g]) (A := [0, 1, 3, 0, 8, 24, 56, 0, 128, 384, 0, 1024, 3072, 8191, 16383, 0, 65535]) (order := [0, 1, 3, 4, 5, 7, 8, 10, 11, 2, 6, 9, 12, 13, 14, 15, 16]) [] mixed (by kernel_rfl) (fun w hw => hw.pick .nil) ?_
  refine Ym ?_
  refine Yo rfl (Cb rfl rfl rfl (by omega)) ?_
  refine Yf BF ?_
  refine Yl AO ?_
  refine Yo rfl (BN rfl rfl rfl (by omega)) ?_
  refine Ym ?_
  refine Yo rfl (Cb rfl rfl rfl (by omega)) ?_
  refine Ym ?_
  refine Yo rfl (Cb rfl rfl rfl (by omega)) ?_
  refine AY rfl rfl rfl rfl (BI (k := 2 * es.length) rfl rfl rfl Tryz.underlying44 AN DP B6 (by omega) (by omega) (by omega) (B4 _)) fun g21 => ?_
  refine AY rfl rfl rfl rfl (BI (k := Nn + 1) rfl rfl rfl Tryz.underlying44 AN DP B6 (by omega) (by omega) (by omega) (B4 _)) fun g25 => ?_
  refine AY rfl rfl rfl rfl (BI (k := 2 * es.length) rfl rfl rfl Tryz.underlying44 AN DP B6 (by omega) (by omega) (by omega) (B4 _)) fun g28 => ?_
  refine AY rfl rfl rfl rfl (BI (k := 2 * es.length) rfl rfl rfl Tryz.underlying44 AN DP B6 (by omega) (by omega) (by omega) (B4 _)) fun g31 => ?_
  refine Yo rfl (AD (cs := #[_, _, _, _]) rfl rfl bs234 rfl rfl) ?_
  refine AY rfl rfl rfl rfl (AS rfl rfl rfl) fun g33 => ?_
  refine AY rfl rfl rfl rfl (AH rfl ze200 rfl) fun g5 => ?_
  refine Flow.sto (V := [blk g5 200 #[.pointer none], blk g33 234 _, blk g31 _ _, blk g28 _ _, blk g25 _ _, blk g21 _ _, blk g1 _ _]) rfl rfl rfl rfl rfl (AF (cs' := #[_]) rfl rfl rfl sz200 rfl (Nat.le_of_ble_eq_true rfl) rfl) (fun w hw => hw.pick (.nil)) ?_
  refine Flow.end rfl ?_
  simp only [zq, zr]
  refine Fin.then <| DC.seq <| Zs ?_
  refine Zf Be ?_
  refine Zl BO ?_
  refine Zn Tryz.underlying22 ?_
  refine Zm ?_
  refine Zx <| DC.block ?_
  refine DC.loop (ι := Nat) (fun i => i ≤ es.length)
   (fun i => [(1, .pointer (some ⟨g1, 0, none⟩)), (2, .pointer none), (3, .int .i64 0), (4, .int .i64 es.length), (5, .pointer (some ⟨g5, 0, none⟩)), (35, .slice A es.length cap), (36, .int .i64 es.length), (37, .int .i64 i)])
   (fun i => [blk g5 200 #[.pointer (some ⟨g33, 0, none⟩)], blk g33 234 #[sl g21 (tab (2 * es.length) fun _ => 0), sl g25 (tab (Nn + 1) fun _ => 0), sl g28 (tab (2 * es.length) fun _ => 0), sl g31 (tab (2 * es.length) fun _ => 0)],
    blk g31 3 (ints (tab (2 * es.length) fun _ => 0)).toArray, blk g28 3 (ints (tab (2 * es.length) fun _ => 0)).toArray, blk g25 3 (ints (tab (Nn + 1) (stA es i))).toArray, blk g21 3 (ints (tab (2 * es.length) (frT es i))).toArray, blk g1 24 #[.int .i64 (Nn : Int), .slice A es.length cap]])
   (fun i => es.length - i) 0 (Nat.zero_le _) ⟨rfl, rfl, rfl, rfl, rfl, rfl, rfl, rfl, trivial⟩
   (.cons 0 rfl (.cons' 0 rfl (by simp only [EA]; rfl) (.cons 0 rfl (.cons 0 rfl (.cons' 0 rfl (CO fun x _ => by simp [stA, cnt, outs, outsF]) (.cons' 0 rfl (CO fun x _ => by simp [frT]) (.cons 0 rfl .nil))))))) ?_
  intro i hi
  simp only [EA]
  refine Zs ?_
  refine Zc ?_
  refine Zx <| DC.seq ?_
  refine Zd (fun c6 => ?_) fun c6 => ?_
  ·have hlt : i < es.length := by simpa using c6
   obtain ⟨e, he⟩ : ∃ e, es[i]? = some e := ⟨_, List.getElem?_eq_getElem hlt⟩
   obtain ⟨ad, rfl, hU, hVe⟩ := hr.pair he
   have ho := hV.ok i e he
   obtain ⟨u, hu⟩ := Int.eq_ofNat_of_zero_le ho.lo
   obtain ⟨v, hv⟩ := Int.eq_ofNat_of_zero_le (show 0 ≤ e.2 by have := ho.lo; have := ho.lt; omega)
   obtain rfl : e = ((u : Int), (v : Int)) := Prod.ext hu hv
   clear hu hv
   have huv : u < v := by have := ho.lt; simp at this; exact this
   have hvN : v < Nn := by have := ho.hi; simp at this; exact this
   replace hU : w.cell? (ad.add (i * 2)) = some (.int .i64 (u : Int)) := hU
   replace hVe : w.cell? (ad.add (i * 2 + 1)) = some (.int .i64 (v : Int)) := hVe
   refine DC.skip <| Fin.then <| DC.seq <| DC.block <| Zs ?_
   refine Zm ?_
   refine Zo (AQ rfl rfl rfl Tryz.underlying22 Bb (by omega) (by omega) (by first | exact AC _ _ | exact AW _ _ _ | rfl)) ?_
   refine Zu (Ay (vs := [_, _]) rfl rfl CP Bb rfl (CD hU hVe (by simp))) ?_
   refine Zw (AH rfl CI rfl) fun g7 => ?_
   refine Za ?_
   refine Zy (AA (cs' := #[_, _]) rfl rfl rfl Bb rfl (Nat.le_of_ble_eq_true rfl) rfl) ?_
   refine Zx <| DC.seq ?_
   refine AG (cl := [.v, .q, .q, .v, .q, .q, .v, .q, .q, .v, .q, .q, .q, .q, .v, .q, .q, .q, .g, .q, .g]) (A := [0, 1, 3, 7, 0, 16, 0, 64, 192, 448, 0, 1024, 3072, 0, 8192, 0, 32768, 25599, 156671, 524287, 1048575]) (order := [0, 1, 2, 3, 4, 5, 6, 7, 8, 9, 10, 11, 12, 13, 14, 15, 16, 17, 18, 19, 20]) ([blk g7 43 #[.int .i64 (u : Int), .int .i64 (v : Int)]]) mixed (by kernel_rfl) (fun w hw => hw.pick (.cons 0 rfl .nil)) ?_
   refine Yl DO ?_
   refine Yo rfl (AK rfl rfl) ?_
   refine Yf C6 ?_
   refine Yl Bo ?_
   refine Ym ?_
   refine Yo rfl (Cb rfl rfl rfl (by omega)) ?_
   refine Yl DO ?_
   refine Yo rfl (AK rfl rfl) ?_
   refine Yf C6 ?_
   refine Yl Bo ?_
   refine Ym ?_
   refine Yo rfl (Cb rfl rfl rfl (by omega)) ?_
   refine Yo rfl (BN rfl rfl rfl (by omega)) ?_
   refine Yf Bd ?_
   refine Yl AO ?_
   refine Yf Bu ?_
   refine Flow.old rfl rfl rfl (Ah rfl rfl AO (BD rfl)) ?_
   refine Yo rfl (Ai (ad' := ⟨g21, 2 * i, none⟩) rfl rfl rfl Tryz.underlying44 AN (by omega) (by omega) (by rw [AC]; rfl)) ?_
   refine AL rfl rfl rfl rfl (AF (cs' := (ints (tab (2 * es.length) (upd (frT es i) (2 * i) u))).toArray) rfl rfl rfl AN rfl (by simp; omega) BL) (fun w hw => hw.pick (.cons 0 rfl .nil)) ?_
   refine Yo rfl (Ai (ad' := ⟨g21, 2 * i + 1, none⟩) rfl rfl rfl Tryz.underlying44 AN (by omega) (by omega) (by rw [AC]; rfl)) ?_
   refine AL rfl rfl rfl rfl (AF (cs' := (ints (tab (2 * es.length) (frT es (i + 1)))).toArray) rfl rfl rfl AN rfl (by simp; omega) (by rw [BL, Co fun x _ => frT_next he x])) (fun w hw => hw.pick (.cons 0 rfl .nil)) ?_
   refine Flow.end rfl ?_
   simp only [zq, zr]
   refine Fin.then <| DC.seq ?_
   refine AG (cl := [.v, .q, .q, .v, .q, .v, .q, .q, .v, .q, .q, .g]) (A := [0, 1, 3, 7, 0, 16, 48, 127, 255, 511, 1023, 2047]) (order := [0, 1, 2, 3, 4, 5, 6, 7, 8, 9, 10, 11]) [] mixed (by kernel_rfl) (fun w hw => hw.pick .nil) ?_
   refine Yl DO ?_
   refine Yo rfl (AK rfl rfl) ?_
   refine Yf Cz ?_
   refine Yl Bo ?_
   refine Yf Bd ?_
   refine Yl AO ?_
   refine Yo rfl (BN rfl rfl rfl (by omega)) ?_
   refine Yo rfl (Ai (ad' := ⟨g25, u + 1, none⟩) rfl rfl rfl Tryz.underlying44 AN (by omega) (by omega) (by rw [AC]; rfl)) ?_
   refine Am rfl rfl rfl rfl (Ah rfl rfl AO (AU (Bk (by omega)))) ?_
   have hcb : 0 ≤ stA es i (u + 1) ∧ stA es i (u + 1) ≤ 8388608 := by
    simp only [stA, Nat.add_sub_cancel, if_neg (Nat.succ_ne_zero u)]
    have h1 := DF (es.take i) u
    have h2 := F0 hV (u : Int) i (by omega)
    have h3 : loV es i u ≤ i := by unfold loV; have := List.countP_le_length (p := fun e : Pr => decide (e.2 = (u : Int))) (l := es.take i); simp at this; omega
    have h4 : loU es i u ≤ i := by unfold loU; have := List.countP_le_length (p := fun e : Pr => decide (e.1 = (u : Int))) (l := es.take i); simp at this; omega
    unfold cnt at *; omega
   refine Yo rfl (BN rfl rfl rfl (by omega)) ?_
   refine Yo rfl (Ai (ad' := ⟨g25, u + 1, none⟩) rfl rfl rfl Tryz.underlying44 AN (by omega) (by omega) (by rw [AC]; rfl)) ?_
   refine AL rfl rfl rfl rfl (AF (cs' := (ints (tab (Nn + 1) (upd (stA es i) (u + 1) (stA es i (u + 1) + 1)))).toArray) rfl rfl rfl AN rfl (by simp; omega) BL) (fun w hw => hw.pick (.nil)) ?_
   refine Flow.end rfl ?_
   simp only [zq, zr]
   refine Fin.then ?_
   refine AG (cl := [.v, .q, .q, .v, .q, .v, .q, .q, .v, .q, .q, .g]) (A := [0, 1, 3, 7, 0, 16, 48, 127, 255, 511, 1023, 2047]) (order := [0, 1, 2, 3, 4, 5, 6, 7, 8, 9, 10, 11]) [] mixed (by kernel_rfl) (fun w hw => hw.pick .nil) ?_
   refine Yl DO ?_
   refine Yo rfl (AK rfl rfl) ?_
   refine Yf Cz ?_
   refine Yl Bo ?_
   refine Yf Bu ?_
   refine Yl AO ?_
   refine Yo rfl (BN rfl rfl rfl (by omega)) ?_
   refine Yo rfl (Ai (ad' := ⟨g25, v + 1, none⟩) rfl rfl rfl Tryz.underlying44 AN (by omega) (by omega) (by rw [AC]; rfl)) ?_
   refine Am rfl rfl rfl rfl (Ah rfl rfl AO (AU (Bk (by omega)))) ?_
   have hcv : 0 ≤ upd (stA es i) (u + 1) (stA es i (u + 1) + 1) (v + 1) ∧ upd (stA es i) (u + 1) (stA es i (u + 1) + 1) (v + 1) ≤ 8388608 := by
    unfold upd
    rw [if_neg (by omega)]
    simp only [stA, Nat.add_sub_cancel, if_neg (Nat.succ_ne_zero v)]
    have h1 := DF (es.take i) v
    have h2 := F0 hV (v : Int) i (by omega)
    have h3 : loV es i v ≤ i := by unfold loV; have := List.countP_le_length (p := fun e : Pr => decide (e.2 = (v : Int))) (l := es.take i); simp at this; omega
    have h4 : loU es i v ≤ i := by unfold loU; have := List.countP_le_length (p := fun e : Pr => decide (e.1 = (v : Int))) (l := es.take i); simp at this; omega
    unfold cnt at *; omega
   refine Yo rfl (BN rfl rfl rfl (by omega)) ?_
   refine Yo rfl (Ai (ad' := ⟨g25, v + 1, none⟩) rfl rfl rfl Tryz.underlying44 AN (by omega) (by omega) (by rw [AC]; rfl)) ?_
   refine AL rfl rfl rfl rfl (AF (cs' := (ints (tab (Nn + 1) (stA es (i + 1)))).toArray) rfl rfl rfl AN rfl (by simp; omega) (by rw [BL, Co fun x _ => stA_next he (by omega) x])) (fun w hw => hw.pick (.nil)) ?_
   refine Flow.end rfl ?_
   simp only [zq, zr]
   refine Fin.inBlock <| Fin.then <| DC.region ?_
   refine Zp ?_
   refine Zm ?_
   refine Seq.nil ?_
   refine Fin.again (i + 1) (by omega) (by omega) ⟨rfl, rfl, rfl, rfl, rfl, rfl, rfl, rfl, trivial⟩ (.cons 1 rfl (.cons' 1 rfl (by simp only [EA]) (.cons 1 rfl (.cons 1 rfl (.cons 1 rfl (.cons 1 rfl (.cons 1 rfl .nil)))))))
  ·have hie : i = es.length := by simp at c6; omega
   subst hie
   refine DC.exit <| Ad <| Ad <| Ag <| Fin.then <| DC.seq <| Zs ?_
   refine Zf BF ?_
   refine Zl AO ?_
   refine Zm ?_
   refine Zx <| DC.block ?_
   refine DC.loop (ι := Nat) (fun v => v ≤ Nn)
    (fun v => [(2, .pointer none), (3, .int .i64 0), (4, .int .i64 es.length), (5, .pointer (some ⟨g5, 0, none⟩)), (85, .int .i64 (Nn : Int)), (86, .int .i64 v)])
    (fun v => [blk g5 200 #[.pointer (some ⟨g33, 0, none⟩)], blk g33 234 #[sl g21 (tab (2 * es.length) fun _ => 0), sl g25 (tab (Nn + 1) fun _ => 0), sl g28 (tab (2 * es.length) fun _ => 0), sl g31 (tab (2 * es.length) fun _ => 0)],
     blk g31 3 (ints (tab (2 * es.length) fun _ => 0)).toArray, blk g28 3 (ints (tab (2 * es.length) fun _ => 0)).toArray, blk g25 3 (ints (tab (Nn + 1) (stB es v))).toArray, blk g21 3 (ints (tab (2 * es.length) (frT es es.length))).toArray])
    (fun v => Nn - v) 0 (Nat.zero_le _) ⟨rfl, rfl, rfl, rfl, rfl, rfl, trivial⟩
    (.cons 0 rfl (.cons' 0 rfl (by simp only [EA]) (.cons 0 rfl (.cons 0 rfl (.cons' 0 rfl (CO fun x _ => by
     unfold stA stB
     rw [List.take_length]
     by_cases h0 : x = 0
     ·subst h0; rfl
     ·rw [if_neg h0, if_neg (by omega)]) (.cons 0 rfl .nil)))))) ?_
   intro v hv
   simp only [EA]
   refine Zs ?_
   refine Zc ?_
   refine Zx <| DC.seq ?_
   refine Zd (fun c13 => ?_) fun c13 => ?_
   ·have hlt : v < Nn := by simpa using c13
    refine DC.skip <| Fin.then <| DC.seq <| DC.block <| Zs ?_
    refine Zm ?_
    refine Za ?_
    refine Zx ?_
    refine AG (cl := [.v, .q, .q, .v, .q, .q, .q, .v, .v, .q, .q, .v, .q, .q, .v, .q, .q, .g]) (A := [0, 1, 3, 7, 0, 16, 63, 127, 0, 256, 768, 1792, 0, 7936, 16128, 32767, 65535, 131071]) (order := [0, 1, 2, 3, 4, 5, 6, 7, 8, 9, 10, 11, 12, 13, 14, 15, 16, 17]) [] mixed (by kernel_rfl) (fun w hw => hw.pick .nil) ?_
    refine Yl DO ?_
    refine Yo rfl (AK rfl rfl) ?_
    refine Yf Cz ?_
    refine Yl Bo ?_
    refine Ym ?_
    refine Yo rfl (BN rfl rfl rfl (by omega)) ?_
    refine Yo rfl (Ai (ad' := ⟨g25, v + 1, none⟩) rfl rfl rfl Tryz.underlying44 AN (by omega) (by omega) (by rw [AC]; rfl)) ?_
    refine Am rfl rfl rfl rfl (Ah rfl rfl AO (AU (Bk (by omega)))) ?_
    refine Yl DO ?_
    refine Yo rfl (AK rfl rfl) ?_
    refine Yf Cz ?_
    refine Yl Bo ?_
    refine Ym ?_
    refine Yo rfl (Ai rfl rfl rfl Tryz.underlying44 AN (by omega) (by omega) (by first | exact AC _ _ | exact AW _ _ _ | rfl)) ?_
    refine Am rfl rfl rfl rfl (Ah rfl rfl AO (AU (Bk (i := v) (by omega)))) ?_
    have hcb : 0 ≤ stB es v (v + 1) ∧ stB es v (v + 1) ≤ 8388608 ∧ 0 ≤ stB es v v ∧ stB es v v ≤ 8388608 := by
     unfold stB
     rw [if_neg (by omega), if_pos (Nat.le_refl _)]
     have h1 := Kg hV (v := v + 1) (by omega)
     have h2 : pre es (v + 1) = pre es v + cnt es v := rfl
     have h3 := Cc es v
     have h4 := DF es v
     simp only [Nat.add_sub_cancel]
     omega
    refine Yo rfl (BN rfl rfl rfl (by omega)) ?_
    refine Yo rfl (Ai (ad' := ⟨g25, v + 1, none⟩) rfl rfl rfl Tryz.underlying44 AN (by omega) (by omega) (by rw [AC]; rfl)) ?_
    refine AL rfl rfl rfl rfl (AF (cs' := (ints (tab (Nn + 1) (stB es (v + 1)))).toArray) rfl rfl rfl AN rfl (by simp; omega) (by rw [BL, Co fun x _ => stB_next x])) (fun w hw => hw.pick (.nil)) ?_
    refine Flow.end rfl ?_
    simp only [zq, zr]
    refine Fin.inBlock <| Fin.then <| DC.region ?_
    refine Zp ?_
    refine Zm ?_
    refine Seq.nil ?_
    refine Fin.again (v + 1) (by omega) (by omega) ⟨rfl, rfl, rfl, rfl, rfl, rfl, trivial⟩ (.cons 0 rfl (.cons' 0 rfl (by simp only [EA]) (.cons 0 rfl (.cons 0 rfl (.cons 0 rfl (.cons 0 rfl .nil))))))
   ·have hve : v = Nn := by simp at c13; omega
    subst hve
    refine DC.exit <| Ad <| Ad <| Ag <| Fin.then <| Zs ?_
    refine Zw (AP (cs := #[]) rfl rfl Tryz.underlying44 AN B6 rfl (by decide) (by decide) rfl rfl) fun g107 => ?_
    refine Zl DO ?_
    refine Zo (AK rfl rfl) ?_
    refine Zf Cz ?_
    refine Zl Bo ?_
    refine Seq.gen rfl rfl (AR rfl rfl rfl Tryz.underlying44 AN DP B6 rfl (by decide) (by decide) (fun w hw => B7 (vs := []) rfl (by decide) (Nat.le_refl _) (by decide) rfl rfl hw) (.inl ⟨_, _, rfl, hass_row0⟩) (by simp) (Br _ []) (by simp; omega)) ?_
    rintro v112 _ rfl
    refine Seq.open (fun _ h => absurd (congrArg List.length h) (by simp)) ?_
    rintro gx len capx sp rfl hlen hlc hcm hcs
    obtain rfl : len = v + 1 := by simp at hlen; omega
    simp only [List.nil_append]
    refine Zw (AH rfl CH rfl) fun g9 => ?_
    refine Zy (AF (cs' := #[_]) rfl rfl rfl Bn rfl (Nat.le_of_ble_eq_true rfl) rfl) ?_
    refine Zx <| Zs ?_
    refine Zo (Fr rfl rfl rfl) ?_
    refine Za ?_
    refine Zx <| DC.seq <| Zs ?_
    refine Zm ?_
    refine Zm ?_
    refine Zx <| DC.block ?_
    refine DC.loop (ι := NewI) (fun s => s.i ≤ es.length ∧ Done es (fun h => h % 2 = 1 ∧ h / 2 < s.i) s.fo s.fp)
     (fun s => [(2, .pointer none), (3, .int .i64 0), (4, .int .i64 es.length), (5, .pointer (some ⟨g5, 0, none⟩)), (10, .func (.func 157) #[] #[.pointer (some ⟨g9, 0, none⟩), .pointer (some ⟨g5, 0, none⟩)]), (114, .int .i64 es.length), (115, .int .i64 s.i)])
     (fun s => putL g9 g5 g33 g21 g25 gx g28 g31 capx (tab (2 * es.length) (frT es es.length)) (tab (v + 1) (stB es v)) (tab (v + 1) (nxA es s.i)) (tab (2 * es.length) s.fo) (tab (2 * es.length) s.fp) sp ++ [blk g25 3 (ints (tab (v + 1) (stB es v))).toArray])
     (fun s => es.length - s.i) ⟨0, fun _ => 0, fun _ => 0⟩ ⟨Nat.zero_le _, fun v k h hk hD => by dsimp only at hD; have := ((A8 hV).1 (List.mem_of_getElem? hk)).1; omega⟩ ⟨rfl, rfl, rfl, rfl, rfl, rfl, rfl, trivial⟩
     (.cons' 0 rfl (by simp) (.cons' 1 rfl rfl (.cons' 1 rfl (by simp only [EA]) (.cons' 4 rfl rfl (.cons' 0 rfl (DJ fun x hx => by
      unfold stB nxA loV
      rw [if_pos (by omega)]; simp) (.cons' 1 rfl rfl (.cons' 0 rfl rfl (.cons' 0 rfl rfl .nil)))))))) ?_
    rintro ⟨i, fo, fp⟩ ⟨hi, hD⟩
    dsimp only at hi hD ⊢
    refine Zs ?_
    refine Zc ?_
    refine Zx <| DC.seq ?_
    refine Zd (fun c20 => ?_) fun c20 => ?_
    ·have hlt : i < es.length := by simpa using c20
     obtain ⟨e, he⟩ : ∃ e, es[i]? = some e := ⟨_, List.getElem?_eq_getElem hlt⟩
     have ho := hV.ok i e he
     obtain ⟨x, hx⟩ := Int.eq_ofNat_of_zero_le (show 0 ≤ e.2 by have := ho.lo; have := ho.lt; omega)
     have hxN : x < v := by have := ho.hi; omega
     have hpos := L8 he (by have := ho.lt; omega)
     rw [hx] at hpos
     have hk := (List.getElem?_eq_some_iff.1 hpos).1
     have hkl := F0 hV (x : Int) i (by omega)
     have hz := loU_zero hV he
     rw [hx] at hz
     have hpl := Gt hV (v := x) (by omega) hk
     have hpn := Cc es x
     have hD' := Done.put hV hD hpos
     obtain ⟨p, hp⟩ : ∃ p, p = pre es x + ((outs (es.take i) (x : Int)).length : Int) := ⟨_, rfl⟩
     rw [← hp] at hD' hpl
     have hp0 : 0 ≤ p := by omega
     refine DC.skip <| Fin.then <| DC.seq <| DC.block <| Zs ?_
     refine Zm ?_
     refine Za ?_
     refine Zx <| DC.region ?_
     refine Zm ?_
     refine Zm ?_
     refine Zo (Cb rfl rfl rfl (by omega)) ?_
     refine Zp ?_
     refine Seq.gen rfl rfl (BA en157 rfl rfl rfl (.refl _) (fun _ h => h) (fun w hw => Hl (h := 2 * (i : Int) + 1) (u := (x : Int)) (p := p) (hw.sub (List.sublist_append_left _ _)).self (by omega) (by
      have h1 : (2 * (i : Int) + 1).toNat = 2 * i + 1 := by omega
      rw [h1, Bp _ (by omega)]; unfold frT; rw [if_pos (by omega), (Dy he).2, hx]; rfl) (by omega) (by
      simp only [Int.toNat_natCast]
      rw [Bp _ (by omega)]; unfold nxA; rw [hp]; congr 1; omega) hp0 (by simp; omega) (by simp; omega) (by omega))) ?_
     rintro _ _ ⟨_, ⟨rfl, rfl⟩, rfl⟩
     refine Seq.nil <| Fin.inBlock <| Fin.then <| DC.region ?_
     refine Zp ?_
     refine Zm ?_
     refine Seq.nil ?_
     have e1 : (2 * (i : Int) + 1).toNat = 2 * i + 1 := by omega
     refine Fin.again (NewI.mk (i + 1) (upd fo p.toNat (2 * (i : Int) + 1)) (upd fp (2 * (i : Int) + 1).toNat p)) (by simp; omega) ⟨by simp; omega, hD'.imp fun y z hz hd => ?_⟩ ⟨rfl, rfl, rfl, rfl, rfl, rfl, rfl, trivial⟩
      (.cons' 0 rfl (by simp) (.cons' 0 rfl rfl (.cons' 0 rfl (by simp [sl]) (.cons' 0 rfl rfl (.cons' 0 rfl (by
       simp only [Int.toNat_natCast, CJ]
       refine DJ fun y hy => ?_
       unfold upd nxA
       rw [Gz he, hx]
       by_cases hyx : y = x
       ·subst hyx; rw [if_pos rfl, if_pos rfl]; omega
       ·rw [if_neg hyx, if_neg (by omega)]; omega) (.cons' 0 rfl (by rw [CJ]) (.cons' 0 rfl (by rw [CJ]) (.cons' 0 rfl rfl .nil))))))))
     ·by_cases h1 : z / 2 < i
      ·exact .inl ⟨hd.1, h1⟩
      ·exact .inr (by have := hd.1; have := hd.2; simp at this; omega)
    ·have hie : i = es.length := by simp at c20; omega
     subst hie
     refine DC.exit <| Ad <| Ad <| Ag <| Fin.then <| DC.seq <| Zs ?_
     refine Zm ?_
     refine Zm ?_
     refine Zx <| DC.block ?_
     refine DC.loop (ι := NewI) (fun s => s.i ≤ es.length ∧ Done es (fun h => h % 2 = 1 ∨ h / 2 < s.i) s.fo s.fp)
      (fun s => [(2, .pointer none), (3, .int .i64 0), (5, .pointer (some ⟨g5, 0, none⟩)), (10, .func (.func 157) #[] #[.pointer (some ⟨g9, 0, none⟩), .pointer (some ⟨g5, 0, none⟩)]), (124, .int .i64 es.length), (125, .int .i64 s.i)])
      (fun s => putL g9 g5 g33 g21 g25 gx g28 g31 capx (tab (2 * es.length) (frT es es.length)) (tab (v + 1) (stB es v)) (tab (v + 1) (nxB es s.i)) (tab (2 * es.length) s.fo) (tab (2 * es.length) s.fp) sp ++ [blk g25 3 (ints (tab (v + 1) (stB es v))).toArray])
      (fun s => es.length - s.i) ⟨0, fo, fp⟩ ⟨Nat.zero_le _, hD.imp fun y z hz hd => by dsimp only at hd; have := ((A8 hV).1 hz).2.1; have := ((A8 hV).1 hz).1; omega⟩ ⟨rfl, rfl, rfl, rfl, rfl, rfl, trivial⟩
      (.cons' 0 rfl (by simp) (.cons' 0 rfl rfl (.cons' 0 rfl rfl (.cons' 0 rfl rfl (.cons' 0 rfl (DJ fun x hx => by
       unfold nxA nxB loU; simp) (.cons' 0 rfl rfl (.cons' 0 rfl rfl (.cons' 0 rfl rfl .nil)))))))) ?_
     rintro ⟨i, fo, fp⟩ ⟨hi, hD⟩
     dsimp only at hi hD ⊢
     refine Zs ?_
     refine Zc ?_
     refine Zx <| DC.seq ?_
     refine Zd (fun c25 => ?_) fun c25 => ?_
     ·have hlt : i < es.length := by simpa using c25
      obtain ⟨e, he⟩ : ∃ e, es[i]? = some e := ⟨_, List.getElem?_eq_getElem hlt⟩
      have ho := hV.ok i e he
      obtain ⟨x, hx⟩ := Int.eq_ofNat_of_zero_le ho.lo
      have hxN : x < v := by have := ho.hi; have := ho.lt; omega
      have hpos := outs_pos1 he
      rw [hx] at hpos
      have hk := (List.getElem?_eq_some_iff.1 hpos).1
      have hkl := F0 hV (x : Int) i (by omega)
      have hz := loV_all hV he
      rw [hx] at hz
      have hpl := Gt hV (v := x) (by omega) hk
      have hpn := Cc es x
      have hD' := Done.put hV hD hpos
      obtain ⟨p, hp⟩ : ∃ p, p = pre es x + ((outs (es.take i) (x : Int)).length : Int) := ⟨_, rfl⟩
      rw [← hp] at hD' hpl
      have hp0 : 0 ≤ p := by omega
      refine DC.skip <| Fin.then <| DC.seq <| DC.block <| Zs ?_
      refine Zm ?_
      refine Za ?_
      refine Zx <| DC.region ?_
      refine Zm ?_
      refine Zm ?_
      refine Zo (Cb rfl rfl rfl (by omega)) ?_
      refine Seq.gen rfl rfl (BA en157 rfl rfl rfl (.refl _) (fun _ h => h) (fun w hw => Hl (h := 2 * (i : Int)) (u := (x : Int)) (p := p) (hw.sub (List.sublist_append_left _ _)).self (by omega) (by
       have h1 : (2 * (i : Int)).toNat = 2 * i := by omega
       rw [h1, Bp _ (by omega)]; unfold frT; rw [if_pos (by omega), (Dy he).1, hx]; rfl) (by omega) (by
       simp only [Int.toNat_natCast]
       rw [Bp _ (by omega)]; unfold nxB; rw [hp]; congr 1; omega) hp0 (by simp; omega) (by simp; omega) (by omega))) ?_
      rintro _ _ ⟨_, ⟨rfl, rfl⟩, rfl⟩
      refine Seq.nil <| Fin.inBlock <| Fin.then <| DC.region ?_
      refine Zp ?_
      refine Zm ?_
      refine Seq.nil ?_
      refine Fin.again (NewI.mk (i + 1) (upd fo p.toNat (2 * (i : Int))) (upd fp (2 * (i : Int)).toNat p)) (by simp; omega) ⟨by simp; omega, hD'.imp fun y z hz hd => ?_⟩ ⟨rfl, rfl, rfl, rfl, rfl, rfl, trivial⟩
       (.cons' 0 rfl (by simp) (.cons' 0 rfl rfl (.cons' 0 rfl (by simp [sl]) (.cons' 0 rfl rfl (.cons' 0 rfl (by
        simp only [Int.toNat_natCast, CJ]
        refine DJ fun y hy => ?_
        unfold upd nxB
        rw [Je he, hx]
        by_cases hyx : y = x
        ·subst hyx; rw [if_pos rfl, if_pos rfl]; omega
        ·rw [if_neg hyx, if_neg (by omega)]; omega) (.cons' 0 rfl (by rw [CJ]) (.cons' 0 rfl (by rw [CJ]) (.cons' 0 rfl rfl .nil))))))))
      ·rcases hd with hd | hd
       ·exact .inl (.inl hd)
       ·by_cases h1 : z / 2 < i
        ·exact .inl (.inr h1)
        ·by_cases h2 : z % 2 = 1
         ·exact .inl (.inl h2)
         ·exact .inr (by simp at hd; omega)
     ·have hie : i = es.length := by simp at c25; omega
      subst hie
      simp only [putL, List.cons_append, List.nil_append]
      refine DC.exit <| Ad <| Ad <| Ag <| Fin.then <| Zs ?_
      refine Zl DO ?_
      refine Za ?_
      refine Za ?_
      refine Zx <| DC.ret ?_
      refine Fin.weak (E' := [(2, _), (3, _)]) (L' := adjL ⟨g33, g21, g25, g28, g31, tab (2 * es.length) (frT es es.length), tab (v + 1) (stB es v), tab (2 * es.length) fo, tab (2 * es.length) fp⟩) ⟨rfl, rfl, trivial⟩ (.cons 2 rfl (.cons 2 rfl (.cons 5 rfl (.cons 3 rfl (.cons 3 rfl .nil))))) ?_
      refine AJ (.inl rfl) rfl rfl rfl ?_
      refine .inr ⟨hV, _, ⟨hV, ?_, by simp, ?_, ?_, by simp; omega, by simp; omega, ?_, ?_⟩, rfl, rfl⟩
      ·apply List.ext_getElem?
       intro j
       by_cases hj : j < 2 * es.length
       ·rw [Bp _ hj]
        have : j < (frs es).length := by rw [Ba]; omega
        unfold frT
        rw [if_pos hj, List.getElem?_eq_getElem this]; rfl
       ·rw [List.getElem?_eq_none (by simp; omega), List.getElem?_eq_none (by rw [Ba]; omega)]
      ·rw [Bp _ (by omega)]; rfl
      ·intro x y hxN hy
       obtain ⟨hx1, rfl⟩ := Ge hy
       rw [Bp _ (by omega)]
       unfold stB
       rw [if_pos (by omega), if_pos (by omega)]; rfl
      ·intro x y hxN hy k h hk
       obtain ⟨hx1, rfl⟩ := Ge hy
       have hm := (A8 hV).1 (List.mem_of_getElem? hk)
       have hkl := (List.getElem?_eq_some_iff.1 hk).1
       have hpl := Gt hV hxN hkl
       have hpn := Cc es x
       obtain ⟨d1, d2⟩ := hD x k h hk (.inr (by omega))
       have hs : stB es v x = pre es x := by unfold stB; rw [if_pos (by omega)]
       rw [hs]
       have e1 : (pre es x).toNat + k = (pre es x + k).toNat := by omega
       refine ⟨?_, ?_⟩
       ·show (tab (2 * es.length) fo)[_]? = _
        rw [e1, Bp _ (by omega), d1]
       ·show (tab (2 * es.length) fp)[_]? = _
        rw [Bp _ (by omega), d2]
      ·intro x y hy
       obtain ⟨hx1, rfl⟩ := Ge hy
       have hs : stB es v x = pre es x := by unfold stB; rw [if_pos (by omega)]
       rw [hs]
       have := Cc es x
       have := Kg hV (v := x) (by omega)
       omega
def degA (es : List Pr) (i : Nat) : Nat → Int := fun x => cnt (es.take i) x
theorem degA_next {es : List Pr} {i u v : Nat} (he : es[i]? = some ((u : Int), (v : Int))) (hne : u ≠ v) (x : Nat) :
  upd (upd (degA es i) u (degA es i u + 1)) v (upd (degA es i) u (degA es i u + 1) v + 1) x = degA es (i + 1) x := by
 have hc := GO he (by dsimp only; omega) x
 dsimp only at hc
 unfold degA
 rw [hc]
 unfold upd
 dsimp only
 by_cases a1 : x = v
 ·subst a1; rw [if_pos rfl, if_neg (Ne.symm hne), if_neg (by omega), if_pos rfl]; omega
 ·rw [if_neg a1]
  by_cases a2 : x = u
  ·subst a2; rw [if_pos rfl, if_pos rfl, if_neg (by omega)]; omega
  ·rw [if_neg a2, if_neg (by omega), if_neg (by omega)]; omega
theorem Ft : ∀ (es : List Pr) (k : Nat) (v : Int), (outsF k es v).length ≤ es.length
 | [], k, v => by simp [outsF]
 | e :: r, k, v => by
  unfold outsF
  have := Ft r (k + 1) v
  rw [List.length_append, List.length_cons]
  split
  ·simp; omega
  ·split <;> simp <;> omega
structure DegI where
 i : Nat
theorem Ex {N : Int} {es : List Pr} {va : Value} {w : World} (hg : PrV w va es) :
  Calls Tryz.prog 120 #[.agg #[.int .i64 N, va]] w (Ret w [] fun r L =>
   (Vld N es ∧ ∃ g, r = .tuple #[.slice (some ⟨g, 0, none⟩) N.toNat N.toNat, .int .i64 0] ∧ L = [blk g 3 (ints (tab N.toNat (fun v => cnt es v))).toArray]) ∨ (¬ Vld N es ∧ r = .tuple #[.slice none 0 0, .int .i64 1] ∧ L = [])) := by
 obtain ⟨A, cap, rfl, hr, hlc, hcm, hle⟩ := hg
 refine At (args := [_]) (L := []) Tryz.func120 rfl Tryz.ntmps120 rfl (Own.start _ _) ?_
 refine Zs ?_
 refine Zw (AS rfl rfl rfl) fun g1 => ?_
 refine Za ?_
 refine Za ?_
 refine Zx <| DC.seq <| Zs ?_
 refine Zu (Ay (vs := [_, _]) rfl rfl Bj Bc rfl (Ak rfl)) ?_
 refine Seq.rel0 rfl rfl (Aq KF rfl rfl rfl (fun w hw => DR N es A cap w (hr.keep0 hw) (by omega))) ?_
 rintro _ ⟨b, rfl, hb⟩
 refine Zo (Bh rfl rfl) ?_
 refine Zx ?_
 refine Zd (fun c1 => ?_) fun c1 => ?_
 ·refine Zs ?_
  refine Za ?_
  refine Za ?_
  refine Zx <| DC.ret <| Aa ?_
  refine Fin.weak (E' := [(2, _), (3, _)]) ⟨rfl, rfl, trivial⟩ .nil ?_
  refine AJ (.inl rfl) rfl rfl rfl ?_
  exact .inr ⟨by rw [← hb]; simpa using c1, rfl, rfl⟩
 ·refine DC.skip <| Fin.then <| DC.seq ?_
  have hV : Vld N es := hb.1 (by simpa using c1)
  have hN0 := hV.lo
  have hN1 := hV.hi
  obtain ⟨n, rfl⟩ := Int.eq_ofNat_of_zero_le hN0
  simp only [Int.toNat_natCast]
  refine DC.region ?_
  refine Zf BF ?_
  refine Zl AO ?_
  refine Zw (BI (k := n) rfl rfl rfl Tryz.underlying44 AN DP B6 rfl (by omega) (by omega) (B4 n)) fun g12 => ?_
  refine Za ?_
  refine Zx <| DC.seq <| Zs ?_
  refine Zf Be ?_
  refine Zl BO ?_
  refine Zn Tryz.underlying22 ?_
  refine Zm ?_
  refine Zx <| DC.block ?_
  refine DC.loop (ι := DegI) (fun j => j.i ≤ es.length)
   (fun j => [(4, .slice (some ⟨g12, 0, none⟩) n n), (14, .slice A es.length cap), (15, .int .i64 es.length), (16, .int .i64 j.i)])
   (fun j => [blk g12 3 (ints (tab n (degA es j.i))).toArray]) (fun j => es.length - j.i) ⟨0⟩ (Nat.zero_le _) ⟨rfl, rfl, rfl, rfl, trivial⟩ (.cons' 0 rfl (CO fun _ _ => by simp [degA, cnt, outs, outsF]) .nil) ?_
  rintro ⟨i⟩ hi
  dsimp only at hi ⊢
  refine Zs ?_
  refine Zc ?_
  refine Zx <| DC.seq ?_
  refine Zd (fun c5 => ?_) fun c5 => ?_
  ·have hlt : i < es.length := by simpa using c5
   obtain ⟨e, he⟩ : ∃ e, es[i]? = some e := ⟨_, List.getElem?_eq_getElem hlt⟩
   obtain ⟨ad, rfl, hU, hVe⟩ := hr.pair he
   have ho := hV.ok i e he
   obtain ⟨u, hu⟩ := Int.eq_ofNat_of_zero_le ho.lo
   obtain ⟨v, hv⟩ := Int.eq_ofNat_of_zero_le (show 0 ≤ e.2 by have := ho.lo; have := ho.lt; omega)
   obtain rfl : e = ((u : Int), (v : Int)) := Prod.ext hu hv
   clear hu hv
   have huv : u < v := by have := ho.lt; simp at this; exact this
   have hvN : v < n := by have := ho.hi; simp at this; exact this
   replace hU : w.cell? (ad.add (i * 2)) = some (.int .i64 (u : Int)) := hU
   replace hVe : w.cell? (ad.add (i * 2 + 1)) = some (.int .i64 (v : Int)) := hVe
   have b1 : ∀ (x : Nat), 0 ≤ degA es i x ∧ degA es i x ≤ 4194304 := fun x => by
    have := Ft (es.take i) 0 x
    have := hV.few
    simp only [List.length_take] at *
    unfold degA cnt outs; omega
   have b2 := b1 u
   have b3 := b1 v
   refine DC.skip <| Fin.then <| DC.seq <| DC.block <| Zs ?_
   refine Zo (AQ rfl rfl rfl Tryz.underlying22 Bb (by omega) (by omega) (by first | exact AC _ _ | exact AW _ _ _ | rfl)) ?_
   refine Zu (Ay (vs := [_, _]) rfl rfl CP Bb rfl (CD hU hVe (by simp))) ?_
   refine Zw (AH rfl CI rfl) fun g6 => ?_
   refine Zy (AA (cs' := #[_, _]) rfl rfl rfl Bb rfl (Nat.le_of_ble_eq_true rfl) rfl) ?_
   refine Zx <| Zs ?_
   refine Zm ?_
   refine Zf Bd ?_
   refine Zl AO ?_
   refine Zi Tryz.underlying44 AN ?_
   refine Zu (Ah rfl rfl AO (AU (Bk (by omega)))) ?_
   refine Zo (BN rfl rfl rfl (by simp only [Int.toNat_natCast]; omega)) ?_
   refine Zi Tryz.underlying44 AN ?_
   refine Zy (AF rfl rfl rfl AN rfl (by simp; omega) BL) ?_
   refine Zx ?_
   have b4 : upd (degA es i) u (degA es i u + 1) v = degA es i v := by unfold upd; rw [if_neg (by omega)]
   refine DC.region ?_
   refine Zm ?_
   refine Zf Bu ?_
   refine Zl AO ?_
   refine Zi Tryz.underlying44 AN ?_
   refine Zu (Ah rfl rfl AO (AU (Bk hvN))) ?_
   refine Zo (BN rfl rfl rfl (by simp only [Int.toNat_natCast]; rw [b4]; omega)) ?_
   refine Zi Tryz.underlying44 AN ?_
   refine Zy (AF rfl rfl rfl AN rfl (by simp; omega) BL) ?_
   refine Seq.nil <| Fin.inBlock <| Fin.then <| DC.region ?_
   refine Zp ?_
   refine Zm ?_
   refine Seq.nil ?_
   refine Fin.again ⟨i + 1⟩ (by dsimp only; omega) (by dsimp only; omega) ⟨rfl, rfl, rfl, rfl, trivial⟩ (.cons' 1 rfl (CO fun x _ => degA_next he (by omega) x) .nil)
  ·refine DC.exit <| Ad <| Ad <| Ag <| Fin.then <| Zs ?_
   refine Zm ?_
   refine Za ?_
   refine Za ?_
   refine Zx <| DC.ret ?_
   have hin : i = es.length := by simp at c5; omega
   subst hin
   refine Fin.weak (E' := [(2, _), (3, _)]) ⟨rfl, rfl, trivial⟩ (.cons 0 rfl .nil) ?_
   refine AJ (.inl rfl) rfl rfl rfl ?_
   exact .inl ⟨hV, g12, rfl, by rw [CO (g := fun v => cnt es v) fun v _ => by simp [degA]]⟩
theorem D4 : KeyK Tryz.prog 3 encI := keyI Tryz.underlying3
theorem Fz : KeyK Tryz.prog 35 encP := keyAsk (by kernel_rfl) (fun e x w => by kernel_rfl) (equalA (by kernel_rfl)) sameP
theorem Lm : KeyK Tryz.prog 43 encP := keyAsk (by kernel_rfl) (fun e x w => by kernel_rfl) (equalS (by kernel_rfl)) sameP
theorem Cg {N : Int} {es : List Pr} {va : Value} {w : World} (h : PrV w va es) : Calls Tryz.prog 41 #[.agg #[.int .i64 N, va]] w (Ret w [] fun v L => L = [] ∧ ∃ b, v = .bool b ∧ (b = true ↔ Vld N es)) := by
 obtain ⟨A, cap, rfl, hr, _, _, hle⟩ := h
 exact DR N es A cap w hr (by omega)
structure FrI where
 i : Nat
 m : List (Pr × Value)
structure FrJ where
 v : Nat
 rs : RL
structure FrK where
 k : Nat
 pv : Value
 hs : List Int
 sm : List (Int × Value)
/-- What stands in the rows that are done. -/
structure RowsDone (es : List Pr) (ls : List (List Int)) (v : Nat) (rs : RL) : Prop where
 len : rs.length = ls.length
 ok : ∀ (x : Nat) l, x < v → ls[x]? = some l → (∀ u, u ∈ l → ∃ h, IsHalf es x u h) ∧ l.Nodup ∧ (l.length : Int) = cnt es x
 row : ∀ (x : Nat) l r, x < v → ls[x]? = some l → rs[x]? = some r → r.2.length = l.length ∧ ∀ (j : Nat) u h, l[j]? = some u → r.2[j]? = some h → IsHalf es x u h
 nil : ∀ (x : Nat) r, v ≤ x → rs[x]? = some r → r.2 = []
structure RowPart (es : List Pr) (v : Nat) (l : List Int) (j : FrK) : Prop where
 le : j.k ≤ l.length
 len : j.hs.length = j.k
 half : ∀ (q : Nat) u h, l[q]? = some u → j.hs[q]? = some h → IsHalf es v u h
 nd : (l.take j.k).Nodup
 ex : ∀ u, u ∈ l.take j.k → ∃ h, IsHalf es v u h
 seen : ∀ h, lkM j.sm h = if h ∈ j.hs then some (.bool true) else none
theorem JU {N : Int} {es : List Pr} {ls : List (List Int)} {va v : Value} {w0 w : World} {ga gb gc : Nat} (hg : PrV w0 va es) (hl : LsV w0 v ls)
  (hO : Own w0 [] w [blk gc 59 #[.slice none 0 0], blk gb 25 #[v], blk ga 24 #[.int .i64 N, va]]) :
  Calls Tryz.prog 118 #[.pointer (some ⟨ga, 0, none⟩), .pointer (some ⟨gb, 0, none⟩), .pointer (some ⟨gc, 0, none⟩)] w
   (RetP w (idsOf [blk gc 59 #[.slice none 0 0], blk gb 25 #[v], blk ga 24 #[.int .i64 N, va]])
    (fun _ M => RotOk N es ls ∧ ∃ g rs, M = [blk gc 59 #[.slice (some ⟨g, 0, none⟩) N.toNat N.toNat], blk g 44 (rowsV rs).toArray] ++ rowsC 3 rs ∧ RotR es ls (rs.map Prod.snd))
    (fun pv M => ∃ v e, pv = flt v e ∧ (e ≠ 0 ∧ ¬ RotOk N es ls))) := by
 have hg0 := hg
 obtain ⟨A, cap, rfl, hr, hlc, hcm, hle⟩ := hg
 obtain ⟨B, capb, rfl, hrb, hlb, hcb, hleb⟩ := hl
 refine CQ (args := [_, _, _]) Tryz.func118 rfl Tryz.ntmps118 rfl hO.self ?_
 refine Zs ?_
 refine Zu (Ay (vs := [_, _]) rfl rfl Bj Bc rfl (Ak rfl)) ?_
 refine Seq.rel0 rfl rfl (Aq KF rfl rfl rfl (fun w' hw => Cg (Gr hg0 hO hw))) ?_
 rintro _ ⟨b, rfl, hb⟩
 refine BB rfl rfl DN rfl rfl rfl (fun w' hw => Bz b 0 1 w') ?_ ?_
 ·rintro _ ⟨rfl, hbf⟩
  refine Ao <| ?_
  exact A7 ⟨0, 1, rfl, by decide, fun h => by have := hb.2 h.1; rw [hbf] at this; cases this⟩
 rintro _ hbt
 have hV : Vld N es := hb.1 hbt
 refine Zx <| Zs ?_
 refine Zl FS ?_
 refine Zn Tryz.underlying25 ?_
 refine Zf BF ?_
 refine Zl AO ?_
 refine Zo (AX rfl rfl rfl) ?_
 refine BB rfl rfl DN rfl rfl rfl (fun w' hw => Bz _ 0 110 w') ?_ ?_
 ·rintro _ ⟨rfl, hbf⟩
  refine Ao <| ?_
  exact A7 ⟨0, 110, rfl, by decide, fun h => by simp at hbf; exact hbf h.2.1⟩
 rintro _ hbN
 have hN : (ls.length : Int) = N := by simpa using hbN
 subst hN
 have hN1 := hV.hi
 have hfew := hV.few
 refine Zx <| Zs ?_
 refine Seq.rel rfl rfl (Df (enc := encP) rfl) ?_
 rintro _ _ ⟨gm, rfl, rfl⟩
 simp only [List.cons_append, List.nil_append]
 refine Za ?_
 refine Zx <| DC.seq <| Zs ?_
 refine Zf Be ?_
 refine Zl BO ?_
 refine Zn Tryz.underlying22 ?_
 refine Zm ?_
 refine Zx <| DC.block ?_
 refine DC.loop (ι := FrI) (fun j => j.i ≤ es.length ∧ HalfM es j.i (lkM j.m))
  (fun j => [(0, .pointer (some ⟨ga, 0, none⟩)), (1, .pointer (some ⟨gb, 0, none⟩)), (2, .pointer (some ⟨gc, 0, none⟩)), (3, .map (some gm)), (26, (.slice A es.length cap)), (27, .int .i64 es.length), (28, .int .i64 j.i)])
  (fun j => [mpc encP gm j.m, blk gc 59 #[.slice none 0 0], blk gb 25 #[.slice B ls.length capb], blk ga 24 #[.int .i64 (ls.length : Int), (.slice A es.length cap)]]) (fun j => es.length - j.i) ⟨0, []⟩ ⟨Nat.zero_le _, Kw es⟩ ⟨rfl, rfl, rfl, rfl, rfl, rfl, rfl, trivial⟩ (.cons 0 rfl (.cons 0 rfl (.cons 0 rfl (.cons 0 rfl .nil)))) ?_
 rintro ⟨i, m⟩ ⟨hi, hm⟩
 dsimp only at hi hm ⊢
 refine Zs ?_
 refine Zc ?_
 refine Zx <| DC.seq ?_
 refine Zd (fun c4 => ?_) fun c4 => ?_
 ·have hlt : i < es.length := by simpa using c4
  obtain ⟨e, he⟩ : ∃ e, es[i]? = some e := ⟨_, List.getElem?_eq_getElem hlt⟩
  obtain ⟨ad, rfl, hU, hVe⟩ := hr.pair he
  refine DC.skip <| Fin.then <| DC.seq <| DC.block <| Zs ?_
  refine Zm ?_
  refine Zo (AQ rfl rfl rfl Tryz.underlying22 Bb (by omega) (by omega) (by first | exact AC _ _ | exact AW _ _ _ | rfl)) ?_
  refine Zu (Ay (vs := [_, _]) rfl rfl CP Bb rfl (hass_base hO hU hVe)) ?_
  refine Zw (AH rfl CI rfl) fun g5 => ?_
  refine Za ?_
  refine Zy (AA (cs' := #[_, _]) rfl rfl rfl Bb rfl (Nat.le_of_ble_eq_true rfl) rfl) ?_
  refine Zx ?_
  refine AG (cl := [.q, .q, .q, .q, .q, .q, .q, .q, .q, .q, .q, .q, .q, .q, .q, .q, .q, .g, .g]) (A := [0, 0, 2, 0, 8, 30, 0, 0, 128, 0, 512, 1920, 0, 4096, 0, 16384, 49152, 12351, 262143]) (order := [0, 1, 2, 3, 4, 5, 6, 7, 8, 9, 10, 11, 12, 13, 14, 15, 16, 17, 18]) ([blk g5 43 #[.int .i64 e.1, .int .i64 e.2]]) mixed (by kernel_rfl) (fun w hw => hw.pick (.cons 0 rfl .nil)) ?_
  refine Ym ?_
  refine Yf Bd ?_
  refine Flow.old rfl rfl rfl (Ah rfl rfl AO (BD rfl)) ?_
  refine Yf Bu ?_
  refine Flow.old rfl rfl rfl (Ah rfl rfl AO (BD rfl)) ?_
  refine Yo rfl (FY (cs := #[.int .i64 e.1, .int .i64 e.2]) rfl rfl (by kernel_rfl)) ?_
  refine Ym ?_
  refine Yf Bu ?_
  refine Flow.old rfl rfl rfl (Ah rfl rfl AO (BD rfl)) ?_
  refine Yf Bd ?_
  refine Flow.old rfl rfl rfl (Ah rfl rfl AO (BD rfl)) ?_
  refine Yo rfl (FY (cs := #[.int .i64 e.2, .int .i64 e.1]) rfl rfl (by kernel_rfl)) ?_
  refine Ym ?_
  refine Yo rfl (Cb rfl rfl rfl (by omega)) ?_
  refine Ym ?_
  refine Yo rfl (Cb rfl rfl rfl (by omega)) ?_
  refine Yo rfl (BN rfl rfl rfl (by omega)) ?_
  refine AL rfl rfl rfl rfl (BR (k := (e.1, e.2)) 1 rfl Fz rfl rfl rfl rfl Tryz.underlying191 rfl) (fun w hw => hw.pick (.cons 0 rfl .nil)) ?_
  refine AL rfl rfl rfl rfl (BR (k := (e.2, e.1)) 1 rfl Fz rfl rfl rfl rfl Tryz.underlying191 rfl) (fun w hw => hw.pick (.cons 0 rfl .nil)) ?_
  refine Flow.end rfl ?_
  simp only [zq, zr]
  refine Fin.inBlock <| Fin.then <| DC.region ?_
  refine Zp ?_
  refine Zm ?_
  refine Seq.nil ?_
  refine Fin.again ⟨i + 1, putM (e.2, e.1) (.int .i64 (2 * (i : Int) + 1)) (putM (e.1, e.2) (.int .i64 (2 * (i : Int))) m)⟩ (by dsimp only; omega) ⟨by dsimp only; omega, ?_⟩ ⟨rfl, rfl, rfl, rfl, rfl, rfl, rfl, trivial⟩ (.cons 1 rfl (.cons 1 rfl (.cons 1 rfl (.cons 1 rfl .nil))))
  have := Kx hV he hm
  intro p v
  dsimp only
  rw [Du, Du]
  exact this p v
 ·refine DC.exit <| Ad <| Ad <| Ag <| Fin.then <| Zs ?_
  refine Zu (Ay (vs := [_, _]) rfl rfl Bj Bc rfl (Ak rfl)) ?_
  refine Seq.rel rfl rfl (Aq en120 rfl rfl rfl (fun w' hw => Ex (Gr hg0 hO hw))) ?_
  intro v53 L53 hC53
  obtain ⟨_, gd, rfl, rfl⟩ := hC53.resolve_right (fun h => h.1 hV)
  simp only [Int.toNat_natCast, List.cons_append, List.nil_append]
  refine Zm ?_
  refine Ze ?_
  refine Ze ?_
  refine Za ?_
  refine Za ?_
  refine Zx <| Zs ?_
  refine Zf BF ?_
  refine Zl AO ?_
  refine Zw (BI (k := ls.length) (cs := (rowsV (List.replicate ls.length (.slice none 0 0, []))).toArray) rfl rfl rfl Tryz.underlying59 Bn GT CH rfl (by omega) (by omega) (by rw [CV _ rfl]; simp [rowsV])) fun g58 => ?_
  refine Zy (AF (cs' := #[_]) rfl rfl rfl sz59 rfl (Nat.le_of_ble_eq_true rfl) rfl) ?_
  refine Zx <| Zs ?_
  refine Zl FS ?_
  refine Zn Tryz.underlying25 ?_
  refine Zm ?_
  refine Zx <| DC.block ?_
  have hie : i = es.length := by simp at c4; omega
  subst hie
  refine DC.own (fun w hw => own_nils (t := 3) ls.length hw) ?_
  refine DC.loop (ι := FrJ) (fun j => j.v ≤ ls.length ∧ RowsDone es ls j.v j.rs)
   (fun j => [(0, .pointer (some ⟨ga, 0, none⟩)), (1, .pointer (some ⟨gb, 0, none⟩)), (2, .pointer (some ⟨gc, 0, none⟩)), (3, .map (some gm)), (6, .slice (some ⟨gd, 0, none⟩) ls.length ls.length), (59, .slice B ls.length capb), (60, .int .i64 ls.length), (61, .int .i64 j.v)])
   (fun j => [blk g58 44 (rowsV j.rs).toArray, blk gd 3 (ints (tab ls.length (fun v => cnt es v))).toArray, mpc encP gm m, blk gc 59 #[.slice (some ⟨g58, 0, none⟩) ls.length ls.length], blk gb 25 #[.slice B ls.length capb], blk ga 24 #[.int .i64 (ls.length : Int), (.slice A es.length cap)]] ++ rowsC 3 j.rs) (fun j => ls.length - j.v) ⟨0, List.replicate ls.length (.slice none 0 0, [])⟩
   ⟨Nat.zero_le _, ⟨by simp, fun _ _ h => absurd h (Nat.not_lt_zero _), fun _ _ _ h => absurd h (Nat.not_lt_zero _), fun x r _ hx => by simp [List.getElem?_replicate] at hx; rw [← hx.2]⟩⟩ ⟨rfl, rfl, rfl, rfl, rfl, rfl, rfl, rfl, trivial⟩ (Pick.all _) ?_
  rintro ⟨v, rs⟩ ⟨hv, hd⟩
  dsimp only at hv hd ⊢
  simp only [List.cons_append, List.nil_append]
  refine Zs ?_
  refine Zc ?_
  refine Zx <| DC.seq ?_
  refine Zd (fun c11 => ?_) fun c11 => ?_
  ·have hvlt : v < ls.length := by simpa using c11
   obtain ⟨l, hl⟩ : ∃ l, ls[v]? = some l := ⟨_, List.getElem?_eq_getElem hvlt⟩
   obtain ⟨adb, lv, rfl, hc, Al, capl, rfl, hrl, hl1, hl2, hl3⟩ := hrb v l hl
   have hrlen := hd.len
   obtain ⟨p0, hp0⟩ : ∃ p, rs[v]? = some p := ⟨_, List.getElem?_eq_getElem (by omega)⟩
   have hp0n := hd.nil v p0 (Nat.le_refl _) hp0
   obtain ⟨pv0, hs0⟩ := p0
   dsimp only at hp0n
   subst hp0n
   have hset0 : rs.set v (pv0, []) = rs := by
    apply List.ext_getElem?
    intro q
    rw [List.getElem?_set]
    split
    ·rename_i e; subst e; rw [if_pos (by omega)]; exact hp0.symm
    ·rfl
   refine DC.skip <| Fin.then <| DC.seq <| DC.block <| Zs ?_
   refine Zm ?_
   refine Zi Tryz.underlying25 Bn ?_
   refine Zu (Ah rfl rfl Bo (EY hO hc)) ?_
   refine Za ?_
   refine Za ?_
   refine Zx <| Zs ?_
   refine Seq.rel rfl rfl (Df (enc := encI) rfl) ?_
   rintro _ _ ⟨gs, rfl, rfl⟩
   simp only [List.cons_append, List.nil_append]
   refine Za ?_
   refine Zx <| DC.seq <| Zs ?_
   refine Zm ?_
   refine Zn Tryz.underlying44 ?_
   refine Zm ?_
   refine Zx <| DC.block ?_
   refine DC.loop (ι := FrK) (fun j => RowPart es v l j)
    (fun j => [(0, .pointer (some ⟨ga, 0, none⟩)), (1, .pointer (some ⟨gb, 0, none⟩)), (2, .pointer (some ⟨gc, 0, none⟩)), (3, .map (some gm)), (6, .slice (some ⟨gd, 0, none⟩) ls.length ls.length), (8, .int .i64 v), (9, .slice Al l.length capl), (10, .map (some gs)), (59, .slice (some adb) ls.length capb), (60, .int .i64 ls.length), (61, .int .i64 v), (67, .slice Al l.length capl), (68, .int .i64 l.length), (69, .int .i64 j.k)])
    (fun j => [mpc encI gs j.sm, blk g58 44 (rowsV (rs.set v (j.pv, j.hs))).toArray, blk gd 3 (ints (tab ls.length (fun v => cnt es v))).toArray, mpc encP gm m, blk gc 59 #[.slice (some ⟨g58, 0, none⟩) ls.length ls.length], blk gb 25 #[.slice (some adb) ls.length capb], blk ga 24 #[.int .i64 (ls.length : Int), (.slice A es.length cap)]] ++ rowsC 3 (rs.set v (j.pv, j.hs))) (fun j => l.length - j.k) ⟨0, pv0, [], []⟩
    ⟨Nat.zero_le _, rfl, by simp, by simp, by simp, by simp⟩ ⟨rfl, rfl, rfl, rfl, rfl, rfl, rfl, rfl, rfl, rfl, rfl, rfl, rfl, rfl, trivial⟩ (by dsimp only; rw [hset0]; exact Pick.all _) ?_
   rintro ⟨k, pv, hs, sm⟩ hR
   have hRle := hR.le
   have hRlen := hR.len
   dsimp only at hRle hRlen ⊢
   simp only [List.cons_append, List.nil_append]
   refine Zs ?_
   refine Zc ?_
   refine Zx <| DC.seq ?_
   refine Zd (fun c15 => ?_) fun c15 => ?_
   ·have hklt : k < l.length := by simpa using c15
    obtain ⟨u, hu⟩ : ∃ u, l[k]? = some u := ⟨_, List.getElem?_eq_getElem hklt⟩
    obtain ⟨adl, rfl, hcu⟩ := hrl.int hu
    refine DC.skip <| Fin.then <| DC.seq <| DC.block <| Zs ?_
    refine Zi Tryz.underlying44 AN ?_
    refine Zu (Ah rfl rfl AO (EY hO hcu)) ?_
    refine Za ?_
    refine Zx <| Zs ?_
    refine Zm ?_
    refine Zm ?_
    refine Zm ?_
    refine Zo (FY (cs := #[.int .i64 v, .int .i64 u]) rfl rfl (by kernel_rfl)) ?_
    obtain ⟨x0, jn, hlk, hj1, hj2⟩ : ∃ x0 jn, (if true then (.tuple #[(lkM m ((v : Int), u)).getD (.int .i64 0), .bool (lkM m ((v : Int), u)).isSome] : Value) else (lkM m ((v : Int), u)).getD (.int .i64 0)) = .tuple #[x0, .bool jn] ∧ (jn = true → ∃ h, x0 = .int .i64 h ∧ IsHalf es v u h) ∧ (jn = false → ∀ h, ¬ IsHalf es v u h) := by
     refine ⟨_, _, rfl, fun hj => ?_, fun hj h hh => ?_⟩
     ·obtain ⟨x, hx⟩ := Option.isSome_iff_exists.1 hj
      obtain ⟨h, rfl, hh, _⟩ := (hm _ _).1 hx
      exact ⟨h, by rw [hx]; rfl, hh⟩
     ·have := (hm ((v : Int), u) (.int .i64 h)).2 ⟨h, rfl, hh, by have := hh.hi; omega⟩
      rw [this] at hj; cases hj
    refine Zu (CA (k := ((v : Int), u)) 3 rfl Fz rfl rfl rfl Tryz.underlying191 B6 hlk) ?_
    refine Zm ?_
    refine Ze ?_
    refine Ze ?_
    refine Za ?_
    refine Za ?_
    refine Zx <| Zs ?_
    refine Zm ?_
    refine Zm ?_
    refine BB rfl rfl DN rfl rfl rfl (fun w' hw => Bz jn v 111 w') ?_ ?_
    ·rintro _ ⟨rfl, hbf⟩
     refine Ao <| AB <| Ao <| Ao <| AB <| Ao <| AB <| Ao <| Ao <| AB <| ?_
     refine A7 ⟨v, 111, rfl, by decide, fun h => ?_⟩
     obtain ⟨h1, hh⟩ := (h.2.2 v l hl).1 u (List.mem_of_getElem? hu)
     exact hj2 hbf h1 hh
    rintro _ hjt
    obtain ⟨h, rfl, hh⟩ := hj1 hjt
    refine Zx <| Zs ?_
    refine Zm ?_
    refine Zm ?_
    refine Zu (CA (ok := false) (v := .bool (decide (h ∈ hs))) (k := h) 0 rfl D4 rfl rfl rfl Tryz.underlying194 ze4 (by rw [hR.seen h]; dsimp only; by_cases hm : h ∈ hs <;> simp [hm])) ?_
    refine Zo (Bh rfl rfl) ?_
    refine Zm ?_
    refine BB rfl rfl DN rfl rfl rfl (fun w' hw => Bz _ v 112 w') ?_ ?_
    ·rintro _ ⟨rfl, hbf⟩
     refine Ao <| AB <| Ao <| Ao <| AB <| Ao <| AB <| Ao <| Ao <| AB <| ?_
     refine A7 ⟨v, 112, rfl, by decide, fun hok => ?_⟩
     have hin : h ∈ hs := by simpa using hbf
     obtain ⟨q, hq⟩ := List.mem_iff_getElem?.1 hin
     have hqk : q < k := by have := (List.getElem?_eq_some_iff.1 hq).1; omega
     obtain ⟨u', hu'⟩ : ∃ u', l[q]? = some u' := ⟨_, List.getElem?_eq_getElem (by omega)⟩
     have h1 := (hR.half q u' h hu' hq).to
     have h2 := hh.to
     have hnd := (hok.2.2 v l hl).2.1
     have : q = k := by
      exact (List.getElem?_inj (by omega) hnd).1 (by rw [hu', hu, ← h1, h2])
     omega
    rintro _ hnin
    have hni : h ∉ hs := by simpa using hnin
    refine Zx <| Zs ?_
    refine Zm ?_
    refine Zm ?_
    refine Zy (BR (k := h) 0 rfl D4 rfl rfl rfl rfl Tryz.underlying194 rfl) ?_
    simp only [List.set_cons_zero]
    refine Zx ?_
    obtain ⟨rs1, hrs1⟩ : ∃ rs1, rs1 = rs.set v (pv, hs) := ⟨_, rfl⟩
    have hl1 : rs1.length = ls.length := by rw [hrs1]; simp [hrlen]
    have hp1 : rs1[v]? = some (pv, hs) := by rw [hrs1, List.getElem?_set_self (by omega)]
    rw [← hrs1]
    refine AG (cl := [.q, .q, .q, .q, .q, .v, .q, .n, .g, .q, .g]) (A := [0, 0, 0, 0, 12, 28, 0, 64, 252, 511, 1023]) (order := [0, 1, 2, 3, 4, 5, 6, 7, 8, 9, 10]) ([blk gc 59 #[.slice (some ⟨g58, 0, none⟩) ls.length ls.length]]) mixed (by kernel_rfl) (fun w hw => hw.pick (.cons 4 rfl .nil)) ?_
    refine Flow.old rfl rfl rfl (Ah rfl rfl ag59 (BD rfl)) ?_
    refine Ym ?_
    refine Flow.old rfl rfl rfl (Ah rfl rfl ag59 (BD rfl)) ?_
    refine Ym ?_
    refine Yo rfl (Ai rfl rfl rfl Tryz.underlying59 Bn (by omega) (by omega) (by first | exact AC _ _ | exact AW _ _ _ | rfl)) ?_
    refine Am rfl rfl rfl rfl (Ah rfl rfl Bo (AU (Hi hp1))) ?_
    refine Ym ?_
    refine AY rfl rfl rfl rfl (AP (cs := #[_]) rfl rfl Tryz.underlying44 AN B6 rfl (by decide) (by decide) rfl rfl) fun g99 => ?_
    refine Cu (V := blk g99 3 #[.int .i64 h] :: mpc encI gs (putM h (.bool true) sm) :: blk g58 44 (rowsV rs1).toArray :: blk gd 3 (ints (tab ls.length (fun v => cnt es v))).toArray :: mpc encP gm m :: blk gc 59 #[.slice (some ⟨g58, 0, none⟩) ls.length ls.length] :: blk gb 25 #[.slice (some adb) ls.length capb] :: blk ga 24 #[.int .i64 (ls.length : Int), (.slice A es.length cap)] :: rowsC 3 rs1) rfl rfl rfl rfl rfl
     (Gen.shape (AR (F := [blk g99 3 #[.int .i64 h], mpc encI gs (putM h (.bool true) sm), blk g58 44 (rowsV rs1).toArray, blk gd 3 (ints (tab ls.length (fun v => cnt es v))).toArray, mpc encP gm m, blk gc 59 #[.slice (some ⟨g58, 0, none⟩) ls.length ls.length], blk gb 25 #[.slice (some adb) ls.length capb], blk ga 24 #[.int .i64 (ls.length : Int), (.slice A es.length cap)]] ++ rowsC 3 (rs1.eraseIdx v)) (vs := ints hs) (k := 1) (news := [.int .i64 h]) rfl rfl rfl Tryz.underlying44 AN DP B6 rfl (by decide) (by decide)
      (fun w hw => hw.perm (FU hp1 _).symm) (.inl ⟨_, _, rfl, Ak rfl⟩) rfl (by intro u hu; simp at hu; subst hu; rfl) (by rw [ints_length]; omega))) (fun v L' hC w hw => by obtain ⟨_, rfl⟩ := hC; exact hw.pick (.cons 6 rfl .nil)) ?_
    rintro _ _ ⟨⟨A1, l1, c1, rfl⟩, rfl⟩
    simp only [List.cons_append, List.nil_append]
    refine Yo rfl (Ai rfl rfl rfl Tryz.underlying59 Bn (by omega) (by omega) (by first | exact AC _ _ | exact AW _ _ _ | rfl)) ?_
    refine AL rfl rfl rfl rfl (AF (cs' := (rowsV (rs1.set v (.slice A1 l1 c1, hs ++ [h]))).toArray) rfl rfl rfl Bn rfl (by simp; omega) (LU rs1 v (.slice A1 l1 c1, hs ++ [h]))) (fun w hw => hw.pick (.cons 6 rfl .nil)) ?_
    refine Flow.end rfl ?_
    simp only [zq, zr]
    refine Fin.own (M := [mpc encI gs (putM h (.bool true) sm), blk g58 44 (rowsV (rs1.set v (.slice A1 l1 c1, hs ++ [h]))).toArray, blk gd 3 (ints (tab ls.length (fun v => cnt es v))).toArray, mpc encP gm m, blk gc 59 #[.slice (some ⟨g58, 0, none⟩) ls.length ls.length], blk gb 25 #[.slice (some adb) ls.length capb], blk ga 24 #[.int .i64 (ls.length : Int), (.slice A es.length cap)]] ++ rowsC 3 (rs1.set v (.slice A1 l1 c1, hs ++ [h]))) (fun w hw => ?_) ?_
    ·have h4 := (hw.pick (.cons 1 rfl (Pick.all _))).sub (List.sublist_cons_self ..)
     have h5 := h4.pick (L' := slc (.slice A1 l1 c1) 3 1 (ints (hs ++ [h])) :: ([mpc encI gs (putM h (.bool true) sm), blk g58 44 (rowsV (rs1.set v (.slice A1 l1 c1, hs ++ [h]))).toArray, blk gd 3 (ints (tab ls.length (fun v => cnt es v))).toArray, mpc encP gm m, blk gc 59 #[.slice (some ⟨g58, 0, none⟩) ls.length ls.length], blk gb 25 #[.slice (some adb) ls.length capb], blk ga 24 #[.int .i64 (ls.length : Int), (.slice A es.length cap)]] ++ rowsC 3 (rs1.eraseIdx v))) (.cons' 0 rfl (by rw [A4]; rfl) (Pick.all _))
     exact h5.perm (rows_set (.slice A1 l1 c1, hs ++ [h]) (by omega) _).symm
    rw [hrs1, List.set_set]
    refine Fin.inBlock <| Fin.then <| DC.region ?_
    refine Zp ?_
    refine Zm ?_
    refine Seq.nil ?_
    refine Fin.again (FrK.mk (k + 1) (.slice A1 l1 c1) (hs ++ [h]) (putM h (.bool true) sm)) (by dsimp only; omega) ?_ ⟨rfl, rfl, rfl, rfl, rfl, rfl, rfl, rfl, rfl, rfl, rfl, rfl, rfl, rfl, trivial⟩ (Pick.all _)
    have htk : l.take (k + 1) = l.take k ++ [u] := by rw [List.take_add_one, hu]; rfl
    refine ⟨by dsimp only; omega, by simp [hRlen], ?_, ?_, ?_, ?_⟩
    ·intro q u' h' hu' hh'
     dsimp only at hh'
     rw [List.getElem?_append] at hh'
     split at hh'
     ·exact hR.half q u' h' hu' hh'
     ·have hqk : q = k := by
       have : q - hs.length < 1 := by have := (List.getElem?_eq_some_iff.1 hh').1; simpa using this
       omega
      subst hqk
      rw [hu] at hu'; cases hu'
      rw [show q - hs.length = 0 by omega] at hh'
      cases hh'; exact hh
    ·dsimp only
     rw [htk, List.nodup_append]
     refine ⟨hR.nd, by simp, fun a ha b hb e => ?_⟩
     simp at hb; subst hb; subst e
     obtain ⟨q, hq⟩ := List.mem_iff_getElem?.1 ha
     rw [List.getElem?_take] at hq
     split at hq
     ·rename_i hqk
      obtain ⟨h', hh'⟩ : ∃ h', hs[q]? = some h' := ⟨_, List.getElem?_eq_getElem (by omega)⟩
      have := (hR.half q a h' hq hh').uniq hV hh
      subst this
      exact hni (List.mem_of_getElem? hh')
     ·cases hq
    ·dsimp only
     intro u' hu'
     rw [htk, List.mem_append] at hu'
     rcases hu' with hu' | hu'
     ·exact hR.ex u' hu'
     ·simp at hu'; subst hu'; exact ⟨h, hh⟩
    ·intro h'
     dsimp only
     rw [Du, hR.seen h']
     by_cases e : h' = h
     ·subst e; simp
     ·simp [e]
   ·refine DC.exit <| Ad <| Ad <| Ag <| Fin.then ?_
    have hkl : k = l.length := by simp at c15; omega
    subst hkl
    obtain ⟨rs1, hrs1⟩ : ∃ rs1, rs1 = rs.set v (pv, hs) := ⟨_, rfl⟩
    rw [← hrs1]
    have hnd := hR.nd
    have hex := hR.ex
    dsimp only at hnd hex
    rw [List.take_length] at hnd hex
    refine DC.region ?_
    refine Zm ?_
    refine Zn Tryz.underlying44 ?_
    refine Zm ?_
    refine Zm ?_
    refine Zi Tryz.underlying44 AN ?_
    refine Zu (Ah rfl rfl AO (AU (Bk hvlt))) ?_
    refine Zo (AX rfl rfl rfl) ?_
    refine Zm ?_
    refine BB rfl rfl DN rfl rfl rfl (fun w' hw => Bz _ v 113 w') ?_ ?_
    ·rintro _ ⟨rfl, hbf⟩
     refine AB <| Ao <| Ao <| AB <| ?_
     refine A7 ⟨v, 113, rfl, by decide, fun hok => ?_⟩
     have := (hok.2.2 v l hl).2.2
     simp at hbf
     exact hbf this
    rintro _ hbt3
    have hcnt : (l.length : Int) = cnt es v := by simpa using hbt3
    refine Seq.nil <| Fin.inBlock <| Fin.then <| DC.region ?_
    refine Zp ?_
    refine Zm ?_
    refine Seq.nil ?_
    refine Fin.own (fun w hw => hw.sub (List.sublist_cons_self ..)) ?_
    refine Fin.again (FrJ.mk (v + 1) rs1) (by dsimp only; omega) ⟨by dsimp only; omega, ?_⟩ ⟨rfl, rfl, rfl, rfl, rfl, rfl, rfl, rfl, trivial⟩ (Pick.all _)
    subst hrs1
    refine ⟨by simp [hrlen], ?_, ?_, ?_⟩
    ·intro x l' hx hl'
     dsimp only at hx
     rcases Nat.lt_succ_iff_lt_or_eq.1 hx with hx | rfl
     ·exact hd.ok x l' hx hl'
     ·rw [hl] at hl'; cases hl'
      exact ⟨hex, hnd, hcnt⟩
    ·intro x l' r hx hl' hr'
     dsimp only at hx
     rw [List.getElem?_set] at hr'
     split at hr'
     ·rename_i e; subst e
      rw [if_pos (by omega)] at hr'
      cases hr'
      rw [hl] at hl'; cases hl'
      exact ⟨hRlen, hR.half⟩
     ·exact hd.row x l' r (by omega) hl' hr'
    ·intro x r hx hr'
     dsimp only at hx
     rw [List.getElem?_set_ne (by omega)] at hr'
     exact hd.nil x r (by omega) hr'
  ·refine DC.exit <| Ad <| Ad <| Ag ?_
   have hvl : v = ls.length := by simp at c11; omega
   subst hvl
   refine Fin.weak (E' := []) trivial (.cons 3 rfl (.cons 0 rfl (.cons 0 rfl (.cons 0 rfl (.cons 0 rfl (.cons 0 rfl (Pick.all _))))))) ?_
   refine Fin.own (M := [blk gc 59 #[.slice (some ⟨g58, 0, none⟩) ls.length ls.length], blk g58 44 (rowsV rs).toArray] ++ rowsC 3 rs) (fun w hw => hw.sub (.cons_cons _ (.cons_cons _ (.cons _ (.cons _ (.cons _ (.cons _ (List.Sublist.refl _)))))))) ?_
   refine C3 (.inr rfl) (BQ (.inr rfl) rfl ⟨⟨hV, rfl, fun x l hl => hd.ok x l (List.getElem?_eq_some_iff.1 hl).1 hl⟩, g58, rs, by simp, by simp [hd.len], fun x l r hl hr => ?_⟩)
   rw [List.getElem?_map, Option.map_eq_some_iff] at hr
   obtain ⟨p, hp, rfl⟩ := hr
   exact hd.row x l p (List.getElem?_eq_some_iff.1 hl).1 hl hp
/-- rot.From: the rotation, or a fault. -/
theorem FL {N : Int} {es : List Pr} {ls : List (List Int)} {va v : Value} {w : World} (hg : PrV w va es) (hl : LsV w v ls) :
  Calls Tryz.prog 94 #[.agg #[.int .i64 N, va], v] w (Ret w [] fun r M =>
   (RotOk N es ls ∧ ∃ g rs, r = .tuple #[.slice (some ⟨g, 0, none⟩) N.toNat N.toNat, .int .i64 0, .int .i64 0] ∧ M = [blk g 44 (rowsV rs).toArray] ++ rowsC 3 rs ∧ RotR es ls (rs.map Prod.snd)) ∨
   (¬ RotOk N es ls ∧ M = [] ∧ ∃ x e, r = .tuple #[.slice none 0 0, .int .i64 x, .int .i64 e] ∧ e ≠ 0)) := by
 have hg0 := hg
 have hl0 := hl
 obtain ⟨A, cap, rfl, hr, hlc, hcm, hle⟩ := hg
 obtain ⟨B, capb, rfl, hrb, hlb, hcb, hleb⟩ := hl
 refine At (args := [_, _]) (L := []) Tryz.func94 rfl Tryz.ntmps94 rfl (Own.start _ _) ?_
 refine Zs ?_
 refine Zw (AS rfl rfl rfl) fun g2 => ?_
 refine Zw (AS rfl rfl rfl) fun g3 => ?_
 refine Za ?_
 refine Za ?_
 refine Za ?_
 refine Zx <| Zs ?_
 refine Zw (AH rfl ze59 rfl) fun g7 => ?_
 refine Zx <| DC.seq ?_
 refine DC.own (M := [blk g7 59 #[.slice none 0 0], blk g3 25 #[.slice B ls.length capb], blk g2 24 #[.int .i64 N, .slice A es.length cap]]) (fun w hw => hw) ?_
 refine DC.region ?_
 refine Zo (Fr rfl rfl rfl) ?_
 refine Seq.gen rfl rfl (BA en112 rfl rfl rfl (Lc := [blk g7 59 #[.slice none 0 0], blk g3 25 #[.slice B ls.length capb], blk g2 24 #[.int .i64 N, .slice A es.length cap]]) (F := []) (.refl _) (fun k hk => hk)
  (fun w' hw => E7 (cap := #[.pointer (some ⟨g2, 0, none⟩), .pointer (some ⟨g3, 0, none⟩), .pointer (some ⟨g7, 0, none⟩)]) (C := fun M => RotOk N es ls ∧ ∃ (g : Nat) (rs : RL), M = [blk g7 59 #[.slice (some ⟨g, 0, none⟩) N.toNat N.toNat], blk g 44 (rowsV rs).toArray] ++ rowsC 3 rs ∧ RotR es ls (rs.map Prod.snd))
   (D := fun v e M => e ≠ 0 ∧ ¬ RotOk N es ls) en118 hw.self (fun w'' hw'' => JU hg0 hl0 (by simpa using Own.frame (F := []) (by simpa using hw) hw'' (fun k hk => hk))))) ?_
 rintro v12 _ ⟨M, hC, rfl⟩
 have hD : (∃ v e, v12 = .tuple #[.int .i64 v, .int .i64 e] ∧ ((v = 0 ∧ e = 0 ∧ RotOk N es ls ∧ ∃ g rs, M = [blk g7 59 #[.slice (some ⟨g, 0, none⟩) N.toNat N.toNat], blk g 44 (rowsV rs).toArray] ++ rowsC 3 rs ∧ RotR es ls (rs.map Prod.snd)) ∨ (e ≠ 0 ∧ ¬ RotOk N es ls))) := by
  rcases hC with ⟨rfl, hC⟩ | ⟨v, e, rfl, hC⟩
  ·exact ⟨0, 0, rfl, .inl ⟨rfl, rfl, hC⟩⟩
  ·exact ⟨v, e, rfl, .inr hC⟩
 clear hC
 obtain ⟨xv, xe, rfl, hD⟩ := hD
 refine Zm ?_
 refine Ze ?_
 refine Ze ?_
 refine Za ?_
 refine Za ?_
 refine Zx <| DC.seq <| Zs ?_
 refine Zm ?_
 refine Zo (BS rfl rfl rfl) ?_
 refine Zx ?_
 refine Zd (fun c3 => ?_) fun c3 => ?_
 ·have hbad : xe ≠ 0 ∧ ¬ RotOk N es ls := by
   rcases hD with ⟨_, h0, _⟩ | h
   ·subst h0; simp at c3
   ·exact h
  refine Zs ?_
  refine Zm ?_
  refine Zm ?_
  refine Za ?_
  refine Za ?_
  refine Za ?_
  refine Zx <| DC.ret <| Aa ?_
  refine Fin.weak (E' := [(4, _), (5, _), (6, _)]) ⟨rfl, rfl, rfl, trivial⟩ .nil ?_
  refine BG (.inl rfl) rfl rfl rfl rfl ?_
  exact .inr ⟨hbad.2, rfl, xv, xe, rfl, hbad.1⟩
 ·have h0 : xe = 0 := by simpa using c3
  obtain ⟨_, _, hok, g, rs, rfl, hrr⟩ := hD.resolve_right (fun h => h.1 h0)
  simp only [List.cons_append, List.nil_append, List.append_nil]
  refine DC.skip <| Fin.then <| Zs ?_
  refine Zl ag59 ?_
  refine Za ?_
  refine Za ?_
  refine Za ?_
  refine Zx <| DC.ret ?_
  refine Fin.weak (E' := [(4, _), (5, _), (6, _)]) ⟨rfl, rfl, rfl, trivial⟩ (.cons 1 rfl (Pick.all _)) ?_
  refine Fin.own (M := blk g 44 (rowsV rs).toArray :: rowsC 3 rs) (fun w hw => hw.sub (.cons_cons _ (.cons _ (List.Sublist.refl _)))) ?_
  refine BG (.inl rfl) rfl rfl rfl rfl ?_
  exact .inl ⟨hok, g, rs, rfl, by simp, hrr⟩
def oneA (i : Nat) : Nat → Int := fun x => if x < i then 1 else 0
def idA (i : Nat) : Nat → Int := fun x => if x < i then (x : Int) else 0
theorem idA_next (i : Nat) (x : Nat) : upd (idA i) i (i : Int) x = idA (i + 1) x := by unfold upd idA; split <;> split <;> (try split) <;> omega
theorem oneA_next (i : Nat) (x : Nat) : upd (oneA i) i 1 x = oneA (i + 1) x := by unfold upd oneA; split <;> split <;> (try split) <;> omega
theorem New_sets {n : Nat} (hn : n ≤ 1048576) {w : World} : Calls Tryz.prog 175 #[.int .i64 n] w (Ret w [] fun r M =>
  ∃ gp g1 g2 sz, r = .tuple #[.pointer (some ⟨gp, 0, none⟩), .int .i64 0] ∧ sz.length = n ∧ M = setsL gp g1 g2 n (fun a => a) sz n) := by
 refine At (args := [_]) (L := []) Tryz.func175 rfl Tryz.ntmps175 rfl (Own.start _ _) ?_
 refine Zs ?_
 refine Za ?_
 refine Za ?_
 refine Zx <| DC.seq <| Zs ?_
 refine Zm ?_
 refine Zc ?_
 refine Zm ?_
 refine Seq.split 8 rfl (fun k1_2 => ?_) (fun k1_2 => ?_)
 ·refine Zk ?_
  refine Zk ?_
  refine Zt ?_
  refine Zx ?_
  refine AM rfl ?_
  refine Zs ?_
  refine Za ?_
  refine Za ?_
  refine Zx <| DC.ret <| Aa ?_
  refine AJ (.inl rfl) rfl rfl rfl ?_
  simp at k1_2; omega
 ·refine Zm ?_
  refine Zo (BH rfl rfl rfl) ?_
  refine Zg ?_
  refine Zx ?_
  refine Zd (fun c1 => ?_) fun c1 => ?_
  ·refine Zs ?_
   refine Za ?_
   refine Za ?_
   refine Zx <| DC.ret <| Aa ?_
   refine AJ (.inl rfl) rfl rfl rfl ?_
   simp at c1; omega
  ·refine DC.skip <| Fin.then <| DC.seq ?_
   refine AG (cl := [.q, .n, .q, .n, .q, .q, .n, .q]) (A := [0, 1, 0, 4, 0, 31, 63, 127]) (order := [0, 2, 4, 1, 3, 5, 6, 7]) [] mixed (by kernel_rfl) (fun w hw => hw.pick .nil) ?_
   refine Ym ?_
   refine Ym ?_
   refine Ym ?_
   refine AY rfl rfl rfl rfl (BI (k := n) rfl rfl rfl Tryz.underlying261 AN DP B6 rfl (by omega) (by omega) (B4 n)) fun g13 => ?_
   refine AY rfl rfl rfl rfl (BI (k := n) rfl rfl rfl Tryz.underlying44 AN DP B6 rfl (by omega) (by omega) (B4 n)) fun g15 => ?_
   refine Yo rfl (AD (cs := #[_, _, _]) rfl rfl bs263 rfl rfl) ?_
   refine AY rfl rfl rfl rfl (AS rfl rfl rfl) fun g18 => ?_
   refine Yo rfl (Aw rfl rfl) ?_
   refine Flow.end rfl ?_
   simp only [zq, zr]
   refine Fin.then <| DC.seq <| Zs ?_
   refine Zm ?_
   refine Zm ?_
   refine Zx <| DC.block ?_
   refine DC.loop (ι := Nat) (fun i => i ≤ n)
    (fun i => [(4, .pointer (some ⟨g18, 0, none⟩)), (19, .int .i64 n), (20, .int .i64 i)])
    (fun i => [blk g18 263 #[.slice (some ⟨g13, 0, none⟩) n n, .slice (some ⟨g15, 0, none⟩) n n, .int .i64 n], blk g15 3 (ints (tab n (oneA i))).toArray, blk g13 3 (ints (tab n (idA i))).toArray]) (fun i => n - i) 0 (Nat.zero_le _) ⟨rfl, rfl, rfl, trivial⟩
    (.cons 0 rfl (.cons' 0 rfl (CO fun x _ => by simp [oneA]) (.cons' 0 rfl (CO fun x _ => by simp [idA]) .nil))) ?_
   intro i hi
   refine Zs ?_
   refine Zc ?_
   refine Zx <| DC.seq ?_
   refine Zd (fun c5 => ?_) fun c5 => ?_
   ·have hlt : i < n := by simpa using c5
    refine DC.skip <| Fin.then <| DC.seq <| DC.block <| Zs ?_
    refine Zm ?_
    refine Za ?_
    refine Zx ?_
    refine AG (cl := [.q, .q, .q, .q, .q, .q, .q, .q, .q, .q, .q, .q, .g, .q, .g]) (A := [0, 1, 3, 7, 0, 0, 32, 96, 224, 0, 0, 1535, 3583, 8191, 16383]) (order := [0, 1, 2, 3, 4, 5, 6, 7, 8, 9, 10, 11, 12, 13, 14]) ([blk g18 263 #[.slice (some ⟨g13, 0, none⟩) n n, .slice (some ⟨g15, 0, none⟩) n n, .int .i64 n]]) mixed (by kernel_rfl) (fun w hw => hw.pick (.cons 0 rfl .nil)) ?_
    refine Ym ?_
    refine Yo rfl (AK rfl rfl) ?_
    refine Yf DA ?_
    refine Flow.old rfl rfl rfl (Ah rfl rfl GW (BD rfl)) ?_
    refine Ym ?_
    refine Ym ?_
    refine Yo rfl (AK rfl rfl) ?_
    refine Yf Ih ?_
    refine Flow.old rfl rfl rfl (Ah rfl rfl Bo (BD rfl)) ?_
    refine Ym ?_
    refine Ym ?_
    refine Yo rfl (Ai rfl rfl rfl Tryz.underlying261 AN (by omega) (by omega) (by first | exact AC _ _ | exact AW _ _ _ | rfl)) ?_
    refine AL rfl rfl rfl rfl (AF (cs' := (ints (tab n (idA (i + 1)))).toArray) rfl rfl rfl AN rfl (by simp; omega) (by rw [BL]; exact congrArg (fun l => (ints l).toArray) (Co fun x _ => idA_next i x))) (fun w hw => hw.pick (.cons 0 rfl .nil)) ?_
    refine Yo rfl (Ai rfl rfl rfl Tryz.underlying44 AN (by omega) (by omega) (by first | exact AC _ _ | exact AW _ _ _ | rfl)) ?_
    refine AL rfl rfl rfl rfl (AF (cs' := (ints (tab n (oneA (i + 1)))).toArray) rfl rfl rfl AN rfl (by simp; omega) (by rw [BL]; exact congrArg (fun l => (ints l).toArray) (Co fun x _ => oneA_next i x))) (fun w hw => hw.pick (.cons 0 rfl .nil)) ?_
    refine Flow.end rfl ?_
    simp only [zq, zr]
    refine Fin.inBlock <| Fin.then <| DC.region ?_
    refine Zp ?_
    refine Zm ?_
    refine Seq.nil ?_
    refine Fin.again (i + 1) (by omega) (by omega) ⟨rfl, rfl, rfl, trivial⟩ (Pick.all _)
   ·refine DC.exit <| Ad <| Ad <| Ag <| Fin.then <| Zs ?_
    refine Zm ?_
    refine Za ?_
    refine Za ?_
    refine Zx <| DC.ret ?_
    have hin : i = n := by simp at c5; omega
    subst hin
    refine Fin.weak (E' := [(2, _), (3, _)]) ⟨rfl, rfl, trivial⟩ (.cons 0 rfl (.cons 1 rfl (.cons 0 rfl .nil))) ?_
    refine AJ (.inl rfl) rfl rfl rfl ?_
    refine ⟨g18, g13, g15, tab i (oneA i), rfl, by simp, ?_⟩
    unfold setsL
    rw [CO (f := idA i) (g := nat fun a => a) fun x hx => by unfold idA nat; rw [if_pos hx]]
/-- Numbers of the sets. -/
structure NumI where
 a : Nat
 c : Nat
 p : Nat → Nat
 f : Nat → Int
def Labels (r : Nat → Nat) (a c : Nat) (f : Nat → Int) : Prop :=
 (∀ x, x < a → 0 ≤ f x ∧ f x < c) ∧ (∀ x y, x < a → y < a → (f x = f y ↔ r x = r y)) ∧ (c : Int) = ((List.range a).countP fun x => r x = x) ∧ c ≤ a
theorem G7 {gp g1 g2 n : Nat} {p : Nat → Nat} {sz : List Int} {c : Int} {w : World} (hO : Own w (idsOf (setsL gp g1 g2 n p sz c)) w (setsL gp g1 g2 n p sz c)) (hp : Down p) (hn : n ≤ 1048576) :
  Calls Tryz.prog 177 #[.pointer (some ⟨gp, 0, none⟩)] w (Ret w (idsOf (setsL gp g1 g2 n p sz c)) fun r M =>
   ∃ g k f, r = .tuple #[.slice (some ⟨g, 0, none⟩) n n, .int .i64 (k : Nat)] ∧ Labels (rt p) n k f ∧ M = [blk g 3 (ints (tab n f)).toArray]) := by
 refine At (args := [_]) Tryz.func177 rfl Tryz.ntmps177 rfl hO ?_
 unfold setsL
 refine Zs ?_
 refine Za ?_
 refine Za ?_
 refine Zx <| Zs ?_
 refine Zm ?_
 refine Zo (AK rfl rfl) ?_
 refine Zf DA ?_
 refine Zl GW ?_
 refine Zn Tryz.underlying261 ?_
 refine Zw (BI (k := n) rfl rfl rfl Tryz.underlying44 AN DP B6 rfl (by omega) (by omega) (B4 n)) fun g13 => ?_
 refine Za ?_
 refine Zx <| Zs ?_
 refine Za ?_
 refine Zx <| DC.seq <| Zs ?_
 refine Zm ?_
 refine Zn Tryz.underlying44 ?_
 refine Zm ?_
 refine Zx <| DC.block ?_
 refine DC.loop (ι := NumI) (fun j => j.a ≤ n ∧ Down j.p ∧ (∀ x, rt j.p x = rt p x) ∧ Labels (rt p) j.a j.c j.f)
  (fun j => [(0, .pointer (some ⟨gp, 0, none⟩)), (4, .slice (some ⟨g13, 0, none⟩) n n), (5, .int .i64 j.c), (14, .slice (some ⟨g13, 0, none⟩) n n), (15, .int .i64 n), (16, .int .i64 j.a)])
  (fun j => [blk g13 3 (ints (tab n j.f)).toArray, blk gp 263 #[.slice (some ⟨g1, 0, none⟩) n n, .slice (some ⟨g2, 0, none⟩) n n, .int .i64 c], blk g1 3 (ints (tab n (nat j.p))).toArray]) (fun j => n - j.a) ⟨0, 0, p, fun _ => 0⟩
  ⟨Nat.zero_le _, hp, fun _ => rfl, by simp, by simp, by simp, Nat.le_refl _⟩ ⟨rfl, rfl, rfl, rfl, rfl, rfl, trivial⟩ (.cons 0 rfl (.cons 0 rfl (.cons 0 rfl .nil))) ?_
 rintro ⟨a, k, q, f⟩ ⟨ha, hq, hqr, hL1, hL2, hL3, hL4⟩
 dsimp only at ha hq hqr hL1 hL2 hL3 hL4 ⊢
 refine Zs ?_
 refine Zc ?_
 refine Zx <| DC.seq ?_
 refine Zd (fun c4 => ?_) fun c4 => ?_
 ·have hlt : a < n := by simpa using c4
  refine DC.skip <| Fin.then <| DC.seq <| DC.block <| Zs ?_
  refine Zm ?_
  refine Za ?_
  refine Zx <| DC.seq <| Zs ?_
  refine Zm ?_
  refine Zo (AK rfl rfl) ?_
  refine Zf DA ?_
  refine Zl GW ?_
  refine Zm ?_
  refine Seq.gen rfl rfl (BA en191 rfl rfl rfl (Lc := [blk g1 3 (ints (tab n (nat q))).toArray]) (F := [blk g13 3 (ints (tab n f)).toArray, blk gp 263 #[.slice (some ⟨g1, 0, none⟩) n n, .slice (some ⟨g2, 0, none⟩) n n, .int .i64 c]]) (List.perm_append_comm (l₁ := [_, _]) (l₂ := [_])) (fun k hk => by simpa [blk] using hk) (fun w hw => EC (hw.pick (.cons 2 rfl .nil)).self hq hlt hn)) ?_
  rintro _ _ ⟨_, ⟨rfl, q2, hq2, hqr2, rfl⟩, rfl⟩
  simp only [List.cons_append, List.nil_append]
  rw [hqr a]
  have hle := IT p a
  have hidem : rt p (rt p a) = rt p a := rt_idem hp a
  obtain ⟨r, hr⟩ : ∃ r, r = rt p a := ⟨_, rfl⟩
  rw [← hr] at hle hidem ⊢
  have hcnt : ∀ (b : Bool), decide (rt p a = a) = b → (List.range (a + 1)).countP (fun x => rt p x = x) = (List.range a).countP (fun x => rt p x = x) + (if b then 1 else 0) := by
   intro b hb
   rw [List.range_succ, List.countP_append]
   subst hb
   simp [List.countP_cons]
  refine Za ?_
  refine Zx <| Zs ?_
  refine Zm ?_
  refine Zm ?_
  refine Zc ?_
  refine Zx ?_
  refine Zd (fun c7 => ?_) fun c7 => ?_
  ·have hra : r < a := by simpa using c7
   refine Zs ?_
   refine Zm ?_
   refine Zm ?_
   refine Zm ?_
   refine Zm ?_
   refine Zi Tryz.underlying44 AN ?_
   refine Zu (Ah rfl rfl AO (AU (Bk (by omega)))) ?_
   refine Zi Tryz.underlying44 AN ?_
   refine Zy (AF (cs' := (ints (tab n (upd f a (f r)))).toArray) rfl rfl rfl AN rfl (by simp; omega) BL) ?_
   refine Zx <| DC.exit <| Ad <| Ag <| Fin.then <| DC.region ?_
   refine Zp ?_
   refine Zm ?_
   refine Seq.nil ?_
   refine Fin.again (NumI.mk (a + 1) k q2 (upd f a (f r))) (by dsimp only; omega) ⟨by dsimp only; omega, hq2, fun x => by rw [hqr2, hqr], ?_, ?_, ?_, by dsimp only; omega⟩ ⟨rfl, rfl, rfl, rfl, rfl, rfl, trivial⟩ (.cons 1 rfl (.cons 1 rfl (.cons 0 rfl .nil)))
   ·intro x hx
    dsimp only at hx ⊢
    unfold upd
    split
    ·exact hL1 r hra
    ·exact hL1 x (by omega)
   ·intro x y hx hy
    dsimp only at hx hy ⊢
    unfold upd
    by_cases e1 : x = a
    ·by_cases e2 : y = a
     ·subst e1 e2; simp
     ·rw [if_pos e1, if_neg e2, hL2 r y hra (by omega), hidem, e1, ← hr]
    ·by_cases e2 : y = a
     ·rw [if_neg e1, if_pos e2, hL2 x r (by omega) hra, hidem, e2, ← hr]
     ·rw [if_neg e1, if_neg e2]; exact hL2 x y (by omega) (by omega)
   ·dsimp only
    rw [hcnt false (by simp; omega)]; simpa using hL3
  ·have hra : r = a := by simp at c7; omega
   subst hra
   refine DC.skip <| Fin.then <| Zs ?_
   refine Zm ?_
   refine Zm ?_
   refine Zm ?_
   refine Zi Tryz.underlying44 AN ?_
   refine Zy (AF (cs' := (ints (tab n (upd f r (k : Int)))).toArray) rfl rfl rfl AN rfl (by simp; omega) BL) ?_
   refine Zx <| DC.region ?_
   refine Zm ?_
   refine Zp ?_
   refine Za ?_
   refine Seq.nil <| Fin.inBlock <| Fin.then <| DC.region ?_
   refine Zp ?_
   refine Zm ?_
   refine Seq.nil ?_
   refine Fin.again (NumI.mk (r + 1) (k + 1) q2 (upd f r (k : Int))) (by dsimp only; omega) ⟨by dsimp only; omega, hq2, fun x => by rw [hqr2, hqr], ?_, ?_, ?_, by dsimp only; omega⟩ ⟨rfl, rfl, rfl, rfl, rfl, rfl, trivial⟩ (.cons 1 rfl (.cons 1 rfl (.cons 0 rfl .nil)))
   ·intro x hx
    dsimp only at hx ⊢
    unfold upd
    split
    ·omega
    ·have := hL1 x (by omega); omega
   ·intro x y hx hy
    dsimp only at hx hy ⊢
    unfold upd
    by_cases e1 : x = r
    ·by_cases e2 : y = r
     ·subst e1 e2; simp
     ·rw [if_pos e1, if_neg e2, e1, ← hr]
      have h1 := hL1 y (by omega)
      have h2 := IT p y
      constructor
      ·intro h; omega
      ·intro h; omega
    ·by_cases e2 : y = r
     ·rw [if_neg e1, if_pos e2, e2, ← hr]
      have h1 := hL1 x (by omega)
      have h2 := IT p x
      constructor
      ·intro h; omega
      ·intro h; omega
     ·rw [if_neg e1, if_neg e2]; exact hL2 x y (by omega) (by omega)
   ·dsimp only
    rw [hcnt true (by simp; omega)]; simp at hL3 ⊢; omega
 ·refine DC.exit <| Ad <| Ad <| Ag <| Fin.then <| Zs ?_
  refine Zm ?_
  refine Zm ?_
  refine Za ?_
  refine Za ?_
  refine Zx <| DC.ret ?_
  have han : a = n := by simp at c4; omega
  subst han
  refine Fin.weak (E' := [(2, _), (3, _)]) ⟨rfl, rfl, trivial⟩ (.cons 0 rfl .nil) ?_
  refine AJ (.inl rfl) rfl rfl rfl ?_
  exact ⟨g13, k, f, rfl, ⟨hL1, hL2, hL3, hL4⟩, rfl⟩
structure OfI where
 i : Nat
 p : Nat → Nat
 sz : List Int
 c : Int
theorem Of_calls {n : Nat} {es : List Pr} {va : Value} {w : World} (hg : PrV w va es) (hV : Vld n es) :
  Calls Tryz.prog 153 #[.agg #[.int .i64 n, va]] w (Ret w [] fun r M =>
   ∃ g k f q, r = .tuple #[.slice (some ⟨g, 0, none⟩) n n, .int .i64 (k : Nat), .int .i64 0] ∧ Down q ∧ Parts es (rt q) ∧ Labels (rt q) n k f ∧ M = [blk g 3 (ints (tab n f)).toArray]) := by
 have hg0 := hg
 obtain ⟨A, cap, rfl, hr, hlc, hcm, hle⟩ := hg
 have hN1 : n ≤ 1048576 := by have := hV.hi; omega
 refine At (args := [_]) (L := []) Tryz.func153 rfl Tryz.ntmps153 rfl (Own.start _ _) ?_
 refine Zs ?_
 refine Zw (AS rfl rfl rfl) fun g1 => ?_
 refine Za ?_
 refine Za ?_
 refine Za ?_
 refine Zx <| DC.seq <| Zs ?_
 refine Zu (Ay (vs := [_, _]) rfl rfl Bj Bc rfl (Ak rfl)) ?_
 refine Seq.rel0 rfl rfl (Aq KF rfl rfl rfl (fun w' hw => Cg (hg0.keep0 hw))) ?_
 rintro _ ⟨b, rfl, hb⟩
 refine Zo (Bh rfl rfl) ?_
 refine Zx ?_
 refine Zd (fun c1 => ?_) fun c1 => ?_
 ·refine Zs ?_
  refine Za ?_
  refine Za ?_
  refine Za ?_
  refine Zx <| DC.ret <| Aa ?_
  refine BG (.inl rfl) rfl rfl rfl rfl ?_
  exact absurd (hb.2 hV) (by simpa using c1)
 ·refine DC.skip <| Fin.then <| Zs ?_
  refine Zf BF ?_
  refine Zl AO ?_
  refine Seq.rel rfl rfl (Aq en175 rfl rfl rfl (fun w' hw => New_sets hN1)) ?_
  rintro _ _ ⟨gp, ga, gb, sz, rfl, hsz, rfl⟩
  simp only [setsL, List.cons_append, List.nil_append]
  refine Zm ?_
  refine Ze ?_
  refine Ze ?_
  refine Za ?_
  refine Za ?_
  refine Zx <| DC.seq <| Zs ?_
  refine Zf Be ?_
  refine Zl BO ?_
  refine Zn Tryz.underlying22 ?_
  refine Zm ?_
  refine Zx <| DC.block ?_
  refine DC.loop (ι := OfI) (fun j => j.i ≤ es.length ∧ Down j.p ∧ j.sz.length = n ∧ Parts (es.take j.i) (rt j.p))
   (fun j => [(5, .pointer (some ⟨gp, 0, none⟩)), (21, .slice A es.length cap), (22, .int .i64 es.length), (23, .int .i64 j.i)])
   (fun j => setsL gp ga gb n j.p j.sz j.c) (fun j => es.length - j.i) ⟨0, fun a => a, sz, n⟩ ⟨Nat.zero_le _, fun _ => Nat.le_refl _, hsz, FI (fun x => (ES (p := fun a => a) rfl).symm) LY⟩ ⟨rfl, rfl, rfl, rfl, trivial⟩ (.cons 0 rfl (.cons 0 rfl (.cons 0 rfl .nil))) ?_
  rintro ⟨i, p, sz', c⟩ ⟨hi, hp, hs, hP⟩
  dsimp only at hi hp hs hP ⊢
  refine Zs ?_
  refine Zc ?_
  refine Zx <| DC.seq ?_
  refine Zd (fun c5 => ?_) fun c5 => ?_
  ·have hlt : i < es.length := by simpa using c5
   obtain ⟨e, he⟩ : ∃ e, es[i]? = some e := ⟨_, List.getElem?_eq_getElem hlt⟩
   obtain ⟨ad, rfl, hU, hVe⟩ := hr.pair he
   have ho := hV.ok i e he
   obtain ⟨u, hu⟩ := Int.eq_ofNat_of_zero_le ho.lo
   obtain ⟨v, hv⟩ := Int.eq_ofNat_of_zero_le (show 0 ≤ e.2 by have := ho.lo; have := ho.lt; omega)
   obtain rfl : e = ((u : Int), (v : Int)) := Prod.ext hu hv
   clear hu hv
   have huv : u < v := by have := ho.lt; simp at this; exact this
   have hvN : v < n := by have := ho.hi; simp at this; exact this
   replace hU : w.cell? (ad.add (i * 2)) = some (.int .i64 (u : Int)) := hU
   replace hVe : w.cell? (ad.add (i * 2 + 1)) = some (.int .i64 (v : Int)) := hVe
   refine DC.skip <| Fin.then <| DC.seq <| DC.block <| Zs ?_
   refine Zo (AQ rfl rfl rfl Tryz.underlying22 Bb (by omega) (by omega) (by first | exact AC _ _ | exact AW _ _ _ | rfl)) ?_
   refine Zu (Ay (vs := [_, _]) rfl rfl CP Bb rfl (CD hU hVe (by simp))) ?_
   refine Zw (AH rfl CI rfl) fun g8 => ?_
   refine Zy (AA (cs' := #[_, _]) rfl rfl rfl Bb rfl (Nat.le_of_ble_eq_true rfl) rfl) ?_
   refine Zx <| DC.region ?_
   refine Zm ?_
   refine Zf Bd ?_
   refine Zl AO ?_
   refine Zf Bu ?_
   refine Zl AO ?_
   refine Seq.gen rfl rfl (BA en176 rfl rfl rfl (Lc := setsL gp ga gb n p sz' c) (F := [blk g8 43 #[.int .i64 u, .int .i64 v]]) (List.perm_append_comm (l₁ := [_]) (l₂ := setsL gp ga gb n p sz' c)) (fun k hk => hk) (fun w' hw => KU (hw.sub (List.sublist_cons_self ..)).self hp (by omega) hvN hN1 hs hP)) ?_
   rintro _ _ ⟨_, ⟨q, sz2, c2, hq, hs2, hP2, rfl⟩, rfl⟩
   refine Seq.nil <| Fin.inBlock <| Fin.then <| DC.region ?_
   refine Zp ?_
   refine Zm ?_
   refine Seq.nil ?_
   refine Fin.again (OfI.mk (i + 1) q sz2 c2) (by dsimp only; omega) ⟨by dsimp only; omega, hq, hs2, ?_⟩ ⟨rfl, rfl, rfl, rfl, trivial⟩ (.cons 0 rfl (.cons 0 rfl (.cons 0 rfl .nil)))
   dsimp only
   rw [List.take_add_one, he]
   exact hP2
  ·refine DC.exit <| Ad <| Ad <| Ag <| Fin.then <| DC.seq ?_
   have hie : i = es.length := by simp at c5; omega
   subst hie
   rw [List.take_length] at hP
   refine DC.region ?_
   refine Zm ?_
   refine Seq.gen rfl rfl (BA en177 rfl rfl rfl (Lc := setsL gp ga gb n p sz' c) (F := []) (by rw [List.append_nil]) (fun k hk => hk) (fun w' hw => G7 hw.self hp hN1)) ?_
   rintro _ _ ⟨_, ⟨g, k, f, rfl, hL, rfl⟩, rfl⟩
   refine Zm ?_
   refine Ze ?_
   refine Ze ?_
   refine Za ?_
   refine Za ?_
   refine Zx <| Zs ?_
   refine Zm ?_
   refine Zm ?_
   refine Za ?_
   refine Za ?_
   refine Za ?_
   refine Zx <| DC.ret ?_
   refine BG (.inl rfl) rfl rfl rfl rfl ?_
   exact ⟨g, k, f, p, rfl, hp, hP, hL, rfl⟩
theorem Lt : ∀ (a b : List Pr), frs (a ++ b) = frs a ++ frs b
 | [], b => rfl
 | e :: r, b => by simp [frs, Lt r b]
structure BegI where
 i : Nat
 v : Value
theorem E8 {N : Int} {es : List Pr} {va : Value} {w : World} (hg : PrV w va es) (hl : es.length ≤ 4194304) :
  Calls Tryz.prog 88 #[.agg #[.int .i64 N, va]] w (Ret w [] fun v M => M = [slc v 3 1 (ints (frs es))]) := by
 obtain ⟨A, cap, rfl, hr, hlc, hcm, hle⟩ := hg
 refine At (args := [_]) (L := []) Tryz.func88 rfl Tryz.ntmps88 rfl (Own.start _ _) ?_
 refine Zs ?_
 refine Zw (AS rfl rfl rfl) fun g1 => ?_
 refine Za ?_
 refine Zx <| Zs ?_
 refine Zf Be ?_
 refine Zl BO ?_
 refine Zn Tryz.underlying22 ?_
 refine Zo (Cb rfl rfl rfl (by omega)) ?_
 refine Zw (Le (l := 0) (k := 2 * es.length) rfl rfl rfl Tryz.underlying44 AN DP B6 rfl (by omega) (by omega) (by omega) (by omega) (CV _ rfl _)) fun g10 => ?_
 refine Za ?_
 refine Zx <| DC.seq <| Zs ?_
 refine Zf Be ?_
 refine Zl BO ?_
 refine Zn Tryz.underlying22 ?_
 refine Zm ?_
 refine Zx <| DC.block ?_
 refine DC.weak (E' := [(3, .slice (some ⟨g10, 0, none⟩) 0 (2 * es.length)), (12, .slice A es.length cap), (13, .int .i64 es.length), (14, .int .i64 0)]) ⟨rfl, rfl, rfl, rfl, trivial⟩ (.cons 0 rfl .nil) ?_
 refine DC.own (fun w hw => B7 (vs := []) (m := 1) (len := 0) (cap := 2 * es.length) rfl (by decide) (by omega) (by omega) (by simp) rfl hw) ?_
 refine DC.loop (ι := BegI) (fun j => j.i ≤ es.length)
  (fun j => [(3, j.v), (12, .slice A es.length cap), (13, .int .i64 es.length), (14, .int .i64 j.i)])
  (fun j => [slc j.v 3 1 (ints (frs (es.take j.i)))]) (fun j => es.length - j.i) ⟨0, _⟩ (Nat.zero_le _) ⟨rfl, rfl, rfl, rfl, trivial⟩ (.cons 0 rfl .nil) ?_
 rintro ⟨i, v⟩ hi
 dsimp only at hi ⊢
 refine Zs ?_
 refine Zc ?_
 refine Zx <| DC.seq ?_
 refine Zd (fun c3 => ?_) fun c3 => ?_
 ·have hlt : i < es.length := by simpa using c3
  obtain ⟨e, he⟩ : ∃ e, es[i]? = some e := ⟨_, List.getElem?_eq_getElem hlt⟩
  obtain ⟨ad, rfl, hU, hV⟩ := hr.pair he
  refine DC.skip <| Fin.then <| DC.seq <| DC.block <| Zs ?_
  refine Zo (AQ rfl rfl rfl Tryz.underlying22 Bb (by omega) (by omega) (by first | exact AC _ _ | exact AW _ _ _ | rfl)) ?_
  refine Zu (Ay (vs := [_, _]) rfl rfl CP Bb rfl (CD hU hV (by simp))) ?_
  refine Zw (AH rfl CI rfl) fun g5 => ?_
  refine Zy (AA (cs' := #[_, _]) rfl rfl rfl Bb rfl (Nat.le_of_ble_eq_true rfl) rfl) ?_
  refine Zx <| DC.region ?_
  refine Zm ?_
  refine Zf Bd ?_
  refine Zl AO ?_
  refine Zf Bu ?_
  refine Zl AO ?_
  refine Zw (AP (cs := #[_, _]) rfl rfl Tryz.underlying44 AN B6 rfl (by decide) (by decide) rfl rfl) fun g23 => ?_
  refine Seq.gen rfl rfl (AR rfl rfl rfl Tryz.underlying44 AN DP B6 rfl (by decide) (by decide) (fun w hw => hw.pick (.cons 2 rfl .nil)) (.inl ⟨_, _, rfl, Ak rfl⟩) rfl (Br [e.1, e.2] []) (by simp [Ba]; omega)) ?_
  rintro v24 _ rfl
  refine Za ?_
  refine Seq.nil <| Fin.inBlock <| Fin.then <| DC.region ?_
  refine Zp ?_
  refine Zm ?_
  refine Seq.nil ?_
  refine Fin.again ⟨i + 1, v24⟩ (by dsimp only; omega) (by dsimp only; omega) ⟨rfl, rfl, rfl, rfl, trivial⟩ (.cons' 0 rfl (by dsimp only; rw [List.take_add_one, he]; simp [Lt, frs, ints]) .nil)
 ·refine DC.exit <| Ad <| Ad <| Ag <| Fin.then <| Zs ?_
  refine Zm ?_
  refine Za ?_
  refine Zx <| DC.ret ?_
  refine Aj (.inl rfl) rfl rfl ?_
  have hin : i = es.length := by simp at c3; omega
  subst hin
  rw [List.take_length]
/-! ### a row of bools -/
def bls (n : Nat) (f : Nat → Bool) : List Value := (List.range n).map fun i => .bool (f i)
@[simp] theorem bls_length (n : Nat) (f : Nat → Bool) : (bls n f).length = n := by simp [bls]
theorem DI {n i : Nat} (f : Nat → Bool) (h : i < n) : (bls n f).toArray[i]? = some (.bool (f i)) := by simp [bls, h]
def updB (f : Nat → Bool) (a : Nat) (b : Bool) : Nat → Bool := fun i => if i = a then b else f i
theorem DH {n a : Nat} (f : Nat → Bool) (b : Bool) : (bls n f).toArray.setIfInBounds a (.bool b) = (bls n (updB f a b)).toArray := by
 rw [List.setIfInBounds_toArray]
 congr 1
 apply List.ext_getElem?
 intro q
 rw [List.getElem?_set]
 by_cases hq : a = q
 ·subst hq
  by_cases h : a < n
  ·simp [bls, h, updB]
  ·simp [bls, h]
 ·rw [if_neg hq]
  by_cases h : q < n
  ·simp [bls, h, updB, Ne.symm hq]
  ·simp [bls, h]
theorem Dg (n : Nat) : madeCells (Value.bool false).cells (n * 1) = (bls n fun _ => false).toArray := by
 rw [CV _ rfl]
 congr 1
 simp [bls, List.map_const']
structure ChkI where
 v : Nat
 f : Nat → Bool
structure ChkD (N : Int) (es : List Pr) (rs : List (List Int)) (v : Nat) (f : Nat → Bool) : Prop where
 ok : ∀ (x : Nat) l, x < v → rs[x]? = some l → (∀ h, h ∈ l → 0 ≤ h ∧ h < es.length * 2 ∧ fromV es h = x) ∧ l.Nodup ∧ (l.length : Int) = cnt es x
 seen : ∀ h, f h = true ↔ ∃ (x : Nat) (l : List Int), x < v ∧ rs[x]? = some l ∧ (h : Int) ∈ l
structure ChkP (es : List Pr) (rs : List (List Int)) (v : Nat) (l : List Int) (j : ChkI) : Prop where
 le : j.v ≤ l.length
 fr : ∀ h, h ∈ l.take j.v → 0 ≤ h ∧ h < es.length * 2 ∧ fromV es h = v
 nd : (l.take j.v).Nodup
 seen : ∀ h, j.f h = true ↔ (∃ (x : Nat) (l' : List Int), x < v ∧ rs[x]? = some l' ∧ (h : Int) ∈ l') ∨ (h : Int) ∈ l.take j.v
theorem JI {N : Int} {es : List Pr} {rs : List (List Int)} {va v : Value} {w : World} (hg : PrV w va es) (hl : LsV w v rs) :
  Calls Tryz.prog 114 #[.agg #[.int .i64 N, va], v] w (RetP w [] (fun _ M => RotL N es rs ∧ M = []) (fun pv M => ∃ x e, pv = flt x e ∧ (e ≠ 0 ∧ ¬ RotL N es rs))) := by
 have hg0 := hg
 obtain ⟨A, cap, rfl, hr, hlc, hcm, hle⟩ := hg
 obtain ⟨B, capb, rfl, hrb, hlb, hcb, hleb⟩ := hl
 refine CQ (K := []) (args := [_, _]) (L := []) Tryz.func114 rfl Tryz.ntmps114 rfl (Own.start _ _) ?_
 refine Zs ?_
 refine Zw (AS rfl rfl rfl) fun g2 => ?_
 refine Zx <| Zs ?_
 refine Zu (Ay (vs := [_, _]) rfl rfl Bj Bc rfl (Ak rfl)) ?_
 refine Seq.rel0 rfl rfl (Aq KF rfl rfl rfl (fun w' hw => Cg (hg0.keep0 hw))) ?_
 rintro _ ⟨b, rfl, hb⟩
 refine BB rfl rfl DN rfl rfl rfl (fun w' hw => Bz b 0 1 w') ?_ ?_
 ·rintro _ ⟨rfl, hbf⟩
  refine Ao <| ?_
  exact A7 ⟨0, 1, rfl, by decide, fun h => by have := hb.2 h.1; rw [hbf] at this; cases this⟩
 rintro _ hbt
 have hV : Vld N es := hb.1 hbt
 refine Zx <| Zs ?_
 refine Zm ?_
 refine Zn Tryz.underlying59 ?_
 refine Zf BF ?_
 refine Zl AO ?_
 refine Zo (AX rfl rfl rfl) ?_
 refine BB rfl rfl DN rfl rfl rfl (fun w' hw => Bz _ 0 110 w') ?_ ?_
 ·rintro _ ⟨rfl, hbf⟩
  refine Ao <| ?_
  exact A7 ⟨0, 110, rfl, by decide, fun h => by simp at hbf; exact hbf h.2.1⟩
 rintro _ hbN
 have hN : (rs.length : Int) = N := by simpa using hbN
 subst hN
 have hN1 := hV.hi
 have hfew := hV.few
 refine Zx <| Zs ?_
 refine Zu (Ay (vs := [_, _]) rfl rfl Bj Bc rfl (Ak rfl)) ?_
 refine Seq.rel rfl rfl (Aq en120 rfl rfl rfl (fun w' hw => Ex (hg0.keep0 hw))) ?_
 intro v23 L23 hC23
 obtain ⟨_, gd, rfl, rfl⟩ := hC23.resolve_right (fun h => h.1 hV)
 simp only [Int.toNat_natCast, List.cons_append, List.nil_append]
 refine Zm ?_
 refine Ze ?_
 refine Ze ?_
 refine Za ?_
 refine Za ?_
 refine Zx <| Zs ?_
 refine Zu (Ay (vs := [_, _]) rfl rfl Bj Bc rfl (Ak rfl)) ?_
 refine Seq.rel rfl rfl (Aq en88 rfl rfl rfl (fun w' hw => E8 (hg0.keep0 hw) hfew)) ?_
 rintro v27 _ rfl
 simp only [List.cons_append, List.nil_append]
 refine Za ?_
 refine Zx <| DC.seq ?_
 refine DC.slcs (i := 0) rfl (by rw [Ba]; omega) ?_
 rintro A6 c6 rfl hA6
 rw [Ba]
 refine DC.region ?_
 refine Zm ?_
 refine Zn Tryz.underlying44 ?_
 refine Zw (BI (k := es.length * 2) rfl rfl rfl Tryz.underlying188 Fe by4 ze4 (by omega) (by omega) (by omega) (Dg _)) fun g30 => ?_
 refine Za ?_
 refine Zx <| Zs ?_
 refine Zm ?_
 refine Zn Tryz.underlying59 ?_
 refine Zm ?_
 refine Zx <| DC.block ?_
 refine DC.loop (ι := ChkI) (fun j => j.v ≤ rs.length ∧ ChkD rs.length es rs j.v j.f)
  (fun j => [(4, .slice (some ⟨gd, 0, none⟩) rs.length rs.length), (6, .slice A6 (es.length * 2) c6), (7, .slice (some ⟨g30, 0, none⟩) (es.length * 2) (es.length * 2)), (31, .slice B rs.length capb), (32, .int .i64 rs.length), (33, .int .i64 j.v)])
  (fun j => [blk g30 4 (bls (es.length * 2) j.f).toArray, slc (.slice A6 (es.length * 2) c6) 3 1 (ints (frs es)), blk gd 3 (ints (tab rs.length (fun v => cnt es v))).toArray]) (fun j => rs.length - j.v) ⟨0, fun _ => false⟩
  ⟨Nat.zero_le _, fun _ _ h => absurd h (Nat.not_lt_zero _), fun h => ⟨fun e => by simp at e, fun ⟨x, l, h, _⟩ => absurd h (Nat.not_lt_zero _)⟩⟩ ⟨rfl, rfl, rfl, rfl, rfl, rfl, trivial⟩ (.cons 0 rfl (.cons 0 rfl (.cons 0 rfl .nil))) ?_
 rintro ⟨v, f⟩ ⟨hv, hd⟩
 dsimp only at hv hd ⊢
 refine Zs ?_
 refine Zc ?_
 refine Zx <| DC.seq ?_
 refine Zd (fun c7 => ?_) fun c7 => ?_
 ·have hvlt : v < rs.length := by simpa using c7
  obtain ⟨l, hl⟩ : ∃ l, rs[v]? = some l := ⟨_, List.getElem?_eq_getElem hvlt⟩
  obtain ⟨adb, lv, rfl, hc, Al, capl, rfl, hrl, hl1, hl2, hl3⟩ := hrb v l hl
  refine DC.skip <| Fin.then <| DC.seq <| DC.block <| Zs ?_
  refine Zm ?_
  refine Zi Tryz.underlying59 Bn ?_
  refine Zu (Ah rfl rfl Bo (AE hc)) ?_
  refine Za ?_
  refine Za ?_
  refine Zx <| DC.seq <| Zs ?_
  refine Zm ?_
  refine Zn Tryz.underlying44 ?_
  refine Zm ?_
  refine Zx <| DC.block ?_
  refine DC.loop (ι := ChkI) (fun j => ChkP es rs v l j)
   (fun j => [(4, .slice (some ⟨gd, 0, none⟩) rs.length rs.length), (6, .slice A6 (es.length * 2) c6), (7, .slice (some ⟨g30, 0, none⟩) (es.length * 2) (es.length * 2)), (8, .int .i64 v), (9, .slice Al l.length capl), (31, .slice (some adb) rs.length capb), (32, .int .i64 rs.length), (33, .int .i64 v), (38, .slice Al l.length capl), (39, .int .i64 l.length), (40, .int .i64 j.v)])
   (fun j => [blk g30 4 (bls (es.length * 2) j.f).toArray, slc (.slice A6 (es.length * 2) c6) 3 1 (ints (frs es)), blk gd 3 (ints (tab rs.length (fun v => cnt es v))).toArray]) (fun j => l.length - j.v) ⟨0, f⟩
   ⟨Nat.zero_le _, by simp, by simp, fun h => by rw [hd.seen h]; simp⟩ ⟨rfl, rfl, rfl, rfl, rfl, rfl, rfl, rfl, rfl, rfl, rfl, trivial⟩ (Pick.all _) ?_
  rintro ⟨k, f2⟩ hP
  have hPle := hP.le
  have hPse := hP.seen
  dsimp only at hPle hPse ⊢
  refine Zs ?_
  refine Zc ?_
  refine Zx <| DC.seq ?_
  refine Zd (fun c10 => ?_) fun c10 => ?_
  ·have hklt : k < l.length := by simpa using c10
   obtain ⟨h, hh⟩ : ∃ h, l[k]? = some h := ⟨_, List.getElem?_eq_getElem hklt⟩
   obtain ⟨adl, rfl, hch⟩ := hrl.int hh
   have hmem := List.mem_of_getElem? hh
   refine DC.skip <| Fin.then <| DC.seq <| DC.block <| Zs ?_
   refine Zi Tryz.underlying44 AN ?_
   refine Zu (Ah rfl rfl AO (AE hch)) ?_
   refine Za ?_
   refine Zx <| Zs ?_
   refine Zm ?_
   refine Zo (Ck rfl rfl rfl) ?_
   refine Zm ?_
   refine Seq.split 46 rfl (fun k12_2 => ?_) (fun k12_2 => ?_)
   ·refine Zm ?_
    refine Zm ?_
    refine Zn Tryz.underlying44 ?_
    refine Zc ?_
    refine Zt ?_
    refine Zm ?_
    refine Seq.split 52 rfl (fun k12_8 => ?_) (fun k12_8 => ?_)
    ·have hh0 : 0 ≤ h := by simpa using k12_2
     have hh1 : h < es.length * 2 := by simp at k12_8; omega
     obtain ⟨x6, hx6, hfv⟩ := EZ es hh0 hh1
     obtain ⟨ad6, rfl⟩ := hA6 (fun e => by rw [← List.length_eq_zero_iff, Ba] at e; omega)
     refine Zm ?_
     refine Zm ?_
     refine Zi Tryz.underlying44 AN ?_
     refine Zu (Ah rfl rfl AO (BE (i := 1) rfl hx6 (by rw [Ba]; omega))) ?_
     refine Zm ?_
     refine Zo (AX rfl rfl rfl) ?_
     refine Zt ?_
     refine Zm ?_
     refine BB rfl rfl DN rfl rfl rfl (fun w' hw => Bz _ v 111 w') ?_ ?_
     ·rintro _ ⟨rfl, hbf⟩
      refine Ao <| AB <| Ao <| Ao <| AB <| Ao <| AB <| Ao <| Ao <| AB <| ?_
      refine A7 ⟨v, 111, rfl, by decide, fun hok => ?_⟩
      have := ((hok.2.2 v l hl).1 h hmem).2.2
      rw [hfv] at this
      simp at hbf
      exact hbf this
     rintro _ hbt1
     have hfr : fromV es h = v := by rw [hfv]; simpa using hbt1
     obtain ⟨hn, rfl⟩ := Int.eq_ofNat_of_zero_le hh0
     refine Zx <| Zs ?_
     refine Zm ?_
     refine Zm ?_
     refine Zi Tryz.underlying188 Fe ?_
     refine Zu (Ah rfl rfl ag4 (AU (DI f2 (by omega)))) ?_
     refine Zo (Bh rfl rfl) ?_
     refine Zm ?_
     refine BB rfl rfl DN rfl rfl rfl (fun w' hw => Bz _ v 112 w') ?_ ?_
     ·rintro _ ⟨rfl, hbf⟩
      refine Ao <| AB <| Ao <| Ao <| AB <| Ao <| AB <| Ao <| Ao <| AB <| ?_
      refine A7 ⟨v, 112, rfl, by decide, fun hok => ?_⟩
      have hs : f2 hn = true := by simpa using hbf
      rcases (hPse hn).1 hs with ⟨x, l', hx, hl', hm⟩ | hm
      ·have := ((hok.2.2 x l' hl').1 _ hm).2.2
       omega
      ·obtain ⟨q, hq⟩ := List.mem_iff_getElem?.1 hm
       rw [List.getElem?_take] at hq
       split at hq
       ·have := (List.getElem?_inj (by omega) (hok.2.2 v l hl).2.1).1 (hq.trans hh.symm)
        omega
       ·cases hq
     rintro _ hbt2
     have hns : ¬ (f2 hn = true) := by simpa using hbt2
     refine Zx <| DC.region ?_
     refine Zm ?_
     refine Zm ?_
     refine Zi Tryz.underlying188 Fe ?_
     refine Zy (AF (cs' := (bls (es.length * 2) (updB f2 hn true)).toArray) rfl rfl rfl Fe rfl (by simp; omega) (DH f2 true)) ?_
     refine Seq.nil <| Fin.inBlock <| Fin.then <| DC.region ?_
     refine Zp ?_
     refine Zm ?_
     refine Seq.nil ?_
     refine Fin.again (ChkI.mk (k + 1) (updB f2 hn true)) (by dsimp only; omega) ?_ ⟨rfl, rfl, rfl, rfl, rfl, rfl, rfl, rfl, rfl, rfl, rfl, trivial⟩ (Pick.all _)
     have htk : l.take (k + 1) = l.take k ++ [(hn : Int)] := by rw [List.take_add_one, hh]; rfl
     have hnk : (hn : Int) ∉ l.take k := fun hm => hns ((hPse hn).2 (.inr hm))
     refine ⟨by dsimp only; omega, ?_, ?_, ?_⟩
     ·dsimp only
      intro h' hh'
      rw [htk, List.mem_append] at hh'
      rcases hh' with hh' | hh'
      ·exact hP.fr h' hh'
      ·simp at hh'; subst hh'; exact ⟨hh0, hh1, hfr⟩
     ·dsimp only
      rw [htk, List.nodup_append]
      refine ⟨hP.nd, by simp, fun a ha b hb e => ?_⟩
      simp at hb; subst hb; subst e; exact hnk ha
     ·intro h'
      dsimp only
      rw [htk]
      unfold updB
      split
      ·rename_i e; subst e; simp
      ·rename_i e
       rw [hPse h', List.mem_append]
       have : ¬ ((h' : Int) = (hn : Int)) := by omega
       simp [this]
    ·refine Zk ?_
     refine Zk ?_
     refine Zk ?_
     refine Zk ?_
     refine Zk ?_
     refine Zk ?_
     refine Zg ?_
     refine Zm ?_
     refine BB rfl rfl DN rfl rfl rfl (fun w' hw => Bz _ v 111 w') ?_ ?_
     ·rintro _ ⟨rfl, hbf⟩
      refine Ao <| AB <| Ao <| Ao <| AB <| Ao <| AB <| Ao <| Ao <| AB <| ?_
      refine A7 ⟨v, 111, rfl, by decide, fun hok => ?_⟩
      have := ((hok.2.2 v l hl).1 h hmem)
      simp at k12_8 k12_2; omega
     rintro _ h9
     cases h9
   ·refine Zk ?_
    refine Zk ?_
    refine Zk ?_
    refine Zk ?_
    refine Zg ?_
    refine Zm ?_
    refine Zk ?_
    refine Zk ?_
    refine Zk ?_
    refine Zk ?_
    refine Zk ?_
    refine Zk ?_
    refine Zg ?_
    refine Zm ?_
    refine BB rfl rfl DN rfl rfl rfl (fun w' hw => Bz _ v 111 w') ?_ ?_
    ·rintro _ ⟨rfl, hbf⟩
     refine Ao <| AB <| Ao <| Ao <| AB <| Ao <| AB <| Ao <| Ao <| AB <| ?_
     refine A7 ⟨v, 111, rfl, by decide, fun hok => ?_⟩
     have := ((hok.2.2 v l hl).1 h hmem)
     simp at k12_2; omega
    rintro _ h9
    cases h9
  ·refine DC.exit <| Ad <| Ad <| Ag <| Fin.then ?_
   have hkl : k = l.length := by simp at c10; omega
   subst hkl
   have hPfr := hP.fr
   have hPnd := hP.nd
   dsimp only at hPfr hPnd
   rw [List.take_length] at hPfr hPnd hPse
   refine DC.region ?_
   refine Zm ?_
   refine Zn Tryz.underlying44 ?_
   refine Zm ?_
   refine Zm ?_
   refine Zi Tryz.underlying44 AN ?_
   refine Zu (Ah rfl rfl AO (AU (Bk hvlt))) ?_
   refine Zo (AX rfl rfl rfl) ?_
   refine Zm ?_
   refine BB rfl rfl DN rfl rfl rfl (fun w' hw => Bz _ v 113 w') ?_ ?_
   ·rintro _ ⟨rfl, hbf⟩
    refine AB <| Ao <| Ao <| AB <| ?_
    refine A7 ⟨v, 113, rfl, by decide, fun hok => ?_⟩
    have := (hok.2.2 v l hl).2.2
    simp at hbf
    exact hbf this
   rintro _ hbt3
   have hcnt : (l.length : Int) = cnt es v := by simpa using hbt3
   refine Seq.nil <| Fin.inBlock <| Fin.then <| DC.region ?_
   refine Zp ?_
   refine Zm ?_
   refine Seq.nil ?_
   refine Fin.again (ChkI.mk (v + 1) f2) (by dsimp only; omega) ⟨by dsimp only; omega, ?_, ?_⟩ ⟨rfl, rfl, rfl, rfl, rfl, rfl, trivial⟩ (Pick.all _)
   ·intro x l' hx hl'
    dsimp only at hx
    rcases Nat.lt_succ_iff_lt_or_eq.1 hx with hx | rfl
    ·exact hd.ok x l' hx hl'
    ·rw [hl] at hl'; cases hl'
     exact ⟨hPfr, hPnd, hcnt⟩
   ·intro h'
    dsimp only
    rw [hPse h']
    constructor
    ·rintro (⟨x, l', hx, h1, h2⟩ | h1)
     ·exact ⟨x, l', by omega, h1, h2⟩
     ·exact ⟨v, l, by omega, hl, h1⟩
    ·rintro ⟨x, l', hx, h1, h2⟩
     rcases Nat.lt_succ_iff_lt_or_eq.1 hx with hx | rfl
     ·exact .inl ⟨x, l', hx, h1, h2⟩
     ·rw [hl] at h1; cases h1; exact .inr h2
 ·refine DC.exit <| Ad <| Ad <| Ag ?_
  have hvl : v = rs.length := by simp at c7; omega
  subst hvl
  refine Fin.weak (E' := []) trivial .nil ?_
  refine C3 (.inr rfl) (BQ (.inr rfl) rfl ⟨⟨hV, rfl, fun x l hl => hd.ok x l (List.getElem?_eq_some_iff.1 hl).1 hl⟩, rfl⟩)
theorem rd_base {w0 w w' : World} {L0 L : List Chunk} {A : Option Addr} {vs : List Value} (h : Rd w0 A vs) (hO : Own w0 [] w L0) (hw : Own w (idsOf L0) w' L) : Rd w' A vs := by
 intro j u hj
 obtain ⟨ad, rfl, hc⟩ := h j u hj
 exact ⟨ad, rfl, EY hO hc w' hw⟩
theorem lsv_base {w0 w w' : World} {L0 L : List Chunk} {v : Value} {ls : List (List Int)} (h : LsV w0 v ls) (hO : Own w0 [] w L0) (hw : Own w (idsOf L0) w' L) : LsV w' v ls := by
 obtain ⟨A, cap, rfl, hr, h1, h2, h3⟩ := h
 refine ⟨A, cap, rfl, fun i l hi => ?_, h1, h2, h3⟩
 obtain ⟨ad, lv, rfl, hc, B, cb, rfl, hb, h4⟩ := hr i l hi
 exact ⟨ad, _, rfl, EY hO hc w' hw, B, cb, rfl, rd_base hb hO hw, h4⟩
theorem IF {N : Int} {es : List Pr} {rs : List (List Int)} {va v : Value} {w0 w : World} {ga gb : Nat} (hg : PrV w0 va es) (hl : LsV w0 v rs)
  (hO : Own w0 [] w [blk gb 59 #[v], blk ga 24 #[.int .i64 N, va]]) :
  Calls Tryz.prog 113 #[.pointer (some ⟨ga, 0, none⟩), .pointer (some ⟨gb, 0, none⟩)] w
   (RetP w (idsOf [blk gb 59 #[v], blk ga 24 #[.int .i64 N, va]]) (fun _ M => RotL N es rs) (fun pv M => ∃ x e, pv = flt x e ∧ (e ≠ 0 ∧ ¬ RotL N es rs))) := by
 refine CQ (args := [_, _]) Tryz.func113 rfl Tryz.ntmps113 rfl hO.self ?_
 refine DC.region ?_
 refine Zu (Ay (vs := [_, _]) rfl rfl Bj Bc rfl (Ak rfl)) ?_
 refine Zl ag59 ?_
 refine Dk rfl rfl en114 rfl rfl rfl (Lc := []) (F := [blk gb 59 #[v], blk ga 24 #[.int .i64 N, va]]) (.refl _) (fun k hk => by simp at hk) (fun w' hw => JI (N := N) (rs := rs) (Gr hg hO hw) (lsv_base hl hO hw)) ?_ ?_
 ·rintro _ M ⟨x, e, rfl, hbad⟩
  exact A7 ⟨x, e, rfl, hbad⟩
 rintro _ M ⟨hok, rfl⟩
 refine Seq.nil ?_
 refine C3 (.inr rfl) (BQ (.inr rfl) rfl hok)
theorem FN {N : Int} {es : List Pr} {rs : List (List Int)} {va v : Value} {w : World} (hg : PrV w va es) (hl : LsV w v rs) :
  Calls Tryz.prog 87 #[.agg #[.int .i64 N, va], v] w (Ret w [] fun r M => M = [] ∧ ∃ x e, r = .tuple #[.int .i64 x, .int .i64 e] ∧ (e = 0 ↔ RotL N es rs)) := by
 have hg0 := hg
 have hl0 := hl
 obtain ⟨A, cap, rfl, hr, hlc, hcm, hle⟩ := hg
 obtain ⟨B, capb, rfl, hrb, hlb, hcb, hleb⟩ := hl
 refine At (args := [_, _]) (L := []) Tryz.func87 rfl Tryz.ntmps87 rfl (Own.start _ _) ?_
 refine Zs ?_
 refine Zw (AS rfl rfl rfl) fun g2 => ?_
 refine Zw (AS rfl rfl rfl) fun g3 => ?_
 refine Za ?_
 refine Za ?_
 refine Zx <| DC.seq ?_
 refine DC.own (M := [blk g3 59 #[.slice B rs.length capb], blk g2 24 #[.int .i64 N, .slice A es.length cap]]) (fun w hw => hw) ?_
 refine DC.region ?_
 refine Zo (Fr rfl rfl rfl) ?_
 refine Seq.gen rfl rfl (BA en112 rfl rfl rfl (Lc := [blk g3 59 #[.slice B rs.length capb], blk g2 24 #[.int .i64 N, .slice A es.length cap]]) (F := []) (.refl _) (fun k hk => hk)
  (fun w' hw => E7 (cap := #[.pointer (some ⟨g2, 0, none⟩), .pointer (some ⟨g3, 0, none⟩)]) (C := fun M => RotL N es rs)
   (D := fun v e M => e ≠ 0 ∧ ¬ RotL N es rs) en113 hw.self (fun w'' hw'' => IF hg0 hl0 (by simpa using Own.frame (F := []) (by simpa using hw) hw'' (fun k hk => hk))))) ?_
 rintro v12 _ ⟨M, hC, rfl⟩
 have hD : ∃ v e, v12 = .tuple #[.int .i64 v, .int .i64 e] ∧ (e = 0 ↔ RotL N es rs) := by
  rcases hC with ⟨rfl, hC⟩ | ⟨v, e, rfl, hC⟩
  ·exact ⟨0, 0, rfl, by simp [hC]⟩
  ·exact ⟨v, e, rfl, by simp [hC.1, hC.2]⟩
 clear hC
 obtain ⟨xv, xe, rfl, hD⟩ := hD
 refine Ze ?_
 refine Ze ?_
 refine Za ?_
 refine Za ?_
 refine Zx <| DC.ret ?_
 refine Fin.weak (E' := [(4, _), (5, _)]) ⟨rfl, rfl, trivial⟩ .nil ?_
 refine AJ (.inl rfl) rfl rfl rfl ?_
 exact ⟨rfl, xv, xe, rfl, hD⟩
/-- By half-edge, the one that follows it at its vertex. -/
def NxOk (rs : List (List Int)) (v : Nat) (f : Nat → Int) : Prop := ∀ (x : Nat) l (i : Nat) h, x < v → rs[x]? = some l → l[i]? = some h → l[(i + 1) % l.length]? = some (f h.toNat)
structure NxI where
 v : Nat
 f : Nat → Int
theorem KT {N : Int} {es : List Pr} {rs : List (List Int)} {va v : Value} {w : World} (hg : PrV w va es) (hl : LsV w v rs) :
  Calls Tryz.prog 174 #[.agg #[.int .i64 N, va], v] w (Ret w [] fun r M =>
   (RotL N es rs ∧ ∃ g f, r = .tuple #[.slice (some ⟨g, 0, none⟩) (es.length * 2) (es.length * 2), .int .i64 0] ∧ NxOk rs rs.length f ∧ M = [blk g 3 (ints (tab (es.length * 2) f)).toArray]) ∨
   (¬ RotL N es rs ∧ M = [] ∧ ∃ e, r = .tuple #[.slice none 0 0, .int .i64 e] ∧ e ≠ 0)) := by
 have hg0 := hg
 have hl0 := hl
 obtain ⟨A, cap, rfl, hr, hlc, hcm, hle⟩ := hg
 obtain ⟨B, capb, rfl, hrb, hlb, hcb, hleb⟩ := hl
 refine At (args := [_, _]) (L := []) Tryz.func174 rfl Tryz.ntmps174 rfl (Own.start _ _) ?_
 refine Zs ?_
 refine Zw (AS rfl rfl rfl) fun g2 => ?_
 refine Za ?_
 refine Za ?_
 refine Zx <| DC.seq <| Zs ?_
 refine Zu (Ay (vs := [_, _]) rfl rfl Bj Bc rfl (Ak rfl)) ?_
 refine Zm ?_
 refine Seq.rel0 rfl rfl (Aq en87 rfl rfl rfl (fun w' hw => FN (hg0.keep0 hw) (hl0.keep0 hw))) ?_
 rintro _ ⟨xv, xe, rfl, hxe⟩
 refine Zm ?_
 refine Ze ?_
 refine Ze ?_
 refine Za ?_
 refine Za ?_
 refine Zx <| Zs ?_
 refine Zm ?_
 refine Zo (BS rfl rfl rfl) ?_
 refine Zx ?_
 refine Zd (fun c2 => ?_) fun c2 => ?_
 ·refine Zs ?_
  refine Zm ?_
  refine Za ?_
  refine Za ?_
  refine Zx <| DC.ret <| Aa ?_
  refine Fin.weak (E' := [(4, _), (5, _)]) ⟨rfl, rfl, trivial⟩ .nil ?_
  refine AJ (.inl rfl) rfl rfl rfl ?_
  have hne : xe ≠ 0 := by simpa using c2
  exact .inr ⟨fun h => hne (hxe.2 h), rfl, xe, rfl, hne⟩
 ·refine DC.skip <| Fin.then <| DC.seq ?_
  have hok : RotL N es rs := hxe.1 (by simpa using c2)
  obtain ⟨hV, hN, hrow⟩ := id hok
  have hfew := hV.few
  refine DC.region ?_
  refine Zf Be ?_
  refine Zl BO ?_
  refine Zn Tryz.underlying22 ?_
  refine Zo (Cb rfl rfl rfl (by omega)) ?_
  refine Zw (BI (k := es.length * 2) rfl rfl rfl Tryz.underlying44 AN DP B6 (by omega) (by omega) (by omega) (B4 _)) fun g26 => ?_
  refine Za ?_
  refine Zx <| DC.seq <| Zs ?_
  refine Zm ?_
  refine Zn Tryz.underlying59 ?_
  refine Zm ?_
  refine Zx <| DC.block ?_
  refine DC.loop (ι := NxI) (fun j => j.v ≤ rs.length ∧ NxOk rs j.v j.f)
   (fun j => [(8, .slice (some ⟨g26, 0, none⟩) (es.length * 2) (es.length * 2)), (27, .slice B rs.length capb), (28, .int .i64 rs.length), (29, .int .i64 j.v)])
   (fun j => [blk g26 3 (ints (tab (es.length * 2) j.f)).toArray]) (fun j => rs.length - j.v) ⟨0, fun _ => 0⟩ ⟨Nat.zero_le _, fun _ _ _ _ h => absurd h (Nat.not_lt_zero _)⟩ ⟨rfl, rfl, rfl, rfl, trivial⟩ (.cons 0 rfl .nil) ?_
  rintro ⟨v, f⟩ ⟨hv, hd⟩
  dsimp only at hv hd ⊢
  refine Zs ?_
  refine Zc ?_
  refine Zx <| DC.seq ?_
  refine Zd (fun c6 => ?_) fun c6 => ?_
  ·have hvlt : v < rs.length := by simpa using c6
   obtain ⟨l, hl⟩ : ∃ l, rs[v]? = some l := ⟨_, List.getElem?_eq_getElem hvlt⟩
   obtain ⟨adb, lv, rfl, hc, Al, capl, rfl, hrl, hl1, hl2, hl3⟩ := hrb v l hl
   obtain ⟨hfr, hnd, _⟩ := hrow v l hl
   refine DC.skip <| Fin.then <| DC.seq <| DC.block <| Zs ?_
   refine Zi Tryz.underlying59 Bn ?_
   refine Zu (Ah rfl rfl Bo (AE hc)) ?_
   refine Za ?_
   refine Zx <| Zs ?_
   refine Zm ?_
   refine Zn Tryz.underlying44 ?_
   refine Zm ?_
   refine Zx <| DC.block ?_
   refine DC.loop (ι := NxI) (fun j => j.v ≤ l.length ∧ NxOk rs v j.f ∧ ∀ (i : Nat) h, i < j.v → l[i]? = some h → l[(i + 1) % l.length]? = some (j.f h.toNat))
    (fun j => [(8, .slice (some ⟨g26, 0, none⟩) (es.length * 2) (es.length * 2)), (10, .slice Al l.length capl), (27, .slice (some adb) rs.length capb), (28, .int .i64 rs.length), (29, .int .i64 v), (33, .slice Al l.length capl), (34, .int .i64 l.length), (35, .int .i64 j.v)])
    (fun j => [blk g26 3 (ints (tab (es.length * 2) j.f)).toArray]) (fun j => l.length - j.v) ⟨0, f⟩ ⟨Nat.zero_le _, hd, fun _ _ h => absurd h (Nat.not_lt_zero _)⟩ ⟨rfl, rfl, rfl, rfl, rfl, rfl, rfl, rfl, trivial⟩ (.cons 0 rfl .nil) ?_
   rintro ⟨k, f2⟩ ⟨hk, hd2, hin⟩
   dsimp only at hk hd2 hin ⊢
   refine Zs ?_
   refine Zc ?_
   refine Zx <| DC.seq ?_
   refine Zd (fun c9 => ?_) fun c9 => ?_
   ·have hklt : k < l.length := by simpa using c9
    obtain ⟨h, hh⟩ : ∃ h, l[k]? = some h := ⟨_, List.getElem?_eq_getElem hklt⟩
    obtain ⟨hh0, hh1, hh2⟩ := hfr h (List.mem_of_getElem? hh)
    obtain ⟨adl, rfl, hch⟩ := hrl.int hh
    have hml : (k + 1) % l.length < l.length := Nat.mod_lt _ (by omega)
    obtain ⟨h', hh'⟩ : ∃ h', l[(k + 1) % l.length]? = some h' := ⟨_, List.getElem?_eq_getElem hml⟩
    obtain ⟨adl', e, hch'⟩ := hrl.int hh'
    cases e
    have emod : ((k : Int) + 1) % (l.length : Int) = (((k + 1) % l.length : Nat) : Int) := by rw [Int.natCast_emod, Int.natCast_add]; rfl
    refine DC.skip <| Fin.then <| DC.seq <| DC.block <| Zs ?_
    refine Zm ?_
    refine Zi Tryz.underlying44 AN ?_
    refine Zu (Ah rfl rfl AO (AE hch)) ?_
    refine Za ?_
    refine Za ?_
    refine Zx <| DC.region ?_
    refine Zm ?_
    refine Zm ?_
    refine Zm ?_
    refine Zm ?_
    refine Zp ?_
    refine Zm ?_
    refine Zn Tryz.underlying44 ?_
    refine Zo (K8 (j := (l.length : Int)) rfl rfl rfl (by omega) (by omega)) ?_
    rw [emod]
    refine Zi Tryz.underlying44 AN ?_
    refine Zu (Ah rfl rfl AO (AE hch')) ?_
    refine Zi Tryz.underlying44 AN ?_
    refine Zy (AF (cs' := (ints (tab (es.length * 2) (upd f2 h.toNat h'))).toArray) rfl rfl rfl AN rfl (by simp; omega) BL) ?_
    refine Seq.nil <| Fin.inBlock <| Fin.then <| DC.region ?_
    refine Zp ?_
    refine Zm ?_
    refine Seq.nil ?_
    refine Fin.again (NxI.mk (k + 1) (upd f2 h.toNat h')) (by dsimp only; omega) ⟨by dsimp only; omega, ?_, ?_⟩ ⟨rfl, rfl, rfl, rfl, rfl, rfl, rfl, rfl, trivial⟩ (.cons 0 rfl .nil)
    ·intro x l' i h2 hx hl' hi2
     dsimp only
     unfold upd
     rw [if_neg ?_]
     ·exact hd2 x l' i h2 hx hl' hi2
     ·intro e
      obtain ⟨h4, h5, h6⟩ := (hrow x l' hl').1 h2 (List.mem_of_getElem? hi2)
      have : h2 = h := by omega
      subst this
      omega
    ·intro i h2 hi2 hl2
     dsimp only at hi2 ⊢
     unfold upd
     split
     ·rename_i e
      have h4 := (hfr h2 (List.mem_of_getElem? hl2)).1
      have : h2 = h := by omega
      subst this
      have : i = k := (List.getElem?_inj (by have := (List.getElem?_eq_some_iff.1 hl2).1; exact this) hnd).1 (hl2.trans hh.symm)
      subst this; exact hh'
     ·rename_i e
      rcases Nat.lt_succ_iff_lt_or_eq.1 hi2 with hi2 | rfl
      ·exact hin i h2 hi2 hl2
      ·rw [hh] at hl2; cases hl2; exact absurd rfl e
   ·refine DC.exit <| Ad <| Ad <| Ag <| Fin.inBlock <| Fin.then <| DC.region ?_
    refine Zp ?_
    refine Zm ?_
    refine Seq.nil ?_
    have hkl : k = l.length := by simp at c9; omega
    subst hkl
    refine Fin.again (NxI.mk (v + 1) f2) (by dsimp only; omega) ⟨by dsimp only; omega, ?_⟩ ⟨rfl, rfl, rfl, rfl, trivial⟩ (.cons 0 rfl .nil)
    intro x l' i h2 hx hl' hi2
    dsimp only at hx ⊢
    rcases Nat.lt_succ_iff_lt_or_eq.1 hx with hx | rfl
    ·exact hd2 x l' i h2 hx hl' hi2
    ·rw [hl] at hl'; cases hl'
     exact hin i h2 (List.getElem?_eq_some_iff.1 hi2).1 hi2
  ·refine DC.exit <| Ad <| Ad <| Ag <| Fin.then <| Zs ?_
   refine Zm ?_
   refine Za ?_
   refine Za ?_
   refine Zx <| DC.ret ?_
   refine AJ (.inl rfl) rfl rfl rfl ?_
   have hvl : v = rs.length := by simp at c6; omega
   subst hvl
   exact .inl ⟨hok, g26, f, rfl, hd, rfl⟩
end Go.Fl

namespace Go.Fl
open Classical
def itr (f : Nat → Nat) : Nat → Nat → Nat
 | 0, h => h
 | k + 1, h => f (itr f k h)
/-- The least of its cycle. -/
def Lead (f : Nat → Nat) (h : Nat) : Prop := ∀ k, h ≤ itr f k h
noncomputable def leads (n : Nat) (f : Nat → Nat) : Nat := (List.range n).countP fun h => decide (Lead f h)
structure Perm (n : Nat) (f : Nat → Nat) : Prop where
 lt : ∀ i, i < n → f i < n
 inj : ∀ i j, i < n → j < n → f i = f j → i = j
def invs : List Nat → Nat
 | [] => 0
 | x :: r => r.countP (fun y => decide (y < x)) + invs r
def cross (a b : List Nat) : Nat := (a.map fun x => b.countP fun y => decide (y < x)).sum
theorem Ce {n : Nat} {f : Nat → Nat} (h : Perm n f) {i : Nat} (hi : i < n) : ∀ k, itr f k i < n
 | 0 => hi
 | k + 1 => h.lt _ (Ce h hi k)
theorem D7 (a b : List Nat) : invs (a ++ b) = invs a + invs b + cross a b := by
 induction a with
 | nil => simp [invs, cross]
 | cons x r ih =>
  simp only [List.cons_append, invs, ih, List.countP_append, cross, List.map_cons, List.sum_cons]
  omega
theorem DE (a b : List Nat) (x : Nat) : cross a (x :: b) = cross a [x] + cross a b := by
 induction a with
 | nil => rfl
 | cons y r ih =>
  simp only [cross, List.map_cons, List.sum_cons] at ih ⊢
  rw [ih]
  simp only [List.countP_cons, List.countP_nil]
  omega
theorem Iq (a b c : List Nat) : cross a (b ++ c) = cross a b + cross a c := by
 induction b with
 | nil =>
  have : cross a [] = 0 := by
   unfold cross
   induction a with
   | nil => rfl
   | cons y r ih => simpa using ih
  rw [this]; simp
 | cons x r ih => rw [List.cons_append, DE, ih, DE a r]; omega
theorem GM {a : List Nat} {n : Nat} (h : ∀ x, x ∈ a → x < n) : cross a [n] = 0 := by
 induction a with
 | nil => rfl
 | cons y r ih =>
  have h1 := h y (by simp)
  have h2 := ih fun x hx => h x (by simp [hx])
  simp only [cross, List.map_cons, List.sum_cons, List.countP_cons, List.countP_nil] at h2 ⊢
  rw [h2, if_neg (by simp; omega)]
theorem JG {l : List Nat} {q : Nat} (h : q ∉ l) : l.countP (fun y => decide (y < q)) + l.countP (fun y => decide (q < y)) = l.length := by
 induction l with
 | nil => rfl
 | cons y r ih =>
  have h1 : y ≠ q := fun e => h (by simp [e])
  have := ih fun hm => h (by simp [hm])
  simp only [List.countP_cons, List.length_cons]
  by_cases c : y < q
  ·have : ¬ q < y := by omega
   simp [c, this]; omega
  ·have : q < y := by omega
   simp [c, this]; omega
theorem KI {l : List Nat} {n : Nat} (h : ∀ x, x ∈ l → x < n) : l.countP (fun y => decide (y < n)) = l.length := by
 rw [List.countP_eq_length]; intro a ha; simp [h a ha]
theorem cross_one (b : List Nat) (q : Nat) : cross b [q] = b.countP fun y => decide (q < y) := by
 induction b with
 | nil => rfl
 | cons x r ih =>
  simp only [cross, List.map_cons, List.sum_cons] at ih ⊢
  rw [ih]
  simp only [List.countP_cons, List.countP_nil]
  by_cases c : q < x <;> simp [c]; omega
/-- The greatest number is taken out of its cycle. -/
def cutF (n p q : Nat) (f : Nat → Nat) : Nat → Nat := fun i => if i = p then q else f i
theorem JF {n p : Nat} {f : Nat → Nat} (h : Perm (n + 1) f) (hp : p < n) (hfp : f p = n) : Perm n (cutF n p (f n) f) := by
 have hq : f n < n := by
  have := h.lt n (by omega)
  have : f n ≠ n := fun e => by have := h.inj p n (by omega) (by omega) (by rw [hfp, e]); omega
  omega
 refine ⟨fun i hi => ?_, fun i j hi hj he => ?_⟩
 ·unfold cutF
  split
  ·exact hq
  ·have := h.lt i (by omega)
   have : f i ≠ n := fun e => by have := h.inj i p (by omega) (by omega) (by rw [e, hfp]); omega
   omega
 ·unfold cutF at he
  split at he <;> split at he
  ·omega
  ·have := h.inj n j (by omega) (by omega) he; omega
  ·have := h.inj i n (by omega) (by omega) he; omega
  ·exact h.inj i j (by omega) (by omega) he
theorem cut_itr {n p : Nat} {f : Nat → Nat} (h : Perm (n + 1) f) (hp : p < n) (hfp : f p = n) {i : Nat} (hi : i < n) :
  (∀ k, ∃ j, itr (cutF n p (f n) f) k i = itr f j i) ∧ (∀ k, (itr f k i = n ∧ ∃ j, itr (cutF n p (f n) f) j i = p) ∨ ∃ j, itr f k i = itr (cutF n p (f n) f) j i) := by
 have hc := JF h hp hfp
 constructor
 ·intro k
  induction k with
  | zero => exact ⟨0, rfl⟩
  | succ k ih =>
   obtain ⟨j, hj⟩ := ih
   by_cases c : itr (cutF n p (f n) f) k i = p
   ·refine ⟨j + 2, ?_⟩
    show cutF n p (f n) f (itr (cutF n p (f n) f) k i) = f (f (itr f j i))
    rw [← hj, c]
    unfold cutF
    rw [if_pos rfl, hfp]
   ·refine ⟨j + 1, ?_⟩
    show cutF n p (f n) f (itr (cutF n p (f n) f) k i) = f (itr f j i)
    rw [← hj]
    unfold cutF at c ⊢
    rw [if_neg c]
 ·intro k
  induction k with
  | zero => exact .inr ⟨0, rfl⟩
  | succ k ih =>
   rcases ih with ⟨h1, j, hj⟩ | ⟨j, hj⟩
   ·right
    refine ⟨j + 1, ?_⟩
    show f (itr f k i) = cutF n p (f n) f (itr (cutF n p (f n) f) j i)
    rw [h1, hj]
    unfold cutF
    rw [if_pos rfl]
   ·have h4 : itr (cutF n p (f n) f) j i < n := Ce hc hi j
    by_cases c : f (itr f k i) = n
    ·left
     have h3 : itr f k i = p := h.inj _ _ (by rw [hj]; omega) (by omega) (by rw [c, hfp])
     exact ⟨c, j, by rw [← hj, h3]⟩
    ·right
     refine ⟨j + 1, ?_⟩
     show f (itr f k i) = cutF n p (f n) f (itr (cutF n p (f n) f) j i)
     rw [← hj]
     unfold cutF
     rw [if_neg]
     intro e
     apply c; rw [e, hfp]
theorem cut_lead {n p : Nat} {f : Nat → Nat} (h : Perm (n + 1) f) (hp : p < n) (hfp : f p = n) {i : Nat} (hi : i < n) : Lead (cutF n p (f n) f) i ↔ Lead f i := by
 obtain ⟨h1, h2⟩ := cut_itr h hp hfp hi
 constructor
 ·intro hl k
  rcases h2 k with ⟨e, _⟩ | ⟨j, hj⟩
  ·omega
  ·rw [hj]; exact hl j
 ·intro hl k
  obtain ⟨j, hj⟩ := h1 k
  rw [hj]; exact hl j
theorem Jm {n : Nat} {f g : Nat → Nat} (h : ∀ i, i < n → (Lead f i ↔ Lead g i)) : leads n f = leads n g := by
 unfold leads
 apply List.countP_congr
 intro x hx
 have := h x (List.mem_range.1 hx)
 simp [this]
theorem GB (n : Nat) (f : Nat → Nat) : leads (n + 1) f = leads n f + if Lead f n then 1 else 0 := by
 unfold leads
 rw [List.range_succ, List.countP_append]
 simp
theorem Kn {n : Nat} {f : Nat → Nat} {l : List Nat} (h : Perm (n + 1) f) (hl : ∀ i, i ∈ l → i < n + 1) (p : Nat) (hp : p < n + 1) (hfp : f p = n) (hn : p ∉ l) : ∀ x, x ∈ l.map f → x < n := by
 intro x hx
 obtain ⟨i, hi, rfl⟩ := List.mem_map.1 hx
 have h1 := h.lt i (hl i hi)
 have : f i ≠ n := fun e => hn (by have := h.inj i p (hl i hi) hp (by rw [e, hfp]); rw [← this]; exact hi)
 omega
theorem CC : ∀ {a b : List Nat}, a.Nodup → (∀ x, x ∈ a → x ∈ b) → a.length ≤ b.length
 | [], b, _, _ => by simp
 | x :: r, b, hn, hs => by
  rw [List.nodup_cons] at hn
  have hx : x ∈ b := hs x (by simp)
  have ih := CC (a := r) (b := b.erase x) hn.2 (fun y hy => (List.mem_erase_of_ne (fun e => hn.1 (by rw [← e]; exact hy))).2 (hs y (by simp [hy])))
  have := List.length_erase_of_mem hx
  have : 0 < b.length := List.length_pos_of_mem hx
  simp; omega
theorem Hm {n : Nat} {f : Nat → Nat} (h : Perm n f) {y : Nat} (hy : y < n) : ∃ x, x < n ∧ f x = y := by
 apply Classical.byContradiction
 intro hn
 have hnd : ((List.range n).map f).Nodup := by
  unfold List.Nodup
  rw [List.pairwise_map]
  refine List.nodup_range.imp_of_mem fun {a b} ha hb hab he => hab (h.inj a b (List.mem_range.1 ha) (List.mem_range.1 hb) he)
 have hsub : ∀ x, x ∈ (List.range n).map f → x ∈ (List.range n).filter fun z => decide (z ≠ y) := by
  intro x hx
  obtain ⟨i, hi, rfl⟩ := List.mem_map.1 hx
  have hi' := List.mem_range.1 hi
  exact List.mem_filter.2 ⟨List.mem_range.2 (h.lt i hi'), by simp; exact fun e => hn ⟨i, hi', e⟩⟩
 have h1 := CC hnd hsub
 have h2 : ((List.range n).filter fun z => decide (z ≠ y)).length < n := by
  have h3 : ((List.range n).filter fun z => decide (z ≠ y)).length + ((List.range n).filter fun z => decide (z = y)).length = n := by
   have : ∀ l : List Nat, (l.filter fun z => decide (z ≠ y)).length + (l.filter fun z => decide (z = y)).length = l.length := by
    intro l
    induction l with
    | nil => rfl
    | cons a r ih =>
     by_cases c : a = y
     ·simp [c] at ih ⊢; omega
     ·simp [c] at ih ⊢; omega
   have h5 := this (List.range n)
   rw [List.length_range] at h5
   exact h5
  have h4 : 0 < ((List.range n).filter fun z => decide (z = y)).length := List.length_pos_of_mem (a := y) (List.mem_filter.2 ⟨List.mem_range.2 hy, by simp⟩)
  omega
 rw [List.length_map, List.length_range] at h1
 omega
theorem Ib {f : Nat → Nat} {n : Nat} (h : f n = n) : ∀ k, itr f k n = n
 | 0 => rfl
 | k + 1 => by show f (itr f k n) = n; rw [Ib h k, h]
theorem Perm.cut {n : Nat} {f : Nat → Nat} (h : Perm (n + 1) f) (hf : f n = n) : Perm n f :=
 ⟨fun i hi => by
  have h1 := h.lt i (by omega)
  have : f i ≠ n := fun e => by have := h.inj i n (by omega) (by omega) (by rw [e, hf]); omega
  omega, fun i j hi hj he => h.inj i j (by omega) (by omega) he⟩
/-- Inversions and cycles. -/
theorem Dx : ∀ (n : Nat) (f : Nat → Nat), Perm n f → (invs ((List.range n).map f) + leads n f) % 2 = n % 2
 | 0, f, _ => rfl
 | n + 1, f, h => by
  obtain ⟨p, hp, hfp⟩ := Hm h (y := n) (by omega)
  by_cases hpn : p = n
  ·subst hpn
   have ih := Dx p f (h.cut hfp)
   have e1 : (List.range (p + 1)).map f = (List.range p).map f ++ [p] := by rw [List.range_succ, List.map_append]; simp [hfp]
   have hlp : Lead f p := fun k => by rw [Ib hfp k]; exact Nat.le_refl _
   rw [e1, D7, GB, if_pos hlp]
   have e2 : cross ((List.range p).map f) [p] = 0 := GM (Kn h (fun i hi => by have := List.mem_range.1 hi; omega) p (by omega) hfp (by simp))
   have e3 : invs [p] = 0 := rfl
   omega
  ·have hpl : p < n := by omega
   have hc := JF h hpl hfp
   have ih := Dx n _ hc
   have hl : leads n (cutF n p (f n) f) = leads n f := Jm fun i hi => cut_lead h hpl hfp hi
   have hnl : ¬ Lead f n := fun hl => by
    have := hl 1
    have h2 : f n < n + 1 := h.lt n (by omega)
    have : f n ≠ n := fun e => hpn (h.inj p n hp (by omega) (by rw [hfp, e]))
    have h3 : n ≤ f n := hl 1
    omega
   rw [GB, if_neg hnl]
   rw [hl] at ih
   obtain ⟨m, hm⟩ : ∃ m, n = p + 1 + m := ⟨n - (p + 1), by omega⟩
   generalize hA : (List.range p).map f = A
   generalize hB : (List.range' (p + 1) m).map f = B
   have hr1 : (List.range n) = List.range p ++ p :: List.range' (p + 1) m := by
    rw [List.range_eq_range', List.range_eq_range', hm, show p + 1 + m = p + (1 + m) by omega, ← List.range'_append_1, Nat.zero_add, Nat.add_comm 1 m, List.range'_succ]
   have e1 : (List.range (n + 1)).map f = A ++ n :: (B ++ [f n]) := by
    rw [List.range_succ, hr1, List.map_append, List.map_append, List.map_cons, hA, hB, hfp]; simp
   have e2 : (List.range n).map (cutF n p (f n) f) = A ++ f n :: B := by
    rw [hr1, List.map_append, List.map_cons]
    have c1 : (List.range p).map (cutF n p (f n) f) = A := by
     rw [← hA]; apply List.map_congr_left; intro i hi; have := List.mem_range.1 hi; unfold cutF; rw [if_neg (by omega)]
    have c2 : (List.range' (p + 1) m).map (cutF n p (f n) f) = B := by
     rw [← hB]; apply List.map_congr_left; intro i hi; have := List.mem_range'_1.1 hi; unfold cutF; rw [if_neg (by omega)]
    rw [c1, c2]
    congr 2
    unfold cutF; rw [if_pos rfl]
   rw [e2] at ih
   rw [e1]
   have bA : ∀ x, x ∈ A → x < n := by rw [← hA]; exact Kn h (fun i hi => by have := List.mem_range.1 hi; omega) p hp hfp (by simp)
   have bB : ∀ x, x ∈ B → x < n := by rw [← hB]; exact Kn h (fun i hi => by have := List.mem_range'_1.1 hi; omega) p hp hfp (fun hm3 => by have := List.mem_range'_1.1 hm3; omega)
   have hq : f n < n := by
    have := h.lt n (by omega)
    have : f n ≠ n := fun e => hpn (h.inj p n hp (by omega) (by rw [hfp, e]))
    omega
   have hqB : f n ∉ B := by
    rw [← hB]
    intro hm2
    obtain ⟨i, hi, he⟩ := List.mem_map.1 hm2
    have hi2 := List.mem_range'_1.1 hi
    have := h.inj i n (by omega) (by omega) he
    omega
   have k1 := JG hqB
   have k2 : (B ++ [f n]).countP (fun y => decide (y < n)) = (B ++ [f n]).length := KI (by
    intro x hx
    rcases List.mem_append.1 hx with hx | hx
    ·exact bB x hx
    ·simp at hx; omega)
   have k3 : cross A (n :: (B ++ [f n])) = cross A B + cross A [f n] := by rw [DE, Iq, GM bA]; omega
   have k4 : cross A (f n :: B) = cross A [f n] + cross A B := DE _ _ _
   have k5 : invs (B ++ [f n]) = invs B + B.countP (fun y => decide (f n < y)) := by
    rw [D7, cross_one]
    have : invs [f n] = 0 := rfl
    omega
   rw [D7] at ih ⊢
   simp only [invs] at ih ⊢
   rw [k2, k3, k5]
   rw [k4] at ih
   simp only [List.length_append, List.length_singleton]
   omega
/-! ### neighbours change places in pairs -/
def swp (T : Nat → Bool) : Nat → List Nat → List Nat
 | i, x :: y :: r => if T i then y :: x :: swp T (i + 1) r else x :: y :: swp T (i + 1) r
 | _, l => l
theorem IO (T : Nat → Bool) : ∀ (i : Nat) (l : List Nat), (swp T i l).Perm l
 | i, x :: y :: r => by
  unfold swp
  have ih := IO T (i + 1) r
  split
  ·exact (List.Perm.swap x y _).trans ((ih.cons y).cons x)
  ·exact (ih.cons y).cons x
 | _, [] => .refl _
 | _, [_] => .refl _
theorem Jr (T : Nat → Bool) : ∀ (m i : Nat) (l : List Nat), l.Nodup → l.length = 2 * m → (invs (swp T i l) + (List.range' i m).countP T) % 2 = invs l % 2
 | 0, i, l, _, hl => by
  have : l = [] := List.eq_nil_of_length_eq_zero (by omega)
  subst this; rfl
 | m + 1, i, l, hn, hl => by
  match l, hn, hl with
  | [], _, hl => simp at hl
  | [_], _, hl => simp at hl; omega
  | x :: y :: r, hn, hl =>
   rw [List.nodup_cons, List.nodup_cons] at hn
   have ih := Jr T m (i + 1) r hn.2.2 (by simp at hl; omega)
   have hp := IO T (i + 1) r
   have hxy : x ≠ y := fun e => hn.1 (by simp [e])
   have c1 : ∀ z : Nat, (swp T (i + 1) r).countP (fun w => decide (w < z)) = r.countP (fun w => decide (w < z)) := fun z => hp.countP_eq _
   unfold swp
   rw [List.range'_succ, List.countP_cons]
   split
   ·rename_i ht
    simp only [invs, List.countP_cons, c1, ht, if_true]
    by_cases c : x < y
    ·have : ¬ y < x := by omega
     simp [c, this]; omega
    ·have : y < x := by omega
     simp [c, this]; omega
   ·rename_i ht
    simp only [invs, List.countP_cons, c1, ht]
    simp; omega
def twn (h : Nat) : Nat := if h % 2 = 0 then h + 1 else h - 1
theorem KZ (T : Nat → Bool) (s : Nat → Nat) : ∀ (m i : Nat), swp T i ((List.range' (2 * i) (2 * m)).map s) = (List.range' (2 * i) (2 * m)).map fun h => s (if T (h / 2) then twn h else h)
 | 0, i => rfl
 | m + 1, i => by
  have ih := KZ T s m (i + 1)
  rw [show 2 * (m + 1) = 2 * m + 1 + 1 by omega, List.range'_succ, List.range'_succ]
  simp only [List.map_cons]
  unfold swp
  rw [show 2 * i + 1 + 1 = 2 * (i + 1) by omega, ih]
  have e1 : 2 * i / 2 = i := by omega
  have e2 : (2 * i + 1) / 2 = i := by omega
  have e3 : twn (2 * i) = 2 * i + 1 := by unfold twn; rw [if_pos (by omega)]
  have e4 : twn (2 * i + 1) = 2 * i := by unfold twn; rw [if_neg (by omega)]; omega
  rw [e1, e2, e3, e4]
  split <;> rfl
theorem twn_perm (m : Nat) : Perm (2 * m) twn :=
 ⟨fun i hi => by unfold twn; split <;> omega, fun i j hi hj he => by unfold twn at he; split at he <;> split at he <;> omega⟩
theorem Perm.nodup {n : Nat} {f : Nat → Nat} (h : Perm n f) : ((List.range n).map f).Nodup := by
 unfold List.Nodup
 rw [List.pairwise_map]
 exact List.nodup_range.imp_of_mem fun {a b} ha hb hab he => hab (h.inj a b (List.mem_range.1 ha) (List.mem_range.1 hb) he)
/-- A permutation on a part, the rest at rest. -/
def onP (c : Nat → Bool) (f : Nat → Nat) : Nat → Nat := fun h => if c h then f h else h
theorem Gy {n : Nat} {f : Nat → Nat} {c : Nat → Bool} (h : Perm n f) (hc : ∀ i, i < n → c (f i) = c i) : Perm n (onP c f) := by
 refine ⟨fun i hi => ?_, fun i j hi hj he => ?_⟩
 ·unfold onP; split
  ·exact h.lt i hi
  ·exact hi
 ·unfold onP at he
  split at he <;> split at he
  ·exact h.inj i j hi hj he
  ·rename_i a b; have := hc i hi; rw [he] at this; rw [this] at b; exact absurd a b
  ·rename_i a b; have := hc j hj; rw [← he] at this; rw [this] at a; exact absurd b a
  ·exact he
theorem H5 {n : Nat} {f : Nat → Nat} {c : Nat → Bool} (h : Perm n f) (hc : ∀ i, i < n → c (f i) = c i) {i : Nat} (hi : i < n) (hci : c i = true) : ∀ k, itr (onP c f) k i = itr f k i ∧ c (itr f k i) = true
 | 0 => ⟨rfl, hci⟩
 | k + 1 => by
  obtain ⟨h1, h2⟩ := H5 h hc hi hci k
  have h3 : onP c f (itr f k i) = f (itr f k i) := by unfold onP; rw [if_pos h2]
  exact ⟨by show onP c f (itr (onP c f) k i) = _; rw [h1, h3]; rfl, by show c (f (itr f k i)) = true; rw [hc _ (Ce h hi k)]; exact h2⟩
theorem Hr {n : Nat} {f : Nat → Nat} {c : Nat → Bool} (h : Perm n f) (hc : ∀ i, i < n → c (f i) = c i) :
  leads n (onP c f) = (List.range n).countP (fun i => c i && decide (Lead f i)) + (List.range n).countP fun i => !c i := by
 unfold leads
 have key : ∀ l : List Nat, (∀ i, i ∈ l → i < n) → l.countP (fun i => decide (Lead (onP c f) i)) = l.countP (fun i => c i && decide (Lead f i)) + l.countP fun i => !c i := by
  intro l hl
  induction l with
  | nil => rfl
  | cons i r ih =>
   have ih' := ih fun j hj => hl j (by simp [hj])
   have hi := hl i (by simp)
   simp only [List.countP_cons, ih']
   by_cases hci : c i = true
   ·have e : Lead (onP c f) i ↔ Lead f i := by
     unfold Lead
     constructor
     ·intro hh k; rw [← (H5 h hc hi hci k).1]; exact hh k
     ·intro hh k; rw [(H5 h hc hi hci k).1]; exact hh k
    simp [hci, e]; omega
   ·have e : Lead (onP c f) i := fun k => by
     have : onP c f i = i := by unfold onP; rw [if_neg hci]
     rw [Ib this k]; exact Nat.le_refl _
    simp [hci, e]; omega
 exact key _ fun i hi => List.mem_range.1 hi
/-- Of a part that both leave in place: its faces, its vertices and its edges are even together. -/
theorem Jz {m : Nat} {s : Nat → Nat} {c : Nat → Bool} (hs : Perm (2 * m) s) (h1 : ∀ i, i < 2 * m → c (s i) = c i) (h2 : ∀ i, i < 2 * m → c (twn i) = c i) :
  ((List.range (2 * m)).countP (fun i => c i && decide (Lead (fun h => s (twn h)) i)) + (List.range (2 * m)).countP (fun i => c i && decide (Lead s i)) + (List.range m).countP fun e => c (2 * e)) % 2 = 0 := by
 have ht := twn_perm m
 have hf : Perm (2 * m) fun h => s (twn h) := ⟨fun i hi => hs.lt _ (ht.lt i hi), fun i j hi hj he => ht.inj i j hi hj (hs.inj _ _ (ht.lt i hi) (ht.lt j hj) he)⟩
 have hfc : ∀ i, i < 2 * m → c (s (twn i)) = c i := fun i hi => by rw [h1 _ (ht.lt i hi), h2 i hi]
 have a1 := Dx _ _ (Gy hs h1)
 have a2 := Dx _ _ (Gy hf hfc)
 rw [Hr hs h1] at a1
 rw [Hr hf hfc] at a2
 have e1 : (List.range (2 * m)).map (onP c fun h => s (twn h)) = swp (fun e => c (2 * e)) 0 ((List.range (2 * m)).map (onP c s)) := by
  have := KZ (fun e => c (2 * e)) (onP c s) m 0
  rw [Nat.mul_zero, ← List.range_eq_range'] at this
  rw [this]
  apply List.map_congr_left
  intro h hh
  have hlt := List.mem_range.1 hh
  have h3 : c (2 * (h / 2)) = c h := by
   by_cases hp : h % 2 = 0
   ·rw [show 2 * (h / 2) = h by omega]
   ·have e : twn h = 2 * (h / 2) := by unfold twn; rw [if_neg hp]; omega
    rw [← e]; exact h2 h hlt
  rw [h3]
  unfold onP
  by_cases hc : c h = true
  ·rw [if_pos hc, if_pos hc, if_pos (by rw [h2 h hlt]; exact hc)]
  ·rw [if_neg hc, if_neg hc, if_neg hc]
 have a3 := Jr (fun e => c (2 * e)) m 0 _ (Gy hs h1).nodup (by simp)
 rw [← e1, ← List.range_eq_range'] at a3
 omega
end Go.Fl

namespace Go.Fl
open Classical
theorem Cm (f : Nat → Nat) (x : Nat) : ∀ a b, itr f (a + b) x = itr f a (itr f b x)
 | 0, b => by rw [Nat.zero_add]; rfl
 | a + 1, b => by rw [Nat.succ_add]; show f _ = f _; rw [Cm f x a b]
theorem Lp {n : Nat} {f : Nat → Nat} (h : Perm n f) {x y : Nat} (hx : x < n) (hy : y < n) : ∀ k, itr f k x = itr f k y → x = y
 | 0, e => e
 | k + 1, e => Lp h hx hy k (h.inj _ _ (Ce h hx k) (Ce h hy k) e)
theorem itr_ret {n : Nat} {f : Nat → Nat} (h : Perm n f) {x : Nat} (hx : x < n) : ∃ k, 0 < k ∧ itr f k x = x := by
 apply Classical.byContradiction
 intro hno
 have hnd : ((List.range (n + 1)).map fun k => itr f k x).Nodup := by
  unfold List.Nodup
  rw [List.pairwise_map, List.pairwise_iff_getElem]
  intro i j hi hj hij e
  simp only [List.getElem_range] at e
  have e2 : itr f i (itr f (j - i) x) = itr f i x := by rw [← Cm, show i + (j - i) = j by omega]; exact e.symm
  exact hno ⟨j - i, by omega, Lp h (Ce h hx _) hx i e2⟩
 have := CC (b := List.range n) hnd (fun y hy => by
  obtain ⟨k, _, rfl⟩ := List.mem_map.1 hy
  exact List.mem_range.2 (Ce h hx k))
 rw [List.length_map, List.length_range, List.length_range] at this
 omega
theorem D5 {n : Nat} {f : Nat → Nat} (h : Perm n f) {x y : Nat} {q : Nat} (hx : x < n) (e : itr f q x = y) : ∃ r, itr f r y = x := by
 obtain ⟨k, hk, hr⟩ := itr_ret h hx
 have hm : ∀ m, itr f (k * m) x = x := by
  intro m
  induction m with
  | zero => rfl
  | succ m ih => rw [Nat.mul_succ, Cm, hr, ih]
 have hq : q ≤ k * q := Nat.le_mul_of_pos_left _ hk
 refine ⟨k * q - q, ?_⟩
 rw [← e, ← Cm, show k * q - q + q = k * q by omega, hm]
/-- Seen by the walks that began below h. -/
def SeenB (f : Nat → Nat) (h x : Nat) : Prop := ∃ j q, j < h ∧ itr f q j = x
theorem Ed {n : Nat} {f : Nat → Nat} (h : Perm n f) {x : Nat} (hx : x < n) : SeenB f x x ↔ ¬ Lead f x := by
 constructor
 ·rintro ⟨j, q, hj, e⟩ hl
  obtain ⟨r, hr⟩ := D5 h (by omega) e
  have := hl r
  omega
 ·intro hl
  simp only [Lead, Classical.not_forall, Nat.not_le] at hl
  obtain ⟨k, hk⟩ := hl
  obtain ⟨r, hr⟩ := D5 h hx rfl (q := k)
  exact ⟨_, r, hk, hr⟩
/-- A walk round that comes upon what is seen. -/
theorem He {n : Nat} {f : Nat → Nat} (h : Perm n f) {x t : Nat} (hx : x < n) (ht : 0 < t) (hns : ¬ SeenB f x x) (hs : SeenB f x (itr f t x) ∨ ∃ i, i < t ∧ itr f i x = itr f t x) :
  ∀ q, ∃ i, i < t ∧ itr f i x = itr f q x := by
 have hcl : ∃ i, i < t ∧ itr f i x = itr f t x := by
  rcases hs with ⟨j, q, hj, e⟩ | hs
  ·exfalso
   obtain ⟨r, hr⟩ := D5 h hx rfl (q := t)
   exact hns ⟨j, r + q, hj, by rw [Cm, e, hr]⟩
  ·exact hs
 intro q
 induction q with
 | zero => exact ⟨0, ht, rfl⟩
 | succ q ih =>
  obtain ⟨i, hi, e⟩ := ih
  have e2 : itr f (i + 1) x = itr f (q + 1) x := by show f _ = f _; rw [e]
  by_cases h1 : i + 1 < t
  ·exact ⟨i + 1, h1, e2⟩
  ·obtain ⟨i', hi', e'⟩ := hcl
   exact ⟨i', hi', by rw [e', show t = i + 1 by omega, e2]⟩
theorem Ep {f : Nat → Nat} {x t : Nat} (hall : ∀ q, ∃ i, i < t ∧ itr f i x = itr f q x) (y : Nat) : SeenB f (x + 1) y ↔ SeenB f x y ∨ ∃ i, i < t ∧ itr f i x = y := by
 constructor
 ·rintro ⟨j, q, hj, e⟩
  rcases Nat.lt_succ_iff_lt_or_eq.1 hj with hj | rfl
  ·exact .inl ⟨j, q, hj, e⟩
  ·obtain ⟨i, hi, e2⟩ := hall q
   exact .inr ⟨i, hi, e2.trans e⟩
 ·rintro (⟨j, q, hj, e⟩ | ⟨i, hi, e⟩)
  ·exact ⟨j, q, by omega, e⟩
  ·exact ⟨x, i, by omega, e⟩
theorem Eo {f : Nat → Nat} {x : Nat} (hs : SeenB f x x) (y : Nat) : SeenB f (x + 1) y ↔ SeenB f x y := by
 constructor
 ·rintro ⟨j, q, hj, e⟩
  rcases Nat.lt_succ_iff_lt_or_eq.1 hj with hj | rfl
  ·exact ⟨j, q, hj, e⟩
  ·obtain ⟨j', q', hj', e'⟩ := hs
   exact ⟨j', q + q', hj', by rw [Cm, e', e]⟩
 ·rintro ⟨j, q, hj, e⟩; exact ⟨j, q, by omega, e⟩
end Go.Fl

namespace Go.Fl
open Go Go.Proofs
open Classical
/-- The step along a face. -/
def phi (f : Nat → Int) (h : Nat) : Nat := (f (twn h)).toNat
structure FaI where
 h : Nat
 g : Nat → Bool
 fs : RL
 v : Value
structure FaJ where
 t : Nat
 g : Nat → Bool
 v : Value
structure FaD (n : Nat) (f : Nat → Int) (j : FaI) : Prop where
 le : j.h ≤ n
 seen : ∀ x, x < n → (j.g x = true ↔ SeenB (phi f) j.h x)
 heads : j.fs.map (fun p => p.2.head?) = ((List.range j.h).filter fun x => decide (Lead (phi f) x)).map fun (x : Nat) => some (x : Int)
 short : ∀ p, p ∈ j.fs → p.2.length ≤ n
structure FaW (n : Nat) (f : Nat → Int) (h : Nat) (g0 : Nat → Bool) (j : FaJ) : Prop where
 nd : ((List.range j.t).map fun i => itr (phi f) i h).Nodup
 seen : ∀ x, x < n → (j.g x = true ↔ g0 x = true ∨ ∃ i, i < j.t ∧ itr (phi f) i h = x)
 new : 0 < j.t → ¬ (g0 h = true)
def faceL (f : Nat → Int) (h t : Nat) : List Int := (List.range t).map fun i => ((itr (phi f) i h : Nat) : Int)
theorem FOf_calls {N : Int} {es : List Pr} {rs : List (List Int)} {va v : Value} {w : World} (hg : PrV w va es) (hl : LsV w v rs)
  (hperm : ∀ f, RotL N es rs → NxOk rs rs.length f → Perm (es.length * 2) (phi f) ∧ ∀ h, h < es.length * 2 → 0 ≤ f h) :
  Calls Tryz.prog 152 #[.agg #[.int .i64 N, va], v] w (Ret w [] fun r M =>
   (RotL N es rs ∧ ∃ v fs f, r = .tuple #[v, .int .i64 0] ∧ NxOk rs rs.length f ∧ FaD (es.length * 2) f ⟨es.length * 2, fun _ => true, fs, v⟩ ∧ M = slc v 44 1 (rowsV fs) :: rowsC 3 fs) ∨
   (¬ RotL N es rs ∧ M = [] ∧ ∃ e, r = .tuple #[.slice none 0 0, .int .i64 e] ∧ e ≠ 0)) := by
 refine At (args := [_, _]) (L := []) Tryz.func152 rfl Tryz.ntmps152 rfl (Own.start _ _) ?_
 refine Zs ?_
 refine Zw (AS (cs := #[.int .i64 N, va]) rfl rfl rfl) fun g2 => ?_
 refine Za ?_
 refine Za ?_
 refine Zx <| Zs ?_
 refine Zu (Ay (vs := [_, _]) rfl rfl Bj Bc rfl (Ak rfl)) ?_
 refine Zm ?_
 refine Seq.rel rfl rfl (Aq en174 rfl rfl rfl (fun w' hw => KT (hg.keep0 hw) (hl.keep0 hw))) ?_
 intro v16 L16 hC16
 obtain ⟨sv, e, rfl, hD16⟩ : ∃ sv e, v16 = .tuple #[sv, .int .i64 e] ∧ ((e = 0 ∧ RotL N es rs ∧ ∃ g f, sv = .slice (some ⟨g, 0, none⟩) (es.length * 2) (es.length * 2) ∧ NxOk rs rs.length f ∧ L16 = [blk g 3 (ints (tab (es.length * 2) f)).toArray]) ∨ (¬ RotL N es rs ∧ e ≠ 0)) := by
  rcases hC16 with ⟨hok, g, f, rfl, h1, h2⟩ | ⟨hno, _, e, rfl, hne⟩
  ·exact ⟨_, _, rfl, .inl ⟨rfl, hok, g, f, rfl, h1, h2⟩⟩
  ·exact ⟨_, _, rfl, .inr ⟨hno, hne⟩⟩
 clear hC16
 refine Zm ?_
 refine Ze ?_
 refine Ze ?_
 refine Za ?_
 refine Za ?_
 refine Zx <| DC.seq <| Zs ?_
 refine Zm ?_
 refine Zo (BS rfl rfl rfl) ?_
 refine Zx ?_
 refine Zd (fun c2 => ?_) fun c2 => ?_
 ·refine Zs ?_
  refine Zm ?_
  refine Za ?_
  refine Za ?_
  refine Zx <| DC.ret <| Aa ?_
  have hne : e ≠ 0 := by simpa using c2
  have hno := (hD16.resolve_left (fun h => hne h.1)).1
  refine Fin.weak (E' := [(4, _), (5, _)]) ⟨rfl, rfl, trivial⟩ .nil ?_
  refine AJ (.inl rfl) rfl rfl rfl ?_
  exact .inr ⟨hno, rfl, e, rfl, hne⟩
 ·refine DC.skip <| Fin.then <| DC.seq ?_
  have he0 : e = 0 := by simpa using c2
  obtain ⟨_, hok, gn, f, rfl, hnx, rfl⟩ := hD16.resolve_right (fun h => h.2 he0)
  simp only [List.cons_append, List.nil_append]
  obtain ⟨hP, hf0⟩ := hperm f hok hnx
  have hfew := hok.1.few
  obtain ⟨n, hn⟩ : ∃ n, n = es.length * 2 := ⟨_, rfl⟩
  rw [← hn] at hP hf0 ⊢
  have hn1 : n ≤ 8388608 := by omega
  refine DC.region ?_
  refine Zm ?_
  refine Zn Tryz.underlying44 ?_
  refine Zw (BI (k := n) rfl rfl rfl Tryz.underlying188 Fe by4 ze4 rfl (by omega) (by omega) (Dg _)) fun g24 => ?_
  refine Za ?_
  refine Zx <| Zs ?_
  refine Za ?_
  refine Zx <| DC.seq <| Zs ?_
  refine Zm ?_
  refine Zn Tryz.underlying44 ?_
  refine Zm ?_
  refine Zx <| DC.block ?_
  refine DC.own (fun w hw => Bm (t := 44) (m := 1) hw) ?_
  refine DC.loop (ι := FaI) (fun j => FaD n f j)
   (fun j => [(6, .slice (some ⟨gn, 0, none⟩) n n), (8, .slice (some ⟨g24, 0, none⟩) n n), (9, j.v), (25, .slice (some ⟨gn, 0, none⟩) n n), (26, .int .i64 n), (27, .int .i64 j.h)])
   (fun j => slc j.v 44 1 (rowsV j.fs) :: blk g24 4 (bls n j.g).toArray :: blk gn 3 (ints (tab n f)).toArray :: rowsC 3 j.fs) (fun j => n - j.h) ⟨0, fun _ => false, [], .slice none 0 0⟩
   ⟨Nat.zero_le _, fun x _ => ⟨fun h => by simp at h, fun ⟨j, q, h, _⟩ => absurd h (Nat.not_lt_zero _)⟩, by simp, by simp⟩ ⟨rfl, rfl, rfl, rfl, rfl, rfl, trivial⟩ (.cons 0 rfl (.cons 0 rfl (.cons 0 rfl .nil))) ?_
  rintro ⟨h, g, fs, v9⟩ hD
  have hDle := hD.le
  have hDse := hD.seen
  dsimp only at hDle hDse ⊢
  refine Zs ?_
  refine Zc ?_
  refine Zx <| DC.seq ?_
  refine Zd (fun c7 => ?_) fun c7 => ?_
  ·have hlt : h < n := by simpa using c7
   refine DC.skip <| Fin.then <| DC.seq <| DC.block <| Zs ?_
   refine Zm ?_
   refine Za ?_
   refine Zx <| Zs ?_
   refine Za ?_
   refine Zx <| DC.seq <| Zs ?_
   refine Zm ?_
   refine Za ?_
   refine Zx <| DC.block ?_
   refine DC.own (fun w hw => Bm (t := 3) (m := 1) hw) ?_
   refine DC.loop (ι := FaJ) (fun j => FaW n f h g j)
    (fun j => [(6, .slice (some ⟨gn, 0, none⟩) n n), (8, .slice (some ⟨g24, 0, none⟩) n n), (9, v9), (11, j.v), (12, .int .i64 (itr (phi f) j.t h : Nat)), (25, .slice (some ⟨gn, 0, none⟩) n n), (26, .int .i64 n), (27, .int .i64 h)])
    (fun j => slc j.v 3 1 (ints (faceL f h j.t)) :: slc v9 44 1 (rowsV fs) :: blk g24 4 (bls n j.g).toArray :: blk gn 3 (ints (tab n f)).toArray :: rowsC 3 fs) (fun j => n - j.t) ⟨0, g, .slice none 0 0⟩
    ⟨by simp, fun x hx => by simp, fun h => absurd h (Nat.lt_irrefl _)⟩ ⟨rfl, rfl, rfl, rfl, rfl, rfl, rfl, rfl, trivial⟩ (Pick.all _) ?_
   rintro ⟨t, g', v11⟩ hW
   have hWse := hW.seen
   have hk := Ce hP hlt t
   dsimp only at hWse ⊢
   have htn : t ≤ n := by
    have := CC (b := List.range n) hW.nd (fun y hy => by obtain ⟨q, _, rfl⟩ := List.mem_map.1 hy; exact List.mem_range.2 (Ce hP hlt q))
    simpa using this
   obtain ⟨k, hkk⟩ : ∃ k, k = itr (phi f) t h := ⟨_, rfl⟩
   rw [← hkk] at hk ⊢
   have htw : twn k < n := by unfold twn; split <;> omega
   have hval : (ints (tab n f)).toArray[twn k]? = some (.int .i64 ((phi f k : Nat) : Int)) := by
    rw [Bk htw]; congr 2; exact (Int.toNat_of_nonneg (hf0 _ htw)).symm
   have exor : (if (k : Int) % 2 = 0 then (k : Int) + 1 else (k : Int) - 1) = ((twn k : Nat) : Int) := by unfold twn; split <;> split <;> omega
   refine DC.seq <| Zs ?_
   refine Zm ?_
   refine Zm ?_
   refine Zi Tryz.underlying188 Fe ?_
   refine Zu (Ah rfl rfl ag4 (AU (DI g' hk))) ?_
   refine Zo (Bh rfl rfl) ?_
   refine Zx ?_
   refine Zd (fun c11 => ?_) fun c11 => ?_
   ·have hgk : ¬ (g' k = true) := by simpa using c11
    have hkn : ¬ ∃ i, i < t ∧ itr (phi f) i h = k := fun h1 => hgk ((hWse k hk).2 (.inr h1))
    have hnd1 : ((List.range (t + 1)).map fun i => itr (phi f) i h).Nodup := by
     rw [List.range_succ, List.map_append, List.nodup_append]
     refine ⟨hW.nd, by simp, fun a ha b hb e => ?_⟩
     simp at hb; subst hb; subst e
     obtain ⟨q, hq, e⟩ := List.mem_map.1 ha
     exact hkn ⟨q, List.mem_range.1 hq, by rw [hkk]; exact e⟩
    have htn1 : t + 1 ≤ n := by
     have := CC (b := List.range n) hnd1 (fun y hy => by obtain ⟨q, _, rfl⟩ := List.mem_map.1 hy; exact List.mem_range.2 (Ce hP hlt q))
     simpa using this
    refine DC.skip <| Fin.then <| DC.seq <| DC.block <| Zs ?_
    refine Zm ?_
    refine Zm ?_
    refine Zi Tryz.underlying188 Fe ?_
    refine Zy (AF (cs' := (bls n (updB g' k true)).toArray) rfl rfl rfl Fe rfl (by simp; omega) (DH g' true)) ?_
    refine Zx <| DC.region ?_
    refine Zm ?_
    refine Zm ?_
    refine Zw (AP (cs := #[_]) rfl rfl Tryz.underlying44 AN B6 rfl (by decide) (by decide) rfl rfl) fun g46 => ?_
    refine Seq.gen rfl rfl (AR rfl rfl rfl Tryz.underlying44 AN DP B6 rfl (by decide) (by decide) (fun w hw => hw.sub (List.sublist_cons_self ..)) (.inl ⟨_, _, rfl, Ak rfl⟩) rfl (Br [(k : Int)] []) (by simp [faceL]; omega)) ?_
    rintro v47 _ rfl
    refine Za ?_
    refine Seq.nil <| Fin.inBlock <| Fin.then <| DC.region ?_
    refine Zm ?_
    refine Zm ?_
    refine Zo (Gu rfl rfl rfl (by omega)) ?_
    rw [exor]
    refine Zo (Ai (ad' := ⟨gn, twn k, none⟩) rfl rfl rfl Tryz.underlying44 AN (by omega) (by omega) (by rw [AC]; rfl)) ?_
    refine Zu (Ah rfl rfl AO (AU hval)) ?_
    refine Za ?_
    refine Seq.nil ?_
    refine Fin.again ⟨t + 1, updB g' k true, v47⟩ (by dsimp only; omega) ⟨hnd1, ?_, ?_⟩ ⟨rfl, rfl, rfl, rfl, by rw [hkk]; rfl, rfl, rfl, rfl, trivial⟩ (.cons' 0 rfl (by dsimp only; unfold faceL; rw [List.range_succ, List.map_append, A4, hkk]; rfl) (Pick.all _))
    ·intro x hx
     dsimp only
     unfold updB
     split
     ·rename_i e; subst e
      simp only [true_iff]
      exact .inr ⟨t, by omega, hkk.symm⟩
     ·rename_i e
      rw [hWse x hx]
      constructor
      ·rintro (h1 | ⟨i, hi, h1⟩)
       ·exact .inl h1
       ·exact .inr ⟨i, by omega, h1⟩
      ·rintro (h1 | ⟨i, hi, h1⟩)
       ·exact .inl h1
       ·rcases Nat.lt_succ_iff_lt_or_eq.1 hi with hi | rfl
        ·exact .inr ⟨i, hi, h1⟩
        ·exact absurd (by rw [hkk, h1]) (Ne.symm e)
    ·intro _ hgh
     by_cases h0 : 0 < t
     ·exact hW.new h0 hgh
     ·have : k = h := by rw [hkk, show t = 0 by omega]; rfl
      exact hgk ((hWse k hk).2 (.inl (by rw [this]; exact hgh)))
   ·refine DC.exit <| Ad <| Ad <| Ag <| Fin.then <| DC.seq ?_
    have hgk : g' k = true := by simpa using c11
    refine DC.slcs (i := 0) rfl (by simp [faceL]; omega) ?_
    rintro A11 c11' rfl _
    have hfl : (faceL f h t).length = t := by simp [faceL]
    rw [hfl]
    refine DC.region ?_
    refine Zm ?_
    refine Zn Tryz.underlying44 ?_
    refine Zo (BH rfl rfl rfl) ?_
    refine Zx ?_
    refine Zd (fun c15 => ?_) fun c15 => ?_
    ·have ht0 : 0 < t := by simp at c15; omega
     have hns : ¬ SeenB (phi f) h h := fun h1 => hW.new ht0 ((hDse h hlt).2 h1)
     have hlead : Lead (phi f) h := by
      apply Classical.byContradiction
      intro h1; exact hns ((Ed hP hlt).2 h1)
     have hall := He hP hlt ht0 hns (by
      rw [← hkk]
      rcases (hWse k hk).1 hgk with h1 | h1
      ·exact .inl ((hDse k hk).1 h1)
      ·exact .inr h1)
     have hfslen : fs.length ≤ h := by
      have h1 := congrArg List.length hD.heads
      simp only [List.length_map] at h1
      have h2 := List.length_filter_le (fun x => decide (Lead (phi f) x)) (List.range h)
      simp at h2; omega
     refine DC.region ?_
     refine Zm ?_
     refine Zm ?_
     refine Zw (AP (cs := #[_]) rfl rfl Tryz.underlying25 Bn CH rfl (by decide) (by decide) rfl rfl) fun g53 => ?_
     refine Seq.gen rfl rfl (AR rfl rfl rfl Tryz.underlying25 Bn GT CH rfl (by decide) (by decide) (news := [.slice A11 t c11']) (k := 1) (fun w hw => (hw.sub (List.sublist_cons_self ..)).perm (.swap _ _ _)) (.inl ⟨_, _, rfl, Ak rfl⟩) rfl (fun u hu => by rw [List.mem_singleton.1 hu]; rfl) (by simp; omega)) ?_
     rintro v54 _ rfl
     refine Za ?_
     refine Seq.nil <| Fin.inBlock <| Fin.then <| DC.region ?_
     refine Zp ?_
     refine Zm ?_
     refine Seq.nil ?_
     refine Fin.own (M := slc v54 44 1 (rowsV (fs ++ [(.slice A11 t c11', faceL f h t)])) :: blk g24 4 (bls n g').toArray :: blk gn 3 (ints (tab n f)).toArray :: rowsC 3 (fs ++ [(.slice A11 t c11', faceL f h t)])) (fun w hw => ?_) ?_
     ·have e1 : rowsV (fs ++ [(.slice A11 t c11', faceL f h t)]) = rowsV fs ++ [.slice A11 t c11'] := by simp [rowsV]
      have e2 : rowsC 3 (fs ++ [(.slice A11 t c11', faceL f h t)]) = rowsC 3 fs ++ [slc (.slice A11 t c11') 3 1 (ints (faceL f h t))] := by simp [rowsC]
      rw [e1, e2]
      refine hw.perm ?_
      refine List.Perm.cons _ ?_
      have := List.perm_append_comm (l₁ := blk g24 4 (bls n g').toArray :: blk gn 3 (ints (tab n f)).toArray :: rowsC 3 fs) (l₂ := [slc (.slice A11 t c11') 3 1 (ints (faceL f h t))])
      simpa using this
     refine Fin.again ⟨h + 1, g', fs ++ [(.slice A11 t c11', faceL f h t)], v54⟩ (by dsimp only; omega) ⟨by dsimp only; omega, ?_, ?_, ?_⟩ ⟨rfl, rfl, rfl, rfl, rfl, rfl, trivial⟩ (Pick.all _)
     ·intro x hx
      dsimp only
      rw [hWse x hx, hDse x hx, Ep hall]
     ·dsimp only
      rw [List.range_succ, List.filter_append, List.map_append, List.map_append, hD.heads]
      congr 1
      have : (faceL f h t).head? = some (h : Int) := by
       obtain ⟨t', rfl⟩ : ∃ t', t = t' + 1 := ⟨t - 1, by omega⟩
       simp [faceL, List.range_succ_eq_map, itr]
      simp [hlead, this]
     ·intro p hp
      rw [List.mem_append] at hp
      rcases hp with hp | hp
      ·exact hD.short p hp
      ·simp at hp; subst hp; dsimp only; omega
    ·refine DC.skip <| Fin.inBlock <| Fin.then <| DC.region ?_
     refine Zp ?_
     refine Zm ?_
     refine Seq.nil ?_
     have ht0 : t = 0 := by simp at c15; omega
     subst ht0
     have hkh : k = h := hkk
     subst hkh
     have hgx : ∀ x, x < n → (g' x = true ↔ g x = true) := fun x hx => by rw [hWse x hx]; simp
     have hs : SeenB (phi f) k k := (hDse k hlt).1 ((hgx k hlt).1 hgk)
     have hnl : ¬ Lead (phi f) k := (Ed hP hlt).1 hs
     refine Fin.own (fun w hw => hw.sub (List.sublist_cons_self ..)) ?_
     refine Fin.again ⟨k + 1, g', fs, v9⟩ (by dsimp only; omega) ⟨by dsimp only; omega, ?_, ?_, hD.short⟩ ⟨rfl, rfl, rfl, rfl, rfl, rfl, trivial⟩ (Pick.all _)
     ·intro x hx
      dsimp only
      rw [hgx x hx, hDse x hx, Eo hs]
     ·dsimp only
      rw [List.range_succ, List.filter_append, List.map_append, hD.heads]
      simp [hnl]
  ·refine DC.exit <| Ad <| Ad <| Ag <| Fin.then <| Zs ?_
   refine Zm ?_
   refine Za ?_
   refine Za ?_
   refine Zx <| DC.ret ?_
   have hhn : h = n := by simp at c7; omega
   subst hhn
   refine Fin.own (M := slc v9 44 1 (rowsV fs) :: rowsC 3 fs) (fun w hw => hw.sub (.cons_cons _ (.cons _ (.cons _ (List.Sublist.refl _))))) ?_
   refine AJ (.inl rfl) rfl rfl rfl ?_
   refine .inl ⟨hok, v9, fs, f, rfl, hnx, ?_, rfl⟩
   exact ⟨Nat.le_refl _, fun x hx => ⟨fun _ => ⟨x, 0, hx, rfl⟩, fun _ => rfl⟩, hD.heads, hD.short⟩
end Go.Fl

namespace Go.Fl
open Go Go.Proofs
theorem Ei : ∀ {a b : List Int}, a.Nodup → (∀ x, x ∈ a → x ∈ b) → a.length ≤ b.length
 | [], b, _, _ => by simp
 | x :: r, b, hn, hs => by
  rw [List.nodup_cons] at hn
  have hx : x ∈ b := hs x (by simp)
  have ih := Ei (a := r) (b := b.erase x) hn.2 (fun y hy => (List.mem_erase_of_ne (fun e => hn.1 (by rw [← e]; exact hy))).2 (hs y (by simp [hy])))
  have := List.length_erase_of_mem hx
  have : 0 < b.length := List.length_pos_of_mem hx
  simp; omega
theorem mod_inj {i j n : Nat} (hi : i < n) (hj : j < n) (h : (i + 1) % n = (j + 1) % n) : i = j := by
 have e : ∀ k, k < n → (k + 1) % n = if k + 1 = n then 0 else k + 1 := by
  intro k hk
  split
  ·rename_i h1; rw [h1, Nat.mod_self]
  ·exact Nat.mod_eq_of_lt (by omega)
 rw [e i hi, e j hj] at h
 split at h <;> split at h <;> omega
theorem DV {N : Int} {es : List Pr} {rs : List (List Int)} (hok : RotL N es rs) {h : Nat} (hh : h < es.length * 2) :
  ∃ (v : Nat) (l : List Int) (i : Nat), rs[v]? = some l ∧ l[i]? = some (h : Int) ∧ fromV es h = v := by
 obtain ⟨hV, hN, hrow⟩ := hok
 obtain ⟨e, a, he, hcase⟩ := BZ (es := es) (h := (h : Int)) (by omega) (by omega)
 have ho := hV.ok e a he
 have h1 := ho.lo
 have h2 := ho.lt
 have h3 := ho.hi
 have hb : 0 ≤ fromV es h ∧ fromV es h < N := by
  rcases hcase with ⟨_, h4, _⟩ | ⟨_, h4, _⟩ <;> rw [h4] <;> omega
 obtain ⟨v, hv⟩ := Int.eq_ofNat_of_zero_le hb.1
 obtain ⟨l, hl⟩ : ∃ l, rs[v]? = some l := ⟨_, List.getElem?_eq_getElem (by omega)⟩
 obtain ⟨hfr, hnd, hcnt⟩ := hrow v l hl
 have hmem : (h : Int) ∈ l := by
  apply Classical.byContradiction
  intro hno
  have hle := Ei (a := (h : Int) :: l) (b := outs es v) (List.nodup_cons.2 ⟨hno, hnd⟩) (fun x hx => by
   rcases List.mem_cons.1 hx with rfl | hx
   ·exact (A8 hV).2 ⟨by omega, by omega, hv⟩
   ·exact (A8 hV).2 (hfr x hx))
  unfold cnt at hcnt
  simp only [List.length_cons] at hle
  omega
 obtain ⟨i, hi⟩ := List.mem_iff_getElem?.1 hmem
 exact ⟨v, l, i, hl, hi, hv⟩
theorem Eh {N : Int} {es : List Pr} {rs : List (List Int)} {f : Nat → Int} (hok : RotL N es rs) (hnx : NxOk rs rs.length f) : Perm (es.length * 2) (phi f) ∧ ∀ h, h < es.length * 2 → 0 ≤ f h := by
 have hrow := hok.2.2
 have next : ∀ {v : Nat} {l : List Int} {i h : Nat}, rs[v]? = some l → l[i]? = some (h : Int) → l[(i + 1) % l.length]? = some (f h) ∧ 0 ≤ f h ∧ f h < es.length * 2 ∧ fromV es (f h) = v := by
  intro v l i h hl hi
  have h1 := hnx v l i h (List.getElem?_eq_some_iff.1 hl).1 hl hi
  rw [Int.toNat_natCast] at h1
  obtain ⟨h2, h3, h4⟩ := (hrow v l hl).1 _ (List.mem_of_getElem? h1)
  exact ⟨h1, h2, h3, h4⟩
 have hf0 : ∀ h, h < es.length * 2 → 0 ≤ f h := fun h hh => by
  obtain ⟨v, l, i, hl, hi, _⟩ := DV hok hh
  exact (next hl hi).2.1
 have htw : ∀ h, h < es.length * 2 → twn h < es.length * 2 := fun h hh => by unfold twn; split <;> omega
 have htinj : ∀ a b, twn a = twn b → a = b := fun a b e => by unfold twn at e; split at e <;> split at e <;> omega
 refine ⟨⟨fun h hh => ?_, fun a b ha hb e => ?_⟩, hf0⟩
 ·obtain ⟨v, l, i, hl, hi, _⟩ := DV hok (htw h hh)
  have := next hl hi
  unfold phi; omega
 ·obtain ⟨v, l, i, hl, hi, hv⟩ := DV hok (htw a ha)
  obtain ⟨v', l', i', hl', hi', hv'⟩ := DV hok (htw b hb)
  obtain ⟨n1, n2, n3, n4⟩ := next hl hi
  obtain ⟨m1, m2, m3, m4⟩ := next hl' hi'
  have hff : f (twn a) = f (twn b) := by unfold phi at e; omega
  have hvv : v = v' := by rw [hff] at n4; omega
  subst hvv
  rw [hl] at hl'; cases hl'
  have hnd := (hrow v l hl).2.1
  have hil := (List.getElem?_eq_some_iff.1 hi).1
  have hil' := (List.getElem?_eq_some_iff.1 hi').1
  have hmm := (List.getElem?_inj (Nat.mod_lt _ (by omega)) hnd).1 (n1.trans ((congrArg some hff).trans m1.symm))
  have hii := mod_inj hil hil' hmm
  subst hii
  rw [hi] at hi'
  have : twn a = twn b := by have := Option.some.inj hi'; omega
  exact htinj a b this
end Go.Fl

namespace Go.Fl
open Go
theorem E0 {α : Type} (b : α → Nat) : ∀ {l : List α} {j : Nat} {e : α}, (l.map b).Nodup → l[j]? = some e → l.filter (fun x => b x != b e) = l.eraseIdx j
 | [], j, e, _, h => by simp at h
 | x :: r, 0, e, hn, h => by
  simp at h; subst h
  simp only [List.map_cons, List.nodup_cons] at hn
  rw [List.filter_cons, if_neg (by simp), List.eraseIdx_cons_zero, List.filter_eq_self]
  intro y hy
  have : b y ≠ b x := fun e => hn.1 (by rw [← e]; exact List.mem_map_of_mem hy)
  simpa using this
 | x :: r, j + 1, e, hn, h => by
  simp only [List.getElem?_cons_succ] at h
  simp only [List.map_cons, List.nodup_cons] at hn
  have : b x ≠ b e := fun e' => hn.1 (by rw [e']; exact List.mem_map_of_mem (List.mem_of_getElem? h))
  rw [List.filter_cons, if_pos (by simpa using this), List.eraseIdx_cons_succ, E0 b hn.2 h]
section
variable {κ : Type} [DecidableEq κ]
/-- A map and an iterator over it; 'left': the entries that have not come yet; 'last': the one that came last. -/
def mit (enc : κ → Value) (gm gi : Nat) (m left : List (κ × Value)) (last : Option (κ × Value)) : Chunk :=
 ⟨[gm, gi], fun w => ∃ es clock seen, w.heap[gm]? = some (.map es clock) ∧ es.toList.map (fun e => (e.key, e.val)) = m.map (fun p => (enc p.1, p.2)) ∧ (es.toList.map (·.born)).Nodup ∧ (∀ e, e ∈ es.toList → e.born < clock) ∧
   w.heap[gi]? = some (.mapIter (some gm) clock seen clock) ∧ (leftOf es seen).toList.map (fun e => (e.key, e.val)) = left.map (fun p => (enc p.1, p.2)) ∧
   ∀ p, last = some p → ∃ (e : MapEntry) (s0 : Array Nat), e ∈ es.toList ∧ seen = s0.push e.born ∧ e.key = enc p.1 ∧ e.val = p.2,
  fun w w' h hh => by
   obtain ⟨es, c, s, h1, h2, h3, h4, h5, h6⟩ := hh
   exact ⟨es, c, s, (h gm (by simp)).trans h1, h2, h3, h4, (h gi (by simp)).trans h5, h6⟩⟩
variable {P : Program} {w0 w : World} {K : List Nat} {n : Nat} {ds : List Deferred} {E : Env} {L : List Chunk} {o : Oper} {x : Operand} {v : Value} {enc : κ → Value} {m left : List (κ × Value)} {gm gi : Nat} {v0 : Option (κ × Value)}
theorem g_range {t kt et : TypeId} (i : Nat) (hi : L[i]? = some (mpc enc gm m)) (ho : o.op = .range t x) (hx : ev n E x = some (.map (some gm))) (ht : P.underlying t = some (.map kt et)) :
  Gen P w0 K n ds E L o (fun v M => ∃ gi, v = .pointer (some ⟨gi, 0, none⟩) ∧ M = L.set i (mit enc gm gi m m none)) := by
 intro a w ha hw
 obtain ⟨es, clock, h1, h2, h3, h4⟩ := Eg i hi hw
 have hlt : gm < w.heap.size := (Array.getElem?_eq_some_iff.1 h1).1
 have hr : (execOp a.eval o).run P w = .ok (.value (.pointer (some ⟨w.heap.size, 0, none⟩))) (w.alloc (.mapIter (some gm) clock #[] clock)) := by
  have hg : (getObj gm).run P w = .ok (.map es clock) w := by simp [getObj, Sem.run, h1]
  simp only [execOp, ho, ha.ev hx, Instr.range, Sem.run_bind, run_underlying ht, Result.andThen_ok, hg, Sem.run_pure]
  rfl
 refine RunsTo.value hr ⟨_, ⟨w.heap.size, rfl, rfl⟩, ?_⟩
 have hO : Own w [gm] (w.alloc (.mapIter (some gm) clock #[] clock)) [mit enc gm w.heap.size m m none] := by
  refine ⟨rfl, rfl, rfl, Lo.refl _, by simp, fun k hk hn => ?_, ?_, fun g hg => ?_, fun g hg => ?_, fun c hc => ?_⟩
  ·simp only [World.alloc, Array.getElem?_push]; rw [if_neg (by omega)]
  ·simp [mit]; exact fun e => by omega
  ·simp [mit] at hg; rcases hg with rfl | rfl
   ·exact .inl (by simp)
   ·exact .inr (Nat.le_refl _)
  ·simp [mit] at hg; rcases hg with rfl | rfl
   ·simp; omega
   ·simp
  ·simp at hc; subst hc
   refine ⟨es, clock, #[], ?_, h2, h3, h4, ?_, ?_, fun p hp => by cases hp⟩
   ·simp only [World.alloc, Array.getElem?_push]; rw [if_neg (by omega)]; exact h1
   ·simp only [World.alloc, Array.getElem?_push]; rw [if_pos trivial]
   ·have : leftOf es #[] = es := by simp [leftOf]
    rw [this]; exact h2
 exact (Own.frame (Lc := [mpc enc gm m]) (hw.perm (AI hi).symm) hO (fun k hk => by simp [mpc] at hk ⊢; exact hk)).perm (DX hi)
theorem g_next (i : Nat) (hi : L[i]? = some (mit enc gm gi m left v0)) (ho : o.op = .next x false) (hx : ev n E x = some (.pointer (some ⟨gi, 0, none⟩))) :
  Gen P w0 K n ds E L o (fun v M => (v = .tuple #[.bool false] ∧ left = [] ∧ M = L) ∨ (∃ j p, left[j]? = some p ∧ v = .tuple #[.bool true, enc p.1, p.2] ∧ M = L.set i (mit enc gm gi m (left.eraseIdx j) (some p)))) := by
 intro a w ha hw
 obtain ⟨es, clock, seen, h1, h2, h3, h4, h5, h6, h7⟩ := Eg i hi hw
 rcases run_next_at (P := P) w o.type gi gm clock clock seen es clock h5 h1 h4 (Nat.le_refl _) with ⟨hz, hr⟩ | ⟨e, he, w1, hw1, hr⟩
 ·have hl : left = [] := by
   have := congrArg List.length h6
   simp only [List.length_map, Array.length_toList, hz] at this
   exact List.eq_nil_of_length_eq_zero this.symm
  refine RunsTo.value (v := .tuple #[.bool false]) (w' := w) (by simp only [execOp, ho, ha.ev hx, Sem.run_bind, hr, Result.andThen_ok, Sem.run_pure]) ⟨L, .inl ⟨rfl, hl, rfl⟩, hw⟩
 ·obtain ⟨j, hj⟩ := List.mem_iff_getElem?.1 he
  have hpj : ∃ p, left[j]? = some p ∧ e.key = enc p.1 ∧ e.val = p.2 := by
   have h8 : ((leftOf es seen).toList.map fun e => (e.key, e.val))[j]? = some (e.key, e.val) := by rw [List.getElem?_map, hj]; rfl
   rw [h6, List.getElem?_map, Option.map_eq_some_iff] at h8
   obtain ⟨p, hp, hpe⟩ := h8
   exact ⟨p, hp, (congrArg Prod.fst hpe).symm, (congrArg Prod.snd hpe).symm⟩
  obtain ⟨p, hp, hk, hv⟩ := hpj
  have hees : e ∈ es.toList := by
   unfold leftOf at he
   rw [Array.toList_filter] at he
   exact (List.mem_filter.1 he).1
  refine RunsTo.value (v := .tuple #[.bool true, enc p.1, p.2]) (w' := ChangeMaps.setBlock w1 gi (.mapIter (some gm) clock (seen.push e.born) clock)) (by simp only [execOp, ho, ha.ev hx, Sem.run_bind, hr, Result.andThen_ok, Sem.run_pure, hk, hv]) ⟨_, .inr ⟨j, p, hp, rfl, rfl⟩, ?_⟩
  have hw1' : Own w0 K w1 L := by
   rcases hw1 with rfl | rfl
   ·exact hw
   ·exact hw.drew
  have hheap : w1.heap = w.heap := by rcases hw1 with rfl | rfl <;> rfl
  have hne : gm ≠ gi := by
   intro e
   rw [e, h5] at h1; cases h1
  have hlm : gm < w1.heap.size := by rw [hheap]; exact (Array.getElem?_eq_some_iff.1 h1).1
  have hli : gi < w1.heap.size := by rw [hheap]; exact (Array.getElem?_eq_some_iff.1 h5).1
  have hO : Own w1 [gm, gi] (ChangeMaps.setBlock w1 gi (.mapIter (some gm) clock (seen.push e.born) clock)) [mit enc gm gi m (left.eraseIdx j) (some p)] := by
   refine ⟨rfl, rfl, rfl, Lo.refl _, by simp [ChangeMaps.setBlock], fun k hk hn => ?_, by simp [mit, hne], fun g hg => .inl (by simpa [mit] using hg), fun g hg => ?_, fun c hc => ?_⟩
   ·simp at hn
    show (w1.heap.setIfInBounds gi _)[k]? = _
    rw [Array.getElem?_setIfInBounds_ne (by omega)]
   ·simp [mit] at hg
    rcases hg with rfl | rfl <;> simpa [ChangeMaps.setBlock]
   ·simp at hc; subst hc
    refine ⟨es, clock, seen.push e.born, ?_, h2, h3, h4, ?_, ?_, fun p' hp' => ?_⟩
    ·show (w1.heap.setIfInBounds gi _)[gm]? = _
     rw [Array.getElem?_setIfInBounds_ne (by omega), hheap]; exact h1
    ·show (w1.heap.setIfInBounds gi _)[gi]? = _
     simp [hli]
    ·have hnd : ((leftOf es seen).toList.map (·.born)).Nodup := by
      unfold leftOf
      rw [Array.toList_filter]
      exact h3.sublist ((List.filter_sublist).map _)
     have e1 : (leftOf es (seen.push e.born)).toList = (leftOf es seen).toList.filter (fun x => x.born != e.born) := by
      unfold leftOf
      rw [Array.toList_filter, Array.toList_filter, List.filter_filter]
      apply List.filter_congr
      intro y _
      by_cases hye : y.born = e.born
      ·simp [hye]
      ·have hye' : ¬ e.born = y.born := fun h => hye h.symm
       simp [hye, bne]
     rw [e1, E0 (·.born) hnd hj, ChangeMaps.map_eraseIdx, h6, ChangeMaps.map_eraseIdx]
    ·cases hp'
     exact ⟨e, seen, hees, rfl, hk, hv⟩
  exact (Own.frame (Lc := [mit enc gm gi m left v0]) (hw1'.perm (AI hi).symm) hO (fun k hk => by simpa [mit] using hk)).perm (DX hi)
theorem v_entry {p : κ × Value} (i : Nat) (hi : L[i]? = some (mit enc gm gi m left (some p))) (ho : o.op = .entry x) (hx : ev n E x = some (.pointer (some ⟨gi, 0, none⟩))) : Val P w0 K n ds E L o (.tuple #[enc p.1, p.2]) := by
 intro a w ha hw
 obtain ⟨es, clock, seen, h1, h2, h3, h4, h5, h6, h7⟩ := Eg i hi hw
 obtain ⟨e, s0, he, rfl, hk, hv⟩ := h7 p rfl
 have := run_entry_at (P := P) w gi gm clock s0 es clock e h5 h1 he h3
 simp only [execOp, ho, ha.ev hx, Sem.run_bind, this, Result.andThen_ok, Sem.run_pure, hk, hv]
end
section
variable {P : Program} {n : Nat} {ds : List Deferred} {E : Env} {o : Oper} {x y : Operand}
theorem p_quo2 {t t' : TypeId} {i q : Int} (ho : o.op = .binOp .quo t x y t') (hx : ev n E x = some (.int .i64 i)) (hy : ev n E y = some (.int .i64 2)) (hi : i = 2 * q) (hq : -9223372036854775808 ≤ q ∧ q ≤ 9223372036854775807) :
  Pur P n ds E o (.int .i64 q) := CG (r := 0) ho hx hy fun w => by
 have h1 : i.tdiv 2 = q := by rw [hi]; exact Int.mul_tdiv_cancel_left _ (by omega)
 simp [binOp, Op.intDiv, h1, Dl (i := q) ⟨by omega, by omega⟩]
end
end Go.Fl

namespace Go.Fl
open Go Go.Proofs
open Classical
def tl (a b c : Nat) : Value := .agg #[.int .i64 a, .int .i64 b, .int .i64 c]
/-- How many vertices below i bear the label x. -/
def cnV (f : Nat → Int) (i : Nat) (x : Int) : Nat := (List.range i).countP fun j => decide (f j = x)
/-- How many of the first i edges, of the first i faces. -/
def cnE (f : Nat → Int) (es : List Pr) (i : Nat) (x : Int) : Nat := (es.take i).countP fun e => decide (f e.1.toNat = x)
def headU (es : List Pr) (h : Int) : Nat := ((es[(h / 2).toNat]?).getD (0, 0)).1.toNat
def cnF (f : Nat → Int) (es : List Pr) (hs : List Int) (i : Nat) (x : Int) : Nat := (hs.take i).countP fun h => decide (f (headU es h) = x)
def Tal (m : List (Int × Value)) (a b c : Int → Nat) : Prop := (m.map (·.1)).Nodup ∧ ∀ x, lkM m x = if a x = 0 then none else some (tl (a x) (b x) (c x))
theorem GQ (f : Nat → Int) (i : Nat) (x : Int) : cnV f (i + 1) x = cnV f i x + if f i = x then 1 else 0 := by
 unfold cnV
 rw [List.range_succ, List.countP_append]
 by_cases h : f i = x <;> simp [h]
theorem HQ {m : List (Int × Value)} {a b c : Int → Nat} (h : Tal m a b c) (x : Int) (h0 : a x = 0 → b x = 0 ∧ c x = 0) : (lkM m x).getD (tl 0 0 0) = tl (a x) (b x) (c x) := by
 rw [h.2 x]
 split
 ·rename_i e; rw [e, (h0 e).1, (h0 e).2]; rfl
 ·rfl
theorem HP {m : List (Int × Value)} {a b c a' b' c' : Int → Nat} (h : Tal m a b c) (x : Int) (hx : a' x ≠ 0) (ho : ∀ y, y ≠ x → a' y = a y ∧ b' y = b y ∧ c' y = c y) : Tal (putM x (tl (a' x) (b' x) (c' x)) m) a' b' c' := by
 refine ⟨Kf h.1, fun y => ?_⟩
 rw [Du]
 by_cases hy : y = x
 ·subst hy; rw [if_pos rfl, if_neg hx]
 ·obtain ⟨h1, h2, h3⟩ := ho y hy
  rw [if_neg hy, h.2 y, h1, h2, h3]
theorem JH {f : Nat → Int} {es : List Pr} {i : Nat} {e : Pr} (he : es[i]? = some e) (x : Int) : cnE f es (i + 1) x = cnE f es i x + if f e.1.toNat = x then 1 else 0 := by
 unfold cnE
 rw [List.take_add_one, he, List.countP_append]
 by_cases h : f e.1.toNat = x <;> simp [h]
theorem E4 {f : Nat → Int} {n j : Nat} (hj : j < n) : cnV f n (f j) ≠ 0 := by
 unfold cnV
 have : 0 < (List.range n).countP fun q => decide (f q = f j) := List.countP_pos_iff.2 ⟨j, List.mem_range.2 hj, by simp⟩
 omega
theorem KJ (f : Nat → Int) (i : Nat) (x : Int) : cnV f i x ≤ i := by
 unfold cnV; have := List.countP_le_length (p := fun j => decide (f j = x)) (l := List.range i); simpa using this
theorem cnE_le (f : Nat → Int) (es : List Pr) (i : Nat) (x : Int) : cnE f es i x ≤ es.length := by
 unfold cnE; have := List.countP_le_length (p := fun e : Pr => decide (f e.1.toNat = x)) (l := es.take i); simp at this; omega
theorem cnF_succ {f : Nat → Int} {es : List Pr} {hs : List Int} {i : Nat} {h : Int} (hh : hs[i]? = some h) (x : Int) : cnF f es hs (i + 1) x = cnF f es hs i x + if f (headU es h) = x then 1 else 0 := by
 unfold cnF
 rw [List.take_add_one, hh, List.countP_append]
 by_cases h : f (headU es h) = x <;> simp [h]
theorem cnF_le (f : Nat → Int) (es : List Pr) (hs : List Int) (i : Nat) (x : Int) : cnF f es hs i x ≤ hs.length := by
 unfold cnF; have := List.countP_le_length (p := fun h : Int => decide (f (headU es h) = x)) (l := hs.take i); simp at this; omega
/-! ### counting by labels -/
theorem Di {α : Type} {p : α → Bool} : ∀ {l : List α} {a : α}, l.Nodup → a ∈ l → p a = true → (∀ b, b ∈ l → p b = true → b = a) → l.countP p = 1
 | [], a, _, h, _, _ => by cases h
 | x :: r, a, hn, ha, hp, hu => by
  rw [List.nodup_cons] at hn
  rw [List.countP_cons]
  by_cases hx : p x = true
  ·have e := hu x (by simp) hx
   subst e
   have : r.countP p = 0 := by
    rw [List.countP_eq_zero]
    intro b hb hpb
    have := hu b (by simp [hb]) hpb
    subst this; exact hn.1 hb
   simp [hx, this]
  ·have har : a ∈ r := by
    rcases List.mem_cons.1 ha with rfl | h
    ·exact absurd hp hx
    ·exact h
   rw [Di hn.2 har hp fun b hb => hu b (by simp [hb])]
   simp [hx]
theorem GN {α : Type} {p : α → Bool} {l : List α} (h : ∀ a, a ∈ l → ¬ p a = true) : l.countP p = 0 := List.countP_eq_zero.2 h
theorem IP {ks : List Int} {g : Int → Nat} (h : ∀ x, x ∈ ks → g x = 1) : (ks.map g).sum = ks.length := by
 induction ks with
 | nil => rfl
 | cons x r ih => simp only [List.map_cons, List.sum_cons, List.length_cons]; rw [h x (by simp), ih fun y hy => h y (by simp [hy])]; omega
theorem K0 {y : Int} : ∀ {ks : List Int}, ks.Nodup → y ∈ ks → (ks.map fun x => if y = x then 1 else 0).sum = 1
 | [], _, h => by cases h
 | x :: r, hn, h => by
  rw [List.nodup_cons] at hn
  simp only [List.map_cons, List.sum_cons]
  by_cases e : y = x
  ·subst e
   have : (r.map fun x => if y = x then 1 else 0).sum = 0 := by
    have : ∀ l : List Int, y ∉ l → (l.map fun x => if y = x then 1 else 0).sum = 0 := by
     intro l
     induction l with
     | nil => intro _; rfl
     | cons a l ih => intro hl; simp at hl; simp [hl.1, ih hl.2]
    exact this r hn.1
   rw [if_pos rfl, this]
  ·rw [if_neg e, K0 hn.2 (by rcases List.mem_cons.1 h with h | h; exact absurd h e; exact h)]
theorem sum_add {ks : List Int} {g h : Int → Nat} : (ks.map fun x => g x + h x).sum = (ks.map g).sum + (ks.map h).sum := by
 induction ks with
 | nil => rfl
 | cons x r ih => simp only [List.map_cons, List.sum_cons, ih]; omega
theorem sum_zero {ks : List Int} : (ks.map fun _ => 0).sum = 0 := by
 induction ks with
 | nil => rfl
 | cons x r ih => simpa using ih
/-- Things counted by their labels. -/
theorem Cq {α : Type} {ks : List Int} (hn : ks.Nodup) {g : α → Int} : ∀ {l : List α}, (∀ a, a ∈ l → g a ∈ ks) → (ks.map fun x => l.countP fun a => decide (g a = x)).sum = l.length
 | [], _ => sum_zero
 | a :: r, h => by
  have ih := Cq hn (l := r) fun b hb => h b (by simp [hb])
  have e : (ks.map fun x => (a :: r).countP fun a => decide (g a = x)) = ks.map fun x => (r.countP fun a => decide (g a = x)) + if g a = x then 1 else 0 := by
   apply List.map_congr_left
   intro x _
   rw [List.countP_cons]
   by_cases h : g a = x <;> simp [h]
  rw [e, sum_add, ih, K0 hn (h a (by simp)), List.length_cons]
/-! ### parts -/
/-- How many parts a graph has: its vertices that are the least of theirs. -/
noncomputable def ncomp (n : Nat) (es : List Pr) : Nat := (List.range n).countP fun v => decide (∀ y, y < v → ¬ Conn es y v)
def isoN (n : Nat) (es : List Pr) : Nat := (List.range n).countP fun v => decide (cnt es v = 0)
theorem HF {es : List Pr} {a b : Nat} (h : Conn es a b) : a = b ∨ ((∃ e, e ∈ es ∧ (e.1 = a ∨ e.2 = a)) ∧ ∃ e, e ∈ es ∧ (e.1 = b ∨ e.2 = b)) := by
 induction h with
 | refl a => exact .inl rfl
 | edge u v h => exact .inr ⟨⟨_, h, .inl rfl⟩, ⟨_, h, .inr rfl⟩⟩
 | symm _ ih =>
  rcases ih with rfl | ⟨h1, h2⟩
  ·exact .inl rfl
  ·exact .inr ⟨h2, h1⟩
 | trans _ _ ih1 ih2 =>
  rcases ih1 with rfl | ⟨h1, h2⟩
  ·exact ih2
  ·rcases ih2 with rfl | ⟨h3, h4⟩
   ·exact .inr ⟨h1, h2⟩
   ·exact .inr ⟨h1, h4⟩
theorem GP {N : Int} {es : List Pr} (hV : Vld N es) (v : Nat) : cnt es v ≠ 0 ↔ ∃ e, e ∈ es ∧ (e.1 = v ∨ e.2 = v) := by
 unfold cnt
 constructor
 ·intro h
  obtain ⟨x, hx⟩ : ∃ x, x ∈ outs es v := by
   cases hl : outs es v with
   | nil => rw [hl] at h; simp at h
   | cons x r => exact ⟨x, by simp⟩
  obtain ⟨h0, h1, h2⟩ := (A8 hV).1 hx
  obtain ⟨i, e, he, hc⟩ := BZ h0 h1
  refine ⟨e, List.mem_of_getElem? he, ?_⟩
  rcases hc with ⟨_, h3, _⟩ | ⟨_, h3, _⟩
  ·left; omega
  ·right; omega
 ·rintro ⟨e, he, hc⟩
  obtain ⟨i, hi⟩ := List.mem_iff_getElem?.1 he
  have hm : ∃ h, h ∈ outs es v := by
   rcases hc with hc | hc
   ·have := Dw hi (u := v) (v := e.2) hc rfl
    exact ⟨_, (A8 hV).2 ⟨this.lo, this.hi, this.fr⟩⟩
   ·have := D6 hi (u := v) (v := e.1) rfl hc
    exact ⟨_, (A8 hV).2 ⟨this.lo, this.hi, this.fr⟩⟩
  obtain ⟨h, hm⟩ := hm
  have := List.length_pos_of_mem hm
  omega
/-- Labels of the parts. -/
def Lab (n : Nat) (es : List Pr) (f : Nat → Int) : Prop := ∀ a b, a < n → b < n → (f a = f b ↔ Conn es a b)
theorem lab_of {n k : Nat} {es : List Pr} {q : Nat → Nat} {f : Nat → Int} (hP : Parts es (rt q)) (hL : Labels (rt q) n k f) : Lab n es f :=
 fun a b ha hb => (hL.2.1 a b ha hb).trans (hP a b)
section
variable {n : Nat} {es : List Pr} {f : Nat → Int}
theorem CY (hV : Vld n es) {e : Pr} (he : e ∈ es) : ∃ u v : Nat, e = ((u : Int), (v : Int)) ∧ u < v ∧ v < n := by
 obtain ⟨i, hi⟩ := List.mem_iff_getElem?.1 he
 have ho := hV.ok i e hi
 have h1 := ho.lo
 have h2 := ho.lt
 have h3 := ho.hi
 exact ⟨e.1.toNat, e.2.toNat, Prod.ext (by simp; omega) (by simp; omega), by omega, by omega⟩
theorem GR {x : Int} (h : cnE f es es.length x = 0) {e : Pr} (he : e ∈ es) : f e.1.toNat ≠ x := by
 unfold cnE at h
 rw [List.take_length, List.countP_eq_zero] at h
 simpa using h e he
theorem cnE_pos {x : Int} (h : cnE f es es.length x ≠ 0) : ∃ e, e ∈ es ∧ f e.1.toNat = x := by
 unfold cnE at h
 rw [List.take_length] at h
 obtain ⟨e, he, hp⟩ := List.countP_pos_iff.1 (Nat.pos_of_ne_zero h)
 exact ⟨e, he, by simpa using hp⟩
theorem Is {x : Int} (h : cnV f n x ≠ 0) : ∃ j, j < n ∧ f j = x := by
 unfold cnV at h
 obtain ⟨j, hj, hp⟩ := List.countP_pos_iff.1 (Nat.pos_of_ne_zero h)
 exact ⟨j, List.mem_range.1 hj, by simpa using hp⟩
/-- A vertex with a part's label, of a part without edges, has none; and is LE. -/
theorem LE (hV : Vld n es) (hf : Lab n es f) {x : Int} (h0 : cnE f es es.length x = 0) {j : Nat} (hj : j < n) (hx : f j = x) : cnt es j = 0 ∧ ∀ i, i < n → f i = x → i = j := by
 have hno : ∀ i, i < n → f i = x → ¬ ∃ e, e ∈ es ∧ (e.1 = i ∨ e.2 = i) := by
  rintro i hi hfi ⟨e, he, hc⟩
  obtain ⟨u, v, rfl, huv, hvn⟩ := CY hV he
  have h1 := GR h0 he
  simp only [Int.toNat_natCast] at h1
  rcases hc with hc | hc
  ·have : u = i := by simp at hc; omega
   subst this; exact h1 hfi
  ·have : v = i := by simp at hc; omega
   subst this
   exact h1 (((hf u v (by omega) hi).2 (.edge u v he)).trans hfi)
 refine ⟨?_, fun i hi hfi => ?_⟩
 ·apply Classical.byContradiction
  intro hc
  exact hno j hj hx ((GP hV j).1 hc)
 ·rcases HF ((hf i j hi hj).1 (hfi.trans hx.symm)) with e | ⟨⟨e, he, hc⟩, _⟩
  ·exact e
  ·exact absurd ⟨e, he, hc⟩ (hno i hi hfi)
/-- With edges, all its vertices have some. -/
theorem busy (hV : Vld n es) (hf : Lab n es f) {x : Int} (h0 : cnE f es es.length x ≠ 0) {j : Nat} (hj : j < n) (hx : f j = x) : cnt es j ≠ 0 := by
 obtain ⟨e, he, hfe⟩ := cnE_pos h0
 obtain ⟨u, v, rfl, huv, hvn⟩ := CY hV he
 simp only [Int.toNat_natCast] at hfe
 rw [GP hV]
 rcases HF ((hf j u hj (by omega)).1 (hx.trans hfe.symm)) with e | ⟨h1, _⟩
 ·subst e; exact ⟨_, he, .inl rfl⟩
 ·exact h1
theorem part_iso (hV : Vld n es) (hf : Lab n es f) {x : Int} (hx : cnV f n x ≠ 0) :
  (cnE f es es.length x = 0 → cnV f n x = 1 ∧ ((List.range n).filter fun v => decide (cnt es v = 0)).countP (fun v => decide (f v = x)) = 1) ∧
  (cnE f es es.length x ≠ 0 → ((List.range n).filter fun v => decide (cnt es v = 0)).countP (fun v => decide (f v = x)) = 0) := by
 constructor
 ·intro h0
  obtain ⟨j, hj, hfj⟩ := Is hx
  obtain ⟨h1, h2⟩ := LE hV hf h0 hj hfj
  refine ⟨?_, ?_⟩
  ·unfold cnV
   exact Di List.nodup_range (List.mem_range.2 hj) (by simpa using hfj) fun b hb hp => h2 b (List.mem_range.1 hb) (by simpa using hp)
  ·refine Di (List.Nodup.sublist List.filter_sublist List.nodup_range) (List.mem_filter.2 ⟨List.mem_range.2 hj, by simpa using h1⟩) (by simpa using hfj) fun b hb hp => ?_
   exact h2 b (List.mem_range.1 (List.mem_filter.1 hb).1) (by simpa using hp)
 ·intro h0
  refine GN fun v hv hp => ?_
  obtain ⟨h1, h2⟩ := List.mem_filter.1 hv
  exact busy hV hf h0 (List.mem_range.1 h1) (by simpa using hp) (by simpa using h2)
theorem Kj (hf : Lab n es f) {x : Int} (hx : cnV f n x ≠ 0) : ((List.range n).filter fun v => decide (∀ y, y < v → ¬ Conn es y v)).countP (fun v => decide (f v = x)) = 1 := by
 -- the least vertex of the part
 have hl : ∃ j, j < n ∧ f j = x ∧ ∀ i, i < n → f i = x → j ≤ i := by
  obtain ⟨j, hj, hfj⟩ := Is hx
  induction j using Nat.strongRecOn with
  | _ j ih =>
   by_cases hc : ∃ i, i < j ∧ f i = x
   ·obtain ⟨i, hi, hfi⟩ := hc
    exact ih i hi (by omega) hfi
   ·exact ⟨j, hj, hfj, fun i hi hfi => by
     apply Classical.byContradiction
     intro hlt
     exact hc ⟨i, by omega, hfi⟩⟩
 obtain ⟨j, hj, hfj, hmin⟩ := hl
 refine Di (List.Nodup.sublist List.filter_sublist List.nodup_range) (List.mem_filter.2 ⟨List.mem_range.2 hj, ?_⟩) (by simpa using hfj) fun b hb hp => ?_
 ·simp only [decide_eq_true_eq]
  intro y hy hc
  have := hmin y (by omega) (((hf y j (by omega) hj).2 hc).trans hfj)
  omega
 ·obtain ⟨h1, h2⟩ := List.mem_filter.1 hb
  have h1 := List.mem_range.1 h1
  simp only [decide_eq_true_eq] at h2 hp
  have h3 := hmin b h1 hp
  rcases Nat.lt_or_eq_of_le h3 with h4 | h4
  ·exact absurd ((hf j b hj h1).1 (hfj.trans hp.symm)) (h2 j h4)
  ·exact h4.symm
end
/-! ### the sum -/
def gval (a b c : Nat) : Int := if b ≠ 0 then 2 - a + b - c else 0
def gsum (a b c : Int → Nat) (ks : List Int) : Int := (ks.map fun x => gval (a x) (b x) (c x)).sum
theorem GG {n : Nat} {es : List Pr} {f : Nat → Int} {hs : List Int} {ks : List Int} (hV : Vld n es) (hf : Lab n es f) (hn : ks.Nodup) (hk : ∀ x, x ∈ ks ↔ cnV f n x ≠ 0)
  (hh : ∀ h, h ∈ hs → headU es h < n ∧ cnE f es es.length (f (headU es h)) ≠ 0) :
  gsum (cnV f n) (cnE f es es.length) (cnF f es hs hs.length) ks = 2 * (ncomp n es : Int) - isoN n es - n + es.length - hs.length := by
 have hin : ∀ j, j < n → f j ∈ ks := fun j hj => (hk _).2 (E4 hj)
 have s1 : (ks.map (cnV f n)).sum = n := by
  have := Cq hn (g := f) (l := List.range n) fun a ha => hin a (List.mem_range.1 ha)
  rw [List.length_range] at this
  exact this
 have s2 : (ks.map (cnE f es es.length)).sum = es.length := by
  have := Cq hn (g := fun e : Pr => f e.1.toNat) (l := es) fun e he => by
   obtain ⟨u, v, rfl, huv, hvn⟩ := CY hV he
   exact hin _ (by simp; omega)
  unfold cnE
  simpa using this
 have s3 : (ks.map (cnF f es hs hs.length)).sum = hs.length := by
  have := Cq hn (g := fun h : Int => f (headU es h)) (l := hs) fun h hm => hin _ (hh h hm).1
  unfold cnF
  simpa using this
 have s4 : (ks.map fun x => ((List.range n).filter fun v => decide (cnt es v = 0)).countP fun v => decide (f v = x)).sum = isoN n es := by
  rw [Cq hn (g := f) fun a ha => hin a (List.mem_range.1 (List.mem_filter.1 ha).1)]
  unfold isoN
  rw [List.countP_eq_length_filter]
 have s5 : ks.length = ncomp n es := by
  have h1 := Cq hn (g := f) (l := (List.range n).filter fun v => decide (∀ y, y < v → ¬ Conn es y v)) fun a ha => hin a (List.mem_range.1 (List.mem_filter.1 ha).1)
  rw [IP fun x hx => Kj hf ((hk x).1 hx)] at h1
  rw [h1]
  unfold ncomp
  rw [List.countP_eq_length_filter]
 have key : ∀ l : List Int, (∀ x, x ∈ l → cnV f n x ≠ 0) → gsum (cnV f n) (cnE f es es.length) (cnF f es hs hs.length) l =
   2 * (l.length : Int) - ((l.map fun x => ((List.range n).filter fun v => decide (cnt es v = 0)).countP fun v => decide (f v = x)).sum : Nat) - ((l.map (cnV f n)).sum : Nat) + ((l.map (cnE f es es.length)).sum : Nat) - ((l.map (cnF f es hs hs.length)).sum : Nat) := by
  intro l
  induction l with
  | nil => intro _; rfl
  | cons x r ih =>
   intro hx
   have h1 := ih fun y hy => hx y (by simp [hy])
   obtain ⟨p1, p2⟩ := part_iso hV hf (hx x (by simp))
   unfold gsum at h1 ⊢
   simp only [List.map_cons, List.sum_cons, List.length_cons]
   rw [h1]
   unfold gval
   by_cases h0 : cnE f es es.length x = 0
   ·obtain ⟨q1, q2⟩ := p1 h0
    have q3 : cnF f es hs hs.length x = 0 := by
     unfold cnF
     rw [List.take_length]
     refine GN fun h hm hp => ?_
     have := (hh h hm).2
     rw [show f (headU es h) = x by simpa using hp] at this
     exact this h0
    rw [q1, q2, q3, h0, if_neg (by simp)]
    omega
   ·rw [p2 h0, if_pos h0]
    omega
 rw [key ks fun x hx => (hk x).1 hx, s1, s2, s3, s4, s5]
end Go.Fl

namespace Go.Fl
open Go Go.Proofs
open Classical
/-- The heads of the faces. -/
noncomputable def headsOf (n : Nat) (fn : Nat → Int) : List Int := ((List.range n).filter fun x => decide (Lead (phi fn) x)).map fun (x : Nat) => (x : Int)
def nxS (fn : Nat → Int) (h : Nat) : Nat := (fn h).toNat
section
variable {n : Nat} {es : List Pr} {rs : List (List Int)} {fn : Nat → Int}
theorem DW (hok : RotL n es rs) (hnx : NxOk rs rs.length fn) {v : Nat} {l : List Int} {i h : Nat} (hl : rs[v]? = some l) (hi : l[i]? = some (h : Int)) :
  l[(i + 1) % l.length]? = some (fn h) ∧ 0 ≤ fn h ∧ fn h < es.length * 2 ∧ fromV es (fn h) = v := by
 have h1 := hnx v l i h (List.getElem?_eq_some_iff.1 hl).1 hl hi
 rw [Int.toNat_natCast] at h1
 obtain ⟨h2, h3, h4⟩ := (hok.2.2 v l hl).1 _ (List.mem_of_getElem? h1)
 exact ⟨h1, h2, h3, h4⟩
theorem HS (hok : RotL n es rs) (hnx : NxOk rs rs.length fn) {v : Nat} {l : List Int} {i h : Nat} (hl : rs[v]? = some l) (hi : l[i]? = some (h : Int)) :
  ∀ k, l[(i + k) % l.length]? = some ((itr (nxS fn) k h : Nat) : Int)
 | 0 => by rw [Nat.add_zero, Nat.mod_eq_of_lt (List.getElem?_eq_some_iff.1 hi).1]; exact hi
 | k + 1 => by
  have ih := HS hok hnx hl hi k
  obtain ⟨h1, h2, _⟩ := DW hok hnx hl ih
  rw [Nat.mod_add_mod] at h1
  rw [show i + (k + 1) = i + k + 1 by omega, h1]
  show some _ = some (((fn (itr (nxS fn) k h)).toNat : Nat) : Int)
  congr 1; omega
theorem EL (h : Nat) : twn (twn h) = h := by unfold twn; split <;> split <;> omega
theorem nxS_perm (hok : RotL n es rs) (hnx : NxOk rs rs.length fn) : Perm (es.length * 2) (nxS fn) := by
 obtain ⟨hp, h0⟩ := Eh hok hnx
 have e : ∀ h, nxS fn h = phi fn (twn h) := fun h => by unfold phi nxS; rw [EL]
 have ht : ∀ h, h < es.length * 2 → twn h < es.length * 2 := fun h hh => by unfold twn; split <;> omega
 refine ⟨fun i hi => by rw [e]; exact hp.lt _ (ht i hi), fun i j hi hj he => ?_⟩
 rw [e, e] at he
 have := hp.inj _ _ (ht i hi) (ht j hj) he
 rw [← EL i, this, EL]
theorem row_ex (hok : RotL n es rs) {h v : Nat} {l : List Int} (hh : h < es.length * 2) (hv : fromV es h = v) (hl : rs[v]? = some l) : ∃ i : Nat, l[i]? = some (h : Int) := by
 obtain ⟨v', l', i, hl', hi, hv'⟩ := DV hok hh
 have : v' = v := by omega
 subst this
 rw [hl] at hl'; cases hl'
 exact ⟨i, hi⟩
theorem Hw (hok : RotL n es rs) (hnx : NxOk rs rs.length fn) {v : Nat} {l : List Int} (hl : rs[v]? = some l) {h k : Nat} (hh : h < es.length * 2) (hk : k < es.length * 2) (h1 : fromV es h = v) (h2 : fromV es k = v)
  (hL : Lead (nxS fn) h) : h ≤ k := by
 obtain ⟨i, hi⟩ := row_ex hok hh h1 hl
 obtain ⟨j, hj⟩ := row_ex hok hk h2 hl
 have hil := (List.getElem?_eq_some_iff.1 hi).1
 have hjl := (List.getElem?_eq_some_iff.1 hj).1
 have h3 := HS hok hnx hl hi (j + l.length - i)
 rw [show i + (j + l.length - i) = j + l.length by omega, Nat.add_mod_right, Nat.mod_eq_of_lt hjl, hj] at h3
 have h4 := hL (j + l.length - i)
 have h5 := Option.some.inj h3
 omega
theorem lead_ex (hok : RotL n es rs) (hnx : NxOk rs rs.length fn) {v : Nat} {l : List Int} (hl : rs[v]? = some l) (hne : l ≠ []) : ∃ h : Nat, h < es.length * 2 ∧ fromV es h = v ∧ Lead (nxS fn) h := by
 have hrow := (hok.2.2 v l hl).1
 have hm : ∃ h : Nat, (h : Int) ∈ l ∧ ∀ y, y ∈ l → (h : Int) ≤ y := by
  obtain ⟨x, hx⟩ : ∃ x, x ∈ l := List.exists_mem_of_ne_nil _ hne
  obtain ⟨k, hk⟩ := Int.eq_ofNat_of_zero_le (hrow x hx).1
  subst hk
  induction k using Nat.strongRecOn with
  | _ k ih =>
   by_cases hc : ∃ y, y ∈ l ∧ y < k
   ·obtain ⟨y, hy, hlt⟩ := hc
    obtain ⟨q, rfl⟩ := Int.eq_ofNat_of_zero_le (hrow y hy).1
    exact ih q (by omega) hy
   ·exact ⟨k, hx, fun y hy => by
     apply Classical.byContradiction
     intro h
     exact hc ⟨y, hy, by omega⟩⟩
 obtain ⟨h, hh, hmin⟩ := hm
 obtain ⟨h0, h1, h2⟩ := hrow _ hh
 refine ⟨h, by omega, h2, fun k => ?_⟩
 obtain ⟨i, hi⟩ := List.mem_iff_getElem?.1 hh
 have := hmin _ (List.mem_of_getElem? (HS hok hnx hl hi k))
 omega
theorem from_nat (hV : Vld n es) {h : Nat} (hh : h < es.length * 2) : ∃ v : Nat, fromV es h = v ∧ v < n := by
 obtain ⟨i, e, he, hc⟩ := BZ (es := es) (h := (h : Int)) (by omega) (by omega)
 have ho := hV.ok i e he
 have h1 := ho.lo
 have h2 := ho.lt
 have h3 := ho.hi
 rcases hc with ⟨_, h4, _⟩ | ⟨_, h4, _⟩
 ·exact ⟨e.1.toNat, by omega, by omega⟩
 ·exact ⟨e.2.toNat, by omega, by omega⟩
/-- The labels of both ends of an edge. -/
theorem EW {f : Nat → Int} (hV : Vld n es) (hf : Lab n es f) {h : Nat} {i : Nat} {e : Pr} (he : es[i]? = some e) (hh : h / 2 = i) : f (fromV es h).toNat = f e.1.toNat := by
 have hl := (List.getElem?_eq_some_iff.1 he).1
 obtain ⟨i', e', he', hc⟩ := BZ (es := es) (h := (h : Int)) (by omega) (by omega)
 have : i' = i := by rcases hc with ⟨h1, _⟩ | ⟨h1, _⟩ <;> omega
 subst this
 rw [he] at he'; cases he'
 obtain ⟨u, v, rfl, huv, hvn⟩ := CY hV (List.mem_of_getElem? he)
 rcases hc with ⟨_, h4, _⟩ | ⟨_, h4, _⟩
 ·rw [h4]
 ·rw [h4]
  simp only [Int.toNat_natCast]
  exact (hf v u hvn (by omega)).2 (.symm (.edge u v (List.mem_of_getElem? he)))
theorem E3 {α : Type} {p : α → Bool} {q : Nat → Bool} : ∀ {l : List α} {k : Nat}, (∀ i e, l[i]? = some e → q (k + i) = p e) → l.countP p = (List.range' k l.length).countP q
 | [], k, _ => rfl
 | a :: r, k, h => by
  rw [List.length_cons, List.range'_succ, List.countP_cons, List.countP_cons, E3 (l := r) (k := k + 1) (q := q) fun i e he => by
   rw [show k + 1 + i = k + (i + 1) by omega]; exact h (i + 1) e (by simpa using he)]
  have := h 0 a rfl
  rw [Nat.add_zero] at this
  rw [← this]
theorem GF {h : Nat} {e : Pr} (he : es[h / 2]? = some e) : headU es (h : Int) = e.1.toNat := by
 unfold headU
 rw [show ((h : Int) / 2).toNat = h / 2 by omega, he]; rfl
theorem Hn {f : Nat → Int} (hok : RotL n es rs) (hnx : NxOk rs rs.length fn) (hf : Lab n es f) {x : Int} (h0 : cnE f es es.length x ≠ 0) :
  (cnV f n x + cnE f es es.length x + cnF f es (headsOf (es.length * 2) fn) (headsOf (es.length * 2) fn).length x) % 2 = 0 := by
 have hV := hok.1
 have hs := nxS_perm hok hnx
 obtain ⟨c, hc⟩ : ∃ c : Nat → Bool, c = fun (i : Nat) => decide (f (fromV es (i : Int)).toNat = x) := ⟨_, rfl⟩
 have hm2 : es.length * 2 = 2 * es.length := by omega
 have h1 : ∀ i, i < 2 * es.length → c (nxS fn i) = c i := by
  intro i hi
  obtain ⟨v, l, j, hl, hj, hv⟩ := DV hok (h := i) (by omega)
  obtain ⟨_, g1, g2, g3⟩ := DW hok hnx hl hj
  have : ((nxS fn i : Nat) : Int) = fn i := by unfold nxS; omega
  rw [hc]; simp only [this, g3, hv]
 have h2 : ∀ i, i < 2 * es.length → c (twn i) = c i := by
  intro i hi
  obtain ⟨e, he⟩ : ∃ e, es[i / 2]? = some e := ⟨_, List.getElem?_eq_getElem (by omega)⟩
  rw [hc]
  simp only
  rw [EW hV hf he rfl, EW hV hf (h := twn i) he (by unfold twn; split <;> omega)]
 rw [hm2] at hs
 have hpar := Jz hs h1 h2
 have e1 : (List.range (2 * es.length)).countP (fun i => c i && decide (Lead (fun h => nxS fn (twn h)) i)) = cnF f es (headsOf (es.length * 2) fn) (headsOf (es.length * 2) fn).length x := by
  unfold cnF headsOf
  rw [List.take_length, List.countP_map, List.countP_filter, hm2]
  apply List.countP_congr
  intro i hi
  have hi := List.mem_range.1 hi
  obtain ⟨e, he⟩ : ∃ e, es[i / 2]? = some e := ⟨_, List.getElem?_eq_getElem (by omega)⟩
  have e2 : (fun h => nxS fn (twn h)) = phi fn := rfl
  simp only [Function.comp_def]
  rw [e2, hc]
  simp only
  rw [EW hV hf he rfl, GF he]
 have e2 : (List.range es.length).countP (fun e => c (2 * e)) = cnE f es es.length x := by
  unfold cnE
  rw [List.take_length, List.range_eq_range']
  refine (E3 (k := 0) (q := fun e => c (2 * e)) ?_).symm
  intro i e he
  rw [hc]
  simp only [Nat.zero_add]
  rw [EW hV hf (h := 2 * i) he (by omega)]
 have e3 : (List.range (2 * es.length)).countP (fun i => c i && decide (Lead (nxS fn) i)) = cnV f n x := by
  have hk : (((List.range n).filter fun v => decide (f v = x)).map fun (v : Nat) => (v : Int)).Nodup := by
   unfold List.Nodup
   rw [List.pairwise_map]
   exact (List.Nodup.sublist List.filter_sublist List.nodup_range).imp fun h => by omega
  have hsum := Cq hk (g := fun h : Nat => fromV es h) (l := (List.range (2 * es.length)).filter fun i => c i && decide (Lead (nxS fn) i)) fun h hh => by
   obtain ⟨g1, g2⟩ := List.mem_filter.1 hh
   have g1 := List.mem_range.1 g1
   obtain ⟨v, hv, hvn⟩ := from_nat hV (h := h) (by omega)
   rw [hc] at g2
   simp only [Bool.and_eq_true, decide_eq_true_eq, hv, Int.toNat_natCast] at g2
   exact List.mem_map.2 ⟨v, List.mem_filter.2 ⟨List.mem_range.2 hvn, by simpa using g2.1⟩, hv.symm⟩
  rw [IP] at hsum
  ·rw [List.countP_eq_length_filter, ← hsum, List.length_map, ← List.countP_eq_length_filter]; rfl
  ·intro y hy
   obtain ⟨v, hv, rfl⟩ := List.mem_map.1 hy
   obtain ⟨hv1, hv2⟩ := List.mem_filter.1 hv
   have hv1 := List.mem_range.1 hv1
   have hv2 : f v = x := by simpa using hv2
   have hlen := hok.2.1
   obtain ⟨l, hl⟩ : ∃ l, rs[v]? = some l := ⟨_, List.getElem?_eq_getElem (by omega)⟩
   have hne : l ≠ [] := by
    intro e
    have h3 := (hok.2.2 v l hl).2.2
    rw [e] at h3
    exact busy hV hf h0 hv1 hv2 (by simpa using h3.symm)
   obtain ⟨h, g1, g2, g3⟩ := lead_ex hok hnx hl hne
   refine Di (List.Nodup.sublist List.filter_sublist List.nodup_range) (a := h) (List.mem_filter.2 ⟨List.mem_range.2 (by omega), ?_⟩) (by simpa using g2) fun b hb hp => ?_
   ·rw [hc]; simp [g2, hv2, g3]
   ·obtain ⟨b1, b2⟩ := List.mem_filter.1 hb
    have b1 := List.mem_range.1 b1
    simp only [Bool.and_eq_true, decide_eq_true_eq] at b2 hp
    have q1 := Hw hok hnx hl g1 (by omega) g2 hp g3
    have q2 := Hw hok hnx hl (h := b) (k := h) (by omega) g1 hp g2 b2.2
    omega
 rw [e1, e2, e3] at hpar
 omega
end
end Go.Fl

namespace Go.Fl
open Go Go.Proofs
open Classical
structure GeI where
 i : Nat
 m : List (Int × Value)
def ints0 (i k : Nat) : List Int := (List.range k).map fun (x : Nat) => (x : Int)
structure GeK where
 left : List (Int × Value)
 last : Option (Int × Value)
 S : Int
/-- How many faces. -/
noncomputable def facesN (es : List Pr) (fn : Nat → Int) : Nat := (headsOf (es.length * 2) fn).length
/-- Twice the sum of the genera of the parts. -/
noncomputable def genus2 (n : Nat) (es : List Pr) (fn : Nat → Int) : Int := 2 * (ncomp n es : Int) - isoN n es - n + es.length - facesN es fn
theorem GH {a b c : Int → Nat} : ∀ {ks : List Int} {j : Nat} {x : Int}, ks[j]? = some x → gsum a b c ks = gval (a x) (b x) (c x) + gsum a b c (ks.eraseIdx j)
 | [], j, x, h => by simp at h
 | y :: r, 0, x, h => by simp at h; subst h; rfl
 | y :: r, j + 1, x, h => by
  have := GH (a := a) (b := b) (c := c) (ks := r) (j := j) (x := x) (by simpa using h)
  unfold gsum at this ⊢
  rw [List.eraseIdx_cons_succ]
  simp only [List.map_cons, List.sum_cons]
  omega
theorem JT {n : Nat} {es : List Pr} {rs : List (List Int)} {va v : Value} {w : World} (hg : PrV w va es) (hl : LsV w v rs) (hok : RotL n es rs) :
  Calls Tryz.prog 121 #[.agg #[.int .i64 n, va], v] w (Ret w [] fun r M => M = [] ∧ ∃ fn S, NxOk rs rs.length fn ∧ r = .tuple #[.int .i64 S, .int .i64 0] ∧ 2 * S = genus2 n es fn) := by
 obtain ⟨A, cap, ev, hr, hlc, hcm, hle⟩ := id hg
 subst ev
 have hV := hok.1
 have hfew := hV.few
 have hN1 : n ≤ 1048576 := by have := hV.hi; omega
 refine At (args := [_, _]) (L := []) Tryz.func121 rfl Tryz.ntmps121 rfl (Own.start _ _) ?_
 refine Zs ?_
 refine Zw (AS (cs := #[.int .i64 n, .slice A es.length cap]) rfl rfl rfl) fun g2 => ?_
 refine Za ?_
 refine Za ?_
 refine Zx <| Zs ?_
 refine Zu (Ay (vs := [_, _]) rfl rfl Bj Bc rfl (Ak rfl)) ?_
 refine Zm ?_
 refine Seq.rel rfl rfl (Aq en152 rfl rfl rfl (fun w' hw => FOf_calls (hg.keep0 hw) (hl.keep0 hw) (fun f h1 h2 => Eh h1 h2))) ?_
 intro v28 L28 hC28
 obtain ⟨_, vf, fs, fn, rfl, hnx, hD, rfl⟩ := hC28.resolve_right (fun h => h.1 hok)
 refine Seq.own (M := slc vf 44 1 (rowsV fs) :: blk g2 24 #[.int .i64 n, .slice A es.length cap] :: rowsC 3 fs) (fun w hw => hw.perm (List.Perm.cons _ (List.perm_append_comm (l₁ := [_]) (l₂ := rowsC 3 fs)))) ?_
 refine Zm ?_
 refine Ze ?_
 refine Ze ?_
 refine Za ?_
 refine Za ?_
 refine Zx <| DC.seq <| Zs ?_
 refine Zm ?_
 refine Zo (BS rfl rfl rfl) ?_
 refine Zx ?_
 refine Zd (fun c2 => ?_) fun c2 => ?_
 ·refine Zs ?_
  refine Zm ?_
  refine Za ?_
  refine Za ?_
  refine Zx <| DC.ret <| Aa ?_
  refine Fin.weak (E' := [(4, _), (5, _)]) ⟨rfl, rfl, trivial⟩ .nil ?_
  refine AJ (.inl rfl) rfl rfl rfl ?_
  simp at c2
 ·refine DC.skip <| Fin.then <| Zs ?_
  refine Zu (Ay (vs := [_, _]) rfl rfl Bj Bc rfl (Ak rfl)) ?_
  refine Seq.rel rfl rfl (Aq en153 rfl rfl rfl (fun w' hw => Of_calls (hg.keep0 hw) hV)) ?_
  rintro _ _ ⟨gl, k, f, q, rfl, hq, hPa, hLa, rfl⟩
  simp only [List.cons_append, List.nil_append]
  refine Zm ?_
  refine Ze ?_
  refine Ze ?_
  refine Ze ?_
  refine Za ?_
  refine Za ?_
  refine Za ?_
  refine Zx <| Zs ?_
  refine Seq.rel rfl rfl (Df (enc := encI) rfl) ?_
  rintro _ _ ⟨gm, rfl, rfl⟩
  simp only [List.cons_append, List.nil_append]
  refine Za ?_
  refine Zx <| DC.seq <| Zs ?_
  refine Zm ?_
  refine Zn Tryz.underlying44 ?_
  refine Zm ?_
  refine Zx <| DC.block ?_
  refine DC.loop (ι := GeI) (fun j => j.i ≤ n ∧ Tal j.m (cnV f j.i) (fun _ => 0) (fun _ => 0))
   (fun j => [(2, .pointer (some ⟨g2, 0, none⟩)), (6, vf), (8, .slice (some ⟨gl, 0, none⟩) n n), (11, .map (some gm)), (41, .slice (some ⟨gl, 0, none⟩) n n), (42, .int .i64 n), (43, .int .i64 j.i)])
   (fun j => mpc encI gm j.m :: blk gl 3 (ints (tab n f)).toArray :: slc vf 44 1 (rowsV fs) :: blk g2 24 #[.int .i64 n, .slice A es.length cap] :: rowsC 3 fs) (fun j => n - j.i) ⟨0, []⟩
   ⟨Nat.zero_le _, by simp, fun x => by simp [cnV]⟩ ⟨rfl, rfl, rfl, rfl, rfl, rfl, rfl, trivial⟩ (.cons 0 rfl (.cons 0 rfl (Pick.all _))) ?_
  rintro ⟨i, m⟩ ⟨hi, hm⟩
  dsimp only at hi hm ⊢
  refine Zs ?_
  refine Zc ?_
  refine Zx <| DC.seq ?_
  refine Zd (fun c7 => ?_) fun c7 => ?_
  ·have hlt : i < n := by simpa using c7
   have hb1 := KJ f i (f i)
   refine DC.skip <| Fin.then <| DC.seq <| DC.block <| Zs ?_
   refine Zi Tryz.underlying44 AN ?_
   refine Zu (Ah rfl rfl AO (AU (Bk hlt))) ?_
   refine Za ?_
   refine Zx <| Zs ?_
   refine Zm ?_
   refine Zm ?_
   refine Zu (CA (v := tl (cnV f i (f i)) 0 0) (k := f i) 0 rfl D4 rfl rfl rfl Tryz.underlying228 F8 (HQ hm (f i) (fun _ => ⟨rfl, rfl⟩))) ?_
   refine Zw (AH rfl F8 rfl) fun g14 => ?_
   refine Zy (AA (cs' := #[.int .i64 (cnV f i (f i)), .int .i64 0, .int .i64 0]) rfl rfl rfl Gf rfl (Nat.le_of_ble_eq_true rfl) rfl) ?_
   refine Zx <| Zs ?_
   refine Zf Ij ?_
   refine Zl AO ?_
   refine Zp ?_
   refine Zf Ij ?_
   refine Zy (AF (cs' := #[_, _, _]) rfl rfl rfl AN rfl (Nat.le_of_ble_eq_true rfl) rfl) ?_
   refine Zx <| DC.region ?_
   refine Zm ?_
   refine Zm ?_
   refine Zu (Ay (vs := [_, _, _]) rfl rfl ag230 Gf rfl (Ak (vs := [.int .i64 ((cnV f i (f i) : Nat) + 1), .int .i64 0, .int .i64 0]) rfl)) ?_
   refine Zy (BR (k := f i) 1 rfl D4 rfl rfl rfl rfl Tryz.underlying228 rfl) ?_
   simp only [List.set_cons_zero, List.set_cons_succ]
   refine Seq.nil <| Fin.inBlock <| Fin.then <| DC.region ?_
   refine Zp ?_
   refine Zm ?_
   refine Seq.nil ?_
   refine Fin.own (fun w hw => hw.sub (List.sublist_cons_self ..)) ?_
   refine Fin.again ⟨i + 1, putM (f i) (tl (cnV f (i + 1) (f i)) 0 0) m⟩ (by dsimp only; omega) ⟨by dsimp only; omega, ?_⟩ ⟨rfl, rfl, rfl, rfl, rfl, rfl, rfl, trivial⟩ (.cons' 0 rfl (by dsimp only; rw [GQ, if_pos rfl]; rfl) (Pick.all _))
   refine HP (a' := cnV f (i + 1)) (b' := fun _ => 0) (c' := fun _ => 0) hm (f i) (by rw [GQ, if_pos rfl]; omega) fun y hy => ⟨?_, rfl, rfl⟩
   rw [GQ, if_neg (Ne.symm hy)]; rfl
  ·refine DC.exit <| Ad <| Ad <| Ag <| Fin.then <| DC.seq <| Zs ?_
   refine Zf Be ?_
   refine Zl BO ?_
   refine Zn Tryz.underlying22 ?_
   refine Zm ?_
   refine Zx <| DC.block ?_
   have hin : i = n := by simp at c7; omega
   subst hin
   refine DC.loop (ι := GeI) (fun j => j.i ≤ es.length ∧ Tal j.m (cnV f i) (cnE f es j.i) (fun _ => 0))
    (fun j => [(2, .pointer (some ⟨g2, 0, none⟩)), (6, vf), (8, .slice (some ⟨gl, 0, none⟩) i i), (11, .map (some gm)), (59, .slice A es.length cap), (60, .int .i64 es.length), (61, .int .i64 j.i)])
    (fun j => mpc encI gm j.m :: blk gl 3 (ints (tab i f)).toArray :: slc vf 44 1 (rowsV fs) :: blk g2 24 #[.int .i64 i, .slice A es.length cap] :: rowsC 3 fs) (fun j => es.length - j.i) ⟨0, m⟩
    ⟨Nat.zero_le _, hm.1, fun x => by rw [hm.2 x]; simp [cnE]⟩ ⟨rfl, rfl, rfl, rfl, rfl, rfl, rfl, trivial⟩ (Pick.all _) ?_
   rintro ⟨i2, m2⟩ ⟨hi2, hm2⟩
   dsimp only at hi2 hm2 ⊢
   refine Zs ?_
   refine Zc ?_
   refine Zx <| DC.seq ?_
   refine Zd (fun c14 => ?_) fun c14 => ?_
   ·have hlt : i2 < es.length := by simpa using c14
    obtain ⟨e, he⟩ : ∃ e, es[i2]? = some e := ⟨_, List.getElem?_eq_getElem hlt⟩
    obtain ⟨ad, rfl, hU, hVe⟩ := hr.pair he
    have ho := hV.ok i2 e he
    obtain ⟨u, hu⟩ := Int.eq_ofNat_of_zero_le ho.lo
    obtain ⟨u2, hu2⟩ := Int.eq_ofNat_of_zero_le (show 0 ≤ e.2 by have := ho.lo; have := ho.lt; omega)
    obtain rfl : e = ((u : Int), (u2 : Int)) := Prod.ext hu hu2
    clear hu hu2
    have hun : u < i := by have h1 := ho.lt; have h2 := ho.hi; simp at h1 h2; omega
    replace hU : w.cell? (ad.add (i2 * 2)) = some (.int .i64 (u : Int)) := hU
    replace hVe : w.cell? (ad.add (i2 * 2 + 1)) = some (.int .i64 (u2 : Int)) := hVe
    have hb2 := cnE_le f es i2 (f u)
    have hb3 := KJ f i (f u)
    refine DC.skip <| Fin.then <| DC.seq <| DC.block <| Zs ?_
    refine Zo (AQ rfl rfl rfl Tryz.underlying22 Bb (by omega) (by omega) (by first | exact AC _ _ | exact AW _ _ _ | rfl)) ?_
    refine Zu (Ay (vs := [_, _]) rfl rfl CP Bb rfl (CD hU hVe (by simp))) ?_
    refine Zw (AH rfl CI rfl) fun g16 => ?_
    refine Zy (AA (cs' := #[_, _]) rfl rfl rfl Bb rfl (Nat.le_of_ble_eq_true rfl) rfl) ?_
    refine Zx <| Zs ?_
    refine Zm ?_
    refine Zm ?_
    refine Zf Bd ?_
    refine Zl AO ?_
    refine Zi Tryz.underlying44 AN ?_
    refine Zu (Ah rfl rfl AO (AU (Bk hun))) ?_
    refine Zu (CA (v := tl (cnV f i (f u)) (cnE f es i2 (f u)) 0) (k := f u) 1 rfl D4 rfl rfl rfl Tryz.underlying228 F8 (HQ hm2 (f u) (fun e => absurd e (E4 hun)))) ?_
    refine Zw (AH rfl F8 rfl) fun g17 => ?_
    refine Zy (AA (cs' := #[.int .i64 (cnV f i (f u)), .int .i64 (cnE f es i2 (f u)), .int .i64 0]) rfl rfl rfl Gf rfl (Nat.le_of_ble_eq_true rfl) rfl) ?_
    refine Zx <| Zs ?_
    refine Zf F7 ?_
    refine Zl AO ?_
    refine Zp ?_
    refine Zf F7 ?_
    refine Zy (AF (cs' := #[_, _, _]) rfl rfl rfl AN rfl (Nat.le_of_ble_eq_true rfl) rfl) ?_
    refine Zx ?_
    refine AG (cl := [.q, .q, .q, .v, .q, .v, .v, .g]) (A := [0, 0, 0, 4, 14, 30, 0, 127]) (order := [0, 1, 2, 3, 4, 5, 6, 7]) [] mixed (by kernel_rfl) (fun w hw => hw.pick .nil) ?_
    refine Ym ?_
    refine Ym ?_
    refine Yf Bd ?_
    refine Yl AO ?_
    refine Yo rfl (Ai rfl rfl rfl Tryz.underlying44 AN (by omega) (by omega) (by first | exact AC _ _ | exact AW _ _ _ | rfl)) ?_
    refine Am rfl rfl rfl rfl (Ah rfl rfl AO (AU (Bk hun))) ?_
    refine Am rfl rfl rfl rfl (Ay (vs := [_, _, _]) rfl rfl ag230 Gf rfl (Ak (vs := [.int .i64 (cnV f i (f u)), .int .i64 ((cnE f es i2 (f u) : Nat) + 1), .int .i64 0]) rfl)) ?_
    refine AL rfl rfl rfl rfl (BR (k := f u) 2 rfl D4 rfl rfl rfl rfl Tryz.underlying228 rfl) (fun w hw => hw.pick (.nil)) ?_
    refine Flow.end rfl ?_
    simp only [zq, zr]
    refine Fin.inBlock <| Fin.then <| DC.region ?_
    refine Zp ?_
    refine Zm ?_
    refine Seq.nil ?_
    have e1 : cnE f es (i2 + 1) (f u) = cnE f es i2 (f u) + 1 := by rw [JH he]; simp
    refine Fin.own (fun w hw => (hw.sub (List.sublist_cons_self ..)).sub (List.sublist_cons_self ..)) ?_
    refine Fin.again ⟨i2 + 1, putM (f u) (tl (cnV f i (f u)) (cnE f es (i2 + 1) (f u)) 0) m2⟩ (by dsimp only; omega) ⟨by dsimp only; omega, ?_⟩ ⟨rfl, rfl, rfl, rfl, rfl, rfl, rfl, trivial⟩ (.cons' 0 rfl (by dsimp only; rw [e1]; rfl) (Pick.all _))
    refine HP (a' := cnV f i) (b' := cnE f es (i2 + 1)) (c' := fun _ => 0) hm2 (f u) (E4 hun) fun y hy => ⟨rfl, ?_, rfl⟩
    have : ¬ f u = y := fun e => hy e.symm
    rw [JH he]; simp [this]
   ·refine DC.exit <| Ad <| Ad <| Ag <| Fin.then <| DC.seq <| DC.seq ?_
    have hi2e : i2 = es.length := by simp at c14; omega
    subst hi2e
    refine Fd (i := 2) rfl ?_
    rintro Af cf' rfl hAf
    rw [rowsV_length]
    obtain ⟨hs, hhs⟩ : ∃ hs : List Int, hs = fs.map fun p => p.2.headD 0 := ⟨_, rfl⟩
    have hhead : ∀ (j : Nat) (p : Value × List Int), fs[j]? = some p → ∃ x : Nat, x < es.length * 2 ∧ p.2[0]? = some (x : Int) ∧ hs[j]? = some (x : Int) := by
     intro j p hp
     have h1 : (fs.map fun p => p.2.head?)[j]? = some p.2.head? := by rw [List.getElem?_map, hp]; rfl
     rw [hD.heads, List.getElem?_map, Option.map_eq_some_iff] at h1
     obtain ⟨x, hx, hxe⟩ := h1
     have hxm := List.mem_of_getElem? hx
     have hxl : x < es.length * 2 := List.mem_range.1 (List.mem_filter.1 hxm).1
     refine ⟨x, hxl, by rw [← List.head?_eq_getElem?, ← hxe], ?_⟩
     rw [hhs, List.getElem?_map, hp]
     simp [List.headD_eq_head?_getD, ← hxe]
    have hfsl : fs.length ≤ 8388608 := by
     have h1 := congrArg List.length hD.heads
     simp only [List.length_map] at h1
     have h2 := List.length_filter_le (fun x => decide (Lead (phi fn) x)) (List.range (es.length * 2))
     simp at h2; omega
    refine DC.region ?_
    refine Zm ?_
    refine Zn Tryz.underlying25 ?_
    refine Zm ?_
    refine Zx <| DC.block ?_
    refine DC.loop (ι := GeI) (fun j => j.i ≤ fs.length ∧ Tal j.m (cnV f i) (cnE f es es.length) (cnF f es hs j.i))
     (fun j => [(2, .pointer (some ⟨g2, 0, none⟩)), (8, .slice (some ⟨gl, 0, none⟩) i i), (11, .map (some gm)), (84, .slice Af fs.length cf'), (85, .int .i64 fs.length), (86, .int .i64 j.i)])
     (fun j => mpc encI gm j.m :: blk gl 3 (ints (tab i f)).toArray :: slc (.slice Af fs.length cf') 44 1 (rowsV fs) :: blk g2 24 #[.int .i64 i, .slice A es.length cap] :: rowsC 3 fs) (fun j => fs.length - j.i) ⟨0, m2⟩
     ⟨Nat.zero_le _, hm2.1, fun x => by rw [hm2.2 x]; simp [cnF]⟩ ⟨rfl, rfl, rfl, rfl, rfl, rfl, trivial⟩ (Pick.all _) ?_
    rintro ⟨i3, m3⟩ ⟨hi3, hm3⟩
    dsimp only at hi3 hm3 ⊢
    refine Zs ?_
    refine Zc ?_
    refine Zx <| DC.seq ?_
    refine Zd (fun c21 => ?_) fun c21 => ?_
    ·have hlt3 : i3 < fs.length := by simpa using c21
     obtain ⟨p, hp⟩ : ∃ p, fs[i3]? = some p := ⟨_, List.getElem?_eq_getElem hlt3⟩
     obtain ⟨adf, rfl⟩ := hAf (fun e => by have := congrArg List.length e; simp at this; rw [this] at hlt3; simp at hlt3)
     refine DC.skip <| Fin.then <| DC.seq <| DC.block <| Zs ?_
     refine Zi Tryz.underlying25 Bn ?_
     refine Zu (Ah rfl rfl Bo (Dh (i := 2) (q := p.1) rfl (by simp [rowsV, hp]))) ?_
     refine Za ?_
     refine Zx <| DC.seq ?_
     obtain ⟨x, hx, hx0, hxh⟩ := hhead i3 p hp
     have hpl := hD.short p (List.mem_of_getElem? hp)
     refine DC.slcs (v := p.1) (i := i3 + 4) (xs := p.2) (t := 3) (by simp [rowsC, hp]) (by omega) ?_
     rintro A3 c3 hp1 hA3
     obtain ⟨ad3, rfl⟩ := hA3 (fun e => by rw [e] at hx0; simp at hx0)
     have hp2 : 0 < p.2.length := (List.getElem?_eq_some_iff.1 hx0).1
     rw [hp1]
     obtain ⟨e, he⟩ : ∃ e, es[x / 2]? = some e := ⟨_, List.getElem?_eq_getElem (by omega)⟩
     obtain ⟨ad, rfl, hU, hVe⟩ := hr.pair he
     have ho := hV.ok (x / 2) e he
     obtain ⟨u, hu⟩ := Int.eq_ofNat_of_zero_le ho.lo
     rw [hu] at hU
     have hun : u < i := by have h1 := ho.lt; have h2 := ho.hi; omega
     have hxd : ((x : Int) / 2).toNat = x / 2 := by omega
     refine AG (cl := [.q, .q, .v, .q, .q, .v, .q, .q, .q, .v, .q, .v, .q]) (A := [0, 0, 2, 0, 8, 24, 56, 126, 254, 510, 1023, 2047, 4095]) (order := [0, 1, 2, 3, 4, 5, 6, 7, 8, 9, 10, 11, 12]) [] mixed (by kernel_rfl) (fun w hw => hw.pick .nil) ?_
     refine Ym ?_
     refine Yf Be ?_
     refine Yl BO ?_
     refine Ym ?_
     refine Yo rfl (Ai (ad' := ad3.add 0) rfl rfl rfl Tryz.underlying44 AN (by omega) (by omega) rfl) ?_
     refine Am rfl rfl rfl rfl (Ah rfl rfl AO (BE (t := 3) (i := i3 + 4) (l := p.2.length) (c := c3) (by rw [← hp1]; simp [rowsC, hp]) hx0 (by omega))) ?_
     refine Yo rfl (I0 rfl rfl rfl (by omega) (by omega)) ?_
     refine Yo rfl (AQ (ad' := ad.add (x / 2 * 2)) rfl rfl rfl Tryz.underlying22 Bb (by omega) (by omega) (by rw [hxd])) ?_
     refine Yo rfl (CL (ad' := ad.add (x / 2 * 2)) rfl rfl Bd (by simp [Addr.add])) ?_
     refine Am rfl rfl rfl rfl (Ah rfl rfl AO (AE hU)) ?_
     refine Yo rfl (Ai rfl rfl rfl Tryz.underlying44 AN (by omega) (by omega) (by first | exact AC _ _ | exact AW _ _ _ | rfl)) ?_
     refine Am rfl rfl rfl rfl (Ah rfl rfl AO (AU (Bk hun))) ?_
     refine Yo rfl (Aw rfl rfl) ?_
     refine Flow.end rfl ?_
     simp only [zq, zr]
     refine Fin.then <| DC.seq ?_
     have hb4 := cnF_le f es hs i3 (f u)
     have hhl : hs.length = fs.length := by rw [hhs]; simp
     have hFs : ∀ y, cnF f es hs (i3 + 1) y = cnF f es hs i3 y + if f u = y then 1 else 0 := fun y => by
      have h1 : headU es x = u := by unfold headU; rw [hxd, he]; simp [hu]
      rw [cnF_succ hxh, h1]
     refine DC.region ?_
     refine Zm ?_
     refine Zm ?_
     refine Zu (CA (v := tl (cnV f i (f u)) (cnE f es es.length (f u)) (cnF f es hs i3 (f u))) (k := f u) 0 rfl D4 rfl rfl rfl Tryz.underlying228 F8 (HQ hm3 (f u) (fun e => absurd e (E4 hun)))) ?_
     refine Zw (AH rfl F8 rfl) fun g21 => ?_
     refine Zy (AA (cs' := #[.int .i64 (cnV f i (f u)), .int .i64 (cnE f es es.length (f u)), .int .i64 (cnF f es hs i3 (f u))]) rfl rfl rfl Gf rfl (Nat.le_of_ble_eq_true rfl) rfl) ?_
     refine Zx <| Zs ?_
     refine Zf Ii ?_
     refine Zl AO ?_
     refine Zp ?_
     refine Zf Ii ?_
     refine Zy (AF (cs' := #[_, _, _]) rfl rfl rfl AN rfl (Nat.le_of_ble_eq_true rfl) rfl) ?_
     refine Zx <| DC.region ?_
     refine Zm ?_
     refine Zm ?_
     refine Zu (Ay (vs := [_, _, _]) rfl rfl ag230 Gf rfl (Ak (vs := [.int .i64 (cnV f i (f u)), .int .i64 (cnE f es es.length (f u)), .int .i64 ((cnF f es hs i3 (f u) : Nat) + 1)]) rfl)) ?_
     refine Zy (BR (k := f u) 1 rfl D4 rfl rfl rfl rfl Tryz.underlying228 rfl) ?_
     simp only [List.set_cons_zero, List.set_cons_succ]
     refine Seq.nil <| Fin.inBlock <| Fin.then <| DC.region ?_
     refine Zp ?_
     refine Zm ?_
     refine Seq.nil ?_
     have e1 : cnF f es hs (i3 + 1) (f u) = cnF f es hs i3 (f u) + 1 := by rw [hFs]; simp
     refine Fin.own (fun w hw => hw.sub (List.sublist_cons_self ..)) ?_
     refine Fin.again ⟨i3 + 1, putM (f u) (tl (cnV f i (f u)) (cnE f es es.length (f u)) (cnF f es hs (i3 + 1) (f u))) m3⟩ (by dsimp only; omega) ⟨by dsimp only; omega, ?_⟩ ⟨rfl, rfl, rfl, rfl, rfl, rfl, trivial⟩ (.cons' 0 rfl (by dsimp only; rw [e1]; rfl) (Pick.all _))
     refine HP (a' := cnV f i) (b' := cnE f es es.length) (c' := cnF f es hs (i3 + 1)) hm3 (f u) (E4 hun) fun y hy => ⟨rfl, rfl, ?_⟩
     have : ¬ f u = y := fun e => hy e.symm
     rw [hFs]; simp [this]
    ·refine DC.exit <| Ad <| Ad <| Ag <| Fin.then <| DC.seq ?_
     have hi3e : i3 = fs.length := by simp at c21; omega
     subst hi3e
     have hhl : hs.length = fs.length := by rw [hhs]; simp
     have hheads : hs = headsOf (es.length * 2) fn := by
      rw [hhs]
      unfold headsOf
      have h1 := hD.heads
      have h2 : fs.map (fun p => p.2.headD 0) = (fs.map fun p => p.2.head?).map fun o => o.getD 0 := by rw [List.map_map]; apply List.map_congr_left; intro p _; simp [List.headD_eq_head?_getD]
      rw [h2, h1, List.map_map]
      rfl
     rw [← hhl] at hm3
     have hL := lab_of hPa hLa
     have hhin : ∀ h, h ∈ hs → headU es h < i ∧ cnE f es es.length (f (headU es h)) ≠ 0 := by
      intro h hh
      rw [hheads] at hh
      obtain ⟨y, hy, rfl⟩ := List.mem_map.1 hh
      have hy2 := List.mem_range.1 (List.mem_filter.1 hy).1
      obtain ⟨e, he⟩ : ∃ e, es[y / 2]? = some e := ⟨_, List.getElem?_eq_getElem (by omega)⟩
      have hem := List.mem_of_getElem? he
      obtain ⟨u, u2, rfl, h1, h2⟩ := CY hV hem
      rw [GF he]
      refine ⟨by simp; omega, fun h0 => GR h0 hem rfl⟩
     have hkeys : ∀ x, x ∈ m3.map (·.1) ↔ cnV f i x ≠ 0 := by
      intro x
      have h1 := hm3.2 x
      constructor
      ·intro hx h0
       rw [if_pos h0] at h1
       exact GA h1 hx
      ·intro h0
       rw [if_neg h0] at h1
       exact List.mem_map.2 ⟨_, Lh h1, rfl⟩
     have htot := GG hV hL hm3.1 hkeys hhin
     have hent : ∀ p, p ∈ m3 → p.2 = tl (cnV f i p.1) (cnE f es es.length p.1) (cnF f es hs hs.length p.1) := by
      intro p hp
      have h1 := Kp hm3.1 (x := p.1) (v := p.2) hp
      rw [hm3.2] at h1
      rw [if_neg ((hkeys _).1 (List.mem_map.2 ⟨p, hp, rfl⟩))] at h1
      exact (Option.some.inj h1).symm
     have hmlen : m3.length ≤ 1048576 := by
      have h1 := Ei (b := ints0 i k) hm3.1 (fun x hx => ?_)
      ·simp [ints0] at h1; have := hLa.2.2.2; omega
      ·obtain ⟨j, hj, hfj⟩ := Is ((hkeys x).1 hx)
       obtain ⟨h2, h3⟩ := hLa.1 j hj
       rw [hfj] at h2 h3
       exact List.mem_map.2 ⟨x.toNat, List.mem_range.2 (by omega), by omega⟩
     refine DC.region ?_
     refine Za ?_
     refine Zx <| DC.seq <| Zs ?_
     refine Zm ?_
     refine Seq.gen rfl rfl (g_range (enc := encI) (m := m3) 0 rfl rfl rfl Tryz.underlying228) ?_
     rintro _ _ ⟨gi, rfl, rfl⟩
     rw [List.set_cons_zero]
     refine Zx <| DC.block ?_
     refine DC.loop (ι := GeK) (fun j => (∀ p, p ∈ j.left → p ∈ m3) ∧ 2 * j.S + gsum (cnV f i) (cnE f es es.length) (cnF f es hs hs.length) (j.left.map (·.1)) = genus2 i es fn ∧ j.left.length ≤ m3.length ∧
       -(16777216 * ((m3.length : Int) - j.left.length)) ≤ j.S ∧ j.S ≤ 16777216 * ((m3.length : Int) - j.left.length))
      (fun j => [(22, .int .i64 j.S), (114, .pointer (some ⟨gi, 0, none⟩))]) (fun j => [mit encI gm gi m3 j.left j.last]) (fun j => j.left.length) ⟨m3, none, 0⟩
      ⟨fun p hp => hp, by dsimp only; rw [htot]; unfold genus2 facesN; rw [← hheads]; omega, Nat.le_refl _, by dsimp only; omega, by dsimp only; omega⟩ ⟨rfl, rfl, trivial⟩ (.cons 0 rfl .nil) ?_
     rintro ⟨left, last, S⟩ ⟨hleft, hS, hll, hS1, hS2⟩
     dsimp only at hleft hS hll hS1 hS2 ⊢
     refine Zs ?_
     refine Seq.gen rfl rfl (g_next (enc := encI) 0 rfl rfl rfl) ?_
     intro v115 L115 hC115
     obtain ⟨b, rest, rfl, hcase⟩ : ∃ b rest, v115 = .tuple ⟨.bool b :: rest⟩ ∧ ((b = false ∧ left = []) ∨ (b = true ∧ ∃ j p, left[j]? = some p ∧ L115 = [mit encI gm gi m3 (left.eraseIdx j) (some p)])) := by
      rcases hC115 with ⟨rfl, h1, _⟩ | ⟨j, p, h1, rfl, h2⟩
      ·exact ⟨false, [], rfl, .inl ⟨rfl, h1⟩⟩
      ·exact ⟨true, _, rfl, .inr ⟨rfl, j, p, h1, by rw [h2]; rfl⟩⟩
     refine Ze ?_
     refine Zx <| DC.seq ?_
     refine Zd (fun c30 => ?_) fun c30 => ?_
     ·obtain ⟨j, p, hp, rfl⟩ : ∃ j p, left[j]? = some p ∧ L115 = [mit encI gm gi m3 (left.eraseIdx j) (some p)] := by
       rcases hcase with ⟨h1, _⟩ | ⟨_, h1⟩
       ·rw [h1] at c30; cases c30
       ·exact h1
      clear hC115 hcase
      obtain ⟨x, xv⟩ := p
      have hpm := hleft _ (List.mem_of_getElem? hp)
      obtain rfl : xv = tl (cnV f i x) (cnE f es es.length x) (cnF f es hs hs.length x) := hent _ hpm
      have hb1 := KJ f i x
      have hb2 := cnE_le f es es.length x
      have hb3 := cnF_le f es hs hs.length x
      have hx0 := (hkeys x).1 (List.mem_map.2 ⟨_, hpm, rfl⟩)
      have her := GH (a := cnV f i) (b := cnE f es es.length) (c := cnF f es hs hs.length) (ks := left.map (·.1)) (j := j) (x := x) (by rw [List.getElem?_map, hp]; rfl)
      rw [← ChangeMaps.map_eraseIdx] at her
      have hjl := (List.getElem?_eq_some_iff.1 hp).1
      have hel : (left.eraseIdx j).length = left.length - 1 := List.length_eraseIdx_of_lt hjl
      refine DC.skip <| Fin.then <| DC.block <| Zs ?_
      refine Zu (v_entry (p := (x, tl (cnV f i x) (cnE f es es.length x) (cnF f es hs hs.length x))) 0 rfl rfl rfl) ?_
      refine Ze ?_
      refine Zw (AH rfl F8 rfl) fun g24 => ?_
      refine Zy (AA (cs' := #[.int .i64 (cnV f i x), .int .i64 (cnE f es es.length x), .int .i64 (cnF f es hs hs.length x)]) rfl rfl rfl Gf rfl (Nat.le_of_ble_eq_true rfl) rfl) ?_
      refine Zx <| Zs ?_
      refine Zf F7 ?_
      refine Zl AO ?_
      refine Zo (BH rfl rfl rfl) ?_
      refine Zx ?_
      refine Zd (fun c32 => ?_) fun c32 => ?_
      ·have hne : cnE f es es.length x ≠ 0 := by simp at c32; omega
       have heven := Hn hok hnx hL hne
       rw [← hheads] at heven
       obtain ⟨q, hq⟩ : ∃ q : Int, 2 - ((cnV f i x : Nat) : Int) + (cnE f es es.length x : Nat) - (cnF f es hs hs.length x : Nat) = 2 * q := ⟨(2 - ((cnV f i x : Nat) : Int) + (cnE f es es.length x : Nat) - (cnF f es hs hs.length x : Nat)) / 2, by omega⟩
       refine DC.region ?_
       refine Zm ?_
       refine Zf Ij ?_
       refine Zl AO ?_
       refine Zo (Ca rfl rfl rfl (by omega)) ?_
       refine Zf F7 ?_
       refine Zl AO ?_
       refine Zp ?_
       refine Zf Ii ?_
       refine Zl AO ?_
       refine Zo (Ca rfl rfl rfl (by omega)) ?_
       refine Zo (p_quo2 (q := q) rfl rfl rfl hq (by omega)) ?_
       refine Zp ?_
       refine Za ?_
       refine Seq.nil <| Fin.inBlock ?_
       refine Fin.again ⟨left.eraseIdx j, some (x, tl (cnV f i x) (cnE f es es.length x) (cnF f es hs hs.length x)), S + q⟩ (by dsimp only; omega) ⟨fun p hp => hleft p (List.mem_of_mem_eraseIdx hp), ?_, by dsimp only; omega, by dsimp only; rw [hel]; omega, by dsimp only; rw [hel]; omega⟩ ⟨rfl, rfl, trivial⟩ (.cons 1 rfl .nil)
       dsimp only
       have : gval (cnV f i x) (cnE f es es.length x) (cnF f es hs hs.length x) = 2 * q := by unfold gval; rw [if_pos hne]; exact hq
       omega
      ·refine DC.skip <| Fin.inBlock ?_
       have hne : cnE f es es.length x = 0 := by simp at c32; omega
       refine Fin.again ⟨left.eraseIdx j, some (x, tl (cnV f i x) (cnE f es es.length x) (cnF f es hs hs.length x)), S⟩ (by dsimp only; omega) ⟨fun p hp => hleft p (List.mem_of_mem_eraseIdx hp), ?_, by dsimp only; omega, by dsimp only; rw [hel]; omega, by dsimp only; rw [hel]; omega⟩ ⟨rfl, rfl, trivial⟩ (.cons 1 rfl .nil)
       dsimp only
       have : gval (cnV f i x) (cnE f es es.length x) (cnF f es hs hs.length x) = 0 := by unfold gval; rw [if_neg (by simp [hne])]
       omega
     ·refine DC.exit <| Ad <| Ad <| Ag <| Fin.then <| Zs ?_
      refine Zm ?_
      refine Za ?_
      refine Za ?_
      refine Zx <| DC.ret ?_
      refine Fin.weak (E' := [(4, _), (5, _)]) ⟨rfl, rfl, trivial⟩ .nil ?_
      refine AJ (.inl rfl) rfl rfl rfl ?_
      refine ⟨rfl, fn, S, hnx, rfl, ?_⟩
      have h0 : left = [] := by
       rcases hcase with ⟨_, h1⟩ | ⟨h1, _⟩
       ·exact h1
       ·rw [h1] at c30; simp at c30
      rw [h0] at hS
      simpa [gsum] using hS
end Go.Fl

namespace Go.Fl
open Go Go.Proofs
theorem Flat_calls {n : Nat} {es : List Pr} {rs : List (List Int)} {va v : Value} {w : World} (hg : PrV w va es) (hl : LsV w v rs) (hok : RotL n es rs) :
  Calls Tryz.prog 95 #[.agg #[.int .i64 n, va], v] w (Ret w [] fun r M => M = [] ∧ ∃ fn b, NxOk rs rs.length fn ∧ r = .bool b ∧ (b = true ↔ genus2 n es fn = 0)) := by
 refine At (args := [_, _]) (L := []) Tryz.func95 rfl Tryz.ntmps95 rfl (Own.start _ _) ?_
 refine Zs ?_
 refine Zw (AS rfl rfl rfl) fun g2 => ?_
 refine Za ?_
 refine Zx <| Zs ?_
 refine Zu (Ay (vs := [_, _]) rfl rfl Bj Bc rfl (Ak rfl)) ?_
 refine Zm ?_
 refine Seq.rel0 rfl rfl (Aq en121 rfl rfl rfl (fun w' hw => JT (hg.keep0 hw) (hl.keep0 hw) hok)) ?_
 rintro _ ⟨fn, S, hnx, rfl, hS⟩
 refine Zm ?_
 refine Ze ?_
 refine Ze ?_
 refine Za ?_
 refine Za ?_
 refine Zx <| Zs ?_
 refine Zm ?_
 refine Zo (AX rfl rfl rfl) ?_
 refine Zm ?_
 refine Seq.split 15 rfl (fun k2_2 => ?_) (fun k2_2 => ?_)
 ·refine Zm ?_
  refine Zo (AX rfl rfl rfl) ?_
  refine Zt ?_
  refine Za ?_
  refine Zx <| DC.ret ?_
  refine Fin.weak (E' := [(4, _)]) ⟨rfl, trivial⟩ .nil ?_
  refine Aj (.inl rfl) rfl rfl ?_
  exact ⟨rfl, fn, _, hnx, rfl, by first | (simp; omega) | (simp at k2_2)⟩
 ·refine Zk ?_
  refine Zk ?_
  refine Zg ?_
  refine Za ?_
  refine Zx <| DC.ret ?_
  refine Fin.weak (E' := [(4, _)]) ⟨rfl, trivial⟩ .nil ?_
  refine Aj (.inl rfl) rfl rfl ?_
  exact ⟨rfl, fn, _, hnx, rfl, by first | (simp; omega) | (simp at k2_2)⟩
/-- Being flat, said of the lists round the vertices. -/
def FlatR (n : Nat) (es : List Pr) (ls : List (List Int)) (b : Prop) : Prop := ∃ rs fn, RotR es ls rs ∧ NxOk rs rs.length fn ∧ (b ↔ genus2 n es fn = 0)
theorem JK {pl : Bool} {n : Nat} {es : List Pr} {ls : List (List Int)} {va v u : Value} {w : World} (hg : PrV w va es) (hv : LsV w v ls) (hok : RotOk n es ls) :
  Calls Tryz.prog 57 #[.agg #[.int .i64 n, va], .agg #[.bool pl, v, u]] w (Ret w [] fun r M => M = [] ∧ ∃ b, r = .bool b ∧ FlatR n es ls (b = true)) := by
 have hN := hok.1.hi
 refine At (args := [_, _]) (L := []) Tryz.func57 rfl Tryz.ntmps57 rfl (Own.start _ _) ?_
 refine Zs ?_
 refine Zw (AS rfl rfl rfl) fun g2 => ?_
 refine Zw (AS rfl rfl rfl) fun g3 => ?_
 refine Za ?_
 refine Zx <| Zs ?_
 refine Zu (Ay (vs := [_, _]) rfl rfl Bj Bc rfl (Ak rfl)) ?_
 refine Zf D9 ?_
 refine Zl FS ?_
 refine Seq.rel rfl rfl (Aq en94 rfl rfl rfl (fun w' hw => FL (hg.keep0 hw) (hv.keep0 hw))) ?_
 intro v12 L12 hC12
 obtain ⟨_, g, rs, rfl, rfl, hR⟩ := hC12.resolve_right (fun h => h.1 hok)
 have hl := HT hok hR
 have hlen : rs.length = n := by have := hl.2.1; simp at this; omega
 rw [Int.toNat_natCast]
 refine Seq.own (M := blk g 44 (rowsV rs).toArray :: blk g3 27 #[.bool pl, v, u] :: blk g2 24 #[.int .i64 n, va] :: rowsC 3 rs) (fun w hw => hw.perm (List.Perm.cons _ (List.perm_append_comm (l₁ := [_, _]) (l₂ := rowsC 3 rs)))) ?_
 have hshort : ∀ p, p ∈ rs → p.2.length ≤ 17592186044416 := fun p hp => by
  obtain ⟨j, hj⟩ := List.mem_iff_getElem?.1 hp
  have h1 := (hl.2.2 j p.2 (by rw [List.getElem?_map, hj]; rfl)).2.2
  have h2 := Ft es 0 (j : Int)
  have h3 := hok.1.few
  unfold cnt outs at h1
  omega
 refine Zm ?_
 refine Ze ?_
 refine Ze ?_
 refine Ze ?_
 refine Za ?_
 refine Za ?_
 refine Za ?_
 refine Zx <| Zs ?_
 refine Zu (Ay (vs := [_, _]) rfl rfl Bj Bc rfl (Ak rfl)) ?_
 refine Zm ?_
 refine Seq.rel0 rfl rfl (Aq en95 rfl rfl rfl (fun w' hw => Flat_calls (hg.keep0 hw) (EV (hw.sub (L' := blk g 44 (rowsV rs).toArray :: rowsC 3 rs) (((List.Sublist.refl _).cons _).cons _ |>.cons_cons _)) hlen (by omega) hshort) hl)) ?_
 rintro _ ⟨fn, b, hnx, rfl, hb⟩
 refine Za ?_
 refine Zx <| DC.ret ?_
 refine Fin.weak (E' := [(4, _)]) ⟨rfl, trivial⟩ .nil ?_
 refine Aj (.inl rfl) rfl rfl ?_
 exact ⟨rfl, b, rfl, _, fn, hR, hnx, hb⟩
end Go.Fl

namespace Go.Fl
open Go
theorem Dc : ∀ (k u : Nat), u < 10 ^ (k + 1) → (Lib.decDigits u).length ≤ k + 1
 | 0, u, h => by rw [Lib.decDigits, dif_pos (by simpa using h)]; simp
 | k + 1, u, h => by
  rw [Lib.decDigits]
  split
  ·simp
  ·have := Dc k (u / 10) (by rw [Nat.div_lt_iff_lt_mul (by decide)]; rw [Nat.pow_succ] at h; exact h)
   simp; omega
theorem Jq {a : Int} (h : -9223372036854775808 ≤ a ∧ a ≤ 9223372036854775807) : (Lib.itoa a).length ≤ 20 := by
 unfold Lib.itoa
 split
 ·have := Dc 18 a.natAbs (by rw [show (10 : Nat) ^ (18 + 1) = 10000000000000000000 by decide]; omega)
  simp; omega
 ·have := Dc 18 a.toNat (by rw [show (10 : Nat) ^ (18 + 1) = 10000000000000000000 by decide]; omega)
  omega
def lineB (ns : List Int) : List UInt8 := Lib.join (ns.map Lib.itoa) [32] ++ [10]
theorem GD {k : Nat} : ∀ (xs : List (List UInt8)), (∀ x, x ∈ xs → x.length ≤ k) → (Lib.join xs [32]).length ≤ (k + 1) * xs.length
 | [], _ => by simp [Lib.join]
 | [x], h => by simp [Lib.join, List.intercalate]; have := h x (by simp); omega
 | x :: y :: r, h => by
  have h1 := h x (by simp)
  have h2 := GD (y :: r) (fun z hz => h z (List.mem_cons_of_mem _ hz))
  have e : Lib.join (x :: y :: r) [32] = x ++ [32] ++ Lib.join (y :: r) [32] := by simp [Lib.join, List.intercalate, List.intersperse]
  rw [e]
  simp only [List.length_append, List.length_cons, List.length_nil] at h2 ⊢
  rw [Nat.mul_add, Nat.mul_add] at *
  omega
def I64 (a : Int) : Prop := -9223372036854775808 ≤ a ∧ a ≤ 9223372036854775807
theorem Ej {ns : List Int} (h : ∀ a, a ∈ ns → I64 a) : (lineB ns).length ≤ 21 * ns.length + 1 := by
 have := GD (k := 20) (ns.map Lib.itoa) (by simp; intro a ha; exact Jq (h a ha))
 simp [lineB] at this ⊢; omega
def strs (xs : List (List UInt8)) : List Value := xs.map str
@[simp] theorem strs_length (xs : List (List UInt8)) : (strs xs).length = xs.length := by simp [strs]
theorem strs_one (a : List (List UInt8)) : ∀ u, u ∈ strs a → u.oneCell' = true := by
 intro u hu; simp [strs] at hu; obtain ⟨x, _, rfl⟩ := hu; rfl
theorem I4 (w : World) (k : Nat) (os : Array Obj) : Own w [] (Sort.grow (w.drewN k) os) [] := by
 refine ⟨rfl, rfl, rfl, .inr (by simp [Sort.grow, World.drewN]), by simp [Sort.grow, World.drewN], fun i hi _ => ?_, by simp, by simp, by simp, by simp⟩
 have : (w.drewN k).heap = w.heap := rfl
 simp only [Sort.grow, this]
 rw [Array.getElem?_append_left hi]
end Go.Fl

namespace Go.Proofs
open Go.Shelf
def Tryz.lays170_ren : Go.Shelf.Ren := ⟨fun | 170 => 44 | n => n, fun | 70 => 93 | 3 => 3 | 0 => 0 | 72 => 95 | 37 => 47 | 5 => 5 | n => n, fun | n => n⟩
theorem IB : Go.Proofs.Lays.n170 Tryz.prog Tryz.lays170_ren := {
 mixed := by kernel_rfl
 f170 := Tryz.func44.trans (congrArg some (by kernel_rfl))
 t0 := Tryz.underlying0
 a0 := Tryz.isAgg0
 z0 := Tryz.sizeOf0
 v0 := Tryz.zeroValue0
 t3 := Tryz.underlying3
 a3 := Tryz.isAgg3
 z3 := Tryz.sizeOf3
 v3 := Tryz.zeroValue3
 t37 := Tryz.underlying47
 a37 := Tryz.isAgg47
 z37 := Tryz.sizeOf47
 v37 := Tryz.zeroValue47
 t70 := Tryz.underlying93
 a70 := Tryz.isAgg93
 z70 := Tryz.sizeOf93
 v70 := Tryz.zeroValue93
 t72 := Tryz.underlying95
 a72 := Tryz.isAgg95
 z72 := Tryz.sizeOf95
 v72 := Tryz.zeroValue95 }
open Go.RowKit in
theorem Tryz.Builder_Len (B b : Nat) (bs : List Value) (w : World) (h : Lib.IsBuilder 95 5 B b bs w) :
  Calls Tryz.prog 44 #[.pointer (some ⟨b, 0, none⟩)] w fun e w' => e = .returned (.int .i64 bs.length) ∧ w' = w := Any.Builder_Len IB B b bs w h
def Tryz.lays169_ren : Go.Shelf.Ren := ⟨fun | 169 => 45 | n => n, fun | 70 => 93 | 9 => 9 | 0 => 0 | 72 => 95 | 37 => 47 | 127 => 152 | 3 => 3 | 5 => 5 | n => n, fun | n => n⟩
theorem IC : Go.Proofs.Lays.n169 Tryz.prog Tryz.lays169_ren := {
 mixed := by kernel_rfl
 f169 := Tryz.func45.trans (congrArg some (by kernel_rfl))
 t0 := Tryz.underlying0
 a0 := Tryz.isAgg0
 z0 := Tryz.sizeOf0
 v0 := Tryz.zeroValue0
 t3 := Tryz.underlying3
 a3 := Tryz.isAgg3
 z3 := Tryz.sizeOf3
 v3 := Tryz.zeroValue3
 t9 := Tryz.underlying9
 a9 := Tryz.isAgg9
 z9 := Tryz.sizeOf9
 v9 := Tryz.zeroValue9
 t37 := Tryz.underlying47
 a37 := Tryz.isAgg47
 z37 := Tryz.sizeOf47
 v37 := Tryz.zeroValue47
 t70 := Tryz.underlying93
 a70 := Tryz.isAgg93
 z70 := Tryz.sizeOf93
 v70 := Tryz.zeroValue93
 t72 := Tryz.underlying95
 a72 := Tryz.isAgg95
 z72 := Tryz.sizeOf95
 v72 := Tryz.zeroValue95
 t127 := Tryz.underlying152
 a127 := Tryz.isAgg152
 z127 := Tryz.sizeOf152
 v127 := Tryz.zeroValue152 }
theorem DM : Builder.Extra Tryz.prog Tryz.lays169_ren := {
 sizeBuilder := by kernel_rfl
 liesBuilder := by kernel_rfl
 t5 := Tryz.underlying5
 a5 := Tryz.isAgg5
 z5 := Tryz.sizeOf5
 v5 := Tryz.zeroValue5
 infoByte := by kernel_rfl
 cellsByte := by kernel_rfl
 sizeByte := by kernel_rfl
 neB5 := by decide }
open Go.RowKit in
theorem Tryz.Builder_String_any (B b : Nat) (l : List UInt8) (w : World) (h : Lib.IsBuilder 95 5 B b (Lib.byteCells l) w) (hBw : B ≤ w.heap.size) :
  Calls Tryz.prog 45 #[.pointer (some ⟨b, 0, none⟩)] w fun e w' => e = .returned (.string ⟨l.toArray⟩) ∧ Below B w w' := Any.Builder_String_any IC DM B b l w h hBw
def Tryz.lays156_ren : Go.Shelf.Ren := ⟨fun | 156 => 84 | 165 => 111 | 166 => 42 | 169 => 45 | 240 => 82 | 241 => 147 | 276 => 109 | 277 => 172 | n => n, fun | 31 => 150 | 9 => 9 | 3 => 3 | 4 => 4 | 0 => 0 | 20 => 20 | 72 => 95 | 76 => 98 | 70 => 93 | 37 => 47 | 75 => 97 | 127 => 152 | 164 => 181 | 5 => 5 | 80 => 102 | n => n, fun | n => n⟩
theorem DL : Go.Proofs.Lays.n156 Tryz.prog Tryz.lays156_ren := {
 mixed := by kernel_rfl
 f156 := Tryz.func84.trans (congrArg some (by kernel_rfl))
 f165 := Tryz.func111.trans (congrArg some (by kernel_rfl))
 f166 := Tryz.func42.trans (congrArg some (by kernel_rfl))
 f169 := Tryz.func45.trans (congrArg some (by kernel_rfl))
 f240 := Tryz.func82.trans (congrArg some (by kernel_rfl))
 f241 := Tryz.func147.trans (congrArg some (by kernel_rfl))
 f276 := Tryz.func109.trans (congrArg some (by kernel_rfl))
 f277 := Tryz.func172.trans (congrArg some (by kernel_rfl))
 t0 := Tryz.underlying0
 a0 := Tryz.isAgg0
 z0 := Tryz.sizeOf0
 v0 := Tryz.zeroValue0
 t3 := Tryz.underlying3
 a3 := Tryz.isAgg3
 z3 := Tryz.sizeOf3
 v3 := Tryz.zeroValue3
 t4 := Tryz.underlying4
 a4 := Tryz.isAgg4
 z4 := Tryz.sizeOf4
 v4 := Tryz.zeroValue4
 t9 := Tryz.underlying9
 a9 := Tryz.isAgg9
 z9 := Tryz.sizeOf9
 v9 := Tryz.zeroValue9
 t20 := Tryz.underlying20
 a20 := Tryz.isAgg20
 z20 := Tryz.sizeOf20
 v20 := Tryz.zeroValue20
 t31 := Tryz.underlying150
 a31 := Tryz.isAgg150
 z31 := Tryz.sizeOf150
 v31 := Tryz.zeroValue150
 t37 := Tryz.underlying47
 a37 := Tryz.isAgg47
 z37 := Tryz.sizeOf47
 v37 := Tryz.zeroValue47
 t70 := Tryz.underlying93
 a70 := Tryz.isAgg93
 z70 := Tryz.sizeOf93
 v70 := Tryz.zeroValue93
 t72 := Tryz.underlying95
 a72 := Tryz.isAgg95
 z72 := Tryz.sizeOf95
 v72 := Tryz.zeroValue95
 t75 := Tryz.underlying97
 a75 := Tryz.isAgg97
 z75 := Tryz.sizeOf97
 v75 := Tryz.zeroValue97
 t76 := Tryz.underlying98
 a76 := Tryz.isAgg98
 z76 := Tryz.sizeOf98
 v76 := Tryz.zeroValue98
 t127 := Tryz.underlying152
 a127 := Tryz.isAgg152
 z127 := Tryz.sizeOf152
 v127 := Tryz.zeroValue152
 t164 := Tryz.underlying181
 a164 := Tryz.isAgg181
 z164 := Tryz.sizeOf181
 v164 := Tryz.zeroValue181 }
theorem BU : Builder.Extra Tryz.prog Tryz.lays156_ren := {
 sizeBuilder := by kernel_rfl
 liesBuilder := by kernel_rfl
 t5 := Tryz.underlying5
 a5 := Tryz.isAgg5
 z5 := Tryz.sizeOf5
 v5 := Tryz.zeroValue5
 infoByte := by kernel_rfl
 cellsByte := by kernel_rfl
 sizeByte := by kernel_rfl
 neB5 := by decide }
open Go.RowKit in
theorem Tryz.strings_Join_none (a : Option Addr) (c : Nat) (sep : ByteArray) (w : World) :
  Calls Tryz.prog 84 #[.slice a 0 c, .string sep] w fun e w' => e = .returned (.string ⟨#[]⟩) ∧ w' = w := Any.strings_Join_none DL BU a c sep w
open Go.RowKit in
theorem Tryz.strings_Join (bk o c : Nat) (xs : List ByteArray) (sep : ByteArray) (w : World) (hcells : ∀ (j : Nat) x, xs[j]? = some x → w.cell? ⟨bk, o + j, none⟩ = some (.string x)) (hbk : bk < w.heap.size) (hN : xs.length ≤ 140737488355328) (hcap : xs.length ≤ c) (hlen : (Lib.join (xs.map (·.data.toList)) sep.data.toList).length ≤ 140737488355328) :
  Calls Tryz.prog 84 #[.slice (some ⟨bk, o, none⟩) xs.length c, .string sep] w fun e w' => e = .returned (.string ⟨(Lib.join (xs.map (·.data.toList)) sep.data.toList).toArray⟩) ∧ Below w.heap.size w w' := Any.strings_Join DL BU bk o c xs sep w hcells hbk hN hcap hlen
def Tryz.laysM171_ren : Go.Shelf.Ren := ⟨fun | 171 => 110 | 243 => 146 | 246 => 171 | 283 => 185 | 284 => 186 | 285 => 187 | 286 => 188 | 129 => 145 | 317 => 196 | 318 => 197 | 319 => 198 | 320 => 199 | 337 => 202 | 338 => 203 | n => n, fun | 3 => 3 | 9 => 9 | 2 => 2 | 4 => 4 | 171 => 256 | 0 => 0 | 53 => 221 | 37 => 47 | 5 => 5 | 173 => 258 | 212 => 265 | 51 => 219 | 20 => 20 | 213 => 266 | 46 => 180 | 232 => 267 | 233 => 268 | n => n, fun | 17 => 1 | 18 => 2 | 19 => 3 | n => n⟩
theorem Hb : Go.Proofs.LaysM.n171 Tryz.prog Tryz.laysM171_ren := {
 mixed := by kernel_rfl
 f129 := Tryz.func145.trans (congrArg some (by kernel_rfl))
 f171 := Tryz.func110.trans (congrArg some (by kernel_rfl))
 f243 := Tryz.func146.trans (congrArg some (by kernel_rfl))
 f246 := Tryz.func171.trans (congrArg some (by kernel_rfl))
 f283 := Tryz.func185.trans (congrArg some (by kernel_rfl))
 f284 := Tryz.func186.trans (congrArg some (by kernel_rfl))
 f285 := Tryz.func187.trans (congrArg some (by kernel_rfl))
 f286 := Tryz.func188.trans (congrArg some (by kernel_rfl))
 f317 := Tryz.func196.trans (congrArg some (by kernel_rfl))
 f318 := Tryz.func197.trans (congrArg some (by kernel_rfl))
 f319 := Tryz.func198.trans (congrArg some (by kernel_rfl))
 f320 := Tryz.func199.trans (congrArg some (by kernel_rfl))
 f337 := Tryz.func202.trans (congrArg some (by kernel_rfl))
 f338 := Tryz.func203.trans (congrArg some (by kernel_rfl))
 t0 := Tryz.underlying0
 a0 := Tryz.isAgg0
 z0 := Tryz.sizeOf0
 v0 := Tryz.zeroValue0
 t2 := Tryz.underlying2
 a2 := Tryz.isAgg2
 z2 := Tryz.sizeOf2
 v2 := Tryz.zeroValue2
 t3 := Tryz.underlying3
 a3 := Tryz.isAgg3
 z3 := Tryz.sizeOf3
 v3 := Tryz.zeroValue3
 t4 := Tryz.underlying4
 a4 := Tryz.isAgg4
 z4 := Tryz.sizeOf4
 v4 := Tryz.zeroValue4
 t5 := Tryz.underlying5
 a5 := Tryz.isAgg5
 z5 := Tryz.sizeOf5
 v5 := Tryz.zeroValue5
 t9 := Tryz.underlying9
 a9 := Tryz.isAgg9
 z9 := Tryz.sizeOf9
 v9 := Tryz.zeroValue9
 t20 := Tryz.underlying20
 a20 := Tryz.isAgg20
 z20 := Tryz.sizeOf20
 v20 := Tryz.zeroValue20
 t37 := Tryz.underlying47
 a37 := Tryz.isAgg47
 z37 := Tryz.sizeOf47
 v37 := Tryz.zeroValue47
 t46 := Tryz.underlying180
 a46 := Tryz.isAgg180
 z46 := Tryz.sizeOf180
 v46 := Tryz.zeroValue180
 t51 := Tryz.underlying219
 a51 := Tryz.isAgg219
 z51 := Tryz.sizeOf219
 v51 := Tryz.zeroValue219
 t53 := Tryz.underlying221
 a53 := Tryz.isAgg221
 z53 := Tryz.sizeOf221
 v53 := Tryz.zeroValue221
 t171 := Tryz.underlying256
 a171 := Tryz.isAgg256
 z171 := Tryz.sizeOf256
 v171 := Tryz.zeroValue256
 t173 := Tryz.underlying258
 a173 := Tryz.isAgg258
 z173 := Tryz.sizeOf258
 v173 := Tryz.zeroValue258
 t212 := Tryz.underlying265
 a212 := Tryz.isAgg265
 z212 := Tryz.sizeOf265
 v212 := Tryz.zeroValue265
 t213 := Tryz.underlying266
 a213 := Tryz.isAgg266
 z213 := Tryz.sizeOf266
 t232 := Tryz.underlying267
 a232 := Tryz.isAgg267
 z232 := Tryz.sizeOf267
 v232 := Tryz.zeroValue267
 t233 := Tryz.underlying268
 a233 := Tryz.isAgg268
 z233 := Tryz.sizeOf268
 v233 := Tryz.zeroValue268
 g17 := by kernel_rfl
 g18 := by kernel_rfl
 g19 := by kernel_rfl
 i0 := by kernel_rfl
 i2 := by kernel_rfl
 i3 := by kernel_rfl
 i4 := by kernel_rfl
 i5 := by kernel_rfl
 i9 := by kernel_rfl
 i20 := by kernel_rfl
 i37 := by kernel_rfl
 i46 := by kernel_rfl
 i51 := by kernel_rfl
 i53 := by kernel_rfl
 i171 := by kernel_rfl
 i173 := by kernel_rfl
 i212 := by kernel_rfl
 i232 := by kernel_rfl
 i233 := by kernel_rfl
 m17 := by kernel_rfl
 m18 := by kernel_rfl
 m19 := by kernel_rfl }
open Go.RowKit Go.Sort Go.Lib in
theorem Tryz.strconv_Itoa (n : Int) (h0 : -9223372036854775808 ≤ n) (h1 : n ≤ 9223372036854775807) (w : World) (htab : Lib.TabIs Tryz.prog w "internal/strconv.uint64pow10" .u64 Lib.pow10Tab) :
  Calls Tryz.prog 110 #[.int .i64 n] w fun e w' => e = .returned (.string ⟨(Lib.itoa n).toArray⟩) ∧ ∃ k os, w' = grow (w.drewN k) os := Any.strconv_Itoa Hb n h0 h1 w htab
def Tryz.lays112_ren : Go.Shelf.Ren := ⟨fun | 112 => 53 | n => n, fun | 28 => 44 | 3 => 3 | 4 => 4 | 0 => 0 | n => n, fun | n => n⟩
theorem Fb : Go.Proofs.Lays.n112 Tryz.prog Tryz.lays112_ren := {
 mixed := by kernel_rfl
 f112 := Tryz.func53.trans (congrArg some (by kernel_rfl))
 t0 := Tryz.underlying0
 a0 := Tryz.isAgg0
 z0 := Tryz.sizeOf0
 v0 := Tryz.zeroValue0
 t3 := Tryz.underlying3
 a3 := Tryz.isAgg3
 z3 := Tryz.sizeOf3
 v3 := Tryz.zeroValue3
 t4 := Tryz.underlying4
 a4 := Tryz.isAgg4
 z4 := Tryz.sizeOf4
 v4 := Tryz.zeroValue4
 t28 := Tryz.underlying44
 a28 := Tryz.isAgg44
 z28 := Tryz.sizeOf44
 v28 := Tryz.zeroValue44 }
open Go.RowKit Go.Lib Go.Sort in
theorem Tryz.slices_Reverse_int (blk off cap : Nat) (zs : List Int) (w : World) (hH : Holds (Value.int .i64) w blk off zs.toArray) (hsz : zs.length ≤ 9223372036854775807) :
  Calls Tryz.prog 53 #[.slice (some ⟨blk, off, none⟩) zs.length cap] w fun e w' => e = .returned (.tuple #[]) ∧ ∃ n, w' = putRow (Value.int .i64) (Sort.ahead w n) blk off zs.reverse.toArray := Any.slices_Reverse_int Fb blk off cap zs w hH hsz
open Go.RowKit Go.Lib Go.Sort in
theorem Tryz.slices_Reverse_int_empty (a : Option Addr) (cap : Nat) (w : World) :
  Calls Tryz.prog 53 #[.slice a 0 cap] w fun e w' => e = .returned (.tuple #[]) ∧ w' = w := Any.slices_Reverse_int_empty Fb a cap w
def Tryz.laysNm215_ren : Go.Shelf.Ren := ⟨fun | 15 => 52 | n => n, fun | 22 => 44 | 3 => 3 | 4 => 4 | n => n, fun | n => n⟩
theorem C1 : Go.Proofs.Lays2.n15 Tryz.prog Tryz.laysNm215_ren := {
 mixed := by kernel_rfl
 f15 := Tryz.func52.trans (congrArg some (by kernel_rfl))
 t3 := Tryz.underlying3
 a3 := Tryz.isAgg3
 z3 := Tryz.sizeOf3
 v3 := Tryz.zeroValue3
 t4 := Tryz.underlying4
 a4 := Tryz.isAgg4
 z4 := Tryz.sizeOf4
 v4 := Tryz.zeroValue4
 t22 := Tryz.underlying44
 a22 := Tryz.isAgg44
 z22 := Tryz.sizeOf44
 v22 := Tryz.zeroValue44
 i3 := by kernel_rfl }
open Go.RowKit Go.Lib in
theorem Tryz.slices_Clone_int (b off n c : Nat) (zs : List Int) (w : World) (hz : n ≤ zs.length) (hbig : n * 8 ≤ 140737488355328) (hc : ∀ j, j < zs.length → w.cell? ⟨b, off + j, none⟩ = some (.int .i64 (zs.getD j 0))) :
  Calls Tryz.prog 52 #[.slice (some ⟨b, off, none⟩) n c] w fun e w' => ∃ v', e = .returned v' ∧ w'.ownsRow w.heap.size 3 1 v' n ((zs.take n).map (Value.int .i64)) ∧ v' ≠ .slice none 0 0 ∧ Below w.heap.size w w' := Any.slices_Clone_int C1 b off n c zs w hz hbig hc
open Go.RowKit Go.Lib in
theorem Tryz.slices_Clone_int_nil (n c : Nat) (w : World) :
  Calls Tryz.prog 52 #[.slice none n c] w fun e w' => e = .returned (.slice none 0 0) ∧ w' = w := Any.slices_Clone_int_nil C1 n c w
open Go.RowKit Go.Lib in
theorem Tryz.slices_Clone_int_zero (a : Addr) (c : Nat) (w : World) :
  Calls Tryz.prog 52 #[.slice (some a) 0 c] w fun e w' => ∃ v', e = .returned v' ∧ w'.ownsRow w.heap.size 3 1 v' 0 [] ∧ v' ≠ .slice none 0 0 ∧ Below w.heap.size w w' := Any.slices_Clone_int_zero C1 a c w
open Go.RowKit in
theorem Tryz.Builder_WriteString (B b : Nat) (bs : List Value) (s : ByteArray) (w : World) (h : Lib.IsBuilder 95 5 B b bs w) (hlen : bs.length + s.size ≤ 140737488355328) (hBw : B ≤ w.heap.size) :
  Calls Tryz.prog 42 #[.pointer (some ⟨b, 0, none⟩), .string s] w fun e w' => e = .returned (.tuple #[.int .i64 s.size, .nilIface]) ∧ (Lib.BuilderAt 95 5 B b (.pointer (some ⟨b, 0, none⟩)) (bs ++ Lib.strCells s) w' ∧ Below B w w') :=
 Any.Builder_WriteString { DL with } BU B b bs s w h hlen hBw
end Go.Proofs

namespace Go.Fl
open Go Go.Proofs
def Pow (w : World) : Prop := Lib.TabIs Tryz.prog w "internal/strconv.uint64pow10" .u64 Lib.pow10Tab
theorem Pow.keep0 {w0 w : World} {L : List Chunk} (h : Pow w0) (hw : Own w0 [] w L) : Pow w := by
 unfold Pow Lib.TabIs World.var? at *
 cases hg : Tryz.prog.globalNamed "internal/strconv.uint64pow10" with
 | none => rw [hg] at h; cases h
 | some g =>
  rw [hg] at h
  simp only [Option.bind_some] at h ⊢
  have hlt : g < w0.heap.size := by
   rcases Nat.lt_or_ge g w0.heap.size with h1 | h1
   ·exact h1
   ·rw [Array.getElem?_eq_none h1] at h; cases h
  rw [hw.old g hlt (by simp)]; exact h
theorem Kv {a : Int} {w : World} (ha : I64 a) (hp : Pow w) : Calls Tryz.prog 110 #[.int .i64 a] w (Ret w [] fun v L => L = [] ∧ v = str (Lib.itoa a)) := by
 refine (Tryz.strconv_Itoa a ha.1 ha.2 w hp).mono ?_
 rintro e w' ⟨rfl, k, os, rfl⟩
 exact ⟨_, [], rfl, ⟨rfl, rfl⟩, I4 w k os⟩
theorem J0 {a : Int} {w : World} (ha : I64 a) (hp : Pow w) : Calls Tryz.prog 83 #[.int .i64 a] w (Ret w [] fun v L => L = [] ∧ v = str (Lib.itoa a)) := by
 refine At (args := [_]) (L := []) Tryz.func83 rfl Tryz.ntmps83 rfl (Own.start _ _) ?_
 refine Zs ?_
 refine Za ?_
 refine Zx <| Zs ?_
 refine Zm ?_
 refine Seq.rel0 rfl rfl (Aq en110 rfl rfl rfl (fun w hw => Kv ha (hp.keep0 hw))) ?_
 rintro _ rfl
 refine Za ?_
 refine Zx <| DC.ret ?_
 refine Aj (.inl rfl) rfl rfl ?_
 exact ⟨rfl, rfl⟩
theorem Jp {c : Nat} {w : World} : Calls Tryz.prog 84 #[.slice none 0 c, str [32]] w (Ret w [] fun v L => L = [] ∧ v = str []) := by
 refine (Tryz.strings_Join_none none c _ w).mono ?_
 rintro e w' ⟨rfl, rfl⟩
 exact ⟨_, [], rfl, ⟨rfl, rfl⟩, Own.start _ _⟩
theorem Jo {g c t : Nat} {xs : List (List UInt8)} {sp : List Value} {w : World} (hb : w.heap[g]? = some (.cells (strs xs ++ sp).toArray t (0, 0))) (hN : xs.length ≤ 140737488355328) (hc : xs.length ≤ c) (hl : (Lib.join xs [32]).length ≤ 140737488355328) :
  Calls Tryz.prog 84 #[.slice (some ⟨g, 0, none⟩) xs.length c, str [32]] w (Ret w [] fun v L => L = [] ∧ v = str (Lib.join xs [32])) := by
 have e1 : (xs.map fun l => (⟨l.toArray⟩ : ByteArray)).map (·.data.toList) = xs := by rw [List.map_map]; exact List.map_id'' (fun _ => rfl) xs
 have h := Tryz.strings_Join g 0 c (xs.map fun l => (⟨l.toArray⟩ : ByteArray)) ⟨[32].toArray⟩ w ?_ ?_ (by simpa using hN) (by simpa using hc) (by rw [e1]; exact hl)
 ·rw [e1] at h
  simp only [List.length_map] at h
  refine h.mono ?_
  rintro e w' ⟨rfl, hbl⟩
  exact ⟨_, [], rfl, ⟨rfl, rfl⟩, own_below hbl⟩
 ·intro j x hj
  simp only [List.getElem?_map, Option.map_eq_some_iff] at hj
  obtain ⟨l, hl, rfl⟩ := hj
  rw [cell_of_row w g _ _ t (0, 0) hb]
  have : j < xs.length := (List.getElem?_eq_some_iff.1 hl).1
  rw [List.getElem?_eq_getElem this] at hl; cases hl
  simp [strs, List.getElem?_append, this, str]
 ·exact (Array.getElem?_eq_some_iff.1 hb).1
theorem Ku {xs : List (List UInt8)} {v : Value} {w0 w : World} {K : List Nat} {F : List Chunk} (hO : Own w0 K w (slc v 9 1 (strs xs) :: F)) (hN : xs.length ≤ 140737488355328) (hl : (Lib.join xs [32]).length ≤ 140737488355328) :
  Calls Tryz.prog 84 #[v, str [32]] w (Ret w [] fun v L => L = [] ∧ v = str (Lib.join xs [32])) := by
 rcases B3 hO with ⟨rfl, e2, _⟩ | ⟨g, len, cap', sp, rfl, e2, e3, e4, e5, hO'⟩
 ·have e3 : xs = [] := by simpa [strs] using e2
  subst e3; exact Jp
 ·have e6 : len = xs.length := by simpa [strs] using e2.symm
  subst e6
  exact Jo (hO'.holds _ (List.mem_cons_self ..)) hN e3 hl
structure LineI where
 i : Nat
 v : Value
theorem EF {ns : List Int} {v : Value} {w : World} (hv : SlV w v ns) (hi : ∀ a, a ∈ ns → I64 a) (hp : Pow w) (hl : ns.length ≤ 2199023255552) :
  Calls Tryz.prog 43 #[v] w (Ret w [] fun v L => L = [] ∧ v = str (lineB ns)) := by
 obtain ⟨A, cap, rfl, hr, hlc, hcm, hle⟩ := hv
 refine At (args := [_]) (L := []) Tryz.func43 rfl Tryz.ntmps43 rfl (Own.start _ _) ?_
 refine Zs ?_
 refine Za ?_
 refine Zx <| Zs ?_
 refine Za ?_
 refine Zx <| DC.seq <| Zs ?_
 refine Zm ?_
 refine Zn Tryz.underlying44 ?_
 refine Zm ?_
 refine Zx <| DC.block ?_
 refine DC.own (fun w hw => Bm (t := 9) (m := 1) hw) ?_
 refine DC.loop (ι := LineI) (fun j => j.i ≤ ns.length)
  (fun j => [(3, j.v), (6, .slice A ns.length cap), (7, .int .i64 ns.length), (8, .int .i64 j.i)])
  (fun j => [slc j.v 9 1 (strs ((ns.take j.i).map Lib.itoa))]) (fun j => ns.length - j.i) ⟨0, .slice none 0 0⟩ (Nat.zero_le _) ⟨rfl, rfl, rfl, rfl, trivial⟩ (.cons 0 rfl .nil) ?_
 rintro ⟨i, v3⟩ hi'
 dsimp only at hi' ⊢
 refine Zs ?_
 refine Zc ?_
 refine Zx <| DC.seq ?_
 refine Zd (fun c3 => ?_) fun c3 => ?_
 ·have hlt : i < ns.length := by simpa using c3
  obtain ⟨x, hx⟩ : ∃ x, ns[i]? = some x := ⟨_, List.getElem?_eq_getElem hlt⟩
  obtain ⟨ad, rfl, hcx⟩ := hr.int hx
  have hxi : I64 x := hi x (List.mem_of_getElem? hx)
  refine DC.skip <| Fin.then <| DC.seq <| DC.block <| Zs ?_
  refine Zi Tryz.underlying44 AN ?_
  refine Zu (Ah rfl rfl AO (AE hcx)) ?_
  refine Za ?_
  refine Zx <| DC.region ?_
  refine Zm ?_
  refine Zm ?_
  refine Seq.rel0 rfl rfl (Aq en83 rfl rfl rfl (fun w hw => J0 hxi (hp.keep0 hw))) ?_
  rintro _ rfl
  refine Zw (AP (cs := #[_]) rfl rfl Tryz.underlying150 sz9 ze9 rfl (by decide) (by decide) rfl rfl) fun g15 => ?_
  refine Seq.gen rfl rfl (AR rfl rfl rfl Tryz.underlying150 sz9 by9 ze9 rfl (by decide) (by decide) (fun w hw => hw.pick (.cons 1 rfl .nil)) (.inl ⟨_, _, rfl, Ak rfl⟩) rfl (strs_one [Lib.itoa x]) (by simp; omega)) ?_
  rintro v16 _ rfl
  refine Za ?_
  refine Seq.nil <| Fin.inBlock <| Fin.then <| DC.region ?_
  refine Zp ?_
  refine Zm ?_
  refine Seq.nil ?_
  refine Fin.again ⟨i + 1, v16⟩ (by dsimp only; omega) (by dsimp only; omega) ⟨rfl, rfl, rfl, rfl, trivial⟩ (.cons' 0 rfl (by rw [List.take_add_one, hx]; simp [strs]) .nil)
 ·refine DC.exit <| Ad <| Ad <| Ag <| Fin.then <| DC.seq ?_
  have hin : i = ns.length := by simp at c3; omega
  subst hin
  simp only [List.take_length]
  have hjl := GD (k := 20) (ns.map Lib.itoa) (by simp; intro a ha; exact Jq (hi a ha))
  simp only [List.length_map] at hjl
  refine DC.region ?_
  refine Zm ?_
  refine Seq.rel0 rfl rfl (Aq en84 rfl rfl rfl (fun w hw => Ku hw (by simp; omega) (by omega))) ?_
  rintro _ rfl
  refine Zo (Gv (a := Lib.join (ns.map Lib.itoa) [32]) (b := [10]) rfl rfl rfl (by simp; omega)) ?_
  refine Za ?_
  refine Zx <| DC.ret ?_
  refine Fin.weak (E' := [(2, _)]) ⟨rfl, trivial⟩ .nil ?_
  refine Aj (.inl rfl) rfl rfl ?_
  exact ⟨rfl, rfl⟩
end Go.Fl
